/- The evaluations of the regions that draw their order, and the types' facts (printed by a program of ours). (and what stands on it) -/
import Derived.Test.YtbialojkkhkjeaaDoorM3
import Derived.Test.YtbialojkkhkjeaaDoorProg
import Derived.KernelRfl

/-! The evaluations of the regions that draw their order, and the types' facts (printed by a program of ours). -/
namespace Go.Proofs.YtbialojkkhkjeaaDoor
open Go.Sy
def sch4 : List (Nat × Go.Sy.Sch) := [(12, ⟨[0, 0, 0, 6, 14, 30, 0, 0, 192, 448, 960, 2047, 4095], [(true, 0), (true, 1), (true, 2), (true, 3), (true, 4), (true, 5), (true, 6), (true, 7), (true, 8), (true, 9), (true, 10)], (.alt 11 [(true, 12)] .fin .nil)⟩), (13, ⟨[0, 1, 0, 0, 12, 28, 60, 127, 255, 511, 511, 2047, 4095, 511, 511, 511, 49663, 115199, 246271, 511, 511, 1573375, 3670527, 7864831, 16769535, 33554431, 67108863, 134217727, 268435455, 536870911, 1073741823, 2147483647, 4294967295, 8589934591, 17179869183, 34359738367, 68719476735, 137438953471, 68719476735, 343597383679, 1099511627775, 2199023255551, 4398046511103, 8796093022207], [(true, 0), (true, 1), (true, 2), (true, 3), (true, 4), (true, 5), (true, 6), (true, 7), (true, 8), (true, 9), (true, 10), (true, 11), (true, 12), (true, 13), (true, 14), (true, 15), (true, 16), (true, 17), (true, 18), (true, 19), (true, 20), (true, 21), (true, 22), (true, 23)], (.alt 24 [(false, 9), (false, 10), (false, 11), (false, 12), (true, 25), (true, 26), (true, 27), (true, 28), (true, 29), (true, 30), (true, 31), (true, 32), (true, 33), (true, 34), (true, 35), (true, 36), (true, 37), (true, 38), (true, 39), (true, 40), (true, 41), (true, 42), (true, 43)] .fin .nil)⟩)]
@[simp] theorem lk4_12 : lookS sch4 12 = some ⟨[0, 0, 0, 6, 14, 30, 0, 0, 192, 448, 960, 2047, 4095], [(true, 0), (true, 1), (true, 2), (true, 3), (true, 4), (true, 5), (true, 6), (true, 7), (true, 8), (true, 9), (true, 10)], (.alt 11 [(true, 12)] .fin .nil)⟩ := (rfl)
@[simp] theorem lk4_13 : lookS sch4 13 = some ⟨[0, 1, 0, 0, 12, 28, 60, 127, 255, 511, 511, 2047, 4095, 511, 511, 511, 49663, 115199, 246271, 511, 511, 1573375, 3670527, 7864831, 16769535, 33554431, 67108863, 134217727, 268435455, 536870911, 1073741823, 2147483647, 4294967295, 8589934591, 17179869183, 34359738367, 68719476735, 137438953471, 68719476735, 343597383679, 1099511627775, 2199023255551, 4398046511103, 8796093022207], [(true, 0), (true, 1), (true, 2), (true, 3), (true, 4), (true, 5), (true, 6), (true, 7), (true, 8), (true, 9), (true, 10), (true, 11), (true, 12), (true, 13), (true, 14), (true, 15), (true, 16), (true, 17), (true, 18), (true, 19), (true, 20), (true, 21), (true, 22), (true, 23)], (.alt 24 [(false, 9), (false, 10), (false, 11), (false, 12), (true, 25), (true, 26), (true, 27), (true, 28), (true, 29), (true, 30), (true, 31), (true, 32), (true, 33), (true, 34), (true, 35), (true, 36), (true, 37), (true, 38), (true, 39), (true, 40), (true, 41), (true, 42), (true, 43)] .fin .nil)⟩ := (rfl)
def sch8 : List (Nat × Go.Sy.Sch) := [(3, ⟨[0, 1, 3, 7, 15, 31, 63, 15, 143, 511, 1023, 2047, 4095, 8191, 16383, 32767, 65535, 131071, 262143, 524287, 1048575, 2097151, 4194303, 8388607, 16777215, 33554431, 67108863, 134217727, 268435455, 536870911, 1073741823, 2147483647, 4294967295, 8589934591, 17179869183, 8589934591, 68719476735, 137438953471, 274877906943, 549755813887, 549755813887, 2199023255551, 549755813887, 8796093022207, 17592186044415, 35184372088831], [(true, 0), (true, 1), (true, 2), (true, 3), (true, 4), (true, 5), (true, 6), (true, 7)], (.alt 8 [(false, 4), (false, 5), (false, 6), (true, 9), (true, 10), (true, 11), (true, 12), (true, 13), (true, 14), (true, 15), (true, 16), (true, 17), (true, 18), (true, 19), (true, 20), (true, 21), (true, 22), (true, 23), (true, 24), (true, 25), (true, 26), (true, 27), (true, 28), (true, 29), (true, 30), (true, 31), (true, 32), (true, 33)] (.alt 34 [] (.alt 35 [] (.alt 36 [(true, 37), (true, 38), (true, 39)] (.alt 40 [(false, 39)] (.alt 41 [] (.alt 42 [] (.alt 43 [(true, 44), (true, 45)] .fin .nil) .nil) (.alt 42 [(false, 39)] (.alt 41 [] (.alt 43 [(true, 44), (true, 45)] .fin .nil) .nil) .nil)) (.alt 42 [(false, 39)] (.alt 40 [(false, 39)] (.alt 41 [] (.alt 43 [(true, 44), (true, 45)] .fin .nil) .nil) .nil) .nil)) .nil) .nil) (.alt 35 [(false, 33)] (.alt 34 [] (.alt 36 [(true, 37), (true, 38), (true, 39)] (.alt 40 [(false, 39)] (.alt 41 [] (.alt 42 [] (.alt 43 [(true, 44), (true, 45)] .fin .nil) .nil) (.alt 42 [(false, 39)] (.alt 41 [] (.alt 43 [(true, 44), (true, 45)] .fin .nil) .nil) .nil)) (.alt 42 [(false, 39)] (.alt 40 [(false, 39)] (.alt 41 [] (.alt 43 [(true, 44), (true, 45)] .fin .nil) .nil) .nil) .nil)) .nil) .nil) .nil)) .nil)⟩)]
@[simp] theorem lk8_3 : lookS sch8 3 = some ⟨[0, 1, 3, 7, 15, 31, 63, 15, 143, 511, 1023, 2047, 4095, 8191, 16383, 32767, 65535, 131071, 262143, 524287, 1048575, 2097151, 4194303, 8388607, 16777215, 33554431, 67108863, 134217727, 268435455, 536870911, 1073741823, 2147483647, 4294967295, 8589934591, 17179869183, 8589934591, 68719476735, 137438953471, 274877906943, 549755813887, 549755813887, 2199023255551, 549755813887, 8796093022207, 17592186044415, 35184372088831], [(true, 0), (true, 1), (true, 2), (true, 3), (true, 4), (true, 5), (true, 6), (true, 7)], (.alt 8 [(false, 4), (false, 5), (false, 6), (true, 9), (true, 10), (true, 11), (true, 12), (true, 13), (true, 14), (true, 15), (true, 16), (true, 17), (true, 18), (true, 19), (true, 20), (true, 21), (true, 22), (true, 23), (true, 24), (true, 25), (true, 26), (true, 27), (true, 28), (true, 29), (true, 30), (true, 31), (true, 32), (true, 33)] (.alt 34 [] (.alt 35 [] (.alt 36 [(true, 37), (true, 38), (true, 39)] (.alt 40 [(false, 39)] (.alt 41 [] (.alt 42 [] (.alt 43 [(true, 44), (true, 45)] .fin .nil) .nil) (.alt 42 [(false, 39)] (.alt 41 [] (.alt 43 [(true, 44), (true, 45)] .fin .nil) .nil) .nil)) (.alt 42 [(false, 39)] (.alt 40 [(false, 39)] (.alt 41 [] (.alt 43 [(true, 44), (true, 45)] .fin .nil) .nil) .nil) .nil)) .nil) .nil) (.alt 35 [(false, 33)] (.alt 34 [] (.alt 36 [(true, 37), (true, 38), (true, 39)] (.alt 40 [(false, 39)] (.alt 41 [] (.alt 42 [] (.alt 43 [(true, 44), (true, 45)] .fin .nil) .nil) (.alt 42 [(false, 39)] (.alt 41 [] (.alt 43 [(true, 44), (true, 45)] .fin .nil) .nil) .nil)) (.alt 42 [(false, 39)] (.alt 40 [(false, 39)] (.alt 41 [] (.alt 43 [(true, 44), (true, 45)] .fin .nil) .nil) .nil) .nil)) .nil) .nil) .nil)) .nil)⟩ := (rfl)
def sch11 : List (Nat × Go.Sy.Sch) := [(6, ⟨[0, 0, 3, 7, 0, 0, 48, 112, 255], [(true, 0), (true, 1), (true, 2), (true, 3), (true, 4), (true, 5), (true, 6), (true, 7), (true, 8)], .fin⟩)]
@[simp] theorem lk11_6 : lookS sch11 6 = some ⟨[0, 0, 3, 7, 0, 0, 48, 112, 255], [(true, 0), (true, 1), (true, 2), (true, 3), (true, 4), (true, 5), (true, 6), (true, 7), (true, 8)], .fin⟩ := (rfl)
def sch14 : List (Nat × Go.Sy.Sch) := [(5, ⟨[0, 0, 2, 6, 15], [(true, 0), (true, 1)], (.alt 2 [(false, 0)] (.alt 3 [(false, 0)] (.alt 4 [] .fin .nil) .nil) .nil)⟩)]
@[simp] theorem lk14_5 : lookS sch14 5 = some ⟨[0, 0, 2, 6, 15], [(true, 0), (true, 1)], (.alt 2 [(false, 0)] (.alt 3 [(false, 0)] (.alt 4 [] .fin .nil) .nil) .nil)⟩ := (rfl)
def sch16 : List (Nat × Go.Sy.Sch) := [(6, ⟨[0, 0, 3, 7, 0, 0, 48, 112, 255], [(true, 0), (true, 1), (true, 2), (true, 3), (true, 4), (true, 5), (true, 6), (true, 7), (true, 8)], .fin⟩)]
@[simp] theorem lk16_6 : lookS sch16 6 = some ⟨[0, 0, 3, 7, 0, 0, 48, 112, 255], [(true, 0), (true, 1), (true, 2), (true, 3), (true, 4), (true, 5), (true, 6), (true, 7), (true, 8)], .fin⟩ := (rfl)
def sch20 : List (Nat × Go.Sy.Sch) := [(9, ⟨[0, 1, 3, 3, 15, 31, 3, 3, 195, 451, 1023, 2047, 4095], [(true, 0), (true, 1), (true, 2), (true, 3), (true, 4), (true, 5), (true, 6), (true, 7), (true, 8), (true, 9), (true, 10), (true, 11)], (.alt 12 [] .fin .nil)⟩)]
@[simp] theorem lk20_9 : lookS sch20 9 = some ⟨[0, 1, 3, 3, 15, 31, 3, 3, 195, 451, 1023, 2047, 4095], [(true, 0), (true, 1), (true, 2), (true, 3), (true, 4), (true, 5), (true, 6), (true, 7), (true, 8), (true, 9), (true, 10), (true, 11)], (.alt 12 [] .fin .nil)⟩ := (rfl)
def sch21 : List (Nat × Go.Sy.Sch) := [(13, ⟨[0, 1, 3, 0, 8, 0, 56, 120, 0, 376, 1016, 2047, 0, 0, 8192, 24576, 61440, 0, 131072, 0, 524288, 1572864, 4063232, 8384512, 16777215, 0, 33554432, 100663296, 268435455, 0, 0, 1610612736, 3758096384, 8589934591, 17179869183], [(true, 0), (true, 1), (true, 2), (true, 3), (true, 5), (true, 8), (true, 12), (true, 13), (true, 14), (true, 15), (true, 16), (true, 17), (true, 18), (true, 19), (true, 20), (true, 21), (true, 22), (true, 23), (true, 25), (true, 26), (true, 27), (true, 29), (true, 30), (true, 31), (true, 32)], (.alt 4 [(false, 0), (false, 1), (false, 2), (false, 5), (false, 8), (false, 12), (false, 13), (false, 14), (false, 15), (false, 16), (false, 17), (false, 18), (false, 19), (false, 20), (false, 21), (false, 22), (false, 23), (false, 25), (false, 26), (false, 27), (false, 29), (false, 30), (false, 31), (false, 32)] (.alt 6 [(false, 0), (false, 1), (false, 2), (true, 7), (false, 8), (false, 12), (false, 13), (false, 14), (false, 15), (false, 16), (false, 17), (false, 18), (false, 19), (false, 20), (false, 21), (false, 22), (false, 23), (false, 25), (false, 26), (false, 27), (false, 29), (false, 30), (false, 31), (false, 32)] (.alt 9 [(false, 0), (false, 1), (false, 2), (false, 7), (true, 10), (true, 11), (false, 12), (false, 13), (false, 14), (false, 15), (false, 16), (false, 17), (false, 18), (false, 19), (false, 20), (false, 21), (false, 22), (false, 23), (true, 24), (false, 25), (false, 26), (false, 27), (true, 28), (false, 29), (false, 30), (false, 31), (false, 32), (true, 33), (true, 34)] .fin .nil) .nil) .nil)⟩), (14, ⟨[0, 1, 0, 7, 15, 0, 47, 127, 0, 0, 512, 1536, 3840, 0, 0, 16384, 49152, 122880, 261888, 0, 524288, 1572864, 0, 4194304, 12582912, 33030144, 67108608, 134217727, 268435455], [(true, 0), (true, 2), (true, 5), (true, 8), (true, 9), (true, 10), (true, 11), (true, 12), (true, 13), (true, 14), (true, 15), (true, 16), (true, 17), (true, 18), (true, 19), (true, 20), (true, 21), (true, 22), (true, 23), (true, 24), (true, 25), (true, 26)], (.alt 1 [(false, 2), (false, 5), (false, 8), (false, 9), (false, 10), (false, 11), (false, 12), (false, 13), (false, 14), (false, 15), (false, 16), (false, 17), (false, 18), (false, 19), (false, 20), (false, 21), (false, 22), (false, 23), (false, 24), (false, 25), (false, 26)] (.alt 3 [(true, 4), (false, 5), (false, 8), (false, 9), (false, 10), (false, 11), (false, 12), (false, 13), (false, 14), (false, 15), (false, 16), (false, 17), (false, 18), (false, 19), (false, 20), (false, 21), (false, 22), (false, 23), (false, 24), (false, 25), (false, 26)] (.alt 6 [(false, 4), (true, 7), (false, 8), (false, 9), (false, 10), (false, 11), (false, 12), (false, 13), (false, 14), (false, 15), (false, 16), (false, 17), (false, 18), (false, 19), (false, 20), (false, 21), (false, 22), (false, 23), (false, 24), (false, 25), (false, 26), (true, 27), (true, 28)] .fin .nil) .nil) .nil)⟩), (15, ⟨[0, 0, 3, 0, 0, 16, 48, 0, 128, 384, 0, 1024, 3072, 0, 15360, 0, 0, 65536, 196608, 0, 524288, 1572864, 4194303, 8388607], [(true, 0), (true, 1), (true, 2), (true, 3), (true, 4), (true, 5), (true, 6), (true, 7), (true, 8), (true, 9), (true, 10), (true, 11), (true, 12), (true, 13), (true, 14), (true, 15), (true, 16), (true, 17), (true, 18), (true, 19), (true, 20), (true, 21)], (.alt 22 [] (.alt 23 [] .fin .nil) .nil)⟩), (19, ⟨[0, 0, 0, 0, 12, 28, 0, 0, 192, 448, 1020, 2047, 4095], [(true, 0), (true, 1), (true, 2), (true, 3), (true, 4), (true, 5), (true, 6), (true, 7), (true, 8), (true, 9), (true, 10), (true, 11)], (.alt 12 [] .fin .nil)⟩), (24, ⟨[0, 0, 0, 6, 14, 30, 62, 0, 0, 384, 896, 1920, 3968, 8064, 0, 0, 49152, 114688, 245760, 507904, 1032192, 0, 0, 6291456, 14680064, 31457280, 65011712, 134217726, 268435455, 536870911], [(true, 0), (true, 1), (true, 2), (true, 3), (true, 4), (true, 5), (true, 6), (true, 7), (true, 8), (true, 9), (true, 10), (true, 11), (true, 12), (true, 13), (true, 14), (true, 15), (true, 16), (true, 17), (true, 18), (true, 19), (true, 20), (true, 21), (true, 22), (true, 23), (true, 24), (true, 25), (true, 26)], (.alt 27 [(false, 0)] (.alt 28 [] (.alt 29 [] .fin .nil) .nil) .nil)⟩)]
@[simp] theorem lk21_13 : lookS sch21 13 = some ⟨[0, 1, 3, 0, 8, 0, 56, 120, 0, 376, 1016, 2047, 0, 0, 8192, 24576, 61440, 0, 131072, 0, 524288, 1572864, 4063232, 8384512, 16777215, 0, 33554432, 100663296, 268435455, 0, 0, 1610612736, 3758096384, 8589934591, 17179869183], [(true, 0), (true, 1), (true, 2), (true, 3), (true, 5), (true, 8), (true, 12), (true, 13), (true, 14), (true, 15), (true, 16), (true, 17), (true, 18), (true, 19), (true, 20), (true, 21), (true, 22), (true, 23), (true, 25), (true, 26), (true, 27), (true, 29), (true, 30), (true, 31), (true, 32)], (.alt 4 [(false, 0), (false, 1), (false, 2), (false, 5), (false, 8), (false, 12), (false, 13), (false, 14), (false, 15), (false, 16), (false, 17), (false, 18), (false, 19), (false, 20), (false, 21), (false, 22), (false, 23), (false, 25), (false, 26), (false, 27), (false, 29), (false, 30), (false, 31), (false, 32)] (.alt 6 [(false, 0), (false, 1), (false, 2), (true, 7), (false, 8), (false, 12), (false, 13), (false, 14), (false, 15), (false, 16), (false, 17), (false, 18), (false, 19), (false, 20), (false, 21), (false, 22), (false, 23), (false, 25), (false, 26), (false, 27), (false, 29), (false, 30), (false, 31), (false, 32)] (.alt 9 [(false, 0), (false, 1), (false, 2), (false, 7), (true, 10), (true, 11), (false, 12), (false, 13), (false, 14), (false, 15), (false, 16), (false, 17), (false, 18), (false, 19), (false, 20), (false, 21), (false, 22), (false, 23), (true, 24), (false, 25), (false, 26), (false, 27), (true, 28), (false, 29), (false, 30), (false, 31), (false, 32), (true, 33), (true, 34)] .fin .nil) .nil) .nil)⟩ := (rfl)
@[simp] theorem lk21_14 : lookS sch21 14 = some ⟨[0, 1, 0, 7, 15, 0, 47, 127, 0, 0, 512, 1536, 3840, 0, 0, 16384, 49152, 122880, 261888, 0, 524288, 1572864, 0, 4194304, 12582912, 33030144, 67108608, 134217727, 268435455], [(true, 0), (true, 2), (true, 5), (true, 8), (true, 9), (true, 10), (true, 11), (true, 12), (true, 13), (true, 14), (true, 15), (true, 16), (true, 17), (true, 18), (true, 19), (true, 20), (true, 21), (true, 22), (true, 23), (true, 24), (true, 25), (true, 26)], (.alt 1 [(false, 2), (false, 5), (false, 8), (false, 9), (false, 10), (false, 11), (false, 12), (false, 13), (false, 14), (false, 15), (false, 16), (false, 17), (false, 18), (false, 19), (false, 20), (false, 21), (false, 22), (false, 23), (false, 24), (false, 25), (false, 26)] (.alt 3 [(true, 4), (false, 5), (false, 8), (false, 9), (false, 10), (false, 11), (false, 12), (false, 13), (false, 14), (false, 15), (false, 16), (false, 17), (false, 18), (false, 19), (false, 20), (false, 21), (false, 22), (false, 23), (false, 24), (false, 25), (false, 26)] (.alt 6 [(false, 4), (true, 7), (false, 8), (false, 9), (false, 10), (false, 11), (false, 12), (false, 13), (false, 14), (false, 15), (false, 16), (false, 17), (false, 18), (false, 19), (false, 20), (false, 21), (false, 22), (false, 23), (false, 24), (false, 25), (false, 26), (true, 27), (true, 28)] .fin .nil) .nil) .nil)⟩ := (rfl)
@[simp] theorem lk21_15 : lookS sch21 15 = some ⟨[0, 0, 3, 0, 0, 16, 48, 0, 128, 384, 0, 1024, 3072, 0, 15360, 0, 0, 65536, 196608, 0, 524288, 1572864, 4194303, 8388607], [(true, 0), (true, 1), (true, 2), (true, 3), (true, 4), (true, 5), (true, 6), (true, 7), (true, 8), (true, 9), (true, 10), (true, 11), (true, 12), (true, 13), (true, 14), (true, 15), (true, 16), (true, 17), (true, 18), (true, 19), (true, 20), (true, 21)], (.alt 22 [] (.alt 23 [] .fin .nil) .nil)⟩ := (rfl)
@[simp] theorem lk21_19 : lookS sch21 19 = some ⟨[0, 0, 0, 0, 12, 28, 0, 0, 192, 448, 1020, 2047, 4095], [(true, 0), (true, 1), (true, 2), (true, 3), (true, 4), (true, 5), (true, 6), (true, 7), (true, 8), (true, 9), (true, 10), (true, 11)], (.alt 12 [] .fin .nil)⟩ := (rfl)
@[simp] theorem lk21_24 : lookS sch21 24 = some ⟨[0, 0, 0, 6, 14, 30, 62, 0, 0, 384, 896, 1920, 3968, 8064, 0, 0, 49152, 114688, 245760, 507904, 1032192, 0, 0, 6291456, 14680064, 31457280, 65011712, 134217726, 268435455, 536870911], [(true, 0), (true, 1), (true, 2), (true, 3), (true, 4), (true, 5), (true, 6), (true, 7), (true, 8), (true, 9), (true, 10), (true, 11), (true, 12), (true, 13), (true, 14), (true, 15), (true, 16), (true, 17), (true, 18), (true, 19), (true, 20), (true, 21), (true, 22), (true, 23), (true, 24), (true, 25), (true, 26)], (.alt 27 [(false, 0)] (.alt 28 [] (.alt 29 [] .fin .nil) .nil) .nil)⟩ := (rfl)
def sch28 : List (Nat × Go.Sy.Sch) := [(3, ⟨[0, 0, 2, 6, 14, 0, 32, 126, 255, 511, 1023], [(true, 0), (true, 1), (true, 2), (true, 3), (true, 4), (true, 5), (true, 6)], (.alt 7 [(false, 0), (true, 8), (true, 9)] (.alt 10 [] .fin .nil) .nil)⟩)]
@[simp] theorem lk28_3 : lookS sch28 3 = some ⟨[0, 0, 2, 6, 14, 0, 32, 126, 255, 511, 1023], [(true, 0), (true, 1), (true, 2), (true, 3), (true, 4), (true, 5), (true, 6)], (.alt 7 [(false, 0), (true, 8), (true, 9)] (.alt 10 [] .fin .nil) .nil)⟩ := (rfl)
def sch33 : List (Nat × Go.Sy.Sch) := [(5, ⟨[0, 0, 0, 4, 14, 30, 62, 126, 0, 0, 512, 1536, 3840, 7936, 16128, 32512, 65534, 0, 0, 262144, 786432, 1966080, 4063232, 8257536, 16646144, 33554430, 0, 0, 134217728, 402653184, 1006632960, 2080374784, 4227858432, 8589934590, 17179869182, 34359738367, 68719476735], [(true, 0), (true, 1), (true, 2), (true, 3), (true, 4), (true, 5), (true, 6), (true, 7), (true, 8), (true, 9), (true, 10), (true, 11), (true, 12), (true, 13), (true, 14), (true, 15), (true, 16), (true, 17), (true, 18), (true, 19), (true, 20), (true, 21), (true, 22), (true, 23), (true, 24), (true, 25), (true, 26), (true, 27), (true, 28), (true, 29), (true, 30), (true, 31), (true, 32), (true, 33)], (.alt 34 [(false, 0)] (.alt 35 [] (.alt 36 [] .fin .nil) .nil) .nil)⟩), (13, ⟨[0, 0, 0, 4, 14, 30, 0, 126, 0, 0, 512, 1792, 3840, 8190, 0, 32766, 65534, 131071, 262143], [(true, 0), (true, 1), (true, 2), (true, 3), (true, 4), (true, 5), (true, 6), (true, 7), (true, 8), (true, 9), (true, 10), (true, 11), (true, 12), (true, 13), (true, 14), (true, 15)], (.alt 16 [(false, 0)] (.alt 17 [] (.alt 18 [] .fin .nil) .nil) .nil)⟩)]
@[simp] theorem lk33_5 : lookS sch33 5 = some ⟨[0, 0, 0, 4, 14, 30, 62, 126, 0, 0, 512, 1536, 3840, 7936, 16128, 32512, 65534, 0, 0, 262144, 786432, 1966080, 4063232, 8257536, 16646144, 33554430, 0, 0, 134217728, 402653184, 1006632960, 2080374784, 4227858432, 8589934590, 17179869182, 34359738367, 68719476735], [(true, 0), (true, 1), (true, 2), (true, 3), (true, 4), (true, 5), (true, 6), (true, 7), (true, 8), (true, 9), (true, 10), (true, 11), (true, 12), (true, 13), (true, 14), (true, 15), (true, 16), (true, 17), (true, 18), (true, 19), (true, 20), (true, 21), (true, 22), (true, 23), (true, 24), (true, 25), (true, 26), (true, 27), (true, 28), (true, 29), (true, 30), (true, 31), (true, 32), (true, 33)], (.alt 34 [(false, 0)] (.alt 35 [] (.alt 36 [] .fin .nil) .nil) .nil)⟩ := (rfl)
@[simp] theorem lk33_13 : lookS sch33 13 = some ⟨[0, 0, 0, 4, 14, 30, 0, 126, 0, 0, 512, 1792, 3840, 8190, 0, 32766, 65534, 131071, 262143], [(true, 0), (true, 1), (true, 2), (true, 3), (true, 4), (true, 5), (true, 6), (true, 7), (true, 8), (true, 9), (true, 10), (true, 11), (true, 12), (true, 13), (true, 14), (true, 15)], (.alt 16 [(false, 0)] (.alt 17 [] (.alt 18 [] .fin .nil) .nil) .nil)⟩ := (rfl)
def sch42 : List (Nat × Go.Sy.Sch) := [(5, ⟨[0, 0, 2, 6, 0, 31, 63], [(true, 0), (true, 1), (true, 2), (true, 3), (true, 4)], (.alt 5 [] (.alt 6 [] .fin .nil) .nil)⟩), (10, ⟨[0, 1, 3, 0, 8, 24, 63, 127, 255], [(true, 0), (true, 1), (true, 2), (true, 3), (true, 4), (true, 5), (true, 6), (true, 7)], (.alt 8 [] .fin .nil)⟩)]
@[simp] theorem lk42_5 : lookS sch42 5 = some ⟨[0, 0, 2, 6, 0, 31, 63], [(true, 0), (true, 1), (true, 2), (true, 3), (true, 4)], (.alt 5 [] (.alt 6 [] .fin .nil) .nil)⟩ := (rfl)
@[simp] theorem lk42_10 : lookS sch42 10 = some ⟨[0, 1, 3, 0, 8, 24, 63, 127, 255], [(true, 0), (true, 1), (true, 2), (true, 3), (true, 4), (true, 5), (true, 6), (true, 7)], (.alt 8 [] .fin .nil)⟩ := (rfl)
def sch49 : List (Nat × Go.Sy.Sch) := [(4, ⟨[0, 0, 3, 0, 0, 24, 63], [(true, 0), (true, 1), (true, 2), (true, 3), (true, 4), (true, 5), (true, 6)], .fin⟩), (5, ⟨[0, 0, 3, 0, 0, 24, 63, 127], [(true, 0), (true, 1), (true, 2), (true, 3), (true, 4), (true, 5), (true, 6), (true, 7)], .fin⟩)]
@[simp] theorem lk49_4 : lookS sch49 4 = some ⟨[0, 0, 3, 0, 0, 24, 63], [(true, 0), (true, 1), (true, 2), (true, 3), (true, 4), (true, 5), (true, 6)], .fin⟩ := (rfl)
@[simp] theorem lk49_5 : lookS sch49 5 = some ⟨[0, 0, 3, 0, 0, 24, 63, 127], [(true, 0), (true, 1), (true, 2), (true, 3), (true, 4), (true, 5), (true, 6), (true, 7)], .fin⟩ := (rfl)
def sch51 : List (Nat × Go.Sy.Sch) := [(14, ⟨[0, 1, 3, 7, 0, 16, 48, 112, 15, 511], [(true, 0), (true, 1), (true, 2), (true, 3), (true, 4), (true, 5), (true, 6), (true, 7), (true, 8), (true, 9)], .fin⟩), (15, ⟨[0, 0, 2, 6, 14, 0, 32, 0, 224, 480, 0, 1024, 4064, 8190, 0, 16384, 49152, 114688, 262142, 0, 524768, 0, 3670496, 7864800, 0, 16777216, 66585056, 134217726, 268435455, 536870911], [(true, 0), (true, 1), (true, 2), (true, 3), (true, 4), (true, 5), (true, 7), (true, 10), (true, 11), (true, 14), (true, 15), (true, 16), (true, 17), (true, 19), (true, 21), (true, 24), (true, 25)], (.alt 6 [(false, 0), (false, 1), (false, 2), (false, 3), (false, 4), (false, 7), (false, 10), (false, 11), (false, 14), (false, 15), (false, 16), (false, 17), (false, 19), (false, 21), (false, 24), (false, 25)] (.alt 8 [(false, 0), (false, 1), (false, 2), (false, 3), (false, 4), (true, 9), (false, 10), (false, 11), (true, 12), (true, 13), (false, 14), (false, 15), (false, 16), (false, 17), (true, 18), (false, 19), (false, 21), (false, 24), (false, 25)] (.alt 20 [(false, 0), (false, 1), (false, 2), (false, 3), (false, 4), (false, 9), (false, 10), (false, 11), (false, 12), (false, 13), (false, 14), (false, 15), (false, 16), (false, 17), (false, 18), (false, 21), (false, 24), (false, 25)] (.alt 22 [(false, 0), (false, 1), (false, 2), (false, 3), (false, 4), (false, 9), (false, 10), (false, 11), (false, 12), (false, 13), (false, 14), (false, 15), (false, 16), (false, 17), (false, 18), (true, 23), (false, 24), (false, 25), (true, 26), (true, 27), (true, 28)] (.alt 29 [] .fin .nil) .nil) .nil) .nil) .nil)⟩)]
@[simp] theorem lk51_14 : lookS sch51 14 = some ⟨[0, 1, 3, 7, 0, 16, 48, 112, 15, 511], [(true, 0), (true, 1), (true, 2), (true, 3), (true, 4), (true, 5), (true, 6), (true, 7), (true, 8), (true, 9)], .fin⟩ := (rfl)
@[simp] theorem lk51_15 : lookS sch51 15 = some ⟨[0, 0, 2, 6, 14, 0, 32, 0, 224, 480, 0, 1024, 4064, 8190, 0, 16384, 49152, 114688, 262142, 0, 524768, 0, 3670496, 7864800, 0, 16777216, 66585056, 134217726, 268435455, 536870911], [(true, 0), (true, 1), (true, 2), (true, 3), (true, 4), (true, 5), (true, 7), (true, 10), (true, 11), (true, 14), (true, 15), (true, 16), (true, 17), (true, 19), (true, 21), (true, 24), (true, 25)], (.alt 6 [(false, 0), (false, 1), (false, 2), (false, 3), (false, 4), (false, 7), (false, 10), (false, 11), (false, 14), (false, 15), (false, 16), (false, 17), (false, 19), (false, 21), (false, 24), (false, 25)] (.alt 8 [(false, 0), (false, 1), (false, 2), (false, 3), (false, 4), (true, 9), (false, 10), (false, 11), (true, 12), (true, 13), (false, 14), (false, 15), (false, 16), (false, 17), (true, 18), (false, 19), (false, 21), (false, 24), (false, 25)] (.alt 20 [(false, 0), (false, 1), (false, 2), (false, 3), (false, 4), (false, 9), (false, 10), (false, 11), (false, 12), (false, 13), (false, 14), (false, 15), (false, 16), (false, 17), (false, 18), (false, 21), (false, 24), (false, 25)] (.alt 22 [(false, 0), (false, 1), (false, 2), (false, 3), (false, 4), (false, 9), (false, 10), (false, 11), (false, 12), (false, 13), (false, 14), (false, 15), (false, 16), (false, 17), (false, 18), (true, 23), (false, 24), (false, 25), (true, 26), (true, 27), (true, 28)] (.alt 29 [] .fin .nil) .nil) .nil) .nil) .nil)⟩ := (rfl)
def sch52 : List (Nat × Go.Sy.Sch) := [(1, ⟨[0, 1, 0, 4, 0, 16, 0, 64, 0, 256, 0, 1024, 3, 4111, 12351, 28927, 62463, 131071], [(true, 0), (true, 1), (true, 2), (true, 3), (true, 4), (true, 5), (true, 6), (true, 7), (true, 8), (true, 9), (true, 10), (true, 11), (true, 12), (true, 13), (true, 14), (true, 15), (true, 16), (true, 17)], .fin⟩), (2, ⟨[0, 1, 0, 4, 0, 28, 60, 0, 188, 508, 1023, 0, 0, 6144, 0, 16384, 0, 114688, 260096, 524287, 0, 2097151, 0, 8388607, 16777215], [(true, 0), (true, 1), (true, 2), (true, 4), (true, 7), (true, 11), (true, 12), (true, 13), (true, 14), (true, 15), (true, 16), (true, 17), (true, 18), (true, 20), (true, 22)], (.alt 3 [(false, 0), (false, 1), (false, 4), (false, 7), (false, 11), (false, 12), (false, 13), (false, 14), (false, 15), (false, 16), (false, 17), (false, 18), (false, 20), (false, 22)] (.alt 5 [(false, 0), (false, 1), (true, 6), (false, 7), (false, 11), (false, 12), (false, 13), (false, 14), (false, 15), (false, 16), (false, 17), (false, 18), (false, 20), (false, 22)] (.alt 8 [(false, 0), (false, 1), (false, 6), (true, 9), (true, 10), (false, 11), (false, 12), (false, 13), (false, 14), (false, 15), (false, 16), (false, 17), (false, 18), (true, 19), (false, 20), (true, 21), (false, 22), (true, 23), (true, 24)] .fin .nil) .nil) .nil)⟩)]
@[simp] theorem lk52_1 : lookS sch52 1 = some ⟨[0, 1, 0, 4, 0, 16, 0, 64, 0, 256, 0, 1024, 3, 4111, 12351, 28927, 62463, 131071], [(true, 0), (true, 1), (true, 2), (true, 3), (true, 4), (true, 5), (true, 6), (true, 7), (true, 8), (true, 9), (true, 10), (true, 11), (true, 12), (true, 13), (true, 14), (true, 15), (true, 16), (true, 17)], .fin⟩ := (rfl)
@[simp] theorem lk52_2 : lookS sch52 2 = some ⟨[0, 1, 0, 4, 0, 28, 60, 0, 188, 508, 1023, 0, 0, 6144, 0, 16384, 0, 114688, 260096, 524287, 0, 2097151, 0, 8388607, 16777215], [(true, 0), (true, 1), (true, 2), (true, 4), (true, 7), (true, 11), (true, 12), (true, 13), (true, 14), (true, 15), (true, 16), (true, 17), (true, 18), (true, 20), (true, 22)], (.alt 3 [(false, 0), (false, 1), (false, 4), (false, 7), (false, 11), (false, 12), (false, 13), (false, 14), (false, 15), (false, 16), (false, 17), (false, 18), (false, 20), (false, 22)] (.alt 5 [(false, 0), (false, 1), (true, 6), (false, 7), (false, 11), (false, 12), (false, 13), (false, 14), (false, 15), (false, 16), (false, 17), (false, 18), (false, 20), (false, 22)] (.alt 8 [(false, 0), (false, 1), (false, 6), (true, 9), (true, 10), (false, 11), (false, 12), (false, 13), (false, 14), (false, 15), (false, 16), (false, 17), (false, 18), (true, 19), (false, 20), (true, 21), (false, 22), (true, 23), (true, 24)] .fin .nil) .nil) .nil)⟩ := (rfl)
def sch53 : List (Nat × Go.Sy.Sch) := [(3, ⟨[0, 0, 0, 6, 14, 31, 63], [(true, 0), (true, 1), (true, 2), (true, 3), (true, 4), (true, 5), (true, 6)], .fin⟩)]
@[simp] theorem lk53_3 : lookS sch53 3 = some ⟨[0, 0, 0, 6, 14, 31, 63], [(true, 0), (true, 1), (true, 2), (true, 3), (true, 4), (true, 5), (true, 6)], .fin⟩ := (rfl)

@[simp] theorem sz_0 : szOf Tryd.prog 0 = 1 := by kernel_rfl
@[simp] theorem ag_0 : aggT Tryd.prog 0 = some false := by kernel_rfl
@[simp] theorem by_0 : bytesOf Tryd.prog 0 = 0 := by kernel_rfl
attribute [simp] Tryd.underlying0
@[simp] theorem sz_1 : szOf Tryd.prog 1 = 1 := by kernel_rfl
@[simp] theorem ag_1 : aggT Tryd.prog 1 = some false := by kernel_rfl
@[simp] theorem by_1 : bytesOf Tryd.prog 1 = 8 := by kernel_rfl
attribute [simp] Tryd.underlying1
@[simp] theorem sz_2 : szOf Tryd.prog 2 = 1 := by kernel_rfl
@[simp] theorem ag_2 : aggT Tryd.prog 2 = some false := by kernel_rfl
@[simp] theorem by_2 : bytesOf Tryd.prog 2 = 8 := by kernel_rfl
attribute [simp] Tryd.underlying2
@[simp] theorem zr_2 : zerosOf Tryd.prog 2 = some [(.lit (.int Go.IntKind.i64 (0)))] := by kernel_rfl
@[simp] theorem sz_3 : szOf Tryd.prog 3 = 1 := by kernel_rfl
@[simp] theorem ag_3 : aggT Tryd.prog 3 = some false := by kernel_rfl
@[simp] theorem by_3 : bytesOf Tryd.prog 3 = 8 := by kernel_rfl
attribute [simp] Tryd.underlying3
@[simp] theorem zr_3 : zerosOf Tryd.prog 3 = some [(.lit (.int Go.IntKind.i64 (0)))] := by kernel_rfl
@[simp] theorem sz_4 : szOf Tryd.prog 4 = 1 := by kernel_rfl
@[simp] theorem ag_4 : aggT Tryd.prog 4 = some false := by kernel_rfl
@[simp] theorem by_4 : bytesOf Tryd.prog 4 = 1 := by kernel_rfl
attribute [simp] Tryd.underlying4
@[simp] theorem zr_4 : zerosOf Tryd.prog 4 = some [(.lit (.bool false))] := by kernel_rfl
@[simp] theorem sz_5 : szOf Tryd.prog 5 = 1 := by kernel_rfl
@[simp] theorem ag_5 : aggT Tryd.prog 5 = some false := by kernel_rfl
@[simp] theorem by_5 : bytesOf Tryd.prog 5 = 1 := by kernel_rfl
attribute [simp] Tryd.underlying5
@[simp] theorem zr_5 : zerosOf Tryd.prog 5 = some [(.lit (.int Go.IntKind.u8 (0)))] := by kernel_rfl
@[simp] theorem sz_6 : szOf Tryd.prog 6 = 1 := by kernel_rfl
@[simp] theorem ag_6 : aggT Tryd.prog 6 = some false := by kernel_rfl
@[simp] theorem by_6 : bytesOf Tryd.prog 6 = 1 := by kernel_rfl
attribute [simp] Tryd.underlying6
@[simp] theorem zr_6 : zerosOf Tryd.prog 6 = some [(.lit (.int Go.IntKind.u8 (0)))] := by kernel_rfl
@[simp] theorem sz_7 : szOf Tryd.prog 7 = 4 := by kernel_rfl
@[simp] theorem ag_7 : aggT Tryd.prog 7 = some true := by kernel_rfl
@[simp] theorem by_7 : bytesOf Tryd.prog 7 = 24 := by kernel_rfl
attribute [simp] Tryd.underlying7
@[simp] theorem fl_7_0 : fldOf Tryd.prog 7 0 = some (0, 2) := by kernel_rfl
@[simp] theorem fl_7_1 : fldOf Tryd.prog 7 1 = some (1, 3) := by kernel_rfl
@[simp] theorem fl_7_2 : fldOf Tryd.prog 7 2 = some (2, 4) := by kernel_rfl
@[simp] theorem fl_7_3 : fldOf Tryd.prog 7 3 = some (3, 6) := by kernel_rfl
@[simp] theorem pl_7 : placesOf Tryd.prog 7 = some [(0, 1), (1, 1), (2, 1), (3, 1)] := by kernel_rfl
@[simp] theorem zr_7 : zerosOf Tryd.prog 7 = some [(.lit (.int Go.IntKind.i64 (0))), (.lit (.int Go.IntKind.i64 (0))), (.lit (.bool false)), (.lit (.int Go.IntKind.u8 (0)))] := by kernel_rfl
@[simp] theorem sz_8 : szOf Tryd.prog 8 = 4 := by kernel_rfl
@[simp] theorem ag_8 : aggT Tryd.prog 8 = some true := by kernel_rfl
@[simp] theorem by_8 : bytesOf Tryd.prog 8 = 24 := by kernel_rfl
attribute [simp] Tryd.underlying8
@[simp] theorem fl_8_0 : fldOf Tryd.prog 8 0 = some (0, 2) := by kernel_rfl
@[simp] theorem fl_8_1 : fldOf Tryd.prog 8 1 = some (1, 3) := by kernel_rfl
@[simp] theorem fl_8_2 : fldOf Tryd.prog 8 2 = some (2, 4) := by kernel_rfl
@[simp] theorem fl_8_3 : fldOf Tryd.prog 8 3 = some (3, 6) := by kernel_rfl
@[simp] theorem pl_8 : placesOf Tryd.prog 8 = some [(0, 1), (1, 1), (2, 1), (3, 1)] := by kernel_rfl
@[simp] theorem zr_8 : zerosOf Tryd.prog 8 = some [(.lit (.int Go.IntKind.i64 (0))), (.lit (.int Go.IntKind.i64 (0))), (.lit (.bool false)), (.lit (.int Go.IntKind.u8 (0)))] := by kernel_rfl
@[simp] theorem sz_9 : szOf Tryd.prog 9 = 1 := by kernel_rfl
@[simp] theorem ag_9 : aggT Tryd.prog 9 = some false := by kernel_rfl
@[simp] theorem by_9 : bytesOf Tryd.prog 9 = 16 := by kernel_rfl
attribute [simp] Tryd.underlying9
@[simp] theorem zr_9 : zerosOf Tryd.prog 9 = some [(.lit (.string ByteArray.empty))] := by kernel_rfl
@[simp] theorem sz_10 : szOf Tryd.prog 10 = 1 := by kernel_rfl
@[simp] theorem ag_10 : aggT Tryd.prog 10 = some false := by kernel_rfl
@[simp] theorem by_10 : bytesOf Tryd.prog 10 = 16 := by kernel_rfl
attribute [simp] Tryd.underlying10
@[simp] theorem zr_10 : zerosOf Tryd.prog 10 = some [(.lit (.string ByteArray.empty))] := by kernel_rfl
@[simp] theorem sz_11 : szOf Tryd.prog 11 = 1 := by kernel_rfl
@[simp] theorem ag_11 : aggT Tryd.prog 11 = some false := by kernel_rfl
@[simp] theorem by_11 : bytesOf Tryd.prog 11 = 16 := by kernel_rfl
attribute [simp] Tryd.underlying11
@[simp] theorem zr_11 : zerosOf Tryd.prog 11 = some [(.lit (.string ByteArray.empty))] := by kernel_rfl
@[simp] theorem sz_12 : szOf Tryd.prog 12 = 1 := by kernel_rfl
@[simp] theorem ag_12 : aggT Tryd.prog 12 = some false := by kernel_rfl
@[simp] theorem by_12 : bytesOf Tryd.prog 12 = 8 := by kernel_rfl
attribute [simp] Tryd.underlying12
@[simp] theorem zr_12 : zerosOf Tryd.prog 12 = some [(.lit (.int Go.IntKind.u64 (0)))] := by kernel_rfl
@[simp] theorem sz_13 : szOf Tryd.prog 13 = 2 := by kernel_rfl
@[simp] theorem ag_13 : aggT Tryd.prog 13 = some true := by kernel_rfl
@[simp] theorem by_13 : bytesOf Tryd.prog 13 = 24 := by kernel_rfl
attribute [simp] Tryd.underlying13
@[simp] theorem fl_13_0 : fldOf Tryd.prog 13 0 = some (0, 9) := by kernel_rfl
@[simp] theorem fl_13_1 : fldOf Tryd.prog 13 1 = some (1, 12) := by kernel_rfl
@[simp] theorem pl_13 : placesOf Tryd.prog 13 = some [(0, 1), (1, 1)] := by kernel_rfl
@[simp] theorem zr_13 : zerosOf Tryd.prog 13 = some [(.lit (.string ByteArray.empty)), (.lit (.int Go.IntKind.u64 (0)))] := by kernel_rfl
@[simp] theorem sz_14 : szOf Tryd.prog 14 = 2 := by kernel_rfl
@[simp] theorem ag_14 : aggT Tryd.prog 14 = some true := by kernel_rfl
@[simp] theorem by_14 : bytesOf Tryd.prog 14 = 24 := by kernel_rfl
attribute [simp] Tryd.underlying14
@[simp] theorem fl_14_0 : fldOf Tryd.prog 14 0 = some (0, 9) := by kernel_rfl
@[simp] theorem fl_14_1 : fldOf Tryd.prog 14 1 = some (1, 12) := by kernel_rfl
@[simp] theorem pl_14 : placesOf Tryd.prog 14 = some [(0, 1), (1, 1)] := by kernel_rfl
@[simp] theorem zr_14 : zerosOf Tryd.prog 14 = some [(.lit (.string ByteArray.empty)), (.lit (.int Go.IntKind.u64 (0)))] := by kernel_rfl
@[simp] theorem sz_15 : szOf Tryd.prog 15 = 1 := by kernel_rfl
@[simp] theorem ag_15 : aggT Tryd.prog 15 = some false := by kernel_rfl
@[simp] theorem by_15 : bytesOf Tryd.prog 15 = 8 := by kernel_rfl
attribute [simp] Tryd.underlying15
@[simp] theorem zr_15 : zerosOf Tryd.prog 15 = some [(.lit (.pointer none))] := by kernel_rfl
@[simp] theorem sz_16 : szOf Tryd.prog 16 = 1 := by kernel_rfl
@[simp] theorem ag_16 : aggT Tryd.prog 16 = some false := by kernel_rfl
@[simp] theorem by_16 : bytesOf Tryd.prog 16 = 8 := by kernel_rfl
attribute [simp] Tryd.underlying16
@[simp] theorem zr_16 : zerosOf Tryd.prog 16 = some [(.lit (.pointer none))] := by kernel_rfl
@[simp] theorem sz_17 : szOf Tryd.prog 17 = 1 := by kernel_rfl
@[simp] theorem ag_17 : aggT Tryd.prog 17 = some false := by kernel_rfl
@[simp] theorem by_17 : bytesOf Tryd.prog 17 = 8 := by kernel_rfl
attribute [simp] Tryd.underlying17
@[simp] theorem zr_17 : zerosOf Tryd.prog 17 = some [(.lit (.pointer none))] := by kernel_rfl
@[simp] theorem sz_18 : szOf Tryd.prog 18 = 1 := by kernel_rfl
@[simp] theorem ag_18 : aggT Tryd.prog 18 = some true := by kernel_rfl
@[simp] theorem by_18 : bytesOf Tryd.prog 18 = 8 := by kernel_rfl
attribute [simp] Tryd.underlying18
@[simp] theorem fl_18_0 : fldOf Tryd.prog 18 0 = some (0, 17) := by kernel_rfl
@[simp] theorem pl_18 : placesOf Tryd.prog 18 = some [(0, 1)] := by kernel_rfl
@[simp] theorem zr_18 : zerosOf Tryd.prog 18 = some [(.lit (.pointer none))] := by kernel_rfl
@[simp] theorem sz_19 : szOf Tryd.prog 19 = 1 := by kernel_rfl
@[simp] theorem ag_19 : aggT Tryd.prog 19 = some true := by kernel_rfl
@[simp] theorem by_19 : bytesOf Tryd.prog 19 = 8 := by kernel_rfl
attribute [simp] Tryd.underlying19
@[simp] theorem fl_19_0 : fldOf Tryd.prog 19 0 = some (0, 17) := by kernel_rfl
@[simp] theorem pl_19 : placesOf Tryd.prog 19 = some [(0, 1)] := by kernel_rfl
@[simp] theorem zr_19 : zerosOf Tryd.prog 19 = some [(.lit (.pointer none))] := by kernel_rfl
@[simp] theorem sz_20 : szOf Tryd.prog 20 = 1 := by kernel_rfl
@[simp] theorem ag_20 : aggT Tryd.prog 20 = some false := by kernel_rfl
@[simp] theorem by_20 : bytesOf Tryd.prog 20 = 16 := by kernel_rfl
attribute [simp] Tryd.underlying20
@[simp] theorem sz_21 : szOf Tryd.prog 21 = 1 := by kernel_rfl
@[simp] theorem ag_21 : aggT Tryd.prog 21 = some false := by kernel_rfl
@[simp] theorem by_21 : bytesOf Tryd.prog 21 = 4 := by kernel_rfl
attribute [simp] Tryd.underlying21
@[simp] theorem zr_21 : zerosOf Tryd.prog 21 = some [(.lit (.int Go.IntKind.i32 (0)))] := by kernel_rfl
@[simp] theorem sz_22 : szOf Tryd.prog 22 = 1 := by kernel_rfl
@[simp] theorem ag_22 : aggT Tryd.prog 22 = some false := by kernel_rfl
@[simp] theorem by_22 : bytesOf Tryd.prog 22 = 24 := by kernel_rfl
attribute [simp] Tryd.underlying22
@[simp] theorem el_22 : Go.Sy.elemOf Tryd.prog 22 = some 23 := by kernel_rfl
@[simp] theorem zr_22 : zerosOf Tryd.prog 22 = some [(.sl .imm true 0 [])] := by kernel_rfl
@[simp] theorem sz_23 : szOf Tryd.prog 23 = 1 := by kernel_rfl
@[simp] theorem ag_23 : aggT Tryd.prog 23 = some false := by kernel_rfl
@[simp] theorem by_23 : bytesOf Tryd.prog 23 = 16 := by kernel_rfl
attribute [simp] Tryd.underlying23
@[simp] theorem zr_23 : zerosOf Tryd.prog 23 = some [(.lit (.string ByteArray.empty))] := by kernel_rfl
@[simp] theorem sz_24 : szOf Tryd.prog 24 = 1 := by kernel_rfl
@[simp] theorem ag_24 : aggT Tryd.prog 24 = some false := by kernel_rfl
@[simp] theorem by_24 : bytesOf Tryd.prog 24 = 8 := by kernel_rfl
attribute [simp] Tryd.underlying24
@[simp] theorem sz_25 : szOf Tryd.prog 25 = 1 := by kernel_rfl
@[simp] theorem ag_25 : aggT Tryd.prog 25 = some false := by kernel_rfl
@[simp] theorem by_25 : bytesOf Tryd.prog 25 = 8 := by kernel_rfl
attribute [simp] Tryd.underlying25
@[simp] theorem sz_26 : szOf Tryd.prog 26 = 1 := by kernel_rfl
@[simp] theorem ag_26 : aggT Tryd.prog 26 = some false := by kernel_rfl
@[simp] theorem by_26 : bytesOf Tryd.prog 26 = 8 := by kernel_rfl
attribute [simp] Tryd.underlying26
@[simp] theorem sz_27 : szOf Tryd.prog 27 = 1 := by kernel_rfl
@[simp] theorem ag_27 : aggT Tryd.prog 27 = some false := by kernel_rfl
@[simp] theorem by_27 : bytesOf Tryd.prog 27 = 8 := by kernel_rfl
attribute [simp] Tryd.underlying27
@[simp] theorem sz_28 : szOf Tryd.prog 28 = 1 := by kernel_rfl
@[simp] theorem ag_28 : aggT Tryd.prog 28 = some false := by kernel_rfl
@[simp] theorem by_28 : bytesOf Tryd.prog 28 = 8 := by kernel_rfl
attribute [simp] Tryd.underlying28
@[simp] theorem sz_29 : szOf Tryd.prog 29 = 4 := by kernel_rfl
@[simp] theorem ag_29 : aggT Tryd.prog 29 = some true := by kernel_rfl
@[simp] theorem by_29 : bytesOf Tryd.prog 29 = 56 := by kernel_rfl
attribute [simp] Tryd.underlying29
@[simp] theorem fl_29_0 : fldOf Tryd.prog 29 0 = some (0, 23) := by kernel_rfl
@[simp] theorem fl_29_1 : fldOf Tryd.prog 29 1 = some (1, 23) := by kernel_rfl
@[simp] theorem fl_29_2 : fldOf Tryd.prog 29 2 = some (2, 3) := by kernel_rfl
@[simp] theorem fl_29_3 : fldOf Tryd.prog 29 3 = some (3, 23) := by kernel_rfl
@[simp] theorem pl_29 : placesOf Tryd.prog 29 = some [(0, 1), (1, 1), (2, 1), (3, 1)] := by kernel_rfl
@[simp] theorem zr_29 : zerosOf Tryd.prog 29 = some [(.lit (.string ByteArray.empty)), (.lit (.string ByteArray.empty)), (.lit (.int Go.IntKind.i64 (0))), (.lit (.string ByteArray.empty))] := by kernel_rfl
@[simp] theorem sz_30 : szOf Tryd.prog 30 = 4 := by kernel_rfl
@[simp] theorem ag_30 : aggT Tryd.prog 30 = some true := by kernel_rfl
@[simp] theorem by_30 : bytesOf Tryd.prog 30 = 56 := by kernel_rfl
attribute [simp] Tryd.underlying30
@[simp] theorem fl_30_0 : fldOf Tryd.prog 30 0 = some (0, 23) := by kernel_rfl
@[simp] theorem fl_30_1 : fldOf Tryd.prog 30 1 = some (1, 23) := by kernel_rfl
@[simp] theorem fl_30_2 : fldOf Tryd.prog 30 2 = some (2, 3) := by kernel_rfl
@[simp] theorem fl_30_3 : fldOf Tryd.prog 30 3 = some (3, 23) := by kernel_rfl
@[simp] theorem pl_30 : placesOf Tryd.prog 30 = some [(0, 1), (1, 1), (2, 1), (3, 1)] := by kernel_rfl
@[simp] theorem zr_30 : zerosOf Tryd.prog 30 = some [(.lit (.string ByteArray.empty)), (.lit (.string ByteArray.empty)), (.lit (.int Go.IntKind.i64 (0))), (.lit (.string ByteArray.empty))] := by kernel_rfl
@[simp] theorem sz_31 : szOf Tryd.prog 31 = 1 := by kernel_rfl
@[simp] theorem ag_31 : aggT Tryd.prog 31 = some false := by kernel_rfl
@[simp] theorem by_31 : bytesOf Tryd.prog 31 = 8 := by kernel_rfl
attribute [simp] Tryd.underlying31
@[simp] theorem sz_32 : szOf Tryd.prog 32 = 1 := by kernel_rfl
@[simp] theorem ag_32 : aggT Tryd.prog 32 = some false := by kernel_rfl
@[simp] theorem by_32 : bytesOf Tryd.prog 32 = 8 := by kernel_rfl
attribute [simp] Tryd.underlying32
@[simp] theorem sz_33 : szOf Tryd.prog 33 = 1 := by kernel_rfl
@[simp] theorem ag_33 : aggT Tryd.prog 33 = some false := by kernel_rfl
@[simp] theorem by_33 : bytesOf Tryd.prog 33 = 24 := by kernel_rfl
attribute [simp] Tryd.underlying33
@[simp] theorem el_33 : Go.Sy.elemOf Tryd.prog 33 = some 30 := by kernel_rfl
@[simp] theorem zr_33 : zerosOf Tryd.prog 33 = some [(.sl .imm true 0 [])] := by kernel_rfl
@[simp] theorem sz_34 : szOf Tryd.prog 34 = 1 := by kernel_rfl
@[simp] theorem ag_34 : aggT Tryd.prog 34 = some false := by kernel_rfl
@[simp] theorem by_34 : bytesOf Tryd.prog 34 = 8 := by kernel_rfl
attribute [simp] Tryd.underlying34
@[simp] theorem sz_35 : szOf Tryd.prog 35 = 1 := by kernel_rfl
@[simp] theorem ag_35 : aggT Tryd.prog 35 = some false := by kernel_rfl
@[simp] theorem by_35 : bytesOf Tryd.prog 35 = 8 := by kernel_rfl
attribute [simp] Tryd.underlying35
@[simp] theorem sz_36 : szOf Tryd.prog 36 = 1 := by kernel_rfl
@[simp] theorem ag_36 : aggT Tryd.prog 36 = some false := by kernel_rfl
@[simp] theorem by_36 : bytesOf Tryd.prog 36 = 8 := by kernel_rfl
attribute [simp] Tryd.underlying36
@[simp] theorem sz_37 : szOf Tryd.prog 37 = 1 := by kernel_rfl
@[simp] theorem ag_37 : aggT Tryd.prog 37 = some false := by kernel_rfl
@[simp] theorem by_37 : bytesOf Tryd.prog 37 = 8 := by kernel_rfl
attribute [simp] Tryd.underlying37
@[simp] theorem sz_38 : szOf Tryd.prog 38 = 1 := by kernel_rfl
@[simp] theorem ag_38 : aggT Tryd.prog 38 = some false := by kernel_rfl
@[simp] theorem by_38 : bytesOf Tryd.prog 38 = 8 := by kernel_rfl
attribute [simp] Tryd.underlying38
@[simp] theorem sz_39 : szOf Tryd.prog 39 = 1 := by kernel_rfl
@[simp] theorem ag_39 : aggT Tryd.prog 39 = some false := by kernel_rfl
@[simp] theorem by_39 : bytesOf Tryd.prog 39 = 24 := by kernel_rfl
attribute [simp] Tryd.underlying39
@[simp] theorem el_39 : Go.Sy.elemOf Tryd.prog 39 = some 5 := by kernel_rfl
@[simp] theorem zr_39 : zerosOf Tryd.prog 39 = some [(.sl .imm true 0 [])] := by kernel_rfl
@[simp] theorem sz_40 : szOf Tryd.prog 40 = 1 := by kernel_rfl
@[simp] theorem ag_40 : aggT Tryd.prog 40 = some false := by kernel_rfl
@[simp] theorem by_40 : bytesOf Tryd.prog 40 = 8 := by kernel_rfl
attribute [simp] Tryd.underlying40
@[simp] theorem sz_41 : szOf Tryd.prog 41 = 1 := by kernel_rfl
@[simp] theorem ag_41 : aggT Tryd.prog 41 = some false := by kernel_rfl
@[simp] theorem by_41 : bytesOf Tryd.prog 41 = 8 := by kernel_rfl
attribute [simp] Tryd.underlying41
@[simp] theorem sz_42 : szOf Tryd.prog 42 = 1 := by kernel_rfl
@[simp] theorem ag_42 : aggT Tryd.prog 42 = some false := by kernel_rfl
@[simp] theorem by_42 : bytesOf Tryd.prog 42 = 8 := by kernel_rfl
attribute [simp] Tryd.underlying42
@[simp] theorem sz_43 : szOf Tryd.prog 43 = 1 := by kernel_rfl
@[simp] theorem ag_43 : aggT Tryd.prog 43 = some false := by kernel_rfl
@[simp] theorem by_43 : bytesOf Tryd.prog 43 = 8 := by kernel_rfl
attribute [simp] Tryd.underlying43
@[simp] theorem sz_44 : szOf Tryd.prog 44 = 1 := by kernel_rfl
@[simp] theorem ag_44 : aggT Tryd.prog 44 = some false := by kernel_rfl
@[simp] theorem by_44 : bytesOf Tryd.prog 44 = 8 := by kernel_rfl
attribute [simp] Tryd.underlying44
@[simp] theorem sz_45 : szOf Tryd.prog 45 = 1 := by kernel_rfl
@[simp] theorem ag_45 : aggT Tryd.prog 45 = some false := by kernel_rfl
@[simp] theorem by_45 : bytesOf Tryd.prog 45 = 8 := by kernel_rfl
attribute [simp] Tryd.underlying45
@[simp] theorem sz_46 : szOf Tryd.prog 46 = 1 := by kernel_rfl
@[simp] theorem ag_46 : aggT Tryd.prog 46 = some false := by kernel_rfl
@[simp] theorem by_46 : bytesOf Tryd.prog 46 = 8 := by kernel_rfl
attribute [simp] Tryd.underlying46
@[simp] theorem sz_47 : szOf Tryd.prog 47 = 1 := by kernel_rfl
@[simp] theorem ag_47 : aggT Tryd.prog 47 = some false := by kernel_rfl
@[simp] theorem by_47 : bytesOf Tryd.prog 47 = 8 := by kernel_rfl
attribute [simp] Tryd.underlying47
@[simp] theorem sz_48 : szOf Tryd.prog 48 = 1 := by kernel_rfl
@[simp] theorem ag_48 : aggT Tryd.prog 48 = some false := by kernel_rfl
@[simp] theorem by_48 : bytesOf Tryd.prog 48 = 8 := by kernel_rfl
attribute [simp] Tryd.underlying48
@[simp] theorem zr_48 : zerosOf Tryd.prog 48 = some [(.lit (.pointer none))] := by kernel_rfl
@[simp] theorem sz_49 : szOf Tryd.prog 49 = 1 := by kernel_rfl
@[simp] theorem ag_49 : aggT Tryd.prog 49 = some false := by kernel_rfl
@[simp] theorem by_49 : bytesOf Tryd.prog 49 = 8 := by kernel_rfl
attribute [simp] Tryd.underlying49
@[simp] theorem sz_50 : szOf Tryd.prog 50 = 1 := by kernel_rfl
@[simp] theorem ag_50 : aggT Tryd.prog 50 = some false := by kernel_rfl
@[simp] theorem by_50 : bytesOf Tryd.prog 50 = 8 := by kernel_rfl
attribute [simp] Tryd.underlying50
@[simp] theorem sz_51 : szOf Tryd.prog 51 = 1 := by kernel_rfl
@[simp] theorem ag_51 : aggT Tryd.prog 51 = some false := by kernel_rfl
@[simp] theorem by_51 : bytesOf Tryd.prog 51 = 8 := by kernel_rfl
attribute [simp] Tryd.underlying51
@[simp] theorem sz_52 : szOf Tryd.prog 52 = 1 := by kernel_rfl
@[simp] theorem ag_52 : aggT Tryd.prog 52 = some false := by kernel_rfl
@[simp] theorem by_52 : bytesOf Tryd.prog 52 = 8 := by kernel_rfl
attribute [simp] Tryd.underlying52
@[simp] theorem sz_53 : szOf Tryd.prog 53 = 1 := by kernel_rfl
@[simp] theorem ag_53 : aggT Tryd.prog 53 = some false := by kernel_rfl
@[simp] theorem by_53 : bytesOf Tryd.prog 53 = 0 := by kernel_rfl
attribute [simp] Tryd.underlying53
@[simp] theorem sz_54 : szOf Tryd.prog 54 = 1 := by kernel_rfl
@[simp] theorem ag_54 : aggT Tryd.prog 54 = some false := by kernel_rfl
@[simp] theorem by_54 : bytesOf Tryd.prog 54 = 8 := by kernel_rfl
attribute [simp] Tryd.underlying54
@[simp] theorem sz_55 : szOf Tryd.prog 55 = 1 := by kernel_rfl
@[simp] theorem ag_55 : aggT Tryd.prog 55 = some false := by kernel_rfl
@[simp] theorem by_55 : bytesOf Tryd.prog 55 = 4 := by kernel_rfl
attribute [simp] Tryd.underlying55
@[simp] theorem zr_55 : zerosOf Tryd.prog 55 = some [(.lit (.int Go.IntKind.u32 (0)))] := by kernel_rfl
@[simp] theorem sz_56 : szOf Tryd.prog 56 = 1 := by kernel_rfl
@[simp] theorem ag_56 : aggT Tryd.prog 56 = some false := by kernel_rfl
@[simp] theorem by_56 : bytesOf Tryd.prog 56 = 24 := by kernel_rfl
attribute [simp] Tryd.underlying56
@[simp] theorem el_56 : Go.Sy.elemOf Tryd.prog 56 = some 55 := by kernel_rfl
@[simp] theorem zr_56 : zerosOf Tryd.prog 56 = some [(.sl .imm true 0 [])] := by kernel_rfl
@[simp] theorem sz_57 : szOf Tryd.prog 57 = 1 := by kernel_rfl
@[simp] theorem ag_57 : aggT Tryd.prog 57 = some false := by kernel_rfl
@[simp] theorem by_57 : bytesOf Tryd.prog 57 = 8 := by kernel_rfl
attribute [simp] Tryd.underlying57
@[simp] theorem sz_58 : szOf Tryd.prog 58 = 1 := by kernel_rfl
@[simp] theorem ag_58 : aggT Tryd.prog 58 = some false := by kernel_rfl
@[simp] theorem by_58 : bytesOf Tryd.prog 58 = 8 := by kernel_rfl
attribute [simp] Tryd.underlying58
@[simp] theorem sz_59 : szOf Tryd.prog 59 = 1 := by kernel_rfl
@[simp] theorem ag_59 : aggT Tryd.prog 59 = some false := by kernel_rfl
@[simp] theorem by_59 : bytesOf Tryd.prog 59 = 8 := by kernel_rfl
attribute [simp] Tryd.underlying59
@[simp] theorem sz_60 : szOf Tryd.prog 60 = 64 := by kernel_rfl
@[simp] theorem ag_60 : aggT Tryd.prog 60 = some true := by kernel_rfl
@[simp] theorem by_60 : bytesOf Tryd.prog 60 = 256 := by kernel_rfl
attribute [simp] Tryd.underlying60
@[simp] theorem zr_60 : zerosOf Tryd.prog 60 = some (List.replicate 64 (.lit (.int Go.IntKind.u32 0))) := by kernel_rfl
@[simp] theorem sz_61 : szOf Tryd.prog 61 = 1 := by kernel_rfl
@[simp] theorem ag_61 : aggT Tryd.prog 61 = some false := by kernel_rfl
@[simp] theorem by_61 : bytesOf Tryd.prog 61 = 8 := by kernel_rfl
attribute [simp] Tryd.underlying61
@[simp] theorem sz_62 : szOf Tryd.prog 62 = 1 := by kernel_rfl
@[simp] theorem ag_62 : aggT Tryd.prog 62 = some false := by kernel_rfl
@[simp] theorem by_62 : bytesOf Tryd.prog 62 = 8 := by kernel_rfl
attribute [simp] Tryd.underlying62
@[simp] theorem sz_63 : szOf Tryd.prog 63 = 1 := by kernel_rfl
@[simp] theorem ag_63 : aggT Tryd.prog 63 = some false := by kernel_rfl
@[simp] theorem by_63 : bytesOf Tryd.prog 63 = 8 := by kernel_rfl
attribute [simp] Tryd.underlying63
@[simp] theorem sz_64 : szOf Tryd.prog 64 = 8 := by kernel_rfl
@[simp] theorem ag_64 : aggT Tryd.prog 64 = some true := by kernel_rfl
@[simp] theorem by_64 : bytesOf Tryd.prog 64 = 32 := by kernel_rfl
attribute [simp] Tryd.underlying64
@[simp] theorem pl_64 : placesOf Tryd.prog 64 = none := by kernel_rfl
@[simp] theorem zr_64 : zerosOf Tryd.prog 64 = some [(.lit (.int Go.IntKind.u32 (0))), (.lit (.int Go.IntKind.u32 (0))), (.lit (.int Go.IntKind.u32 (0))), (.lit (.int Go.IntKind.u32 (0))), (.lit (.int Go.IntKind.u32 (0))), (.lit (.int Go.IntKind.u32 (0))), (.lit (.int Go.IntKind.u32 (0))), (.lit (.int Go.IntKind.u32 (0)))] := by kernel_rfl
@[simp] theorem sz_65 : szOf Tryd.prog 65 = 8 := by kernel_rfl
@[simp] theorem ag_65 : aggT Tryd.prog 65 = some true := by kernel_rfl
@[simp] theorem by_65 : bytesOf Tryd.prog 65 = 32 := by kernel_rfl
attribute [simp] Tryd.underlying65
@[simp] theorem pl_65 : placesOf Tryd.prog 65 = none := by kernel_rfl
@[simp] theorem zr_65 : zerosOf Tryd.prog 65 = some [(.lit (.int Go.IntKind.u32 (0))), (.lit (.int Go.IntKind.u32 (0))), (.lit (.int Go.IntKind.u32 (0))), (.lit (.int Go.IntKind.u32 (0))), (.lit (.int Go.IntKind.u32 (0))), (.lit (.int Go.IntKind.u32 (0))), (.lit (.int Go.IntKind.u32 (0))), (.lit (.int Go.IntKind.u32 (0)))] := by kernel_rfl
@[simp] theorem sz_66 : szOf Tryd.prog 66 = 1 := by kernel_rfl
@[simp] theorem ag_66 : aggT Tryd.prog 66 = some false := by kernel_rfl
@[simp] theorem by_66 : bytesOf Tryd.prog 66 = 8 := by kernel_rfl
attribute [simp] Tryd.underlying66
@[simp] theorem sz_67 : szOf Tryd.prog 67 = 1 := by kernel_rfl
@[simp] theorem ag_67 : aggT Tryd.prog 67 = some false := by kernel_rfl
@[simp] theorem by_67 : bytesOf Tryd.prog 67 = 8 := by kernel_rfl
attribute [simp] Tryd.underlying67
@[simp] theorem zr_67 : zerosOf Tryd.prog 67 = some [(.lit (.int Go.IntKind.u64 (0)))] := by kernel_rfl
@[simp] theorem sz_68 : szOf Tryd.prog 68 = 10 := by kernel_rfl
@[simp] theorem ag_68 : aggT Tryd.prog 68 = some true := by kernel_rfl
@[simp] theorem by_68 : bytesOf Tryd.prog 68 = 64 := by kernel_rfl
attribute [simp] Tryd.underlying68
@[simp] theorem fl_68_0 : fldOf Tryd.prog 68 0 = some (0, 65) := by kernel_rfl
@[simp] theorem fl_68_1 : fldOf Tryd.prog 68 1 = some (8, 39) := by kernel_rfl
@[simp] theorem fl_68_2 : fldOf Tryd.prog 68 2 = some (9, 67) := by kernel_rfl
@[simp] theorem pl_68 : placesOf Tryd.prog 68 = some [(0, 8), (8, 1), (9, 1)] := by kernel_rfl
@[simp] theorem zr_68 : zerosOf Tryd.prog 68 = some [(.lit (.int Go.IntKind.u32 (0))), (.lit (.int Go.IntKind.u32 (0))), (.lit (.int Go.IntKind.u32 (0))), (.lit (.int Go.IntKind.u32 (0))), (.lit (.int Go.IntKind.u32 (0))), (.lit (.int Go.IntKind.u32 (0))), (.lit (.int Go.IntKind.u32 (0))), (.lit (.int Go.IntKind.u32 (0))), (.sl .imm true 0 []), (.lit (.int Go.IntKind.u64 (0)))] := by kernel_rfl
@[simp] theorem sz_69 : szOf Tryd.prog 69 = 10 := by kernel_rfl
@[simp] theorem ag_69 : aggT Tryd.prog 69 = some true := by kernel_rfl
@[simp] theorem by_69 : bytesOf Tryd.prog 69 = 64 := by kernel_rfl
attribute [simp] Tryd.underlying69
@[simp] theorem fl_69_0 : fldOf Tryd.prog 69 0 = some (0, 65) := by kernel_rfl
@[simp] theorem fl_69_1 : fldOf Tryd.prog 69 1 = some (8, 39) := by kernel_rfl
@[simp] theorem fl_69_2 : fldOf Tryd.prog 69 2 = some (9, 67) := by kernel_rfl
@[simp] theorem pl_69 : placesOf Tryd.prog 69 = some [(0, 8), (8, 1), (9, 1)] := by kernel_rfl
@[simp] theorem zr_69 : zerosOf Tryd.prog 69 = some [(.lit (.int Go.IntKind.u32 (0))), (.lit (.int Go.IntKind.u32 (0))), (.lit (.int Go.IntKind.u32 (0))), (.lit (.int Go.IntKind.u32 (0))), (.lit (.int Go.IntKind.u32 (0))), (.lit (.int Go.IntKind.u32 (0))), (.lit (.int Go.IntKind.u32 (0))), (.lit (.int Go.IntKind.u32 (0))), (.sl .imm true 0 []), (.lit (.int Go.IntKind.u64 (0)))] := by kernel_rfl
@[simp] theorem sz_70 : szOf Tryd.prog 70 = 1 := by kernel_rfl
@[simp] theorem ag_70 : aggT Tryd.prog 70 = some false := by kernel_rfl
@[simp] theorem by_70 : bytesOf Tryd.prog 70 = 8 := by kernel_rfl
attribute [simp] Tryd.underlying70
@[simp] theorem sz_71 : szOf Tryd.prog 71 = 1 := by kernel_rfl
@[simp] theorem ag_71 : aggT Tryd.prog 71 = some false := by kernel_rfl
@[simp] theorem by_71 : bytesOf Tryd.prog 71 = 8 := by kernel_rfl
attribute [simp] Tryd.underlying71
@[simp] theorem sz_72 : szOf Tryd.prog 72 = 1 := by kernel_rfl
@[simp] theorem ag_72 : aggT Tryd.prog 72 = some false := by kernel_rfl
@[simp] theorem by_72 : bytesOf Tryd.prog 72 = 8 := by kernel_rfl
attribute [simp] Tryd.underlying72
@[simp] theorem sz_73 : szOf Tryd.prog 73 = 1 := by kernel_rfl
@[simp] theorem ag_73 : aggT Tryd.prog 73 = some false := by kernel_rfl
@[simp] theorem by_73 : bytesOf Tryd.prog 73 = 8 := by kernel_rfl
attribute [simp] Tryd.underlying73
@[simp] theorem sz_74 : szOf Tryd.prog 74 = 1 := by kernel_rfl
@[simp] theorem ag_74 : aggT Tryd.prog 74 = some false := by kernel_rfl
@[simp] theorem by_74 : bytesOf Tryd.prog 74 = 8 := by kernel_rfl
attribute [simp] Tryd.underlying74
@[simp] theorem sz_75 : szOf Tryd.prog 75 = 1 := by kernel_rfl
@[simp] theorem ag_75 : aggT Tryd.prog 75 = some false := by kernel_rfl
@[simp] theorem by_75 : bytesOf Tryd.prog 75 = 8 := by kernel_rfl
attribute [simp] Tryd.underlying75
@[simp] theorem sz_76 : szOf Tryd.prog 76 = 1 := by kernel_rfl
@[simp] theorem ag_76 : aggT Tryd.prog 76 = some false := by kernel_rfl
@[simp] theorem by_76 : bytesOf Tryd.prog 76 = 8 := by kernel_rfl
attribute [simp] Tryd.underlying76
@[simp] theorem zr_76 : zerosOf Tryd.prog 76 = some [(.lit (.int Go.IntKind.u64 (0)))] := by kernel_rfl
@[simp] theorem sz_77 : szOf Tryd.prog 77 = 1 := by kernel_rfl
@[simp] theorem ag_77 : aggT Tryd.prog 77 = some false := by kernel_rfl
@[simp] theorem by_77 : bytesOf Tryd.prog 77 = 8 := by kernel_rfl
attribute [simp] Tryd.underlying77
@[simp] theorem sz_78 : szOf Tryd.prog 78 = 1 := by kernel_rfl
@[simp] theorem ag_78 : aggT Tryd.prog 78 = some false := by kernel_rfl
@[simp] theorem by_78 : bytesOf Tryd.prog 78 = 24 := by kernel_rfl
attribute [simp] Tryd.underlying78
@[simp] theorem el_78 : Go.Sy.elemOf Tryd.prog 78 = some 39 := by kernel_rfl
@[simp] theorem zr_78 : zerosOf Tryd.prog 78 = some [(.sl .imm true 0 [])] := by kernel_rfl
@[simp] theorem sz_79 : szOf Tryd.prog 79 = 1 := by kernel_rfl
@[simp] theorem ag_79 : aggT Tryd.prog 79 = some false := by kernel_rfl
@[simp] theorem by_79 : bytesOf Tryd.prog 79 = 8 := by kernel_rfl
attribute [simp] Tryd.underlying79
@[simp] theorem sz_80 : szOf Tryd.prog 80 = 1 := by kernel_rfl
@[simp] theorem ag_80 : aggT Tryd.prog 80 = some false := by kernel_rfl
@[simp] theorem by_80 : bytesOf Tryd.prog 80 = 8 := by kernel_rfl
attribute [simp] Tryd.underlying80
@[simp] theorem sz_81 : szOf Tryd.prog 81 = 1 := by kernel_rfl
@[simp] theorem ag_81 : aggT Tryd.prog 81 = some false := by kernel_rfl
@[simp] theorem by_81 : bytesOf Tryd.prog 81 = 8 := by kernel_rfl
attribute [simp] Tryd.underlying81
@[simp] theorem sz_82 : szOf Tryd.prog 82 = 1 := by kernel_rfl
@[simp] theorem ag_82 : aggT Tryd.prog 82 = some false := by kernel_rfl
@[simp] theorem by_82 : bytesOf Tryd.prog 82 = 8 := by kernel_rfl
attribute [simp] Tryd.underlying82
@[simp] theorem sz_83 : szOf Tryd.prog 83 = 1 := by kernel_rfl
@[simp] theorem ag_83 : aggT Tryd.prog 83 = some false := by kernel_rfl
@[simp] theorem by_83 : bytesOf Tryd.prog 83 = 8 := by kernel_rfl
attribute [simp] Tryd.underlying83
@[simp] theorem sz_84 : szOf Tryd.prog 84 = 4 := by kernel_rfl
@[simp] theorem ag_84 : aggT Tryd.prog 84 = some true := by kernel_rfl
@[simp] theorem by_84 : bytesOf Tryd.prog 84 = 40 := by kernel_rfl
attribute [simp] Tryd.underlying84
@[simp] theorem fl_84_0 : fldOf Tryd.prog 84 0 = some (0, 17) := by kernel_rfl
@[simp] theorem fl_84_1 : fldOf Tryd.prog 84 1 = some (1, 17) := by kernel_rfl
@[simp] theorem fl_84_2 : fldOf Tryd.prog 84 2 = some (2, 17) := by kernel_rfl
@[simp] theorem fl_84_3 : fldOf Tryd.prog 84 3 = some (3, 9) := by kernel_rfl
@[simp] theorem pl_84 : placesOf Tryd.prog 84 = some [(0, 1), (1, 1), (2, 1), (3, 1)] := by kernel_rfl
@[simp] theorem zr_84 : zerosOf Tryd.prog 84 = some [(.lit (.pointer none)), (.lit (.pointer none)), (.lit (.pointer none)), (.lit (.string ByteArray.empty))] := by kernel_rfl
@[simp] theorem sz_85 : szOf Tryd.prog 85 = 4 := by kernel_rfl
@[simp] theorem ag_85 : aggT Tryd.prog 85 = some true := by kernel_rfl
@[simp] theorem by_85 : bytesOf Tryd.prog 85 = 40 := by kernel_rfl
attribute [simp] Tryd.underlying85
@[simp] theorem fl_85_0 : fldOf Tryd.prog 85 0 = some (0, 17) := by kernel_rfl
@[simp] theorem fl_85_1 : fldOf Tryd.prog 85 1 = some (1, 17) := by kernel_rfl
@[simp] theorem fl_85_2 : fldOf Tryd.prog 85 2 = some (2, 17) := by kernel_rfl
@[simp] theorem fl_85_3 : fldOf Tryd.prog 85 3 = some (3, 9) := by kernel_rfl
@[simp] theorem pl_85 : placesOf Tryd.prog 85 = some [(0, 1), (1, 1), (2, 1), (3, 1)] := by kernel_rfl
@[simp] theorem zr_85 : zerosOf Tryd.prog 85 = some [(.lit (.pointer none)), (.lit (.pointer none)), (.lit (.pointer none)), (.lit (.string ByteArray.empty))] := by kernel_rfl
@[simp] theorem sz_86 : szOf Tryd.prog 86 = 0 := by kernel_rfl
@[simp] theorem ag_86 : aggT Tryd.prog 86 = some true := by kernel_rfl
@[simp] theorem by_86 : bytesOf Tryd.prog 86 = 0 := by kernel_rfl
attribute [simp] Tryd.underlying86
@[simp] theorem pl_86 : placesOf Tryd.prog 86 = none := by kernel_rfl
@[simp] theorem zr_86 : zerosOf Tryd.prog 86 = some [] := by kernel_rfl
@[simp] theorem sz_87 : szOf Tryd.prog 87 = 0 := by kernel_rfl
@[simp] theorem ag_87 : aggT Tryd.prog 87 = some true := by kernel_rfl
@[simp] theorem by_87 : bytesOf Tryd.prog 87 = 0 := by kernel_rfl
attribute [simp] Tryd.underlying87
@[simp] theorem fl_87_0 : fldOf Tryd.prog 87 0 = some (0, 86) := by kernel_rfl
@[simp] theorem pl_87 : placesOf Tryd.prog 87 = some [(0, 0)] := by kernel_rfl
@[simp] theorem zr_87 : zerosOf Tryd.prog 87 = some [] := by kernel_rfl
@[simp] theorem sz_88 : szOf Tryd.prog 88 = 0 := by kernel_rfl
@[simp] theorem ag_88 : aggT Tryd.prog 88 = some true := by kernel_rfl
@[simp] theorem by_88 : bytesOf Tryd.prog 88 = 0 := by kernel_rfl
attribute [simp] Tryd.underlying88
@[simp] theorem fl_88_0 : fldOf Tryd.prog 88 0 = some (0, 86) := by kernel_rfl
@[simp] theorem pl_88 : placesOf Tryd.prog 88 = some [(0, 0)] := by kernel_rfl
@[simp] theorem zr_88 : zerosOf Tryd.prog 88 = some [] := by kernel_rfl
@[simp] theorem sz_89 : szOf Tryd.prog 89 = 1 := by kernel_rfl
@[simp] theorem ag_89 : aggT Tryd.prog 89 = some false := by kernel_rfl
@[simp] theorem by_89 : bytesOf Tryd.prog 89 = 8 := by kernel_rfl
attribute [simp] Tryd.underlying89
@[simp] theorem sz_90 : szOf Tryd.prog 90 = 1 := by kernel_rfl
@[simp] theorem ag_90 : aggT Tryd.prog 90 = some false := by kernel_rfl
@[simp] theorem by_90 : bytesOf Tryd.prog 90 = 1 := by kernel_rfl
attribute [simp] Tryd.underlying90
@[simp] theorem zr_90 : zerosOf Tryd.prog 90 = some [(.lit (.int Go.IntKind.u8 (0)))] := by kernel_rfl
@[simp] theorem sz_91 : szOf Tryd.prog 91 = 1 := by kernel_rfl
@[simp] theorem ag_91 : aggT Tryd.prog 91 = some false := by kernel_rfl
@[simp] theorem by_91 : bytesOf Tryd.prog 91 = 1 := by kernel_rfl
attribute [simp] Tryd.underlying91
@[simp] theorem zr_91 : zerosOf Tryd.prog 91 = some [(.lit (.int Go.IntKind.u8 (0)))] := by kernel_rfl
@[simp] theorem sz_92 : szOf Tryd.prog 92 = 1 := by kernel_rfl
@[simp] theorem ag_92 : aggT Tryd.prog 92 = some false := by kernel_rfl
@[simp] theorem by_92 : bytesOf Tryd.prog 92 = 8 := by kernel_rfl
attribute [simp] Tryd.underlying92
@[simp] theorem sz_93 : szOf Tryd.prog 93 = 1 := by kernel_rfl
@[simp] theorem ag_93 : aggT Tryd.prog 93 = some false := by kernel_rfl
@[simp] theorem by_93 : bytesOf Tryd.prog 93 = 8 := by kernel_rfl
attribute [simp] Tryd.underlying93
@[simp] theorem zr_93 : zerosOf Tryd.prog 93 = some [(.lit (.pointer none))] := by kernel_rfl
@[simp] theorem sz_94 : szOf Tryd.prog 94 = 1 := by kernel_rfl
@[simp] theorem ag_94 : aggT Tryd.prog 94 = some false := by kernel_rfl
@[simp] theorem by_94 : bytesOf Tryd.prog 94 = 4 := by kernel_rfl
attribute [simp] Tryd.underlying94
@[simp] theorem zr_94 : zerosOf Tryd.prog 94 = some [(.lit (.int Go.IntKind.i32 (0)))] := by kernel_rfl
@[simp] theorem sz_95 : szOf Tryd.prog 95 = 1 := by kernel_rfl
@[simp] theorem ag_95 : aggT Tryd.prog 95 = some false := by kernel_rfl
@[simp] theorem by_95 : bytesOf Tryd.prog 95 = 4 := by kernel_rfl
attribute [simp] Tryd.underlying95
@[simp] theorem zr_95 : zerosOf Tryd.prog 95 = some [(.lit (.int Go.IntKind.i32 (0)))] := by kernel_rfl
@[simp] theorem sz_96 : szOf Tryd.prog 96 = 11 := by kernel_rfl
@[simp] theorem ag_96 : aggT Tryd.prog 96 = some true := by kernel_rfl
@[simp] theorem by_96 : bytesOf Tryd.prog 96 = 48 := by kernel_rfl
attribute [simp] Tryd.underlying96
@[simp] theorem fl_96_0 : fldOf Tryd.prog 96 0 = some (0, 12) := by kernel_rfl
@[simp] theorem fl_96_1 : fldOf Tryd.prog 96 1 = some (1, 12) := by kernel_rfl
@[simp] theorem fl_96_2 : fldOf Tryd.prog 96 2 = some (2, 55) := by kernel_rfl
@[simp] theorem fl_96_3 : fldOf Tryd.prog 96 3 = some (3, 90) := by kernel_rfl
@[simp] theorem fl_96_4 : fldOf Tryd.prog 96 4 = some (4, 5) := by kernel_rfl
@[simp] theorem fl_96_5 : fldOf Tryd.prog 96 5 = some (5, 5) := by kernel_rfl
@[simp] theorem fl_96_6 : fldOf Tryd.prog 96 6 = some (6, 91) := by kernel_rfl
@[simp] theorem fl_96_7 : fldOf Tryd.prog 96 7 = some (7, 92) := by kernel_rfl
@[simp] theorem fl_96_8 : fldOf Tryd.prog 96 8 = some (8, 93) := by kernel_rfl
@[simp] theorem fl_96_9 : fldOf Tryd.prog 96 9 = some (9, 94) := by kernel_rfl
@[simp] theorem fl_96_10 : fldOf Tryd.prog 96 10 = some (10, 95) := by kernel_rfl
@[simp] theorem pl_96 : placesOf Tryd.prog 96 = some [(0, 1), (1, 1), (2, 1), (3, 1), (4, 1), (5, 1), (6, 1), (7, 1), (8, 1), (9, 1), (10, 1)] := by kernel_rfl
@[simp] theorem sz_97 : szOf Tryd.prog 97 = 11 := by kernel_rfl
@[simp] theorem ag_97 : aggT Tryd.prog 97 = some true := by kernel_rfl
@[simp] theorem by_97 : bytesOf Tryd.prog 97 = 48 := by kernel_rfl
attribute [simp] Tryd.underlying97
@[simp] theorem fl_97_0 : fldOf Tryd.prog 97 0 = some (0, 12) := by kernel_rfl
@[simp] theorem fl_97_1 : fldOf Tryd.prog 97 1 = some (1, 12) := by kernel_rfl
@[simp] theorem fl_97_2 : fldOf Tryd.prog 97 2 = some (2, 55) := by kernel_rfl
@[simp] theorem fl_97_3 : fldOf Tryd.prog 97 3 = some (3, 90) := by kernel_rfl
@[simp] theorem fl_97_4 : fldOf Tryd.prog 97 4 = some (4, 5) := by kernel_rfl
@[simp] theorem fl_97_5 : fldOf Tryd.prog 97 5 = some (5, 5) := by kernel_rfl
@[simp] theorem fl_97_6 : fldOf Tryd.prog 97 6 = some (6, 91) := by kernel_rfl
@[simp] theorem fl_97_7 : fldOf Tryd.prog 97 7 = some (7, 92) := by kernel_rfl
@[simp] theorem fl_97_8 : fldOf Tryd.prog 97 8 = some (8, 93) := by kernel_rfl
@[simp] theorem fl_97_9 : fldOf Tryd.prog 97 9 = some (9, 94) := by kernel_rfl
@[simp] theorem fl_97_10 : fldOf Tryd.prog 97 10 = some (10, 95) := by kernel_rfl
@[simp] theorem pl_97 : placesOf Tryd.prog 97 = some [(0, 1), (1, 1), (2, 1), (3, 1), (4, 1), (5, 1), (6, 1), (7, 1), (8, 1), (9, 1), (10, 1)] := by kernel_rfl
@[simp] theorem sz_98 : szOf Tryd.prog 98 = 1 := by kernel_rfl
@[simp] theorem ag_98 : aggT Tryd.prog 98 = some false := by kernel_rfl
@[simp] theorem by_98 : bytesOf Tryd.prog 98 = 8 := by kernel_rfl
attribute [simp] Tryd.underlying98
@[simp] theorem zr_98 : zerosOf Tryd.prog 98 = some [(.lit (.pointer none))] := by kernel_rfl

end Go.Proofs.YtbialojkkhkjeaaDoor
