/- The evaluations of the regions that draw their order, and the types' facts (printed by a program of ours). -/
import Derived.Test.YtgpcphddjapceaaSi
import Derived.Test.YtgpcphddjapceaaProg
import Derived.KernelRfl
namespace Go.Proofs.Ytgpcphddjapceaa
open Go.Sy
def sch4 : List (Nat × Go.Sy.Sch) := [(16, ⟨[0, 0, 3, 7, 15, 31, 15, 79, 207, 463, 1023, 2047, 4095, 8191, 16383, 8191, 40959, 106495, 237567, 499711, 1048575, 2097151, 4194303, 8388607, 16777215, 8388607, 8388607, 75497471, 209715199, 478150655, 1015021567, 2122317823, 4294967295, 8589934591, 17179869183, 34359738367, 68719476735, 34359738367, 171798691839, 446676598783, 996432412671, 2199023255551, 4398046511103, 8796093022207], [(true, 0), (true, 1), (true, 2), (true, 3), (true, 4), (true, 6), (true, 7), (true, 8), (true, 9)], [(5, [(false, 6), (false, 7), (false, 8), (false, 9), (true, 10), (true, 11), (true, 12), (true, 13), (true, 15), (true, 16), (true, 17), (true, 18), (true, 19)]), (14, [(false, 15), (false, 16), (false, 17), (false, 18), (false, 19), (true, 20), (true, 21), (true, 22), (true, 23), (true, 25), (true, 26), (true, 27), (true, 28), (true, 29), (true, 30), (true, 31)]), (24, [(false, 25), (false, 26), (false, 27), (false, 28), (false, 29), (false, 30), (false, 31), (true, 32), (true, 33), (true, 34), (true, 35), (true, 37), (true, 38), (true, 39), (true, 40)]), (36, [(false, 37), (false, 38), (false, 39), (false, 40)]), (41, [(true, 42), (true, 43)])]⟩), (18, ⟨[0, 1, 3, 7, 3, 19, 51, 115, 243, 511, 1023, 2047], [(true, 0), (true, 1), (true, 2), (true, 4), (true, 5), (true, 6), (true, 7), (true, 8)], [(3, [(false, 4), (false, 5), (false, 6), (false, 7), (false, 8), (true, 9), (true, 10), (true, 11)])]⟩)]
@[simp] theorem lk4_16 : lookS sch4 16 = some ⟨[0, 0, 3, 7, 15, 31, 15, 79, 207, 463, 1023, 2047, 4095, 8191, 16383, 8191, 40959, 106495, 237567, 499711, 1048575, 2097151, 4194303, 8388607, 16777215, 8388607, 8388607, 75497471, 209715199, 478150655, 1015021567, 2122317823, 4294967295, 8589934591, 17179869183, 34359738367, 68719476735, 34359738367, 171798691839, 446676598783, 996432412671, 2199023255551, 4398046511103, 8796093022207], [(true, 0), (true, 1), (true, 2), (true, 3), (true, 4), (true, 6), (true, 7), (true, 8), (true, 9)], [(5, [(false, 6), (false, 7), (false, 8), (false, 9), (true, 10), (true, 11), (true, 12), (true, 13), (true, 15), (true, 16), (true, 17), (true, 18), (true, 19)]), (14, [(false, 15), (false, 16), (false, 17), (false, 18), (false, 19), (true, 20), (true, 21), (true, 22), (true, 23), (true, 25), (true, 26), (true, 27), (true, 28), (true, 29), (true, 30), (true, 31)]), (24, [(false, 25), (false, 26), (false, 27), (false, 28), (false, 29), (false, 30), (false, 31), (true, 32), (true, 33), (true, 34), (true, 35), (true, 37), (true, 38), (true, 39), (true, 40)]), (36, [(false, 37), (false, 38), (false, 39), (false, 40)]), (41, [(true, 42), (true, 43)])]⟩ := (rfl)
@[simp] theorem lk4_18 : lookS sch4 18 = some ⟨[0, 1, 3, 7, 3, 19, 51, 115, 243, 511, 1023, 2047], [(true, 0), (true, 1), (true, 2), (true, 4), (true, 5), (true, 6), (true, 7), (true, 8)], [(3, [(false, 4), (false, 5), (false, 6), (false, 7), (false, 8), (true, 9), (true, 10), (true, 11)])]⟩ := (rfl)
def sch5 : List (Nat × Go.Sy.Sch) := [(18, ⟨[0, 1, 3, 7, 7, 23, 63, 127, 255, 511, 511, 1535, 4095, 511, 16383, 32767, 65535, 131071, 262143, 262143, 786431, 2097151, 262143, 262143, 12845055, 33554431, 67108863, 134217727], [(true, 0), (true, 1), (true, 2), (true, 3), (true, 4), (true, 5), (true, 6), (true, 7), (true, 8), (true, 9), (true, 10), (true, 11), (true, 12), (true, 13)], [(14, [(true, 15), (true, 16), (true, 17), (true, 18), (true, 19), (true, 20), (true, 21), (true, 22), (true, 23), (true, 24)]), (25, [(true, 26), (true, 27)])]⟩)]
@[simp] theorem lk5_18 : lookS sch5 18 = some ⟨[0, 1, 3, 7, 7, 23, 63, 127, 255, 511, 511, 1535, 4095, 511, 16383, 32767, 65535, 131071, 262143, 262143, 786431, 2097151, 262143, 262143, 12845055, 33554431, 67108863, 134217727], [(true, 0), (true, 1), (true, 2), (true, 3), (true, 4), (true, 5), (true, 6), (true, 7), (true, 8), (true, 9), (true, 10), (true, 11), (true, 12), (true, 13)], [(14, [(true, 15), (true, 16), (true, 17), (true, 18), (true, 19), (true, 20), (true, 21), (true, 22), (true, 23), (true, 24)]), (25, [(true, 26), (true, 27)])]⟩ := (rfl)
def sch7 : List (Nat × Go.Sy.Sch) := [(22, ⟨[0, 0, 0, 6, 14, 31, 0, 0, 0, 384, 896, 2047, 4095], [(true, 0), (true, 1), (true, 2), (true, 3), (true, 4), (true, 6), (true, 7), (true, 8), (true, 9), (true, 10)], [(5, [(false, 6), (false, 7), (false, 8), (false, 9), (false, 10)]), (11, [(true, 12)])]⟩)]
@[simp] theorem lk7_22 : lookS sch7 22 = some ⟨[0, 0, 0, 6, 14, 31, 0, 0, 0, 384, 896, 2047, 4095], [(true, 0), (true, 1), (true, 2), (true, 3), (true, 4), (true, 6), (true, 7), (true, 8), (true, 9), (true, 10)], [(5, [(false, 6), (false, 7), (false, 8), (false, 9), (false, 10)]), (11, [(true, 12)])]⟩ := (rfl)
def sch9 : List (Nat × Go.Sy.Sch) := [(11, ⟨[0, 1, 3, 7, 15, 31, 63, 127, 255, 511, 1023, 2047, 1023, 1023, 13311, 32767, 65535, 131071], [(true, 0), (true, 1), (true, 2), (true, 3), (true, 4), (true, 5), (true, 6), (true, 7), (true, 8), (true, 9), (true, 10), (true, 12), (true, 13), (true, 14)], [(11, [(false, 12), (false, 13), (false, 14)]), (15, [(true, 16), (true, 17)])]⟩)]
@[simp] theorem lk9_11 : lookS sch9 11 = some ⟨[0, 1, 3, 7, 15, 31, 63, 127, 255, 511, 1023, 2047, 1023, 1023, 13311, 32767, 65535, 131071], [(true, 0), (true, 1), (true, 2), (true, 3), (true, 4), (true, 5), (true, 6), (true, 7), (true, 8), (true, 9), (true, 10), (true, 12), (true, 13), (true, 14)], [(11, [(false, 12), (false, 13), (false, 14)]), (15, [(true, 16), (true, 17)])]⟩ := (rfl)
def sch10 : List (Nat × Go.Sy.Sch) := [(20, ⟨[0, 1, 0, 7, 15, 31, 63, 127, 63, 319, 831, 1855, 4095, 8191, 16383, 32767, 65535, 32767, 262143, 524287, 1048575], [(true, 0), (true, 2)], [(1, [(false, 2)]), (3, [(true, 4), (true, 5), (true, 6), (true, 8), (true, 9), (true, 10), (true, 11)]), (7, [(false, 8), (false, 9), (false, 10), (false, 11), (true, 12), (true, 13), (true, 14), (true, 15), (true, 17)]), (16, [(false, 17)]), (18, [(true, 19), (true, 20)])]⟩)]
@[simp] theorem lk10_20 : lookS sch10 20 = some ⟨[0, 1, 0, 7, 15, 31, 63, 127, 63, 319, 831, 1855, 4095, 8191, 16383, 32767, 65535, 32767, 262143, 524287, 1048575], [(true, 0), (true, 2)], [(1, [(false, 2)]), (3, [(true, 4), (true, 5), (true, 6), (true, 8), (true, 9), (true, 10), (true, 11)]), (7, [(false, 8), (false, 9), (false, 10), (false, 11), (true, 12), (true, 13), (true, 14), (true, 15), (true, 17)]), (16, [(false, 17)]), (18, [(true, 19), (true, 20)])]⟩ := (rfl)
def sch14 : List (Nat × Go.Sy.Sch) := [(21, ⟨[0, 1, 0, 0, 12, 28, 63], [(true, 0), (true, 2), (true, 3), (true, 4), (true, 5)], [(1, [(false, 2), (false, 3), (false, 4), (false, 5), (true, 6)])]⟩), (26, ⟨[0, 1, 3, 0, 0, 24, 56, 127], [(true, 0), (true, 3), (true, 4), (true, 5), (true, 6)], [(1, [(true, 2), (false, 3), (false, 4), (false, 5), (false, 6), (true, 7)])]⟩)]
@[simp] theorem lk14_21 : lookS sch14 21 = some ⟨[0, 1, 0, 0, 12, 28, 63], [(true, 0), (true, 2), (true, 3), (true, 4), (true, 5)], [(1, [(false, 2), (false, 3), (false, 4), (false, 5), (true, 6)])]⟩ := (rfl)
@[simp] theorem lk14_26 : lookS sch14 26 = some ⟨[0, 1, 3, 0, 0, 24, 56, 127], [(true, 0), (true, 3), (true, 4), (true, 5), (true, 6)], [(1, [(true, 2), (false, 3), (false, 4), (false, 5), (false, 6), (true, 7)])]⟩ := (rfl)
def sch18 : List (Nat × Go.Sy.Sch) := [(6, ⟨[0, 0, 3, 7, 0, 0, 48, 112, 255], [(true, 0), (true, 1), (true, 2), (true, 3), (true, 4), (true, 5), (true, 6), (true, 7), (true, 8)], []⟩)]
@[simp] theorem lk18_6 : lookS sch18 6 = some ⟨[0, 0, 3, 7, 0, 0, 48, 112, 255], [(true, 0), (true, 1), (true, 2), (true, 3), (true, 4), (true, 5), (true, 6), (true, 7), (true, 8)], []⟩ := (rfl)
def sch25 : List (Nat × Go.Sy.Sch) := [(1, ⟨[0, 1, 3, 7, 0, 16, 48, 112, 240, 511, 1023], [(true, 0), (true, 1), (true, 2), (true, 3), (true, 4), (true, 5), (true, 6), (true, 7), (true, 8), (true, 9), (true, 10)], []⟩)]
@[simp] theorem lk25_1 : lookS sch25 1 = some ⟨[0, 1, 3, 7, 0, 16, 48, 112, 240, 511, 1023], [(true, 0), (true, 1), (true, 2), (true, 3), (true, 4), (true, 5), (true, 6), (true, 7), (true, 8), (true, 9), (true, 10)], []⟩ := (rfl)
def sch40 : List (Nat × Go.Sy.Sch) := [(13, ⟨[0, 0, 2, 6, 14, 0, 0, 64, 192, 448, 1022, 2047, 4095], [(true, 1), (true, 2), (true, 3), (true, 4), (true, 5), (true, 6), (true, 7), (true, 8), (true, 9), (true, 10)], [(0, [(false, 1), (false, 2), (false, 3), (false, 4), (false, 5), (false, 6), (false, 7), (false, 8), (false, 9), (false, 10)]), (11, [(true, 12)])]⟩)]
@[simp] theorem lk40_13 : lookS sch40 13 = some ⟨[0, 0, 2, 6, 14, 0, 0, 64, 192, 448, 1022, 2047, 4095], [(true, 1), (true, 2), (true, 3), (true, 4), (true, 5), (true, 6), (true, 7), (true, 8), (true, 9), (true, 10)], [(0, [(false, 1), (false, 2), (false, 3), (false, 4), (false, 5), (false, 6), (false, 7), (false, 8), (false, 9), (false, 10)]), (11, [(true, 12)])]⟩ := (rfl)
def sch41 : List (Nat × Go.Sy.Sch) := [(1, ⟨[0, 1, 3, 7, 15, 0, 32, 96, 224, 511, 1023], [(true, 0), (true, 1), (true, 2), (true, 3), (true, 4), (true, 5), (true, 6), (true, 7), (true, 8), (true, 9), (true, 10)], []⟩)]
@[simp] theorem lk41_1 : lookS sch41 1 = some ⟨[0, 1, 3, 7, 15, 0, 32, 96, 224, 511, 1023], [(true, 0), (true, 1), (true, 2), (true, 3), (true, 4), (true, 5), (true, 6), (true, 7), (true, 8), (true, 9), (true, 10)], []⟩ := (rfl)
def sch45 : List (Nat × Go.Sy.Sch) := [(1, ⟨[0, 1, 0, 4, 15, 31], [(true, 0), (true, 1), (true, 2)], [(3, [(false, 0), (false, 1), (true, 4), (true, 5)])]⟩), (4, ⟨[0, 0, 2, 6, 14, 0, 62, 127, 255, 511], [(true, 0), (true, 1), (true, 2), (true, 3), (true, 4), (true, 5)], [(6, [(false, 0), (true, 7), (true, 8)]), (9, [])]⟩), (6, ⟨[0, 1, 3, 7, 0, 16, 63, 127], [(true, 0), (true, 1), (true, 2), (true, 3), (true, 4), (true, 5), (true, 6), (true, 7)], []⟩), (7, ⟨[0, 0, 2, 6, 14, 0, 0, 64, 192, 448, 992, 2046, 4095, 8191, 16383], [(true, 0), (true, 1), (true, 2), (true, 3), (true, 4), (true, 5), (true, 6), (true, 7), (true, 8), (true, 9), (true, 10)], [(11, [(false, 0), (true, 12), (true, 13)]), (14, [])]⟩), (8, ⟨[0, 0, 1, 5, 13, 31, 63, 127], [(true, 0), (true, 1), (true, 2), (true, 3)], [(4, [(false, 1), (true, 5), (true, 6)]), (7, [])]⟩), (10, ⟨[0, 0, 2, 6, 14, 0, 62, 127, 255, 511], [(true, 0), (true, 1), (true, 2), (true, 3), (true, 4), (true, 5)], [(6, [(false, 0), (true, 7), (true, 8)]), (9, [])]⟩), (11, ⟨[0, 1, 3, 7, 0, 16, 63, 127, 255, 511], [(true, 0), (true, 1), (true, 2), (true, 3), (true, 4), (true, 5), (true, 6), (true, 7), (true, 8)], [(9, [])]⟩)]
@[simp] theorem lk45_1 : lookS sch45 1 = some ⟨[0, 1, 0, 4, 15, 31], [(true, 0), (true, 1), (true, 2)], [(3, [(false, 0), (false, 1), (true, 4), (true, 5)])]⟩ := (rfl)
@[simp] theorem lk45_4 : lookS sch45 4 = some ⟨[0, 0, 2, 6, 14, 0, 62, 127, 255, 511], [(true, 0), (true, 1), (true, 2), (true, 3), (true, 4), (true, 5)], [(6, [(false, 0), (true, 7), (true, 8)]), (9, [])]⟩ := (rfl)
@[simp] theorem lk45_6 : lookS sch45 6 = some ⟨[0, 1, 3, 7, 0, 16, 63, 127], [(true, 0), (true, 1), (true, 2), (true, 3), (true, 4), (true, 5), (true, 6), (true, 7)], []⟩ := (rfl)
@[simp] theorem lk45_7 : lookS sch45 7 = some ⟨[0, 0, 2, 6, 14, 0, 0, 64, 192, 448, 992, 2046, 4095, 8191, 16383], [(true, 0), (true, 1), (true, 2), (true, 3), (true, 4), (true, 5), (true, 6), (true, 7), (true, 8), (true, 9), (true, 10)], [(11, [(false, 0), (true, 12), (true, 13)]), (14, [])]⟩ := (rfl)
@[simp] theorem lk45_8 : lookS sch45 8 = some ⟨[0, 0, 1, 5, 13, 31, 63, 127], [(true, 0), (true, 1), (true, 2), (true, 3)], [(4, [(false, 1), (true, 5), (true, 6)]), (7, [])]⟩ := (rfl)
@[simp] theorem lk45_10 : lookS sch45 10 = some ⟨[0, 0, 2, 6, 14, 0, 62, 127, 255, 511], [(true, 0), (true, 1), (true, 2), (true, 3), (true, 4), (true, 5)], [(6, [(false, 0), (true, 7), (true, 8)]), (9, [])]⟩ := (rfl)
@[simp] theorem lk45_11 : lookS sch45 11 = some ⟨[0, 1, 3, 7, 0, 16, 63, 127, 255, 511], [(true, 0), (true, 1), (true, 2), (true, 3), (true, 4), (true, 5), (true, 6), (true, 7), (true, 8)], [(9, [])]⟩ := (rfl)
def sch48 : List (Nat × Go.Sy.Sch) := [(3, ⟨[0, 1, 3, 7, 15, 0, 32, 127, 0, 256, 768, 1792, 4095], [(true, 0), (true, 1), (true, 2), (true, 3), (true, 4), (true, 5), (true, 6), (true, 7), (true, 8), (true, 9), (true, 10), (true, 11), (true, 12)], []⟩)]
@[simp] theorem lk48_3 : lookS sch48 3 = some ⟨[0, 1, 3, 7, 15, 0, 32, 127, 0, 256, 768, 1792, 4095], [(true, 0), (true, 1), (true, 2), (true, 3), (true, 4), (true, 5), (true, 6), (true, 7), (true, 8), (true, 9), (true, 10), (true, 11), (true, 12)], []⟩ := (rfl)
def sch51 : List (Nat × Go.Sy.Sch) := [(2, ⟨[0, 0, 0, 4, 12, 28, 0, 124, 2, 511, 1023, 2047], [(true, 0), (true, 1), (true, 2), (true, 3), (true, 4), (true, 5), (true, 6), (true, 7)], [(8, [(false, 0), (false, 2), (false, 3), (false, 4), (false, 5), (false, 6), (false, 7), (true, 9), (true, 10)]), (11, [])]⟩)]
@[simp] theorem lk51_2 : lookS sch51 2 = some ⟨[0, 0, 0, 4, 12, 28, 0, 124, 2, 511, 1023, 2047], [(true, 0), (true, 1), (true, 2), (true, 3), (true, 4), (true, 5), (true, 6), (true, 7)], [(8, [(false, 0), (false, 2), (false, 3), (false, 4), (false, 5), (false, 6), (false, 7), (true, 9), (true, 10)]), (11, [])]⟩ := (rfl)
def sch53 : List (Nat × Go.Sy.Sch) := [(2, ⟨[0, 0, 2, 7, 15, 31, 63, 127, 255, 511, 1023, 2047, 4095, 511, 8703, 25087, 57855, 511, 254463, 524287, 1048575, 2097151, 4194303], [(true, 0), (true, 1)], [(2, [(false, 0), (true, 3), (true, 4), (true, 5), (true, 6), (true, 7), (true, 8), (true, 9), (true, 10), (true, 11), (true, 12), (true, 13), (true, 14), (true, 15), (true, 16), (true, 17), (true, 18), (true, 19), (true, 20), (true, 21), (true, 22)])]⟩), (12, ⟨[0, 1, 0, 4, 12, 28, 0, 64, 192, 448, 0, 1984, 4092, 8188, 16380, 32764, 65535, 131071], [(true, 0), (true, 1), (true, 2), (true, 3), (true, 4), (true, 5), (true, 6), (true, 7), (true, 8), (true, 9), (true, 10), (true, 11), (true, 12), (true, 13), (true, 14), (true, 15), (true, 16)], [(17, [])]⟩), (13, ⟨[0, 1, 0, 4, 12, 28, 0, 64, 192, 448, 0, 1024, 3072, 7168, 0, 31744, 64512, 131068, 262143, 524287], [(true, 0), (true, 2), (true, 3), (true, 4), (true, 5), (true, 6), (true, 7), (true, 8), (true, 9), (true, 10), (true, 11), (true, 12), (true, 13), (true, 14), (true, 15), (true, 16), (true, 17)], [(1, [(false, 2), (false, 3), (false, 4), (false, 5), (false, 6), (false, 7), (false, 8), (false, 9), (false, 10), (false, 11), (false, 12), (false, 13), (false, 14), (false, 15), (false, 16), (false, 17)]), (18, [(true, 19)])]⟩)]
@[simp] theorem lk53_2 : lookS sch53 2 = some ⟨[0, 0, 2, 7, 15, 31, 63, 127, 255, 511, 1023, 2047, 4095, 511, 8703, 25087, 57855, 511, 254463, 524287, 1048575, 2097151, 4194303], [(true, 0), (true, 1)], [(2, [(false, 0), (true, 3), (true, 4), (true, 5), (true, 6), (true, 7), (true, 8), (true, 9), (true, 10), (true, 11), (true, 12), (true, 13), (true, 14), (true, 15), (true, 16), (true, 17), (true, 18), (true, 19), (true, 20), (true, 21), (true, 22)])]⟩ := (rfl)
@[simp] theorem lk53_12 : lookS sch53 12 = some ⟨[0, 1, 0, 4, 12, 28, 0, 64, 192, 448, 0, 1984, 4092, 8188, 16380, 32764, 65535, 131071], [(true, 0), (true, 1), (true, 2), (true, 3), (true, 4), (true, 5), (true, 6), (true, 7), (true, 8), (true, 9), (true, 10), (true, 11), (true, 12), (true, 13), (true, 14), (true, 15), (true, 16)], [(17, [])]⟩ := (rfl)
@[simp] theorem lk53_13 : lookS sch53 13 = some ⟨[0, 1, 0, 4, 12, 28, 0, 64, 192, 448, 0, 1024, 3072, 7168, 0, 31744, 64512, 131068, 262143, 524287], [(true, 0), (true, 2), (true, 3), (true, 4), (true, 5), (true, 6), (true, 7), (true, 8), (true, 9), (true, 10), (true, 11), (true, 12), (true, 13), (true, 14), (true, 15), (true, 16), (true, 17)], [(1, [(false, 2), (false, 3), (false, 4), (false, 5), (false, 6), (false, 7), (false, 8), (false, 9), (false, 10), (false, 11), (false, 12), (false, 13), (false, 14), (false, 15), (false, 16), (false, 17)]), (18, [(true, 19)])]⟩ := (rfl)
def sch54 : List (Nat × Go.Sy.Sch) := [(9, ⟨[0, 0, 2, 6, 14, 0, 0, 126, 254, 0, 512, 1536, 3584, 0, 15872, 510, 65535, 131071, 262143], [(true, 0), (true, 1), (true, 2), (true, 3), (true, 4), (true, 5), (true, 6), (true, 7), (true, 9), (true, 10), (true, 11), (true, 12), (true, 13), (true, 14)], [(8, [(false, 0), (false, 9), (false, 10), (false, 11), (false, 12), (false, 13), (false, 14)]), (15, [(false, 0), (false, 9), (false, 10), (false, 11), (false, 12), (false, 13), (false, 14), (true, 16), (true, 17)]), (18, [])]⟩)]
@[simp] theorem lk54_9 : lookS sch54 9 = some ⟨[0, 0, 2, 6, 14, 0, 0, 126, 254, 0, 512, 1536, 3584, 0, 15872, 510, 65535, 131071, 262143], [(true, 0), (true, 1), (true, 2), (true, 3), (true, 4), (true, 5), (true, 6), (true, 7), (true, 9), (true, 10), (true, 11), (true, 12), (true, 13), (true, 14)], [(8, [(false, 0), (false, 9), (false, 10), (false, 11), (false, 12), (false, 13), (false, 14)]), (15, [(false, 0), (false, 9), (false, 10), (false, 11), (false, 12), (false, 13), (false, 14), (true, 16), (true, 17)]), (18, [])]⟩ := (rfl)
def sch55 : List (Nat × Go.Sy.Sch) := [(1, ⟨[0, 1, 3, 7, 7, 23, 55, 119, 247, 511, 1023], [(true, 0), (true, 1), (true, 2), (true, 3), (true, 4), (true, 5), (true, 6), (true, 7), (true, 8), (true, 9), (true, 10)], []⟩), (3, ⟨[0, 0, 2, 6, 14, 0, 0, 126, 255, 511, 1023], [(true, 0), (true, 1), (true, 2), (true, 3), (true, 4), (true, 5), (true, 6)], [(7, [(false, 0), (true, 8), (true, 9)]), (10, [])]⟩)]
@[simp] theorem lk55_1 : lookS sch55 1 = some ⟨[0, 1, 3, 7, 7, 23, 55, 119, 247, 511, 1023], [(true, 0), (true, 1), (true, 2), (true, 3), (true, 4), (true, 5), (true, 6), (true, 7), (true, 8), (true, 9), (true, 10)], []⟩ := (rfl)
@[simp] theorem lk55_3 : lookS sch55 3 = some ⟨[0, 0, 2, 6, 14, 0, 0, 126, 255, 511, 1023], [(true, 0), (true, 1), (true, 2), (true, 3), (true, 4), (true, 5), (true, 6)], [(7, [(false, 0), (true, 8), (true, 9)]), (10, [])]⟩ := (rfl)

@[simp] theorem sz_0 : szOf Try.prog 0 = 1 := by kernel_rfl
@[simp] theorem ag_0 : aggT Try.prog 0 = some false := by kernel_rfl
@[simp] theorem by_0 : bytesOf Try.prog 0 = 0 := by kernel_rfl
attribute [simp] Try.underlying0
@[simp] theorem sz_1 : szOf Try.prog 1 = 1 := by kernel_rfl
@[simp] theorem ag_1 : aggT Try.prog 1 = some false := by kernel_rfl
@[simp] theorem by_1 : bytesOf Try.prog 1 = 8 := by kernel_rfl
attribute [simp] Try.underlying1
@[simp] theorem sz_2 : szOf Try.prog 2 = 1 := by kernel_rfl
@[simp] theorem ag_2 : aggT Try.prog 2 = some false := by kernel_rfl
@[simp] theorem by_2 : bytesOf Try.prog 2 = 8 := by kernel_rfl
attribute [simp] Try.underlying2
@[simp] theorem zr_2 : zerosOf Try.prog 2 = some [(.lit (.int Go.IntKind.i64 (0)))] := by kernel_rfl
@[simp] theorem sz_3 : szOf Try.prog 3 = 1 := by kernel_rfl
@[simp] theorem ag_3 : aggT Try.prog 3 = some false := by kernel_rfl
@[simp] theorem by_3 : bytesOf Try.prog 3 = 8 := by kernel_rfl
attribute [simp] Try.underlying3
@[simp] theorem zr_3 : zerosOf Try.prog 3 = some [(.lit (.int Go.IntKind.i64 (0)))] := by kernel_rfl
@[simp] theorem sz_4 : szOf Try.prog 4 = 1 := by kernel_rfl
@[simp] theorem ag_4 : aggT Try.prog 4 = some false := by kernel_rfl
@[simp] theorem by_4 : bytesOf Try.prog 4 = 1 := by kernel_rfl
attribute [simp] Try.underlying4
@[simp] theorem zr_4 : zerosOf Try.prog 4 = some [(.lit (.bool false))] := by kernel_rfl
@[simp] theorem sz_5 : szOf Try.prog 5 = 1 := by kernel_rfl
@[simp] theorem ag_5 : aggT Try.prog 5 = some false := by kernel_rfl
@[simp] theorem by_5 : bytesOf Try.prog 5 = 1 := by kernel_rfl
attribute [simp] Try.underlying5
@[simp] theorem zr_5 : zerosOf Try.prog 5 = some [(.lit (.int Go.IntKind.u8 (0)))] := by kernel_rfl
@[simp] theorem sz_6 : szOf Try.prog 6 = 1 := by kernel_rfl
@[simp] theorem ag_6 : aggT Try.prog 6 = some false := by kernel_rfl
@[simp] theorem by_6 : bytesOf Try.prog 6 = 1 := by kernel_rfl
attribute [simp] Try.underlying6
@[simp] theorem zr_6 : zerosOf Try.prog 6 = some [(.lit (.int Go.IntKind.u8 (0)))] := by kernel_rfl
@[simp] theorem sz_7 : szOf Try.prog 7 = 4 := by kernel_rfl
@[simp] theorem ag_7 : aggT Try.prog 7 = some true := by kernel_rfl
@[simp] theorem by_7 : bytesOf Try.prog 7 = 24 := by kernel_rfl
attribute [simp] Try.underlying7
@[simp] theorem fl_7_0 : fldOf Try.prog 7 0 = some (0, 2) := by kernel_rfl
@[simp] theorem fl_7_1 : fldOf Try.prog 7 1 = some (1, 3) := by kernel_rfl
@[simp] theorem fl_7_2 : fldOf Try.prog 7 2 = some (2, 4) := by kernel_rfl
@[simp] theorem fl_7_3 : fldOf Try.prog 7 3 = some (3, 6) := by kernel_rfl
@[simp] theorem pl_7 : placesOf Try.prog 7 = some [(0, 1), (1, 1), (2, 1), (3, 1)] := by kernel_rfl
@[simp] theorem zr_7 : zerosOf Try.prog 7 = some [(.lit (.int Go.IntKind.i64 (0))), (.lit (.int Go.IntKind.i64 (0))), (.lit (.bool false)), (.lit (.int Go.IntKind.u8 (0)))] := by kernel_rfl
@[simp] theorem sz_8 : szOf Try.prog 8 = 4 := by kernel_rfl
@[simp] theorem ag_8 : aggT Try.prog 8 = some true := by kernel_rfl
@[simp] theorem by_8 : bytesOf Try.prog 8 = 24 := by kernel_rfl
attribute [simp] Try.underlying8
@[simp] theorem fl_8_0 : fldOf Try.prog 8 0 = some (0, 2) := by kernel_rfl
@[simp] theorem fl_8_1 : fldOf Try.prog 8 1 = some (1, 3) := by kernel_rfl
@[simp] theorem fl_8_2 : fldOf Try.prog 8 2 = some (2, 4) := by kernel_rfl
@[simp] theorem fl_8_3 : fldOf Try.prog 8 3 = some (3, 6) := by kernel_rfl
@[simp] theorem pl_8 : placesOf Try.prog 8 = some [(0, 1), (1, 1), (2, 1), (3, 1)] := by kernel_rfl
@[simp] theorem zr_8 : zerosOf Try.prog 8 = some [(.lit (.int Go.IntKind.i64 (0))), (.lit (.int Go.IntKind.i64 (0))), (.lit (.bool false)), (.lit (.int Go.IntKind.u8 (0)))] := by kernel_rfl
@[simp] theorem sz_9 : szOf Try.prog 9 = 1 := by kernel_rfl
@[simp] theorem ag_9 : aggT Try.prog 9 = some false := by kernel_rfl
@[simp] theorem by_9 : bytesOf Try.prog 9 = 16 := by kernel_rfl
attribute [simp] Try.underlying9
@[simp] theorem zr_9 : zerosOf Try.prog 9 = some [(.lit (.string ByteArray.empty))] := by kernel_rfl
@[simp] theorem sz_10 : szOf Try.prog 10 = 1 := by kernel_rfl
@[simp] theorem ag_10 : aggT Try.prog 10 = some false := by kernel_rfl
@[simp] theorem by_10 : bytesOf Try.prog 10 = 16 := by kernel_rfl
attribute [simp] Try.underlying10
@[simp] theorem zr_10 : zerosOf Try.prog 10 = some [(.lit (.string ByteArray.empty))] := by kernel_rfl
@[simp] theorem sz_11 : szOf Try.prog 11 = 1 := by kernel_rfl
@[simp] theorem ag_11 : aggT Try.prog 11 = some false := by kernel_rfl
@[simp] theorem by_11 : bytesOf Try.prog 11 = 16 := by kernel_rfl
attribute [simp] Try.underlying11
@[simp] theorem zr_11 : zerosOf Try.prog 11 = some [(.lit (.string ByteArray.empty))] := by kernel_rfl
@[simp] theorem sz_12 : szOf Try.prog 12 = 1 := by kernel_rfl
@[simp] theorem ag_12 : aggT Try.prog 12 = some false := by kernel_rfl
@[simp] theorem by_12 : bytesOf Try.prog 12 = 8 := by kernel_rfl
attribute [simp] Try.underlying12
@[simp] theorem zr_12 : zerosOf Try.prog 12 = some [(.lit (.int Go.IntKind.u64 (0)))] := by kernel_rfl
@[simp] theorem sz_13 : szOf Try.prog 13 = 2 := by kernel_rfl
@[simp] theorem ag_13 : aggT Try.prog 13 = some true := by kernel_rfl
@[simp] theorem by_13 : bytesOf Try.prog 13 = 24 := by kernel_rfl
attribute [simp] Try.underlying13
@[simp] theorem fl_13_0 : fldOf Try.prog 13 0 = some (0, 9) := by kernel_rfl
@[simp] theorem fl_13_1 : fldOf Try.prog 13 1 = some (1, 12) := by kernel_rfl
@[simp] theorem pl_13 : placesOf Try.prog 13 = some [(0, 1), (1, 1)] := by kernel_rfl
@[simp] theorem zr_13 : zerosOf Try.prog 13 = some [(.lit (.string ByteArray.empty)), (.lit (.int Go.IntKind.u64 (0)))] := by kernel_rfl
@[simp] theorem sz_14 : szOf Try.prog 14 = 2 := by kernel_rfl
@[simp] theorem ag_14 : aggT Try.prog 14 = some true := by kernel_rfl
@[simp] theorem by_14 : bytesOf Try.prog 14 = 24 := by kernel_rfl
attribute [simp] Try.underlying14
@[simp] theorem fl_14_0 : fldOf Try.prog 14 0 = some (0, 9) := by kernel_rfl
@[simp] theorem fl_14_1 : fldOf Try.prog 14 1 = some (1, 12) := by kernel_rfl
@[simp] theorem pl_14 : placesOf Try.prog 14 = some [(0, 1), (1, 1)] := by kernel_rfl
@[simp] theorem zr_14 : zerosOf Try.prog 14 = some [(.lit (.string ByteArray.empty)), (.lit (.int Go.IntKind.u64 (0)))] := by kernel_rfl
@[simp] theorem sz_15 : szOf Try.prog 15 = 1 := by kernel_rfl
@[simp] theorem ag_15 : aggT Try.prog 15 = some false := by kernel_rfl
@[simp] theorem by_15 : bytesOf Try.prog 15 = 8 := by kernel_rfl
attribute [simp] Try.underlying15
@[simp] theorem zr_15 : zerosOf Try.prog 15 = some [(.lit (.pointer none))] := by kernel_rfl
@[simp] theorem sz_16 : szOf Try.prog 16 = 1 := by kernel_rfl
@[simp] theorem ag_16 : aggT Try.prog 16 = some false := by kernel_rfl
@[simp] theorem by_16 : bytesOf Try.prog 16 = 8 := by kernel_rfl
attribute [simp] Try.underlying16
@[simp] theorem zr_16 : zerosOf Try.prog 16 = some [(.lit (.pointer none))] := by kernel_rfl
@[simp] theorem sz_17 : szOf Try.prog 17 = 1 := by kernel_rfl
@[simp] theorem ag_17 : aggT Try.prog 17 = some false := by kernel_rfl
@[simp] theorem by_17 : bytesOf Try.prog 17 = 8 := by kernel_rfl
attribute [simp] Try.underlying17
@[simp] theorem zr_17 : zerosOf Try.prog 17 = some [(.lit (.pointer none))] := by kernel_rfl
@[simp] theorem sz_18 : szOf Try.prog 18 = 1 := by kernel_rfl
@[simp] theorem ag_18 : aggT Try.prog 18 = some true := by kernel_rfl
@[simp] theorem by_18 : bytesOf Try.prog 18 = 8 := by kernel_rfl
attribute [simp] Try.underlying18
@[simp] theorem fl_18_0 : fldOf Try.prog 18 0 = some (0, 17) := by kernel_rfl
@[simp] theorem pl_18 : placesOf Try.prog 18 = some [(0, 1)] := by kernel_rfl
@[simp] theorem zr_18 : zerosOf Try.prog 18 = some [(.lit (.pointer none))] := by kernel_rfl
@[simp] theorem sz_19 : szOf Try.prog 19 = 1 := by kernel_rfl
@[simp] theorem ag_19 : aggT Try.prog 19 = some true := by kernel_rfl
@[simp] theorem by_19 : bytesOf Try.prog 19 = 8 := by kernel_rfl
attribute [simp] Try.underlying19
@[simp] theorem fl_19_0 : fldOf Try.prog 19 0 = some (0, 17) := by kernel_rfl
@[simp] theorem pl_19 : placesOf Try.prog 19 = some [(0, 1)] := by kernel_rfl
@[simp] theorem zr_19 : zerosOf Try.prog 19 = some [(.lit (.pointer none))] := by kernel_rfl
@[simp] theorem sz_20 : szOf Try.prog 20 = 1 := by kernel_rfl
@[simp] theorem ag_20 : aggT Try.prog 20 = some false := by kernel_rfl
@[simp] theorem by_20 : bytesOf Try.prog 20 = 16 := by kernel_rfl
attribute [simp] Try.underlying20
@[simp] theorem sz_21 : szOf Try.prog 21 = 1 := by kernel_rfl
@[simp] theorem ag_21 : aggT Try.prog 21 = some false := by kernel_rfl
@[simp] theorem by_21 : bytesOf Try.prog 21 = 4 := by kernel_rfl
attribute [simp] Try.underlying21
@[simp] theorem zr_21 : zerosOf Try.prog 21 = some [(.lit (.int Go.IntKind.i32 (0)))] := by kernel_rfl
@[simp] theorem sz_22 : szOf Try.prog 22 = 1 := by kernel_rfl
@[simp] theorem ag_22 : aggT Try.prog 22 = some false := by kernel_rfl
@[simp] theorem by_22 : bytesOf Try.prog 22 = 24 := by kernel_rfl
attribute [simp] Try.underlying22
@[simp] theorem el_22 : Go.Sy.elemOf Try.prog 22 = some 5 := by kernel_rfl
@[simp] theorem zr_22 : zerosOf Try.prog 22 = some [(.sl .imm true 0 [])] := by kernel_rfl
@[simp] theorem sz_23 : szOf Try.prog 23 = 1 := by kernel_rfl
@[simp] theorem ag_23 : aggT Try.prog 23 = some false := by kernel_rfl
@[simp] theorem by_23 : bytesOf Try.prog 23 = 8 := by kernel_rfl
attribute [simp] Try.underlying23
@[simp] theorem sz_24 : szOf Try.prog 24 = 1 := by kernel_rfl
@[simp] theorem ag_24 : aggT Try.prog 24 = some false := by kernel_rfl
@[simp] theorem by_24 : bytesOf Try.prog 24 = 8 := by kernel_rfl
attribute [simp] Try.underlying24
@[simp] theorem zr_24 : zerosOf Try.prog 24 = some [(.lit (.pointer none))] := by kernel_rfl
@[simp] theorem sz_25 : szOf Try.prog 25 = 1 := by kernel_rfl
@[simp] theorem ag_25 : aggT Try.prog 25 = some false := by kernel_rfl
@[simp] theorem by_25 : bytesOf Try.prog 25 = 8 := by kernel_rfl
attribute [simp] Try.underlying25
@[simp] theorem zr_25 : zerosOf Try.prog 25 = some [(.lit (.int Go.IntKind.i64 (0)))] := by kernel_rfl
@[simp] theorem sz_26 : szOf Try.prog 26 = 1 := by kernel_rfl
@[simp] theorem ag_26 : aggT Try.prog 26 = some false := by kernel_rfl
@[simp] theorem by_26 : bytesOf Try.prog 26 = 0 := by kernel_rfl
attribute [simp] Try.underlying26
@[simp] theorem sz_27 : szOf Try.prog 27 = 1 := by kernel_rfl
@[simp] theorem ag_27 : aggT Try.prog 27 = some false := by kernel_rfl
@[simp] theorem by_27 : bytesOf Try.prog 27 = 8 := by kernel_rfl
attribute [simp] Try.underlying27
@[simp] theorem sz_28 : szOf Try.prog 28 = 1 := by kernel_rfl
@[simp] theorem ag_28 : aggT Try.prog 28 = some false := by kernel_rfl
@[simp] theorem by_28 : bytesOf Try.prog 28 = 8 := by kernel_rfl
attribute [simp] Try.underlying28
@[simp] theorem sz_29 : szOf Try.prog 29 = 1 := by kernel_rfl
@[simp] theorem ag_29 : aggT Try.prog 29 = some false := by kernel_rfl
@[simp] theorem by_29 : bytesOf Try.prog 29 = 8 := by kernel_rfl
attribute [simp] Try.underlying29
@[simp] theorem sz_30 : szOf Try.prog 30 = 1 := by kernel_rfl
@[simp] theorem ag_30 : aggT Try.prog 30 = some false := by kernel_rfl
@[simp] theorem by_30 : bytesOf Try.prog 30 = 8 := by kernel_rfl
attribute [simp] Try.underlying30
@[simp] theorem sz_31 : szOf Try.prog 31 = 1 := by kernel_rfl
@[simp] theorem ag_31 : aggT Try.prog 31 = some false := by kernel_rfl
@[simp] theorem by_31 : bytesOf Try.prog 31 = 8 := by kernel_rfl
attribute [simp] Try.underlying31
@[simp] theorem sz_32 : szOf Try.prog 32 = 1 := by kernel_rfl
@[simp] theorem ag_32 : aggT Try.prog 32 = some false := by kernel_rfl
@[simp] theorem by_32 : bytesOf Try.prog 32 = 8 := by kernel_rfl
attribute [simp] Try.underlying32
@[simp] theorem sz_33 : szOf Try.prog 33 = 1 := by kernel_rfl
@[simp] theorem ag_33 : aggT Try.prog 33 = some false := by kernel_rfl
@[simp] theorem by_33 : bytesOf Try.prog 33 = 24 := by kernel_rfl
attribute [simp] Try.underlying33
@[simp] theorem el_33 : Go.Sy.elemOf Try.prog 33 = some 40 := by kernel_rfl
@[simp] theorem zr_33 : zerosOf Try.prog 33 = some [(.sl .imm true 0 [])] := by kernel_rfl
@[simp] theorem sz_34 : szOf Try.prog 34 = 1 := by kernel_rfl
@[simp] theorem ag_34 : aggT Try.prog 34 = some false := by kernel_rfl
@[simp] theorem by_34 : bytesOf Try.prog 34 = 8 := by kernel_rfl
attribute [simp] Try.underlying34
@[simp] theorem sz_35 : szOf Try.prog 35 = 1 := by kernel_rfl
@[simp] theorem ag_35 : aggT Try.prog 35 = some false := by kernel_rfl
@[simp] theorem by_35 : bytesOf Try.prog 35 = 8 := by kernel_rfl
attribute [simp] Try.underlying35
@[simp] theorem zr_35 : zerosOf Try.prog 35 = some [(.lit (.pointer none))] := by kernel_rfl
@[simp] theorem sz_36 : szOf Try.prog 36 = 5 := by kernel_rfl
@[simp] theorem ag_36 : aggT Try.prog 36 = some true := by kernel_rfl
@[simp] theorem by_36 : bytesOf Try.prog 36 = 56 := by kernel_rfl
attribute [simp] Try.underlying36
@[simp] theorem fl_36_0 : fldOf Try.prog 36 0 = some (0, 22) := by kernel_rfl
@[simp] theorem fl_36_1 : fldOf Try.prog 36 1 = some (1, 3) := by kernel_rfl
@[simp] theorem fl_36_2 : fldOf Try.prog 36 2 = some (2, 4) := by kernel_rfl
@[simp] theorem fl_36_3 : fldOf Try.prog 36 3 = some (3, 3) := by kernel_rfl
@[simp] theorem fl_36_4 : fldOf Try.prog 36 4 = some (4, 4) := by kernel_rfl
@[simp] theorem pl_36 : placesOf Try.prog 36 = some [(0, 1), (1, 1), (2, 1), (3, 1), (4, 1)] := by kernel_rfl
@[simp] theorem zr_36 : zerosOf Try.prog 36 = some [(.sl .imm true 0 []), (.lit (.int Go.IntKind.i64 (0))), (.lit (.bool false)), (.lit (.int Go.IntKind.i64 (0))), (.lit (.bool false))] := by kernel_rfl
@[simp] theorem sz_37 : szOf Try.prog 37 = 5 := by kernel_rfl
@[simp] theorem ag_37 : aggT Try.prog 37 = some true := by kernel_rfl
@[simp] theorem by_37 : bytesOf Try.prog 37 = 56 := by kernel_rfl
attribute [simp] Try.underlying37
@[simp] theorem fl_37_0 : fldOf Try.prog 37 0 = some (0, 22) := by kernel_rfl
@[simp] theorem fl_37_1 : fldOf Try.prog 37 1 = some (1, 3) := by kernel_rfl
@[simp] theorem fl_37_2 : fldOf Try.prog 37 2 = some (2, 4) := by kernel_rfl
@[simp] theorem fl_37_3 : fldOf Try.prog 37 3 = some (3, 3) := by kernel_rfl
@[simp] theorem fl_37_4 : fldOf Try.prog 37 4 = some (4, 4) := by kernel_rfl
@[simp] theorem pl_37 : placesOf Try.prog 37 = some [(0, 1), (1, 1), (2, 1), (3, 1), (4, 1)] := by kernel_rfl
@[simp] theorem zr_37 : zerosOf Try.prog 37 = some [(.sl .imm true 0 []), (.lit (.int Go.IntKind.i64 (0))), (.lit (.bool false)), (.lit (.int Go.IntKind.i64 (0))), (.lit (.bool false))] := by kernel_rfl
@[simp] theorem sz_38 : szOf Try.prog 38 = 1 := by kernel_rfl
@[simp] theorem ag_38 : aggT Try.prog 38 = some false := by kernel_rfl
@[simp] theorem by_38 : bytesOf Try.prog 38 = 8 := by kernel_rfl
attribute [simp] Try.underlying38
@[simp] theorem sz_39 : szOf Try.prog 39 = 3 := by kernel_rfl
@[simp] theorem ag_39 : aggT Try.prog 39 = some true := by kernel_rfl
@[simp] theorem by_39 : bytesOf Try.prog 39 = 40 := by kernel_rfl
attribute [simp] Try.underlying39
@[simp] theorem fl_39_0 : fldOf Try.prog 39 0 = some (0, 5) := by kernel_rfl
@[simp] theorem fl_39_1 : fldOf Try.prog 39 1 = some (1, 22) := by kernel_rfl
@[simp] theorem fl_39_2 : fldOf Try.prog 39 2 = some (2, 3) := by kernel_rfl
@[simp] theorem pl_39 : placesOf Try.prog 39 = some [(0, 1), (1, 1), (2, 1)] := by kernel_rfl
@[simp] theorem zr_39 : zerosOf Try.prog 39 = some [(.lit (.int Go.IntKind.u8 (0))), (.sl .imm true 0 []), (.lit (.int Go.IntKind.i64 (0)))] := by kernel_rfl
@[simp] theorem sz_40 : szOf Try.prog 40 = 3 := by kernel_rfl
@[simp] theorem ag_40 : aggT Try.prog 40 = some true := by kernel_rfl
@[simp] theorem by_40 : bytesOf Try.prog 40 = 40 := by kernel_rfl
attribute [simp] Try.underlying40
@[simp] theorem fl_40_0 : fldOf Try.prog 40 0 = some (0, 5) := by kernel_rfl
@[simp] theorem fl_40_1 : fldOf Try.prog 40 1 = some (1, 22) := by kernel_rfl
@[simp] theorem fl_40_2 : fldOf Try.prog 40 2 = some (2, 3) := by kernel_rfl
@[simp] theorem pl_40 : placesOf Try.prog 40 = some [(0, 1), (1, 1), (2, 1)] := by kernel_rfl
@[simp] theorem zr_40 : zerosOf Try.prog 40 = some [(.lit (.int Go.IntKind.u8 (0))), (.sl .imm true 0 []), (.lit (.int Go.IntKind.i64 (0)))] := by kernel_rfl
@[simp] theorem sz_41 : szOf Try.prog 41 = 1 := by kernel_rfl
@[simp] theorem ag_41 : aggT Try.prog 41 = some false := by kernel_rfl
@[simp] theorem by_41 : bytesOf Try.prog 41 = 8 := by kernel_rfl
attribute [simp] Try.underlying41
@[simp] theorem sz_42 : szOf Try.prog 42 = 1 := by kernel_rfl
@[simp] theorem ag_42 : aggT Try.prog 42 = some false := by kernel_rfl
@[simp] theorem by_42 : bytesOf Try.prog 42 = 8 := by kernel_rfl
attribute [simp] Try.underlying42
@[simp] theorem sz_43 : szOf Try.prog 43 = 1 := by kernel_rfl
@[simp] theorem ag_43 : aggT Try.prog 43 = some false := by kernel_rfl
@[simp] theorem by_43 : bytesOf Try.prog 43 = 2 := by kernel_rfl
attribute [simp] Try.underlying43
@[simp] theorem zr_43 : zerosOf Try.prog 43 = some [(.lit (.int Go.IntKind.u16 (0)))] := by kernel_rfl
@[simp] theorem sz_44 : szOf Try.prog 44 = 1 := by kernel_rfl
@[simp] theorem ag_44 : aggT Try.prog 44 = some false := by kernel_rfl
@[simp] theorem by_44 : bytesOf Try.prog 44 = 8 := by kernel_rfl
attribute [simp] Try.underlying44
@[simp] theorem sz_45 : szOf Try.prog 45 = 1 := by kernel_rfl
@[simp] theorem ag_45 : aggT Try.prog 45 = some false := by kernel_rfl
@[simp] theorem by_45 : bytesOf Try.prog 45 = 8 := by kernel_rfl
attribute [simp] Try.underlying45
@[simp] theorem sz_46 : szOf Try.prog 46 = 1 := by kernel_rfl
@[simp] theorem ag_46 : aggT Try.prog 46 = some false := by kernel_rfl
@[simp] theorem by_46 : bytesOf Try.prog 46 = 8 := by kernel_rfl
attribute [simp] Try.underlying46
@[simp] theorem sz_47 : szOf Try.prog 47 = 1 := by kernel_rfl
@[simp] theorem ag_47 : aggT Try.prog 47 = some false := by kernel_rfl
@[simp] theorem by_47 : bytesOf Try.prog 47 = 8 := by kernel_rfl
attribute [simp] Try.underlying47
@[simp] theorem sz_48 : szOf Try.prog 48 = 1 := by kernel_rfl
@[simp] theorem ag_48 : aggT Try.prog 48 = some false := by kernel_rfl
@[simp] theorem by_48 : bytesOf Try.prog 48 = 8 := by kernel_rfl
attribute [simp] Try.underlying48
@[simp] theorem sz_49 : szOf Try.prog 49 = 1 := by kernel_rfl
@[simp] theorem ag_49 : aggT Try.prog 49 = some false := by kernel_rfl
@[simp] theorem by_49 : bytesOf Try.prog 49 = 8 := by kernel_rfl
attribute [simp] Try.underlying49
@[simp] theorem zr_49 : zerosOf Try.prog 49 = some [(.lit (.int Go.IntKind.u64 (0)))] := by kernel_rfl
@[simp] theorem sz_50 : szOf Try.prog 50 = 1 := by kernel_rfl
@[simp] theorem ag_50 : aggT Try.prog 50 = some false := by kernel_rfl
@[simp] theorem by_50 : bytesOf Try.prog 50 = 8 := by kernel_rfl
attribute [simp] Try.underlying50
@[simp] theorem sz_51 : szOf Try.prog 51 = 1 := by kernel_rfl
@[simp] theorem ag_51 : aggT Try.prog 51 = some false := by kernel_rfl
@[simp] theorem by_51 : bytesOf Try.prog 51 = 8 := by kernel_rfl
attribute [simp] Try.underlying51
@[simp] theorem sz_52 : szOf Try.prog 52 = 1 := by kernel_rfl
@[simp] theorem ag_52 : aggT Try.prog 52 = some false := by kernel_rfl
@[simp] theorem by_52 : bytesOf Try.prog 52 = 8 := by kernel_rfl
attribute [simp] Try.underlying52
@[simp] theorem sz_53 : szOf Try.prog 53 = 1 := by kernel_rfl
@[simp] theorem ag_53 : aggT Try.prog 53 = some false := by kernel_rfl
@[simp] theorem by_53 : bytesOf Try.prog 53 = 8 := by kernel_rfl
attribute [simp] Try.underlying53
@[simp] theorem zr_53 : zerosOf Try.prog 53 = some [(.lit (.pointer none))] := by kernel_rfl
@[simp] theorem sz_54 : szOf Try.prog 54 = 1 := by kernel_rfl
@[simp] theorem ag_54 : aggT Try.prog 54 = some false := by kernel_rfl
@[simp] theorem by_54 : bytesOf Try.prog 54 = 8 := by kernel_rfl
attribute [simp] Try.underlying54
@[simp] theorem sz_55 : szOf Try.prog 55 = 1 := by kernel_rfl
@[simp] theorem ag_55 : aggT Try.prog 55 = some false := by kernel_rfl
@[simp] theorem by_55 : bytesOf Try.prog 55 = 8 := by kernel_rfl
attribute [simp] Try.underlying55
@[simp] theorem sz_56 : szOf Try.prog 56 = 1 := by kernel_rfl
@[simp] theorem ag_56 : aggT Try.prog 56 = some false := by kernel_rfl
@[simp] theorem by_56 : bytesOf Try.prog 56 = 8 := by kernel_rfl
attribute [simp] Try.underlying56
@[simp] theorem sz_57 : szOf Try.prog 57 = 1 := by kernel_rfl
@[simp] theorem ag_57 : aggT Try.prog 57 = some false := by kernel_rfl
@[simp] theorem by_57 : bytesOf Try.prog 57 = 8 := by kernel_rfl
attribute [simp] Try.underlying57
@[simp] theorem sz_58 : szOf Try.prog 58 = 1 := by kernel_rfl
@[simp] theorem ag_58 : aggT Try.prog 58 = some false := by kernel_rfl
@[simp] theorem by_58 : bytesOf Try.prog 58 = 24 := by kernel_rfl
attribute [simp] Try.underlying58
@[simp] theorem el_58 : Go.Sy.elemOf Try.prog 58 = some 3 := by kernel_rfl
@[simp] theorem zr_58 : zerosOf Try.prog 58 = some [(.sl .imm true 0 [])] := by kernel_rfl
@[simp] theorem sz_59 : szOf Try.prog 59 = 1 := by kernel_rfl
@[simp] theorem ag_59 : aggT Try.prog 59 = some false := by kernel_rfl
@[simp] theorem by_59 : bytesOf Try.prog 59 = 8 := by kernel_rfl
attribute [simp] Try.underlying59
@[simp] theorem zr_59 : zerosOf Try.prog 59 = some [(.lit (.pointer none))] := by kernel_rfl
@[simp] theorem sz_60 : szOf Try.prog 60 = 3 := by kernel_rfl
@[simp] theorem ag_60 : aggT Try.prog 60 = some true := by kernel_rfl
@[simp] theorem by_60 : bytesOf Try.prog 60 = 40 := by kernel_rfl
attribute [simp] Try.underlying60
@[simp] theorem fl_60_0 : fldOf Try.prog 60 0 = some (0, 22) := by kernel_rfl
@[simp] theorem fl_60_1 : fldOf Try.prog 60 1 = some (1, 3) := by kernel_rfl
@[simp] theorem fl_60_2 : fldOf Try.prog 60 2 = some (2, 25) := by kernel_rfl
@[simp] theorem pl_60 : placesOf Try.prog 60 = some [(0, 1), (1, 1), (2, 1)] := by kernel_rfl
@[simp] theorem zr_60 : zerosOf Try.prog 60 = some [(.sl .imm true 0 []), (.lit (.int Go.IntKind.i64 (0))), (.lit (.int Go.IntKind.i64 (0)))] := by kernel_rfl
@[simp] theorem sz_61 : szOf Try.prog 61 = 3 := by kernel_rfl
@[simp] theorem ag_61 : aggT Try.prog 61 = some true := by kernel_rfl
@[simp] theorem by_61 : bytesOf Try.prog 61 = 40 := by kernel_rfl
attribute [simp] Try.underlying61
@[simp] theorem fl_61_0 : fldOf Try.prog 61 0 = some (0, 22) := by kernel_rfl
@[simp] theorem fl_61_1 : fldOf Try.prog 61 1 = some (1, 3) := by kernel_rfl
@[simp] theorem fl_61_2 : fldOf Try.prog 61 2 = some (2, 25) := by kernel_rfl
@[simp] theorem pl_61 : placesOf Try.prog 61 = some [(0, 1), (1, 1), (2, 1)] := by kernel_rfl
@[simp] theorem zr_61 : zerosOf Try.prog 61 = some [(.sl .imm true 0 []), (.lit (.int Go.IntKind.i64 (0))), (.lit (.int Go.IntKind.i64 (0)))] := by kernel_rfl
@[simp] theorem sz_62 : szOf Try.prog 62 = 1 := by kernel_rfl
@[simp] theorem ag_62 : aggT Try.prog 62 = some false := by kernel_rfl
@[simp] theorem by_62 : bytesOf Try.prog 62 = 8 := by kernel_rfl
attribute [simp] Try.underlying62
@[simp] theorem sz_63 : szOf Try.prog 63 = 1 := by kernel_rfl
@[simp] theorem ag_63 : aggT Try.prog 63 = some false := by kernel_rfl
@[simp] theorem by_63 : bytesOf Try.prog 63 = 8 := by kernel_rfl
attribute [simp] Try.underlying63
@[simp] theorem sz_64 : szOf Try.prog 64 = 1 := by kernel_rfl
@[simp] theorem ag_64 : aggT Try.prog 64 = some false := by kernel_rfl
@[simp] theorem by_64 : bytesOf Try.prog 64 = 8 := by kernel_rfl
attribute [simp] Try.underlying64
@[simp] theorem sz_65 : szOf Try.prog 65 = 1 := by kernel_rfl
@[simp] theorem ag_65 : aggT Try.prog 65 = some false := by kernel_rfl
@[simp] theorem by_65 : bytesOf Try.prog 65 = 8 := by kernel_rfl
attribute [simp] Try.underlying65
@[simp] theorem sz_66 : szOf Try.prog 66 = 1 := by kernel_rfl
@[simp] theorem ag_66 : aggT Try.prog 66 = some false := by kernel_rfl
@[simp] theorem by_66 : bytesOf Try.prog 66 = 8 := by kernel_rfl
attribute [simp] Try.underlying66
@[simp] theorem sz_67 : szOf Try.prog 67 = 1 := by kernel_rfl
@[simp] theorem ag_67 : aggT Try.prog 67 = some false := by kernel_rfl
@[simp] theorem by_67 : bytesOf Try.prog 67 = 24 := by kernel_rfl
attribute [simp] Try.underlying67
@[simp] theorem el_67 : Go.Sy.elemOf Try.prog 67 = some 49 := by kernel_rfl
@[simp] theorem zr_67 : zerosOf Try.prog 67 = some [(.sl .imm true 0 [])] := by kernel_rfl
@[simp] theorem sz_68 : szOf Try.prog 68 = 1 := by kernel_rfl
@[simp] theorem ag_68 : aggT Try.prog 68 = some false := by kernel_rfl
@[simp] theorem by_68 : bytesOf Try.prog 68 = 24 := by kernel_rfl
attribute [simp] Try.underlying68
@[simp] theorem el_68 : Go.Sy.elemOf Try.prog 68 = some 9 := by kernel_rfl
@[simp] theorem zr_68 : zerosOf Try.prog 68 = some [(.sl .imm true 0 [])] := by kernel_rfl
@[simp] theorem sz_69 : szOf Try.prog 69 = 1 := by kernel_rfl
@[simp] theorem ag_69 : aggT Try.prog 69 = some false := by kernel_rfl
@[simp] theorem by_69 : bytesOf Try.prog 69 = 8 := by kernel_rfl
attribute [simp] Try.underlying69
@[simp] theorem sz_70 : szOf Try.prog 70 = 4 := by kernel_rfl
@[simp] theorem ag_70 : aggT Try.prog 70 = some true := by kernel_rfl
@[simp] theorem by_70 : bytesOf Try.prog 70 = 48 := by kernel_rfl
attribute [simp] Try.underlying70
@[simp] theorem fl_70_0 : fldOf Try.prog 70 0 = some (0, 22) := by kernel_rfl
@[simp] theorem fl_70_1 : fldOf Try.prog 70 1 = some (1, 3) := by kernel_rfl
@[simp] theorem fl_70_2 : fldOf Try.prog 70 2 = some (2, 3) := by kernel_rfl
@[simp] theorem fl_70_3 : fldOf Try.prog 70 3 = some (3, 4) := by kernel_rfl
@[simp] theorem pl_70 : placesOf Try.prog 70 = some [(0, 1), (1, 1), (2, 1), (3, 1)] := by kernel_rfl
@[simp] theorem zr_70 : zerosOf Try.prog 70 = some [(.sl .imm true 0 []), (.lit (.int Go.IntKind.i64 (0))), (.lit (.int Go.IntKind.i64 (0))), (.lit (.bool false))] := by kernel_rfl
@[simp] theorem sz_71 : szOf Try.prog 71 = 4 := by kernel_rfl
@[simp] theorem ag_71 : aggT Try.prog 71 = some true := by kernel_rfl
@[simp] theorem by_71 : bytesOf Try.prog 71 = 48 := by kernel_rfl
attribute [simp] Try.underlying71
@[simp] theorem fl_71_0 : fldOf Try.prog 71 0 = some (0, 22) := by kernel_rfl
@[simp] theorem fl_71_1 : fldOf Try.prog 71 1 = some (1, 3) := by kernel_rfl
@[simp] theorem fl_71_2 : fldOf Try.prog 71 2 = some (2, 3) := by kernel_rfl
@[simp] theorem fl_71_3 : fldOf Try.prog 71 3 = some (3, 4) := by kernel_rfl
@[simp] theorem pl_71 : placesOf Try.prog 71 = some [(0, 1), (1, 1), (2, 1), (3, 1)] := by kernel_rfl
@[simp] theorem zr_71 : zerosOf Try.prog 71 = some [(.sl .imm true 0 []), (.lit (.int Go.IntKind.i64 (0))), (.lit (.int Go.IntKind.i64 (0))), (.lit (.bool false))] := by kernel_rfl
@[simp] theorem sz_72 : szOf Try.prog 72 = 1 := by kernel_rfl
@[simp] theorem ag_72 : aggT Try.prog 72 = some false := by kernel_rfl
@[simp] theorem by_72 : bytesOf Try.prog 72 = 8 := by kernel_rfl
attribute [simp] Try.underlying72
@[simp] theorem sz_73 : szOf Try.prog 73 = 1 := by kernel_rfl
@[simp] theorem ag_73 : aggT Try.prog 73 = some false := by kernel_rfl
@[simp] theorem by_73 : bytesOf Try.prog 73 = 8 := by kernel_rfl
attribute [simp] Try.underlying73
@[simp] theorem sz_74 : szOf Try.prog 74 = 1 := by kernel_rfl
@[simp] theorem ag_74 : aggT Try.prog 74 = some false := by kernel_rfl
@[simp] theorem by_74 : bytesOf Try.prog 74 = 8 := by kernel_rfl
attribute [simp] Try.underlying74
@[simp] theorem sz_75 : szOf Try.prog 75 = 1 := by kernel_rfl
@[simp] theorem ag_75 : aggT Try.prog 75 = some false := by kernel_rfl
@[simp] theorem by_75 : bytesOf Try.prog 75 = 8 := by kernel_rfl
attribute [simp] Try.underlying75
@[simp] theorem zr_75 : zerosOf Try.prog 75 = some [(.lit (.int Go.IntKind.u64 (0)))] := by kernel_rfl
@[simp] theorem sz_76 : szOf Try.prog 76 = 2 := by kernel_rfl
@[simp] theorem ag_76 : aggT Try.prog 76 = some true := by kernel_rfl
@[simp] theorem by_76 : bytesOf Try.prog 76 = 32 := by kernel_rfl
attribute [simp] Try.underlying76
@[simp] theorem fl_76_0 : fldOf Try.prog 76 0 = some (0, 22) := by kernel_rfl
@[simp] theorem fl_76_1 : fldOf Try.prog 76 1 = some (1, 25) := by kernel_rfl
@[simp] theorem pl_76 : placesOf Try.prog 76 = some [(0, 1), (1, 1)] := by kernel_rfl
@[simp] theorem zr_76 : zerosOf Try.prog 76 = some [(.sl .imm true 0 []), (.lit (.int Go.IntKind.i64 (0)))] := by kernel_rfl
@[simp] theorem sz_77 : szOf Try.prog 77 = 2 := by kernel_rfl
@[simp] theorem ag_77 : aggT Try.prog 77 = some true := by kernel_rfl
@[simp] theorem by_77 : bytesOf Try.prog 77 = 32 := by kernel_rfl
attribute [simp] Try.underlying77
@[simp] theorem fl_77_0 : fldOf Try.prog 77 0 = some (0, 22) := by kernel_rfl
@[simp] theorem fl_77_1 : fldOf Try.prog 77 1 = some (1, 25) := by kernel_rfl
@[simp] theorem pl_77 : placesOf Try.prog 77 = some [(0, 1), (1, 1)] := by kernel_rfl
@[simp] theorem zr_77 : zerosOf Try.prog 77 = some [(.sl .imm true 0 []), (.lit (.int Go.IntKind.i64 (0)))] := by kernel_rfl
@[simp] theorem sz_78 : szOf Try.prog 78 = 1 := by kernel_rfl
@[simp] theorem ag_78 : aggT Try.prog 78 = some false := by kernel_rfl
@[simp] theorem by_78 : bytesOf Try.prog 78 = 8 := by kernel_rfl
attribute [simp] Try.underlying78
@[simp] theorem sz_79 : szOf Try.prog 79 = 1 := by kernel_rfl
@[simp] theorem ag_79 : aggT Try.prog 79 = some false := by kernel_rfl
@[simp] theorem by_79 : bytesOf Try.prog 79 = 0 := by kernel_rfl
attribute [simp] Try.underlying79
@[simp] theorem sz_80 : szOf Try.prog 80 = 1 := by kernel_rfl
@[simp] theorem ag_80 : aggT Try.prog 80 = some false := by kernel_rfl
@[simp] theorem by_80 : bytesOf Try.prog 80 = 8 := by kernel_rfl
attribute [simp] Try.underlying80
@[simp] theorem sz_81 : szOf Try.prog 81 = 1 := by kernel_rfl
@[simp] theorem ag_81 : aggT Try.prog 81 = some false := by kernel_rfl
@[simp] theorem by_81 : bytesOf Try.prog 81 = 8 := by kernel_rfl
attribute [simp] Try.underlying81
@[simp] theorem sz_82 : szOf Try.prog 82 = 1 := by kernel_rfl
@[simp] theorem ag_82 : aggT Try.prog 82 = some false := by kernel_rfl
@[simp] theorem by_82 : bytesOf Try.prog 82 = 8 := by kernel_rfl
attribute [simp] Try.underlying82
@[simp] theorem sz_83 : szOf Try.prog 83 = 4 := by kernel_rfl
@[simp] theorem ag_83 : aggT Try.prog 83 = some true := by kernel_rfl
@[simp] theorem by_83 : bytesOf Try.prog 83 = 40 := by kernel_rfl
attribute [simp] Try.underlying83
@[simp] theorem fl_83_0 : fldOf Try.prog 83 0 = some (0, 17) := by kernel_rfl
@[simp] theorem fl_83_1 : fldOf Try.prog 83 1 = some (1, 17) := by kernel_rfl
@[simp] theorem fl_83_2 : fldOf Try.prog 83 2 = some (2, 17) := by kernel_rfl
@[simp] theorem fl_83_3 : fldOf Try.prog 83 3 = some (3, 9) := by kernel_rfl
@[simp] theorem pl_83 : placesOf Try.prog 83 = some [(0, 1), (1, 1), (2, 1), (3, 1)] := by kernel_rfl
@[simp] theorem zr_83 : zerosOf Try.prog 83 = some [(.lit (.pointer none)), (.lit (.pointer none)), (.lit (.pointer none)), (.lit (.string ByteArray.empty))] := by kernel_rfl
@[simp] theorem sz_84 : szOf Try.prog 84 = 4 := by kernel_rfl
@[simp] theorem ag_84 : aggT Try.prog 84 = some true := by kernel_rfl
@[simp] theorem by_84 : bytesOf Try.prog 84 = 40 := by kernel_rfl
attribute [simp] Try.underlying84
@[simp] theorem fl_84_0 : fldOf Try.prog 84 0 = some (0, 17) := by kernel_rfl
@[simp] theorem fl_84_1 : fldOf Try.prog 84 1 = some (1, 17) := by kernel_rfl
@[simp] theorem fl_84_2 : fldOf Try.prog 84 2 = some (2, 17) := by kernel_rfl
@[simp] theorem fl_84_3 : fldOf Try.prog 84 3 = some (3, 9) := by kernel_rfl
@[simp] theorem pl_84 : placesOf Try.prog 84 = some [(0, 1), (1, 1), (2, 1), (3, 1)] := by kernel_rfl
@[simp] theorem zr_84 : zerosOf Try.prog 84 = some [(.lit (.pointer none)), (.lit (.pointer none)), (.lit (.pointer none)), (.lit (.string ByteArray.empty))] := by kernel_rfl
@[simp] theorem sz_85 : szOf Try.prog 85 = 0 := by kernel_rfl
@[simp] theorem ag_85 : aggT Try.prog 85 = some true := by kernel_rfl
@[simp] theorem by_85 : bytesOf Try.prog 85 = 0 := by kernel_rfl
attribute [simp] Try.underlying85
@[simp] theorem zr_85 : zerosOf Try.prog 85 = some [] := by kernel_rfl
@[simp] theorem sz_86 : szOf Try.prog 86 = 0 := by kernel_rfl
@[simp] theorem ag_86 : aggT Try.prog 86 = some true := by kernel_rfl
@[simp] theorem by_86 : bytesOf Try.prog 86 = 0 := by kernel_rfl
attribute [simp] Try.underlying86
@[simp] theorem fl_86_0 : fldOf Try.prog 86 0 = some (0, 85) := by kernel_rfl
@[simp] theorem pl_86 : placesOf Try.prog 86 = some [(0, 0)] := by kernel_rfl
@[simp] theorem zr_86 : zerosOf Try.prog 86 = some [] := by kernel_rfl
@[simp] theorem sz_87 : szOf Try.prog 87 = 0 := by kernel_rfl
@[simp] theorem ag_87 : aggT Try.prog 87 = some true := by kernel_rfl
@[simp] theorem by_87 : bytesOf Try.prog 87 = 0 := by kernel_rfl
attribute [simp] Try.underlying87
@[simp] theorem fl_87_0 : fldOf Try.prog 87 0 = some (0, 85) := by kernel_rfl
@[simp] theorem pl_87 : placesOf Try.prog 87 = some [(0, 0)] := by kernel_rfl
@[simp] theorem zr_87 : zerosOf Try.prog 87 = some [] := by kernel_rfl
@[simp] theorem sz_88 : szOf Try.prog 88 = 1 := by kernel_rfl
@[simp] theorem ag_88 : aggT Try.prog 88 = some false := by kernel_rfl
@[simp] theorem by_88 : bytesOf Try.prog 88 = 4 := by kernel_rfl
attribute [simp] Try.underlying88
@[simp] theorem zr_88 : zerosOf Try.prog 88 = some [(.lit (.int Go.IntKind.u32 (0)))] := by kernel_rfl
@[simp] theorem sz_89 : szOf Try.prog 89 = 1 := by kernel_rfl
@[simp] theorem ag_89 : aggT Try.prog 89 = some false := by kernel_rfl
@[simp] theorem by_89 : bytesOf Try.prog 89 = 1 := by kernel_rfl
attribute [simp] Try.underlying89
@[simp] theorem zr_89 : zerosOf Try.prog 89 = some [(.lit (.int Go.IntKind.u8 (0)))] := by kernel_rfl
@[simp] theorem sz_90 : szOf Try.prog 90 = 1 := by kernel_rfl
@[simp] theorem ag_90 : aggT Try.prog 90 = some false := by kernel_rfl
@[simp] theorem by_90 : bytesOf Try.prog 90 = 1 := by kernel_rfl
attribute [simp] Try.underlying90
@[simp] theorem zr_90 : zerosOf Try.prog 90 = some [(.lit (.int Go.IntKind.u8 (0)))] := by kernel_rfl
@[simp] theorem sz_91 : szOf Try.prog 91 = 1 := by kernel_rfl
@[simp] theorem ag_91 : aggT Try.prog 91 = some false := by kernel_rfl
@[simp] theorem by_91 : bytesOf Try.prog 91 = 8 := by kernel_rfl
attribute [simp] Try.underlying91
@[simp] theorem sz_92 : szOf Try.prog 92 = 1 := by kernel_rfl
@[simp] theorem ag_92 : aggT Try.prog 92 = some false := by kernel_rfl
@[simp] theorem by_92 : bytesOf Try.prog 92 = 8 := by kernel_rfl
attribute [simp] Try.underlying92
@[simp] theorem zr_92 : zerosOf Try.prog 92 = some [(.lit (.pointer none))] := by kernel_rfl
@[simp] theorem sz_93 : szOf Try.prog 93 = 1 := by kernel_rfl
@[simp] theorem ag_93 : aggT Try.prog 93 = some false := by kernel_rfl
@[simp] theorem by_93 : bytesOf Try.prog 93 = 4 := by kernel_rfl
attribute [simp] Try.underlying93
@[simp] theorem zr_93 : zerosOf Try.prog 93 = some [(.lit (.int Go.IntKind.i32 (0)))] := by kernel_rfl
@[simp] theorem sz_94 : szOf Try.prog 94 = 1 := by kernel_rfl
@[simp] theorem ag_94 : aggT Try.prog 94 = some false := by kernel_rfl
@[simp] theorem by_94 : bytesOf Try.prog 94 = 4 := by kernel_rfl
attribute [simp] Try.underlying94
@[simp] theorem zr_94 : zerosOf Try.prog 94 = some [(.lit (.int Go.IntKind.i32 (0)))] := by kernel_rfl
@[simp] theorem sz_95 : szOf Try.prog 95 = 11 := by kernel_rfl
@[simp] theorem ag_95 : aggT Try.prog 95 = some true := by kernel_rfl
@[simp] theorem by_95 : bytesOf Try.prog 95 = 48 := by kernel_rfl
attribute [simp] Try.underlying95
@[simp] theorem fl_95_0 : fldOf Try.prog 95 0 = some (0, 12) := by kernel_rfl
@[simp] theorem fl_95_1 : fldOf Try.prog 95 1 = some (1, 12) := by kernel_rfl
@[simp] theorem fl_95_2 : fldOf Try.prog 95 2 = some (2, 88) := by kernel_rfl
@[simp] theorem fl_95_3 : fldOf Try.prog 95 3 = some (3, 89) := by kernel_rfl
@[simp] theorem fl_95_4 : fldOf Try.prog 95 4 = some (4, 5) := by kernel_rfl
@[simp] theorem fl_95_5 : fldOf Try.prog 95 5 = some (5, 5) := by kernel_rfl
@[simp] theorem fl_95_6 : fldOf Try.prog 95 6 = some (6, 90) := by kernel_rfl
@[simp] theorem fl_95_7 : fldOf Try.prog 95 7 = some (7, 91) := by kernel_rfl
@[simp] theorem fl_95_8 : fldOf Try.prog 95 8 = some (8, 92) := by kernel_rfl
@[simp] theorem fl_95_9 : fldOf Try.prog 95 9 = some (9, 93) := by kernel_rfl
@[simp] theorem fl_95_10 : fldOf Try.prog 95 10 = some (10, 94) := by kernel_rfl
@[simp] theorem pl_95 : placesOf Try.prog 95 = some [(0, 1), (1, 1), (2, 1), (3, 1), (4, 1), (5, 1), (6, 1), (7, 1), (8, 1), (9, 1), (10, 1)] := by kernel_rfl
@[simp] theorem sz_96 : szOf Try.prog 96 = 11 := by kernel_rfl
@[simp] theorem ag_96 : aggT Try.prog 96 = some true := by kernel_rfl
@[simp] theorem by_96 : bytesOf Try.prog 96 = 48 := by kernel_rfl
attribute [simp] Try.underlying96
@[simp] theorem fl_96_0 : fldOf Try.prog 96 0 = some (0, 12) := by kernel_rfl
@[simp] theorem fl_96_1 : fldOf Try.prog 96 1 = some (1, 12) := by kernel_rfl
@[simp] theorem fl_96_2 : fldOf Try.prog 96 2 = some (2, 88) := by kernel_rfl
@[simp] theorem fl_96_3 : fldOf Try.prog 96 3 = some (3, 89) := by kernel_rfl
@[simp] theorem fl_96_4 : fldOf Try.prog 96 4 = some (4, 5) := by kernel_rfl
@[simp] theorem fl_96_5 : fldOf Try.prog 96 5 = some (5, 5) := by kernel_rfl
@[simp] theorem fl_96_6 : fldOf Try.prog 96 6 = some (6, 90) := by kernel_rfl
@[simp] theorem fl_96_7 : fldOf Try.prog 96 7 = some (7, 91) := by kernel_rfl
@[simp] theorem fl_96_8 : fldOf Try.prog 96 8 = some (8, 92) := by kernel_rfl
@[simp] theorem fl_96_9 : fldOf Try.prog 96 9 = some (9, 93) := by kernel_rfl
@[simp] theorem fl_96_10 : fldOf Try.prog 96 10 = some (10, 94) := by kernel_rfl
@[simp] theorem pl_96 : placesOf Try.prog 96 = some [(0, 1), (1, 1), (2, 1), (3, 1), (4, 1), (5, 1), (6, 1), (7, 1), (8, 1), (9, 1), (10, 1)] := by kernel_rfl
@[simp] theorem sz_97 : szOf Try.prog 97 = 1 := by kernel_rfl
@[simp] theorem ag_97 : aggT Try.prog 97 = some false := by kernel_rfl
@[simp] theorem by_97 : bytesOf Try.prog 97 = 8 := by kernel_rfl
attribute [simp] Try.underlying97
@[simp] theorem zr_97 : zerosOf Try.prog 97 = some [(.lit (.pointer none))] := by kernel_rfl

end Go.Proofs.Ytgpcphddjapceaa
