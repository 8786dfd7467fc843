/- The program as the abstract machine sees it: what is alive at each loop, which operations may be drawn, sizes of types. -/
import Derived.Test.YtjfghnkmladbkaaGreatDoorAvD
import Derived.Test.YtjfghnkmladbkaaGreatDoorProg
import Derived.KernelRfl
namespace Go.Proofs
open Go.Av
def liveT : List (Nat × (List Nat × List Nat)) := [(12000, ([0, 1, 5], [])),
 (13000, ([1, 3, 4], [1])),
 (13002, ([1, 3, 5], [1])),
 (14000, ([1, 3, 4], [1])),
 (14002, ([1, 3, 5], [1])),
 (16001, ([1, 3, 128, 129, 130], [1])),
 (17000, ([2, 3, 4, 5, 6], [2, 3, 4, 5])),
 (17002, ([2, 3, 4, 5, 7], [2, 3, 4, 5])),
 (18001, ([1, 3, 4], [1])),
 (18003, ([1, 3, 4, 5, 6], [1, 5])),
 (18005, ([1, 3, 4, 5, 7], [1, 5])),
 (18007, ([1, 3, 4, 5, 8], [1, 5])),
 (21000, ([1, 3, 4], [1])),
 (42000, ([7, 8, 9], [25])),
 (42002, ([8, 59, 60, 61], [])),
 (43000, ([3, 6, 7, 8], [])),
 (45000, ([1, 2, 3, 5], [1, 3])),
 (47000, ([1, 2, 34, 35, 36], [2])),
 (47002, ([1, 46, 47, 48], [])),
 (48000, ([0, 5, 6], [])),
 (48002, ([0, 5, 6], [])),
 (50000, ([1, 2, 6], [2])),
 (50002, ([1, 2, 8], [2])),
 (51000, ([0, 1, 5], [])),
 (53000, ([1, 3, 4], [1])),
 (54000, ([1, 2, 3, 6, 7, 18, 19, 20], [3, 6, 16, 36])),
 (54002, ([2, 3, 6, 7, 10, 38, 39, 40], [3, 6, 16, 36])),
 (58001, ([3, 22, 23, 24], [])),
 (58003, ([6, 7], [7])),
 (59002, ([1, 3, 42, 43, 44], [1])),
 (60000, ([1, 3, 12, 13, 14], [1])),
 (60002, ([1, 3, 25, 26, 27], [1])),
 (63000, ([2, 3, 4, 5, 6], [2, 3, 4, 5])),
 (64001, ([1, 3, 4], [1])),
 (64003, ([6, 7], [7])),
 (65000, ([1, 4, 5], [1])),
 (67000, ([2, 3, 20, 21, 22], [])),
 (68000, ([0, 4, 12, 13, 14], [4, 12])),
 (69000, ([1, 2, 5], [2])),
 (74001, ([2, 3, 4, 5, 38, 39, 40], [2, 3, 4, 36])),
 (88000, ([3, 7, 8, 9], [])),
 (94000, ([0, 1, 4, 7], [4])),
 (94002, ([0, 1, 4, 9, 10, 11], [4, 9])),
 (95000, ([1, 3, 4], [1])),
 (110000, ([0, 3, 4], [])),
 (113000, ([0, 1, 7], [])),
 (113002, ([0, 1, 11, 12], [])),
 (117000, ([1, 2, 5], [2])),
 (118000, ([2, 3, 9, 10], [3])),
 (119000, ([0, 1, 7, 8], [])),
 (128000, ([1, 2, 3, 5, 9, 10, 11, 12], [5, 9, 10, 11])),
 (132000, ([0, 3, 4], [])),
 (133000, ([0, 3, 4], [])),
 (152000, ([4, 5, 6, 10, 12, 13], [5, 6, 10, 12])),
 (152002, ([2, 3, 4, 5, 6, 10, 12, 14, 15], [5, 6, 10, 12, 14])),
 (152004, ([2, 3, 4, 5, 10, 12, 14, 16], [5, 10, 12, 14])),
 (157000, ([0, 4, 7, 8], [4, 7])),
 (164000, ([0, 1, 5], [])),
 (171000, ([0, 2, 3], [2, 3])),
 (175000, ([0, 1, 5], [])),
 (178000, ([0, 4, 7, 8, 10], [4, 8])),
 (186000, ([0, 2, 3, 4, 5], [2, 3])),
 (186003, ([0, 2, 3, 6], [2, 3])),
 (186005, ([0, 2, 3, 6, 7], [2, 3])),
 (216000, ([0, 2, 4], [2])),
 (216002, ([2, 4, 9, 10, 11], [2, 9])),
 (217000, ([0, 2, 6], [2, 6])),
 (224000, ([0, 2, 3], [2, 3])),
 (224002, ([0, 2, 3], [2, 3])),
 (224004, ([0, 2, 3], [2, 3])),
 (225000, ([0, 1, 2, 8, 9], [])),
 (248000, ([0, 3, 4], []))]
def drwT : List (Nat × List (Nat × Nat)) := [(3008, [(2, 1)]),
 (4008, [(2, 1)]),
 (13001, [(4, 2)]),
 (16006, [(1, 6), (1, 13), (10, 6), (12, 6)]),
 (16008, [(1, 8)]),
 (16010, [(8, 4), (10, 4)]),
 (16012, [(8, 4)]),
 (16014, [(8, 4)]),
 (16016, [(8, 4)]),
 (16018, [(1, 6), (1, 13), (1, 20), (10, 6), (12, 6), (17, 6), (17, 13), (19, 6), (19, 13)]),
 (16025, [(8, 4)]),
 (17014, []),
 (17015, [(1, 8)]),
 (18006, [(1, 6), (1, 13), (10, 6), (12, 6)]),
 (18008, [(1, 8)]),
 (18010, [(8, 4), (10, 4)]),
 (18012, [(8, 4)]),
 (18014, [(8, 4)]),
 (18016, [(8, 4)]),
 (18018, [(1, 6), (1, 13), (1, 20), (10, 6), (12, 6), (17, 6), (17, 13), (19, 6), (19, 13)]),
 (18019, [(8, 4)]),
 (42011, [(2, 4)]),
 (43005, [(2, 6), (2, 11), (10, 6)]),
 (45009, []),
 (45010, []),
 (45006, [(0, 4)]),
 (49011, [(0, 3)]),
 (58009, [(1, 3)]),
 (58013, [(13, 10), (15, 10)]),
 (60013, [(4, 1)]),
 (62001, [(5, 3)]),
 (63013, [(1, 8)]),
 (64018, [(8, 4), (10, 4)]),
 (64019, [(7, 4), (9, 4)]),
 (66005, [(4, 5)]),
 (84003, []),
 (87005, [(4, 5)]),
 (94013, []),
 (112004, [(1, 3)]),
 (112015, [(1, 4), (2, 4)]),
 (112020, [(2, 1)]),
 (112022, [(2, 1)]),
 (112024, [(2, 1)]),
 (112025, [(0, 2)]),
 (113031, []),
 (116012, [(4, 3)]),
 (116018, [(4, 3), (5, 3), (6, 3)]),
 (118005, [(4, 2)]),
 (118009, [(4, 2)]),
 (127001, [(5, 3), (5, 4)]),
 (128007, [(1, 11)]),
 (152006, []),
 (152018, [(5, 3)]),
 (152019, [(5, 3)]),
 (152023, []),
 (171009, [(1, 3)]),
 (171011, [(1, 3)]),
 (178020, [(0, 3)]),
 (186018, [(1, 3)]),
 (186026, [(1, 3)]),
 (216012, []),
 (224003, [(1, 3)]),
 (224005, [(1, 3)]),
 (224007, [(1, 3)])]
def keepT : List Nat := [13, 14, 21, 32, 52, 53, 118]
def primT : List (Nat × (List AVal → Heap → Option (AVal × Heap))) := [(61, joinP), (120, itoaP), (229, atoiP), (170, indexByteP)]
def frzT : List (Nat × List (Nat × List (Nat × Nat))) := [(54, [(13, [(7, 29), (10, 30)])]), (74, [(16, [(5, 26)])])]
def mkmT : List (Nat × Nat) := []
def lendT : List (Nat × List (Nat × Nat)) := []
def clnT : List (Nat × Nat) := []
def rvsT : List (Nat × Nat) := []
def giftT : List (Nat × (Nat × Nat)) := [(118, (2, 9))]
def nbxT : List Nat := []
def xopT : List (Nat × List (Nat × Nat)) := [(52, [(1, 1)]), (118, [(13, 7)])]
noncomputable def E : Env := { P := Tryz.prog, cln := fun f => alGet clnT f, rvs := fun f => alGet rvsT f, xop := fun f => (alGet xopT f).getD [], gift := fun f => alGet giftT f, nbx := fun f => nbxT.contains f, mkm := fun T _ d => mkmT.contains (T, d.getD 0), lend := fun f => (alGet lendT f).getD [], frz := fun f => (alGet frzT f).getD [], live := fun f id => alGet liveT (f * 1000 + id), drw := fun f id => alGet drwT (f * 1000 + id), keep := fun f => keepT.contains f, prim := fun f => alGet primT f }
theorem keep_def (f : FuncId) : E.keep f = List.contains ([13, 14, 21, 32, 52, 53, 118] : List Nat) f := rfl
theorem frz_def (f : FuncId) : E.frz f = (alGet ([(54, [(13, [(7, 29), (10, 30)])]), (74, [(16, [(5, 26)])])] : List (Nat × List (Nat × List (Nat × Nat)))) f).getD [] := rfl
theorem xop_def (f : FuncId) : E.xop f = (alGet ([(52, [(1, 1)]), (118, [(13, 7)])] : List (Nat × List (Nat × Nat))) f).getD [] := rfl
theorem lend_def (f : FuncId) : E.lend f = (alGet ([] : List (Nat × List (Nat × Nat))) f).getD [] := rfl
attribute [go_sem] keep_def frz_def xop_def lend_def Option.getD_none Option.getD_some
theorem live_12_0 : E.live 12 0 = some ([0, 1, 5], []) := by kernel_rfl
theorem live_13_0 : E.live 13 0 = some ([1, 3, 4], [1]) := by kernel_rfl
theorem live_13_2 : E.live 13 2 = some ([1, 3, 5], [1]) := by kernel_rfl
theorem live_14_0 : E.live 14 0 = some ([1, 3, 4], [1]) := by kernel_rfl
theorem live_14_2 : E.live 14 2 = some ([1, 3, 5], [1]) := by kernel_rfl
theorem live_16_1 : E.live 16 1 = some ([1, 3, 128, 129, 130], [1]) := by kernel_rfl
theorem live_17_0 : E.live 17 0 = some ([2, 3, 4, 5, 6], [2, 3, 4, 5]) := by kernel_rfl
theorem live_17_2 : E.live 17 2 = some ([2, 3, 4, 5, 7], [2, 3, 4, 5]) := by kernel_rfl
theorem live_18_1 : E.live 18 1 = some ([1, 3, 4], [1]) := by kernel_rfl
theorem live_18_3 : E.live 18 3 = some ([1, 3, 4, 5, 6], [1, 5]) := by kernel_rfl
theorem live_18_5 : E.live 18 5 = some ([1, 3, 4, 5, 7], [1, 5]) := by kernel_rfl
theorem live_18_7 : E.live 18 7 = some ([1, 3, 4, 5, 8], [1, 5]) := by kernel_rfl
theorem live_21_0 : E.live 21 0 = some ([1, 3, 4], [1]) := by kernel_rfl
theorem live_42_0 : E.live 42 0 = some ([7, 8, 9], [25]) := by kernel_rfl
theorem live_42_2 : E.live 42 2 = some ([8, 59, 60, 61], []) := by kernel_rfl
theorem live_43_0 : E.live 43 0 = some ([3, 6, 7, 8], []) := by kernel_rfl
theorem live_45_0 : E.live 45 0 = some ([1, 2, 3, 5], [1, 3]) := by kernel_rfl
theorem live_47_0 : E.live 47 0 = some ([1, 2, 34, 35, 36], [2]) := by kernel_rfl
theorem live_47_2 : E.live 47 2 = some ([1, 46, 47, 48], []) := by kernel_rfl
theorem live_48_0 : E.live 48 0 = some ([0, 5, 6], []) := by kernel_rfl
theorem live_48_2 : E.live 48 2 = some ([0, 5, 6], []) := by kernel_rfl
theorem live_50_0 : E.live 50 0 = some ([1, 2, 6], [2]) := by kernel_rfl
theorem live_50_2 : E.live 50 2 = some ([1, 2, 8], [2]) := by kernel_rfl
theorem live_51_0 : E.live 51 0 = some ([0, 1, 5], []) := by kernel_rfl
theorem live_53_0 : E.live 53 0 = some ([1, 3, 4], [1]) := by kernel_rfl
theorem live_54_0 : E.live 54 0 = some ([1, 2, 3, 6, 7, 18, 19, 20], [3, 6, 16, 36]) := by kernel_rfl
theorem live_54_2 : E.live 54 2 = some ([2, 3, 6, 7, 10, 38, 39, 40], [3, 6, 16, 36]) := by kernel_rfl
theorem live_58_1 : E.live 58 1 = some ([3, 22, 23, 24], []) := by kernel_rfl
theorem live_58_3 : E.live 58 3 = some ([6, 7], [7]) := by kernel_rfl
theorem live_59_2 : E.live 59 2 = some ([1, 3, 42, 43, 44], [1]) := by kernel_rfl
theorem live_60_0 : E.live 60 0 = some ([1, 3, 12, 13, 14], [1]) := by kernel_rfl
theorem live_60_2 : E.live 60 2 = some ([1, 3, 25, 26, 27], [1]) := by kernel_rfl
theorem live_63_0 : E.live 63 0 = some ([2, 3, 4, 5, 6], [2, 3, 4, 5]) := by kernel_rfl
theorem live_64_1 : E.live 64 1 = some ([1, 3, 4], [1]) := by kernel_rfl
theorem live_64_3 : E.live 64 3 = some ([6, 7], [7]) := by kernel_rfl
theorem live_65_0 : E.live 65 0 = some ([1, 4, 5], [1]) := by kernel_rfl
theorem live_67_0 : E.live 67 0 = some ([2, 3, 20, 21, 22], []) := by kernel_rfl
theorem live_68_0 : E.live 68 0 = some ([0, 4, 12, 13, 14], [4, 12]) := by kernel_rfl
theorem live_69_0 : E.live 69 0 = some ([1, 2, 5], [2]) := by kernel_rfl
theorem live_74_1 : E.live 74 1 = some ([2, 3, 4, 5, 38, 39, 40], [2, 3, 4, 36]) := by kernel_rfl
theorem live_88_0 : E.live 88 0 = some ([3, 7, 8, 9], []) := by kernel_rfl
theorem live_94_0 : E.live 94 0 = some ([0, 1, 4, 7], [4]) := by kernel_rfl
theorem live_94_2 : E.live 94 2 = some ([0, 1, 4, 9, 10, 11], [4, 9]) := by kernel_rfl
theorem live_95_0 : E.live 95 0 = some ([1, 3, 4], [1]) := by kernel_rfl
theorem live_110_0 : E.live 110 0 = some ([0, 3, 4], []) := by kernel_rfl
theorem live_113_0 : E.live 113 0 = some ([0, 1, 7], []) := by kernel_rfl
theorem live_113_2 : E.live 113 2 = some ([0, 1, 11, 12], []) := by kernel_rfl
theorem live_117_0 : E.live 117 0 = some ([1, 2, 5], [2]) := by kernel_rfl
theorem live_118_0 : E.live 118 0 = some ([2, 3, 9, 10], [3]) := by kernel_rfl
theorem live_119_0 : E.live 119 0 = some ([0, 1, 7, 8], []) := by kernel_rfl
theorem live_128_0 : E.live 128 0 = some ([1, 2, 3, 5, 9, 10, 11, 12], [5, 9, 10, 11]) := by kernel_rfl
theorem live_132_0 : E.live 132 0 = some ([0, 3, 4], []) := by kernel_rfl
theorem live_133_0 : E.live 133 0 = some ([0, 3, 4], []) := by kernel_rfl
theorem live_152_0 : E.live 152 0 = some ([4, 5, 6, 10, 12, 13], [5, 6, 10, 12]) := by kernel_rfl
theorem live_152_2 : E.live 152 2 = some ([2, 3, 4, 5, 6, 10, 12, 14, 15], [5, 6, 10, 12, 14]) := by kernel_rfl
theorem live_152_4 : E.live 152 4 = some ([2, 3, 4, 5, 10, 12, 14, 16], [5, 10, 12, 14]) := by kernel_rfl
theorem live_157_0 : E.live 157 0 = some ([0, 4, 7, 8], [4, 7]) := by kernel_rfl
theorem live_164_0 : E.live 164 0 = some ([0, 1, 5], []) := by kernel_rfl
theorem live_171_0 : E.live 171 0 = some ([0, 2, 3], [2, 3]) := by kernel_rfl
theorem live_175_0 : E.live 175 0 = some ([0, 1, 5], []) := by kernel_rfl
theorem live_178_0 : E.live 178 0 = some ([0, 4, 7, 8, 10], [4, 8]) := by kernel_rfl
theorem live_186_0 : E.live 186 0 = some ([0, 2, 3, 4, 5], [2, 3]) := by kernel_rfl
theorem live_186_3 : E.live 186 3 = some ([0, 2, 3, 6], [2, 3]) := by kernel_rfl
theorem live_186_5 : E.live 186 5 = some ([0, 2, 3, 6, 7], [2, 3]) := by kernel_rfl
theorem live_216_0 : E.live 216 0 = some ([0, 2, 4], [2]) := by kernel_rfl
theorem live_216_2 : E.live 216 2 = some ([2, 4, 9, 10, 11], [2, 9]) := by kernel_rfl
theorem live_217_0 : E.live 217 0 = some ([0, 2, 6], [2, 6]) := by kernel_rfl
theorem live_224_0 : E.live 224 0 = some ([0, 2, 3], [2, 3]) := by kernel_rfl
theorem live_224_2 : E.live 224 2 = some ([0, 2, 3], [2, 3]) := by kernel_rfl
theorem live_224_4 : E.live 224 4 = some ([0, 2, 3], [2, 3]) := by kernel_rfl
theorem live_225_0 : E.live 225 0 = some ([0, 1, 2, 8, 9], []) := by kernel_rfl
theorem live_248_0 : E.live 248 0 = some ([0, 3, 4], []) := by kernel_rfl
theorem drw_3_8 : E.drw 3 8 = some [(2, 1)] := by kernel_rfl
theorem drw_4_8 : E.drw 4 8 = some [(2, 1)] := by kernel_rfl
theorem drw_13_1 : E.drw 13 1 = some [(4, 2)] := by kernel_rfl
theorem drw_16_6 : E.drw 16 6 = some [(1, 6), (1, 13), (10, 6), (12, 6)] := by kernel_rfl
theorem drw_16_8 : E.drw 16 8 = some [(1, 8)] := by kernel_rfl
theorem drw_16_10 : E.drw 16 10 = some [(8, 4), (10, 4)] := by kernel_rfl
theorem drw_16_12 : E.drw 16 12 = some [(8, 4)] := by kernel_rfl
theorem drw_16_14 : E.drw 16 14 = some [(8, 4)] := by kernel_rfl
theorem drw_16_16 : E.drw 16 16 = some [(8, 4)] := by kernel_rfl
theorem drw_16_18 : E.drw 16 18 = some [(1, 6), (1, 13), (1, 20), (10, 6), (12, 6), (17, 6), (17, 13), (19, 6), (19, 13)] := by kernel_rfl
theorem drw_16_25 : E.drw 16 25 = some [(8, 4)] := by kernel_rfl
theorem drw_17_14 : E.drw 17 14 = some [] := by kernel_rfl
theorem drw_17_15 : E.drw 17 15 = some [(1, 8)] := by kernel_rfl
theorem drw_18_6 : E.drw 18 6 = some [(1, 6), (1, 13), (10, 6), (12, 6)] := by kernel_rfl
theorem drw_18_8 : E.drw 18 8 = some [(1, 8)] := by kernel_rfl
theorem drw_18_10 : E.drw 18 10 = some [(8, 4), (10, 4)] := by kernel_rfl
theorem drw_18_12 : E.drw 18 12 = some [(8, 4)] := by kernel_rfl
theorem drw_18_14 : E.drw 18 14 = some [(8, 4)] := by kernel_rfl
theorem drw_18_16 : E.drw 18 16 = some [(8, 4)] := by kernel_rfl
theorem drw_18_18 : E.drw 18 18 = some [(1, 6), (1, 13), (1, 20), (10, 6), (12, 6), (17, 6), (17, 13), (19, 6), (19, 13)] := by kernel_rfl
theorem drw_18_19 : E.drw 18 19 = some [(8, 4)] := by kernel_rfl
theorem drw_42_11 : E.drw 42 11 = some [(2, 4)] := by kernel_rfl
theorem drw_43_5 : E.drw 43 5 = some [(2, 6), (2, 11), (10, 6)] := by kernel_rfl
theorem drw_45_9 : E.drw 45 9 = some [] := by kernel_rfl
theorem drw_45_10 : E.drw 45 10 = some [] := by kernel_rfl
theorem drw_45_6 : E.drw 45 6 = some [(0, 4)] := by kernel_rfl
theorem drw_49_11 : E.drw 49 11 = some [(0, 3)] := by kernel_rfl
theorem drw_58_9 : E.drw 58 9 = some [(1, 3)] := by kernel_rfl
theorem drw_58_13 : E.drw 58 13 = some [(13, 10), (15, 10)] := by kernel_rfl
theorem drw_60_13 : E.drw 60 13 = some [(4, 1)] := by kernel_rfl
theorem drw_62_1 : E.drw 62 1 = some [(5, 3)] := by kernel_rfl
theorem drw_63_13 : E.drw 63 13 = some [(1, 8)] := by kernel_rfl
theorem drw_64_18 : E.drw 64 18 = some [(8, 4), (10, 4)] := by kernel_rfl
theorem drw_64_19 : E.drw 64 19 = some [(7, 4), (9, 4)] := by kernel_rfl
theorem drw_66_5 : E.drw 66 5 = some [(4, 5)] := by kernel_rfl
theorem drw_84_3 : E.drw 84 3 = some [] := by kernel_rfl
theorem drw_87_5 : E.drw 87 5 = some [(4, 5)] := by kernel_rfl
theorem drw_94_13 : E.drw 94 13 = some [] := by kernel_rfl
theorem drw_112_4 : E.drw 112 4 = some [(1, 3)] := by kernel_rfl
theorem drw_112_15 : E.drw 112 15 = some [(1, 4), (2, 4)] := by kernel_rfl
theorem drw_112_20 : E.drw 112 20 = some [(2, 1)] := by kernel_rfl
theorem drw_112_22 : E.drw 112 22 = some [(2, 1)] := by kernel_rfl
theorem drw_112_24 : E.drw 112 24 = some [(2, 1)] := by kernel_rfl
theorem drw_112_25 : E.drw 112 25 = some [(0, 2)] := by kernel_rfl
theorem drw_113_31 : E.drw 113 31 = some [] := by kernel_rfl
theorem drw_116_12 : E.drw 116 12 = some [(4, 3)] := by kernel_rfl
theorem drw_116_18 : E.drw 116 18 = some [(4, 3), (5, 3), (6, 3)] := by kernel_rfl
theorem drw_118_5 : E.drw 118 5 = some [(4, 2)] := by kernel_rfl
theorem drw_118_9 : E.drw 118 9 = some [(4, 2)] := by kernel_rfl
theorem drw_127_1 : E.drw 127 1 = some [(5, 3), (5, 4)] := by kernel_rfl
theorem drw_128_7 : E.drw 128 7 = some [(1, 11)] := by kernel_rfl
theorem drw_152_6 : E.drw 152 6 = some [] := by kernel_rfl
theorem drw_152_18 : E.drw 152 18 = some [(5, 3)] := by kernel_rfl
theorem drw_152_19 : E.drw 152 19 = some [(5, 3)] := by kernel_rfl
theorem drw_152_23 : E.drw 152 23 = some [] := by kernel_rfl
theorem drw_171_9 : E.drw 171 9 = some [(1, 3)] := by kernel_rfl
theorem drw_171_11 : E.drw 171 11 = some [(1, 3)] := by kernel_rfl
theorem drw_178_20 : E.drw 178 20 = some [(0, 3)] := by kernel_rfl
theorem drw_186_18 : E.drw 186 18 = some [(1, 3)] := by kernel_rfl
theorem drw_186_26 : E.drw 186 26 = some [(1, 3)] := by kernel_rfl
theorem drw_216_12 : E.drw 216 12 = some [] := by kernel_rfl
theorem drw_224_3 : E.drw 224 3 = some [(1, 3)] := by kernel_rfl
theorem drw_224_5 : E.drw 224 5 = some [(1, 3)] := by kernel_rfl
theorem drw_224_7 : E.drw 224 7 = some [(1, 3)] := by kernel_rfl
theorem body_3 : bodyOf E 3 = Tryz.f3.body := by kernel_rfl
theorem prim_3 : E.prim 3 = none := by kernel_rfl
theorem res_3 : resOf E 3 = some [.tmp 6] := by kernel_rfl
theorem res_4 : resOf E 4 = some [.tmp 6] := by kernel_rfl
theorem body_9 : bodyOf E 9 = Tryz.f9.body := by kernel_rfl
theorem prim_9 : E.prim 9 = none := by kernel_rfl
theorem res_9 : resOf E 9 = some [.tmp 0] := by kernel_rfl
theorem body_10 : bodyOf E 10 = Tryz.f10.body := by kernel_rfl
theorem prim_10 : E.prim 10 = none := by kernel_rfl
theorem res_10 : resOf E 10 = some [.cell 2 32, .tmp 3] := by kernel_rfl
theorem body_11 : bodyOf E 11 = Tryz.f11.body := by kernel_rfl
theorem prim_11 : E.prim 11 = none := by kernel_rfl
theorem res_11 : resOf E 11 = some [.cell 2 45, .tmp 3] := by kernel_rfl
theorem body_12 : bodyOf E 12 = Tryz.f12.body := by kernel_rfl
theorem prim_12 : E.prim 12 = none := by kernel_rfl
theorem res_12 : resOf E 12 = some [.tmp 4] := by kernel_rfl
theorem body_13 : bodyOf E 13 = Tryz.f13.body := by kernel_rfl
theorem prim_13 : E.prim 13 = none := by kernel_rfl
theorem res_13 : resOf E 13 = some [.tmp 2] := by kernel_rfl
theorem body_14 : bodyOf E 14 = Tryz.f14.body := by kernel_rfl
theorem prim_14 : E.prim 14 = none := by kernel_rfl
theorem res_14 : resOf E 14 = some [.tmp 2] := by kernel_rfl
theorem body_15 : bodyOf E 15 = Tryz.f15.body := by kernel_rfl
theorem prim_15 : E.prim 15 = none := by kernel_rfl
theorem res_15 : resOf E 15 = some [.cell 6 32] := by kernel_rfl
theorem body_16 : bodyOf E 16 = Tryz.f16.body := by kernel_rfl
theorem prim_16 : E.prim 16 = none := by kernel_rfl
theorem res_16 : resOf E 16 = some [.tmp 2] := by kernel_rfl
theorem body_17 : bodyOf E 17 = Tryz.f17.body := by kernel_rfl
theorem prim_17 : E.prim 17 = none := by kernel_rfl
theorem res_17 : resOf E 17 = some [.cell 4 45] := by kernel_rfl
theorem body_18 : bodyOf E 18 = Tryz.f18.body := by kernel_rfl
theorem prim_18 : E.prim 18 = none := by kernel_rfl
theorem res_18 : resOf E 18 = some [.tmp 2] := by kernel_rfl
theorem res_19 : resOf E 19 = some [.cell 2 28, .tmp 3] := by kernel_rfl
theorem res_20 : resOf E 20 = some [.cell 2 41, .tmp 3] := by kernel_rfl
theorem body_21 : bodyOf E 21 = Tryz.f21.body := by kernel_rfl
theorem prim_21 : E.prim 21 = none := by kernel_rfl
theorem res_21 : resOf E 21 = some [.tmp 2] := by kernel_rfl
theorem res_22 : resOf E 22 = some [.cell 6 32] := by kernel_rfl
theorem body_42 : bodyOf E 42 = Tryz.f42.body := by kernel_rfl
theorem prim_42 : E.prim 42 = none := by kernel_rfl
theorem res_42 : resOf E 42 = some [.tmp 2, .tmp 3] := by kernel_rfl
theorem body_43 : bodyOf E 43 = Tryz.f43.body := by kernel_rfl
theorem prim_43 : E.prim 43 = none := by kernel_rfl
theorem res_43 : resOf E 43 = some [.tmp 2] := by kernel_rfl
theorem body_44 : bodyOf E 44 = Tryz.f44.body := by kernel_rfl
theorem prim_44 : E.prim 44 = none := by kernel_rfl
theorem res_44 : resOf E 44 = some [.tmp 2] := by kernel_rfl
theorem body_45 : bodyOf E 45 = Tryz.f45.body := by kernel_rfl
theorem prim_45 : E.prim 45 = none := by kernel_rfl
theorem res_45 : resOf E 45 = some [.tmp 2, .cell 3 3, .tmp 4] := by kernel_rfl
theorem body_46 : bodyOf E 46 = Tryz.f46.body := by kernel_rfl
theorem prim_46 : E.prim 46 = none := by kernel_rfl
theorem res_46 : resOf E 46 = some [.cell 2 32] := by kernel_rfl
theorem body_47 : bodyOf E 47 = Tryz.f47.body := by kernel_rfl
theorem prim_47 : E.prim 47 = none := by kernel_rfl
theorem res_47 : resOf E 47 = some [.tmp 4] := by kernel_rfl
theorem body_48 : bodyOf E 48 = Tryz.f48.body := by kernel_rfl
theorem prim_48 : E.prim 48 = none := by kernel_rfl
theorem res_48 : resOf E 48 = some [.tmp 2, .tmp 3, .tmp 4] := by kernel_rfl
theorem body_49 : bodyOf E 49 = Tryz.f49.body := by kernel_rfl
theorem prim_49 : E.prim 49 = none := by kernel_rfl
theorem res_49 : resOf E 49 = some [.cell 4 45, .tmp 5] := by kernel_rfl
theorem body_50 : bodyOf E 50 = Tryz.f50.body := by kernel_rfl
theorem prim_50 : E.prim 50 = none := by kernel_rfl
theorem res_50 : resOf E 50 = some [.tmp 4] := by kernel_rfl
theorem body_51 : bodyOf E 51 = Tryz.f51.body := by kernel_rfl
theorem prim_51 : E.prim 51 = none := by kernel_rfl
theorem res_51 : resOf E 51 = some [.tmp 4] := by kernel_rfl
theorem body_52 : bodyOf E 52 = Tryz.f52.body := by kernel_rfl
theorem prim_52 : E.prim 52 = none := by kernel_rfl
theorem res_52 : resOf E 52 = some [.tmp 2] := by kernel_rfl
theorem body_53 : bodyOf E 53 = Tryz.f53.body := by kernel_rfl
theorem prim_53 : E.prim 53 = none := by kernel_rfl
theorem res_53 : resOf E 53 = some [.tmp 2] := by kernel_rfl
theorem body_54 : bodyOf E 54 = Tryz.f54.body := by kernel_rfl
theorem prim_54 : E.prim 54 = none := by kernel_rfl
theorem res_54 : resOf E 54 = some [.cell 6 32] := by kernel_rfl
theorem body_55 : bodyOf E 55 = Tryz.f55.body := by kernel_rfl
theorem prim_55 : E.prim 55 = none := by kernel_rfl
theorem res_55 : resOf E 55 = some [.cell 7 32] := by kernel_rfl
theorem body_56 : bodyOf E 56 = Tryz.f56.body := by kernel_rfl
theorem prim_56 : E.prim 56 = none := by kernel_rfl
theorem res_56 : resOf E 56 = some [.cell 4 134] := by kernel_rfl
theorem body_57 : bodyOf E 57 = Tryz.f57.body := by kernel_rfl
theorem prim_57 : E.prim 57 = none := by kernel_rfl
theorem res_57 : resOf E 57 = some [.tmp 4] := by kernel_rfl
theorem body_58 : bodyOf E 58 = Tryz.f58.body := by kernel_rfl
theorem prim_58 : E.prim 58 = none := by kernel_rfl
theorem res_58 : resOf E 58 = some [.tmp 2] := by kernel_rfl
theorem body_59 : bodyOf E 59 = Tryz.f59.body := by kernel_rfl
theorem prim_59 : E.prim 59 = none := by kernel_rfl
theorem res_59 : resOf E 59 = some [.tmp 2] := by kernel_rfl
theorem body_60 : bodyOf E 60 = Tryz.f60.body := by kernel_rfl
theorem prim_60 : E.prim 60 = none := by kernel_rfl
theorem res_60 : resOf E 60 = some [.tmp 2] := by kernel_rfl
theorem res_62 : resOf E 62 = some [.cell 6 38] := by kernel_rfl
theorem body_63 : bodyOf E 63 = Tryz.f63.body := by kernel_rfl
theorem prim_63 : E.prim 63 = none := by kernel_rfl
theorem res_63 : resOf E 63 = some [.cell 4 41] := by kernel_rfl
theorem body_64 : bodyOf E 64 = Tryz.f64.body := by kernel_rfl
theorem prim_64 : E.prim 64 = none := by kernel_rfl
theorem res_64 : resOf E 64 = some [.tmp 2] := by kernel_rfl
theorem body_65 : bodyOf E 65 = Tryz.f65.body := by kernel_rfl
theorem prim_65 : E.prim 65 = none := by kernel_rfl
theorem res_65 : resOf E 65 = some [.tmp 2] := by kernel_rfl
theorem body_66 : bodyOf E 66 = Tryz.f66.body := by kernel_rfl
theorem prim_66 : E.prim 66 = none := by kernel_rfl
theorem res_66 : resOf E 66 = some [.cell 2 28, .tmp 3, .tmp 4] := by kernel_rfl
theorem body_67 : bodyOf E 67 = Tryz.f67.body := by kernel_rfl
theorem prim_67 : E.prim 67 = none := by kernel_rfl
theorem res_67 : resOf E 67 = some [.tmp 2, .tmp 3] := by kernel_rfl
theorem body_68 : bodyOf E 68 = Tryz.f68.body := by kernel_rfl
theorem prim_68 : E.prim 68 = none := by kernel_rfl
theorem res_68 : resOf E 68 = some [.cell 4 41, .tmp 5] := by kernel_rfl
theorem res_69 : resOf E 69 = some [.tmp 4] := by kernel_rfl
theorem res_70 : resOf E 70 = some [.tmp 2] := by kernel_rfl
theorem res_71 : resOf E 71 = some [.cell 2 25] := by kernel_rfl
theorem res_72 : resOf E 72 = some [.cell 4 28] := by kernel_rfl
theorem res_73 : resOf E 73 = some [.tmp 2] := by kernel_rfl
theorem res_74 : resOf E 74 = some [.cell 4 28] := by kernel_rfl
theorem res_75 : resOf E 75 = some [.cell 6 32] := by kernel_rfl
theorem res_76 : resOf E 76 = some [.cell 4 134] := by kernel_rfl
theorem body_84 : bodyOf E 84 = Tryz.f84.body := by kernel_rfl
theorem prim_84 : E.prim 84 = none := by kernel_rfl
theorem res_84 : resOf E 84 = some [.tmp 2] := by kernel_rfl
theorem body_87 : bodyOf E 87 = Tryz.f87.body := by kernel_rfl
theorem prim_87 : E.prim 87 = none := by kernel_rfl
theorem res_87 : resOf E 87 = some [.cell 2 25, .tmp 3, .tmp 4] := by kernel_rfl
theorem body_88 : bodyOf E 88 = Tryz.f88.body := by kernel_rfl
theorem prim_88 : E.prim 88 = none := by kernel_rfl
theorem res_88 : resOf E 88 = some [.tmp 2] := by kernel_rfl
theorem body_94 : bodyOf E 94 = Tryz.f94.body := by kernel_rfl
theorem prim_94 : E.prim 94 = none := by kernel_rfl
theorem res_94 : resOf E 94 = some [.cell 4 38, .tmp 5] := by kernel_rfl
theorem body_95 : bodyOf E 95 = Tryz.f95.body := by kernel_rfl
theorem prim_95 : E.prim 95 = none := by kernel_rfl
theorem res_95 : resOf E 95 = some [.tmp 2] := by kernel_rfl
theorem body_105 : bodyOf E 105 = Tryz.f105.body := by kernel_rfl
theorem prim_105 : E.prim 105 = none := by kernel_rfl
theorem res_105 : resOf E 105 = some [.tmp 4] := by kernel_rfl
theorem body_106 : bodyOf E 106 = Tryz.f106.body := by kernel_rfl
theorem prim_106 : E.prim 106 = none := by kernel_rfl
theorem res_106 : resOf E 106 = some [.tmp 2, .cell 3 25] := by kernel_rfl
theorem body_107 : bodyOf E 107 = Tryz.f107.body := by kernel_rfl
theorem prim_107 : E.prim 107 = none := by kernel_rfl
theorem res_107 : resOf E 107 = some [.tmp 6] := by kernel_rfl
theorem body_108 : bodyOf E 108 = Tryz.f108.body := by kernel_rfl
theorem prim_108 : E.prim 108 = none := by kernel_rfl
theorem res_108 : resOf E 108 = some [.tmp 2, .tmp 3] := by kernel_rfl
theorem body_109 : bodyOf E 109 = Tryz.f109.body := by kernel_rfl
theorem prim_109 : E.prim 109 = none := by kernel_rfl
theorem res_109 : resOf E 109 = some [.tmp 2, .tmp 3] := by kernel_rfl
theorem body_110 : bodyOf E 110 = Tryz.f110.body := by kernel_rfl
theorem prim_110 : E.prim 110 = none := by kernel_rfl
theorem res_110 : resOf E 110 = some [.tmp 2] := by kernel_rfl
theorem body_111 : bodyOf E 111 = Tryz.f111.body := by kernel_rfl
theorem prim_111 : E.prim 111 = none := by kernel_rfl
theorem res_111 : resOf E 111 = some [.tmp 6] := by kernel_rfl
theorem body_112 : bodyOf E 112 = Tryz.f112.body := by kernel_rfl
theorem prim_112 : E.prim 112 = none := by kernel_rfl
theorem res_112 : resOf E 112 = some [.cell 2 32] := by kernel_rfl
theorem body_113 : bodyOf E 113 = Tryz.f113.body := by kernel_rfl
theorem prim_113 : E.prim 113 = none := by kernel_rfl
theorem res_113 : resOf E 113 = some [.tmp 4, .tmp 5] := by kernel_rfl
theorem body_114 : bodyOf E 114 = Tryz.f114.body := by kernel_rfl
theorem prim_114 : E.prim 114 = none := by kernel_rfl
theorem res_114 : resOf E 114 = some [.tmp 8] := by kernel_rfl
theorem body_115 : bodyOf E 115 = Tryz.f115.body := by kernel_rfl
theorem prim_115 : E.prim 115 = none := by kernel_rfl
theorem res_115 : resOf E 115 = some [.tmp 8] := by kernel_rfl
theorem body_116 : bodyOf E 116 = Tryz.f116.body := by kernel_rfl
theorem prim_116 : E.prim 116 = none := by kernel_rfl
theorem res_116 : resOf E 116 = some [.cell 4 45, .tmp 5] := by kernel_rfl
theorem body_117 : bodyOf E 117 = Tryz.f117.body := by kernel_rfl
theorem prim_117 : E.prim 117 = none := by kernel_rfl
theorem res_117 : resOf E 117 = some [.tmp 4] := by kernel_rfl
theorem body_118 : bodyOf E 118 = Tryz.f118.body := by kernel_rfl
theorem prim_118 : E.prim 118 = none := by kernel_rfl
theorem res_118 : resOf E 118 = some [.tmp 6] := by kernel_rfl
theorem body_119 : bodyOf E 119 = Tryz.f119.body := by kernel_rfl
theorem prim_119 : E.prim 119 = none := by kernel_rfl
theorem res_119 : resOf E 119 = some [.tmp 4] := by kernel_rfl
theorem body_121 : bodyOf E 121 = Tryz.f121.body := by kernel_rfl
theorem prim_121 : E.prim 121 = none := by kernel_rfl
theorem res_121 : resOf E 121 = some [.tmp 4] := by kernel_rfl
theorem body_122 : bodyOf E 122 = Tryz.f122.body := by kernel_rfl
theorem prim_122 : E.prim 122 = none := by kernel_rfl
theorem res_122 : resOf E 122 = some [.tmp 2] := by kernel_rfl
theorem body_123 : bodyOf E 123 = Tryz.f123.body := by kernel_rfl
theorem prim_123 : E.prim 123 = none := by kernel_rfl
theorem res_123 : resOf E 123 = some [.tmp 2] := by kernel_rfl
theorem res_127 : resOf E 127 = some [.cell 6 38] := by kernel_rfl
theorem res_128 : resOf E 128 = some [.cell 10 38] := by kernel_rfl
theorem body_129 : bodyOf E 129 = Tryz.f129.body := by kernel_rfl
theorem prim_129 : E.prim 129 = none := by kernel_rfl
theorem res_129 : resOf E 129 = some [.cell 2 28] := by kernel_rfl
theorem body_130 : bodyOf E 130 = Tryz.f130.body := by kernel_rfl
theorem prim_130 : E.prim 130 = none := by kernel_rfl
theorem res_130 : resOf E 130 = some [.tmp 8] := by kernel_rfl
theorem body_131 : bodyOf E 131 = Tryz.f131.body := by kernel_rfl
theorem prim_131 : E.prim 131 = none := by kernel_rfl
theorem res_131 : resOf E 131 = some [.cell 4 38, .tmp 5] := by kernel_rfl
theorem body_132 : bodyOf E 132 = Tryz.f132.body := by kernel_rfl
theorem prim_132 : E.prim 132 = none := by kernel_rfl
theorem res_132 : resOf E 132 = some [.tmp 2] := by kernel_rfl
theorem body_133 : bodyOf E 133 = Tryz.f133.body := by kernel_rfl
theorem prim_133 : E.prim 133 = none := by kernel_rfl
theorem res_133 : resOf E 133 = some [.tmp 2] := by kernel_rfl
theorem res_152 : resOf E 152 = some [.cell 10 38, .tmp 11] := by kernel_rfl
theorem body_153 : bodyOf E 153 = Tryz.f153.body := by kernel_rfl
theorem prim_153 : E.prim 153 = none := by kernel_rfl
theorem res_153 : resOf E 153 = some [.cell 2 25, .tmp 3] := by kernel_rfl
theorem body_157 : bodyOf E 157 = Tryz.f157.body := by kernel_rfl
theorem prim_157 : E.prim 157 = none := by kernel_rfl
theorem res_157 : resOf E 157 = some [.cell 4 38, .tmp 5] := by kernel_rfl
theorem body_161 : bodyOf E 161 = Tryz.f161.body := by kernel_rfl
theorem prim_161 : E.prim 161 = none := by kernel_rfl
theorem res_161 : resOf E 161 = some [.cell 2 25] := by kernel_rfl
theorem body_162 : bodyOf E 162 = Tryz.f162.body := by kernel_rfl
theorem prim_162 : E.prim 162 = none := by kernel_rfl
theorem res_162 : resOf E 162 = some [.tmp 2] := by kernel_rfl
theorem body_163 : bodyOf E 163 = Tryz.f163.body := by kernel_rfl
theorem prim_163 : E.prim 163 = none := by kernel_rfl
theorem res_163 : resOf E 163 = some [.tmp 2] := by kernel_rfl
theorem body_164 : bodyOf E 164 = Tryz.f164.body := by kernel_rfl
theorem prim_164 : E.prim 164 = none := by kernel_rfl
theorem res_164 : resOf E 164 = some [.tmp 4] := by kernel_rfl
theorem body_165 : bodyOf E 165 = Tryz.f165.body := by kernel_rfl
theorem prim_165 : E.prim 165 = none := by kernel_rfl
theorem res_165 : resOf E 165 = some [.tmp 2] := by kernel_rfl
theorem body_166 : bodyOf E 166 = Tryz.f166.body := by kernel_rfl
theorem prim_166 : E.prim 166 = none := by kernel_rfl
theorem res_166 : resOf E 166 = some [.tmp 2] := by kernel_rfl
theorem body_167 : bodyOf E 167 = Tryz.f167.body := by kernel_rfl
theorem prim_167 : E.prim 167 = none := by kernel_rfl
theorem res_167 : resOf E 167 = some [.tmp 2] := by kernel_rfl
theorem body_168 : bodyOf E 168 = Tryz.f168.body := by kernel_rfl
theorem prim_168 : E.prim 168 = none := by kernel_rfl
theorem res_168 : resOf E 168 = some [.tmp 2] := by kernel_rfl
theorem body_169 : bodyOf E 169 = Tryz.f169.body := by kernel_rfl
theorem prim_169 : E.prim 169 = none := by kernel_rfl
theorem res_169 : resOf E 169 = some [.tmp 4] := by kernel_rfl
theorem body_171 : bodyOf E 171 = Tryz.f171.body := by kernel_rfl
theorem prim_171 : E.prim 171 = none := by kernel_rfl
theorem res_171 : resOf E 171 = some [.cell 2 32] := by kernel_rfl
theorem body_172 : bodyOf E 172 = Tryz.f172.body := by kernel_rfl
theorem prim_172 : E.prim 172 = none := by kernel_rfl
theorem res_172 : resOf E 172 = some [.cell 2 28] := by kernel_rfl
theorem body_173 : bodyOf E 173 = Tryz.f173.body := by kernel_rfl
theorem prim_173 : E.prim 173 = none := by kernel_rfl
theorem res_173 : resOf E 173 = some [.tmp 2] := by kernel_rfl
theorem body_174 : bodyOf E 174 = Tryz.f174.body := by kernel_rfl
theorem prim_174 : E.prim 174 = none := by kernel_rfl
theorem res_174 : resOf E 174 = some [.tmp 2] := by kernel_rfl
theorem body_175 : bodyOf E 175 = Tryz.f175.body := by kernel_rfl
theorem prim_175 : E.prim 175 = none := by kernel_rfl
theorem res_175 : resOf E 175 = some [.tmp 4] := by kernel_rfl
theorem body_176 : bodyOf E 176 = Tryz.f176.body := by kernel_rfl
theorem prim_176 : E.prim 176 = none := by kernel_rfl
theorem res_176 : resOf E 176 = some [.tmp 4] := by kernel_rfl
theorem body_177 : bodyOf E 177 = Tryz.f177.body := by kernel_rfl
theorem prim_177 : E.prim 177 = none := by kernel_rfl
theorem res_177 : resOf E 177 = some [.cell 4 38, .tmp 5] := by kernel_rfl
theorem body_178 : bodyOf E 178 = Tryz.f178.body := by kernel_rfl
theorem prim_178 : E.prim 178 = none := by kernel_rfl
theorem res_178 : resOf E 178 = some [.cell 4 45, .tmp 5] := by kernel_rfl
theorem body_179 : bodyOf E 179 = Tryz.f179.body := by kernel_rfl
theorem prim_179 : E.prim 179 = none := by kernel_rfl
theorem res_179 : resOf E 179 = some [.cell 4 41, .tmp 5] := by kernel_rfl
theorem body_183 : bodyOf E 183 = Tryz.f183.body := by kernel_rfl
theorem prim_183 : E.prim 183 = none := by kernel_rfl
theorem res_183 : resOf E 183 = some [.tmp 4] := by kernel_rfl
theorem body_184 : bodyOf E 184 = Tryz.f184.body := by kernel_rfl
theorem prim_184 : E.prim 184 = none := by kernel_rfl
theorem res_184 : resOf E 184 = some [.cell 2 25] := by kernel_rfl
theorem body_185 : bodyOf E 185 = Tryz.f185.body := by kernel_rfl
theorem prim_185 : E.prim 185 = none := by kernel_rfl
theorem res_185 : resOf E 185 = some [.tmp 6] := by kernel_rfl
theorem body_186 : bodyOf E 186 = Tryz.f186.body := by kernel_rfl
theorem prim_186 : E.prim 186 = none := by kernel_rfl
theorem res_186 : resOf E 186 = some [.cell 2 28] := by kernel_rfl
theorem body_215 : bodyOf E 215 = Tryz.f215.body := by kernel_rfl
theorem prim_215 : E.prim 215 = none := by kernel_rfl
theorem res_215 : resOf E 215 = some [.tmp 6, .tmp 7] := by kernel_rfl
theorem body_216 : bodyOf E 216 = Tryz.f216.body := by kernel_rfl
theorem prim_216 : E.prim 216 = none := by kernel_rfl
theorem res_216 : resOf E 216 = some [.cell 2 25, .tmp 3] := by kernel_rfl
theorem body_217 : bodyOf E 217 = Tryz.f217.body := by kernel_rfl
theorem prim_217 : E.prim 217 = none := by kernel_rfl
theorem res_217 : resOf E 217 = some [.cell 2 25, .tmp 3] := by kernel_rfl
theorem body_219 : bodyOf E 219 = Tryz.f219.body := by kernel_rfl
theorem prim_219 : E.prim 219 = none := by kernel_rfl
theorem res_219 : resOf E 219 = some [.cell 4 38, .tmp 5] := by kernel_rfl
theorem body_222 : bodyOf E 222 = Tryz.f222.body := by kernel_rfl
theorem prim_222 : E.prim 222 = none := by kernel_rfl
theorem res_222 : resOf E 222 = some [.tmp 4] := by kernel_rfl
theorem body_224 : bodyOf E 224 = Tryz.f224.body := by kernel_rfl
theorem prim_224 : E.prim 224 = none := by kernel_rfl
theorem res_224 : resOf E 224 = some [.cell 2 134] := by kernel_rfl
theorem body_225 : bodyOf E 225 = Tryz.f225.body := by kernel_rfl
theorem prim_225 : E.prim 225 = none := by kernel_rfl
theorem res_225 : resOf E 225 = some [.tmp 6, .tmp 7] := by kernel_rfl
theorem body_246 : bodyOf E 246 = Tryz.f246.body := by kernel_rfl
theorem prim_246 : E.prim 246 = none := by kernel_rfl
theorem res_246 : resOf E 246 = some [.tmp 6] := by kernel_rfl
theorem body_247 : bodyOf E 247 = Tryz.f247.body := by kernel_rfl
theorem prim_247 : E.prim 247 = none := by kernel_rfl
theorem res_247 : resOf E 247 = some [.cell 2 25, .tmp 3] := by kernel_rfl
theorem body_248 : bodyOf E 248 = Tryz.f248.body := by kernel_rfl
theorem prim_248 : E.prim 248 = none := by kernel_rfl
theorem res_248 : resOf E 248 = some [.tmp 2] := by kernel_rfl
theorem prim_61 : E.prim 61 = some joinP := by kernel_rfl
theorem prim_120 : E.prim 120 = some itoaP := by kernel_rfl
theorem prim_229 : E.prim 229 = some atoiP := by kernel_rfl
theorem prim_170 : E.prim 170 = some indexByteP := by kernel_rfl
theorem ts3 : tsize E.P 3 = 1 := by kernel_rfl
theorem ts4 : tsize E.P 4 = 1 := by kernel_rfl
theorem ts5 : tsize E.P 5 = 1 := by kernel_rfl
theorem ts9 : tsize E.P 9 = 1 := by kernel_rfl
theorem ts23 : tsize E.P 23 = 1 := by kernel_rfl
theorem ts25 : tsize E.P 25 = 4 := by kernel_rfl
theorem ts26 : tsize E.P 26 = 1 := by kernel_rfl
theorem ts28 : tsize E.P 28 = 8 := by kernel_rfl
theorem ts29 : tsize E.P 29 = 1 := by kernel_rfl
theorem ts30 : tsize E.P 30 = 1 := by kernel_rfl
theorem ts32 : tsize E.P 32 = 16 := by kernel_rfl
theorem ts36 : tsize E.P 36 = 1 := by kernel_rfl
theorem ts38 : tsize E.P 38 = 4 := by kernel_rfl
theorem ts39 : tsize E.P 39 = 1 := by kernel_rfl
theorem ts41 : tsize E.P 41 = 8 := by kernel_rfl
theorem ts42 : tsize E.P 42 = 1 := by kernel_rfl
theorem ts43 : tsize E.P 43 = 1 := by kernel_rfl
theorem ts45 : tsize E.P 45 = 16 := by kernel_rfl
theorem ts49 : tsize E.P 49 = 1 := by kernel_rfl
theorem ts55 : tsize E.P 55 = 31 := by kernel_rfl
theorem ts82 : tsize E.P 82 = 1 := by kernel_rfl
theorem ts117 : tsize E.P 117 = 1 := by kernel_rfl
theorem ts122 : tsize E.P 122 = 2 := by kernel_rfl
theorem ts130 : tsize E.P 130 = 20 := by kernel_rfl
theorem ts134 : tsize E.P 134 = 20 := by kernel_rfl
theorem ts146 : tsize E.P 146 = 1 := by kernel_rfl
theorem ts147 : tsize E.P 147 = 1 := by kernel_rfl
theorem ts149 : tsize E.P 149 = 3 := by kernel_rfl
theorem ts202 : tsize E.P 202 = 21 := by kernel_rfl
theorem ts206 : tsize E.P 206 = 3 := by kernel_rfl
theorem ts227 : tsize E.P 227 = 2 := by kernel_rfl
theorem ts253 : tsize E.P 253 = 2 := by kernel_rfl
theorem ts256 : tsize E.P 256 = 1 := by kernel_rfl
theorem gift_118 : E.gift 118 = some (2, 9) := by kernel_rfl
theorem tsM : tsize E.P 1099511627777 = 0 := by kernel_rfl
theorem tg3 : tagg E.P 3 = some false := by kernel_rfl
theorem tg4 : tagg E.P 4 = some false := by kernel_rfl
theorem tg9 : tagg E.P 9 = some false := by kernel_rfl
theorem tg23 : tagg E.P 23 = some false := by kernel_rfl
theorem tg25 : tagg E.P 25 = some true := by kernel_rfl
theorem tg26 : tagg E.P 26 = some false := by kernel_rfl
theorem tg28 : tagg E.P 28 = some true := by kernel_rfl
theorem tg29 : tagg E.P 29 = some false := by kernel_rfl
theorem tg30 : tagg E.P 30 = some false := by kernel_rfl
theorem tg32 : tagg E.P 32 = some true := by kernel_rfl
theorem tg36 : tagg E.P 36 = some false := by kernel_rfl
theorem tg38 : tagg E.P 38 = some true := by kernel_rfl
theorem tg39 : tagg E.P 39 = some false := by kernel_rfl
theorem tg41 : tagg E.P 41 = some true := by kernel_rfl
theorem tg42 : tagg E.P 42 = some false := by kernel_rfl
theorem tg43 : tagg E.P 43 = some false := by kernel_rfl
theorem tg45 : tagg E.P 45 = some true := by kernel_rfl
theorem tg49 : tagg E.P 49 = some false := by kernel_rfl
theorem tg55 : tagg E.P 55 = some true := by kernel_rfl
theorem tg82 : tagg E.P 82 = some false := by kernel_rfl
theorem tg117 : tagg E.P 117 = some false := by kernel_rfl
theorem tg130 : tagg E.P 130 = some true := by kernel_rfl
theorem tg134 : tagg E.P 134 = some true := by kernel_rfl
theorem tg146 : tagg E.P 146 = some false := by kernel_rfl
theorem tg147 : tagg E.P 147 = some false := by kernel_rfl
theorem tg149 : tagg E.P 149 = some true := by kernel_rfl
theorem tg202 : tagg E.P 202 = some true := by kernel_rfl
theorem tg253 : tagg E.P 253 = some true := by kernel_rfl
theorem te3 : telem E.P 3 = none := by kernel_rfl
theorem te4 : telem E.P 4 = none := by kernel_rfl
theorem te5 : telem E.P 5 = none := by kernel_rfl
theorem te9 : telem E.P 9 = none := by kernel_rfl
theorem te23 : telem E.P 23 = some 25 := by kernel_rfl
theorem te25 : telem E.P 25 = none := by kernel_rfl
theorem te26 : telem E.P 26 = some 28 := by kernel_rfl
theorem te28 : telem E.P 28 = none := by kernel_rfl
theorem te29 : telem E.P 29 = some 32 := by kernel_rfl
theorem te30 : telem E.P 30 = some 134 := by kernel_rfl
theorem te32 : telem E.P 32 = none := by kernel_rfl
theorem te33 : telem E.P 33 = none := by kernel_rfl
theorem te34 : telem E.P 34 = none := by kernel_rfl
theorem te36 : telem E.P 36 = some 38 := by kernel_rfl
theorem te38 : telem E.P 38 = none := by kernel_rfl
theorem te39 : telem E.P 39 = some 41 := by kernel_rfl
theorem te41 : telem E.P 41 = none := by kernel_rfl
theorem te42 : telem E.P 42 = some 45 := by kernel_rfl
theorem te43 : telem E.P 43 = some 130 := by kernel_rfl
theorem te45 : telem E.P 45 = none := by kernel_rfl
theorem te46 : telem E.P 46 = none := by kernel_rfl
theorem te49 : telem E.P 49 = some 9 := by kernel_rfl
theorem te57 : telem E.P 57 = none := by kernel_rfl
theorem te59 : telem E.P 59 = none := by kernel_rfl
theorem te112 : telem E.P 112 = some 202 := by kernel_rfl
theorem te113 : telem E.P 113 = none := by kernel_rfl
theorem te117 : telem E.P 117 = some 206 := by kernel_rfl
theorem te118 : telem E.P 118 = none := by kernel_rfl
theorem te120 : telem E.P 120 = none := by kernel_rfl
theorem te125 : telem E.P 125 = none := by kernel_rfl
theorem te130 : telem E.P 130 = none := by kernel_rfl
theorem te132 : telem E.P 132 = none := by kernel_rfl
theorem te134 : telem E.P 134 = none := by kernel_rfl
theorem te135 : telem E.P 135 = none := by kernel_rfl
theorem te139 : telem E.P 139 = none := by kernel_rfl
theorem te141 : telem E.P 141 = none := by kernel_rfl
theorem te142 : telem E.P 142 = none := by kernel_rfl
theorem te143 : telem E.P 143 = none := by kernel_rfl
theorem te177 : telem E.P 177 = none := by kernel_rfl
theorem te185 : telem E.P 185 = none := by kernel_rfl
theorem te198 : telem E.P 198 = none := by kernel_rfl
theorem te202 : telem E.P 202 = none := by kernel_rfl
theorem te215 : telem E.P 215 = some 5 := by kernel_rfl
theorem te220 : telem E.P 220 = none := by kernel_rfl
theorem te221 : telem E.P 221 = none := by kernel_rfl
theorem te225 : telem E.P 225 = none := by kernel_rfl
theorem te238 : telem E.P 238 = none := by kernel_rfl
theorem te253 : telem E.P 253 = none := by kernel_rfl
theorem te254 : telem E.P 254 = none := by kernel_rfl
theorem te257 : telem E.P 257 = none := by kernel_rfl
theorem te270 : telem E.P 270 = none := by kernel_rfl
theorem te281 : telem E.P 281 = none := by kernel_rfl
theorem tf25_0 : tfield E.P 25 0 = some (0, 1) := by kernel_rfl
theorem tf25_1 : tfield E.P 25 1 = some (1, 1) := by kernel_rfl
theorem tf25_2 : tfield E.P 25 2 = some (2, 1) := by kernel_rfl
theorem tf25_3 : tfield E.P 25 3 = some (3, 1) := by kernel_rfl
theorem tf28_0 : tfield E.P 28 0 = some (0, 1) := by kernel_rfl
theorem tf28_1 : tfield E.P 28 1 = some (1, 1) := by kernel_rfl
theorem tf28_2 : tfield E.P 28 2 = some (2, 1) := by kernel_rfl
theorem tf28_3 : tfield E.P 28 3 = some (3, 4) := by kernel_rfl
theorem tf28_4 : tfield E.P 28 4 = some (7, 1) := by kernel_rfl
theorem tf32_0 : tfield E.P 32 0 = some (0, 1) := by kernel_rfl
theorem tf32_1 : tfield E.P 32 1 = some (1, 1) := by kernel_rfl
theorem tf32_2 : tfield E.P 32 2 = some (2, 4) := by kernel_rfl
theorem tf32_3 : tfield E.P 32 3 = some (6, 8) := by kernel_rfl
theorem tf32_4 : tfield E.P 32 4 = some (14, 1) := by kernel_rfl
theorem tf32_5 : tfield E.P 32 5 = some (15, 1) := by kernel_rfl
theorem tf38_0 : tfield E.P 38 0 = some (0, 1) := by kernel_rfl
theorem tf38_1 : tfield E.P 38 1 = some (1, 1) := by kernel_rfl
theorem tf38_2 : tfield E.P 38 2 = some (2, 1) := by kernel_rfl
theorem tf38_3 : tfield E.P 38 3 = some (3, 1) := by kernel_rfl
theorem tf41_0 : tfield E.P 41 0 = some (0, 1) := by kernel_rfl
theorem tf41_1 : tfield E.P 41 1 = some (1, 1) := by kernel_rfl
theorem tf41_2 : tfield E.P 41 2 = some (2, 1) := by kernel_rfl
theorem tf41_3 : tfield E.P 41 3 = some (3, 4) := by kernel_rfl
theorem tf41_4 : tfield E.P 41 4 = some (7, 1) := by kernel_rfl
theorem tf45_0 : tfield E.P 45 0 = some (0, 1) := by kernel_rfl
theorem tf45_1 : tfield E.P 45 1 = some (1, 1) := by kernel_rfl
theorem tf45_2 : tfield E.P 45 2 = some (2, 4) := by kernel_rfl
theorem tf45_3 : tfield E.P 45 3 = some (6, 8) := by kernel_rfl
theorem tf45_4 : tfield E.P 45 4 = some (14, 1) := by kernel_rfl
theorem tf45_5 : tfield E.P 45 5 = some (15, 1) := by kernel_rfl
theorem tf55_0 : tfield E.P 55 0 = some (0, 1) := by kernel_rfl
theorem tf55_1 : tfield E.P 55 1 = some (1, 4) := by kernel_rfl
theorem tf55_2 : tfield E.P 55 2 = some (5, 1) := by kernel_rfl
theorem tf55_3 : tfield E.P 55 3 = some (6, 8) := by kernel_rfl
theorem tf55_4 : tfield E.P 55 4 = some (14, 1) := by kernel_rfl
theorem tf55_5 : tfield E.P 55 5 = some (15, 16) := by kernel_rfl
theorem tf122_0 : tfield E.P 122 0 = some (0, 1) := by kernel_rfl
theorem tf122_1 : tfield E.P 122 1 = some (1, 1) := by kernel_rfl
theorem tf130_0 : tfield E.P 130 0 = some (0, 1) := by kernel_rfl
theorem tf130_1 : tfield E.P 130 1 = some (1, 1) := by kernel_rfl
theorem tf130_2 : tfield E.P 130 2 = some (2, 1) := by kernel_rfl
theorem tf130_3 : tfield E.P 130 3 = some (3, 1) := by kernel_rfl
theorem tf130_4 : tfield E.P 130 4 = some (4, 16) := by kernel_rfl
theorem tf134_0 : tfield E.P 134 0 = some (0, 1) := by kernel_rfl
theorem tf134_1 : tfield E.P 134 1 = some (1, 1) := by kernel_rfl
theorem tf134_2 : tfield E.P 134 2 = some (2, 1) := by kernel_rfl
theorem tf134_3 : tfield E.P 134 3 = some (3, 1) := by kernel_rfl
theorem tf134_4 : tfield E.P 134 4 = some (4, 16) := by kernel_rfl
theorem tf149_0 : tfield E.P 149 0 = some (0, 1) := by kernel_rfl
theorem tf149_1 : tfield E.P 149 1 = some (1, 1) := by kernel_rfl
theorem tf149_2 : tfield E.P 149 2 = some (2, 1) := by kernel_rfl
theorem tf202_0 : tfield E.P 202 0 = some (0, 1) := by kernel_rfl
theorem tf202_1 : tfield E.P 202 1 = some (1, 4) := by kernel_rfl
theorem tf202_2 : tfield E.P 202 2 = some (5, 16) := by kernel_rfl
theorem tf206_0 : tfield E.P 206 0 = some (0, 1) := by kernel_rfl
theorem tf206_1 : tfield E.P 206 1 = some (1, 1) := by kernel_rfl
theorem tf227_0 : tfield E.P 227 0 = some (0, 1) := by kernel_rfl
theorem tf227_1 : tfield E.P 227 1 = some (1, 1) := by kernel_rfl
theorem tf253_0 : tfield E.P 253 0 = some (0, 1) := by kernel_rfl
theorem tf253_1 : tfield E.P 253 1 = some (1, 1) := by kernel_rfl
theorem tf256_0 : tfield E.P 256 0 = some (0, 1) := by kernel_rfl
theorem tp25_0 : tplace E.P 25 0 = some (0, 1) := by kernel_rfl
theorem tp25_1 : tplace E.P 25 1 = some (1, 1) := by kernel_rfl
theorem tp25_2 : tplace E.P 25 2 = some (2, 1) := by kernel_rfl
theorem tp25_3 : tplace E.P 25 3 = some (3, 1) := by kernel_rfl
theorem tp28_0 : tplace E.P 28 0 = some (0, 1) := by kernel_rfl
theorem tp28_1 : tplace E.P 28 1 = some (1, 1) := by kernel_rfl
theorem tp28_3 : tplace E.P 28 3 = some (3, 4) := by kernel_rfl
theorem tp32_0 : tplace E.P 32 0 = some (0, 1) := by kernel_rfl
theorem tp32_1 : tplace E.P 32 1 = some (1, 1) := by kernel_rfl
theorem tp32_2 : tplace E.P 32 2 = some (2, 4) := by kernel_rfl
theorem tp32_3 : tplace E.P 32 3 = some (6, 8) := by kernel_rfl
theorem tp32_4 : tplace E.P 32 4 = some (14, 1) := by kernel_rfl
theorem tp38_0 : tplace E.P 38 0 = some (0, 1) := by kernel_rfl
theorem tp38_1 : tplace E.P 38 1 = some (1, 1) := by kernel_rfl
theorem tp38_2 : tplace E.P 38 2 = some (2, 1) := by kernel_rfl
theorem tp38_3 : tplace E.P 38 3 = some (3, 1) := by kernel_rfl
theorem tp41_0 : tplace E.P 41 0 = some (0, 1) := by kernel_rfl
theorem tp41_1 : tplace E.P 41 1 = some (1, 1) := by kernel_rfl
theorem tp41_2 : tplace E.P 41 2 = some (2, 1) := by kernel_rfl
theorem tp41_3 : tplace E.P 41 3 = some (3, 4) := by kernel_rfl
theorem tp45_0 : tplace E.P 45 0 = some (0, 1) := by kernel_rfl
theorem tp45_1 : tplace E.P 45 1 = some (1, 1) := by kernel_rfl
theorem tp45_2 : tplace E.P 45 2 = some (2, 4) := by kernel_rfl
theorem tp45_3 : tplace E.P 45 3 = some (6, 8) := by kernel_rfl
theorem tp45_4 : tplace E.P 45 4 = some (14, 1) := by kernel_rfl
theorem tp55_2 : tplace E.P 55 2 = some (5, 1) := by kernel_rfl
theorem tp55_3 : tplace E.P 55 3 = some (6, 8) := by kernel_rfl
theorem tp55_4 : tplace E.P 55 4 = some (14, 1) := by kernel_rfl
theorem tp55_5 : tplace E.P 55 5 = some (15, 16) := by kernel_rfl
theorem tp122_0 : tplace E.P 122 0 = some (0, 1) := by kernel_rfl
theorem tp130_0 : tplace E.P 130 0 = some (0, 1) := by kernel_rfl
theorem tp134_0 : tplace E.P 134 0 = some (0, 1) := by kernel_rfl
theorem tp149_0 : tplace E.P 149 0 = some (0, 1) := by kernel_rfl
theorem tp149_1 : tplace E.P 149 1 = some (1, 1) := by kernel_rfl
theorem tp149_2 : tplace E.P 149 2 = some (2, 1) := by kernel_rfl
theorem tp202_0 : tplace E.P 202 0 = some (0, 1) := by kernel_rfl
theorem tp202_1 : tplace E.P 202 1 = some (1, 4) := by kernel_rfl
theorem tp202_2 : tplace E.P 202 2 = some (5, 16) := by kernel_rfl
theorem tp206_0 : tplace E.P 206 0 = some (0, 1) := by kernel_rfl
theorem tp206_1 : tplace E.P 206 1 = some (1, 1) := by kernel_rfl
theorem tp206_2 : tplace E.P 206 2 = some (2, 1) := by kernel_rfl
theorem tp227_0 : tplace E.P 227 0 = some (0, 1) := by kernel_rfl
theorem tp256_0 : tplace E.P 256 0 = some (0, 1) := by kernel_rfl
theorem tz3 : zeroA E.P 3 = some [.int .i64 0] := by kernel_rfl
theorem tz25 : zeroA E.P 25 = some [.int .i64 0, .str [], .int .i64 0, .own 25 0 []] := by kernel_rfl
theorem tz28 : zeroA E.P 28 = some [.int .i64 0, .str [], .int .i64 0, .int .i64 0, .str [], .int .i64 0, .own 25 0 [], .own 28 0 []] := by kernel_rfl
theorem tz32 : zeroA E.P 32 = some [.int .i64 0, .str [], .int .i64 0, .str [], .int .i64 0, .own 25 0 [], .int .i64 0, .str [], .int .i64 0, .int .i64 0, .str [], .int .i64 0, .own 25 0 [], .own 28 0 [], .own 32 0 [], .own 134 0 []] := by kernel_rfl
theorem tz38 : zeroA E.P 38 = some [.int .i64 0, .str [], .int .i64 0, .own 38 0 []] := by kernel_rfl
theorem tz41 : zeroA E.P 41 = some [.int .i64 0, .str [], .int .i64 0, .int .i64 0, .str [], .int .i64 0, .own 38 0 [], .own 41 0 []] := by kernel_rfl
theorem tz45 : zeroA E.P 45 = some [.int .i64 0, .str [], .int .i64 0, .str [], .int .i64 0, .own 38 0 [], .int .i64 0, .str [], .int .i64 0, .int .i64 0, .str [], .int .i64 0, .own 38 0 [], .own 41 0 [], .own 45 0 [], .own 130 0 []] := by kernel_rfl
theorem tz55 : zeroA E.P 55 = some [.str [], .int .i64 0, .str [], .int .i64 0, .own 38 0 [], .str [], .int .i64 0, .str [], .int .i64 0, .int .i64 0, .str [], .int .i64 0, .own 38 0 [], .own 41 0 [], .str [], .int .i64 0, .str [], .int .i64 0, .str [], .int .i64 0, .own 38 0 [], .int .i64 0, .str [], .int .i64 0, .int .i64 0, .str [], .int .i64 0, .own 38 0 [], .own 41 0 [], .own 45 0 [], .own 130 0 []] := by kernel_rfl
theorem tz122 : zeroA E.P 122 = some [.own 206 0 [], .bool false] := by kernel_rfl
theorem tz130 : zeroA E.P 130 = some [.str [], .own 9 0 [], .own 9 0 [], .own 9 0 [], .int .i64 0, .str [], .int .i64 0, .str [], .int .i64 0, .own 38 0 [], .int .i64 0, .str [], .int .i64 0, .int .i64 0, .str [], .int .i64 0, .own 38 0 [], .own 41 0 [], .own 45 0 [], .own 130 0 []] := by kernel_rfl
theorem tz134 : zeroA E.P 134 = some [.str [], .own 9 0 [], .own 9 0 [], .own 9 0 [], .int .i64 0, .str [], .int .i64 0, .str [], .int .i64 0, .own 25 0 [], .int .i64 0, .str [], .int .i64 0, .int .i64 0, .str [], .int .i64 0, .own 25 0 [], .own 28 0 [], .own 32 0 [], .own 134 0 []] := by kernel_rfl
theorem tz149 : zeroA E.P 149 = some [.nilf, .nilf, .nilf] := by kernel_rfl
theorem tz202 : zeroA E.P 202 = some [.str [], .int .i64 0, .str [], .int .i64 0, .own 25 0 [], .int .i64 0, .str [], .int .i64 0, .str [], .int .i64 0, .own 25 0 [], .int .i64 0, .str [], .int .i64 0, .int .i64 0, .str [], .int .i64 0, .own 25 0 [], .own 28 0 [], .own 32 0 [], .own 134 0 []] := by kernel_rfl
theorem tz206 : zeroA E.P 206 = some [.int .i64 0, .str [], .int .i64 0] := by kernel_rfl
theorem tz227 : zeroA E.P 227 = some [.own 206 0 [], .bool false] := by kernel_rfl
theorem tz253 : zeroA E.P 253 = some [.own 9 0 [], .own 9 0 []] := by kernel_rfl
theorem tz256 : zeroA E.P 256 = some [.own 206 0 []] := by kernel_rfl
theorem ti3 : tint E.P 3 = some .i64 := by kernel_rfl
theorem ti5 : tint E.P 5 = some .u8 := by kernel_rfl
theorem ti9 : tint E.P 9 = none := by kernel_rfl
theorem ti25 : tint E.P 25 = none := by kernel_rfl
theorem ti28 : tint E.P 28 = none := by kernel_rfl
theorem ti32 : tint E.P 32 = none := by kernel_rfl
theorem ti38 : tint E.P 38 = none := by kernel_rfl
theorem ti41 : tint E.P 41 = none := by kernel_rfl
theorem ti45 : tint E.P 45 = none := by kernel_rfl
theorem ti130 : tint E.P 130 = none := by kernel_rfl
theorem ti134 : tint E.P 134 = none := by kernel_rfl
theorem ti202 : tint E.P 202 = none := by kernel_rfl
theorem ti206 : tint E.P 206 = none := by kernel_rfl
theorem ti215 : tint E.P 215 = none := by kernel_rfl
theorem tst3 : tstring E.P 3 = false := by kernel_rfl
theorem tst5 : tstring E.P 5 = false := by kernel_rfl
theorem tst9 : tstring E.P 9 = true := by kernel_rfl
theorem tst23 : tstring E.P 23 = false := by kernel_rfl
theorem tst26 : tstring E.P 26 = false := by kernel_rfl
theorem tst29 : tstring E.P 29 = false := by kernel_rfl
theorem tst30 : tstring E.P 30 = false := by kernel_rfl
theorem tst36 : tstring E.P 36 = false := by kernel_rfl
theorem tst39 : tstring E.P 39 = false := by kernel_rfl
theorem tst42 : tstring E.P 42 = false := by kernel_rfl
theorem tst43 : tstring E.P 43 = false := by kernel_rfl
theorem tst49 : tstring E.P 49 = false := by kernel_rfl
theorem tst112 : tstring E.P 112 = false := by kernel_rfl
theorem tst117 : tstring E.P 117 = false := by kernel_rfl
theorem tbo3 : tbool E.P 3 = false := by kernel_rfl
theorem tbo5 : tbool E.P 5 = false := by kernel_rfl
theorem tbo9 : tbool E.P 9 = false := by kernel_rfl
theorem tbo33 : tbool E.P 33 = false := by kernel_rfl
theorem tpt3 : tptr E.P 3 = false := by kernel_rfl
theorem tpt5 : tptr E.P 5 = false := by kernel_rfl
theorem tpt9 : tptr E.P 9 = false := by kernel_rfl
theorem tpt33 : tptr E.P 33 = false := by kernel_rfl
theorem tfo25 : fieldsOK E.P 25 = true := by kernel_rfl
theorem tfo28 : fieldsOK E.P 28 = true := by kernel_rfl
theorem tfo32 : fieldsOK E.P 32 = true := by kernel_rfl
theorem tfo38 : fieldsOK E.P 38 = true := by kernel_rfl
theorem tfo41 : fieldsOK E.P 41 = true := by kernel_rfl
theorem tfo45 : fieldsOK E.P 45 = true := by kernel_rfl
theorem tfo55 : fieldsOK E.P 55 = true := by kernel_rfl
theorem tfo122 : fieldsOK E.P 122 = true := by kernel_rfl
theorem tfo130 : fieldsOK E.P 130 = true := by kernel_rfl
theorem tfo134 : fieldsOK E.P 134 = true := by kernel_rfl
theorem tfo149 : fieldsOK E.P 149 = true := by kernel_rfl
theorem tfo202 : fieldsOK E.P 202 = true := by kernel_rfl
theorem tfo206 : fieldsOK E.P 206 = true := by kernel_rfl
theorem tfo227 : fieldsOK E.P 227 = true := by kernel_rfl
theorem tfo253 : fieldsOK E.P 253 = true := by kernel_rfl
theorem tfo256 : fieldsOK E.P 256 = true := by kernel_rfl
theorem tze5 : tzero E.P 5 = some 1 := by kernel_rfl
theorem tze9 : tzero E.P 9 = some 1 := by kernel_rfl
theorem tze25 : tzero E.P 25 = some 4 := by kernel_rfl
theorem tze28 : tzero E.P 28 = some 8 := by kernel_rfl
theorem tze32 : tzero E.P 32 = some 16 := by kernel_rfl
theorem tze38 : tzero E.P 38 = some 4 := by kernel_rfl
theorem tze41 : tzero E.P 41 = some 8 := by kernel_rfl
theorem tze45 : tzero E.P 45 = some 16 := by kernel_rfl
theorem tze130 : tzero E.P 130 = some 20 := by kernel_rfl
theorem tze134 : tzero E.P 134 = some 20 := by kernel_rfl
theorem tze202 : tzero E.P 202 = some 21 := by kernel_rfl
theorem tze206 : tzero E.P 206 = some 3 := by kernel_rfl
theorem tu3 : (E.P.underlying 3).isSome = true := by kernel_rfl
theorem tu5 : (E.P.underlying 5).isSome = true := by kernel_rfl
theorem tu215 : (E.P.underlying 215).isSome = true := by kernel_rfl
theorem tby9 : (E.P.bytesOf 9 ≤ 32768) = True := by rw [show E.P.bytesOf 9 = 16 from by kernel_rfl]; simp
theorem tby25 : (E.P.bytesOf 25 ≤ 32768) = True := by rw [show E.P.bytesOf 25 = 56 from by kernel_rfl]; simp
theorem tby28 : (E.P.bytesOf 28 ≤ 32768) = True := by rw [show E.P.bytesOf 28 = 112 from by kernel_rfl]; simp
theorem tby32 : (E.P.bytesOf 32 ≤ 32768) = True := by rw [show E.P.bytesOf 32 = 240 from by kernel_rfl]; simp
theorem tby38 : (E.P.bytesOf 38 ≤ 32768) = True := by rw [show E.P.bytesOf 38 = 56 from by kernel_rfl]; simp
theorem tby41 : (E.P.bytesOf 41 ≤ 32768) = True := by rw [show E.P.bytesOf 41 = 112 from by kernel_rfl]; simp
theorem tby45 : (E.P.bytesOf 45 ≤ 32768) = True := by rw [show E.P.bytesOf 45 = 240 from by kernel_rfl]; simp
theorem tby130 : (E.P.bytesOf 130 ≤ 32768) = True := by rw [show E.P.bytesOf 130 = 328 from by kernel_rfl]; simp
theorem tby134 : (E.P.bytesOf 134 ≤ 32768) = True := by rw [show E.P.bytesOf 134 = 328 from by kernel_rfl]; simp
theorem tby202 : (E.P.bytesOf 202 ≤ 32768) = True := by rw [show E.P.bytesOf 202 = 312 from by kernel_rfl]; simp
theorem tby206 : (E.P.bytesOf 206 ≤ 32768) = True := by rw [show E.P.bytesOf 206 = 32 from by kernel_rfl]; simp
attribute [go_sem] live_12_0 live_13_0 live_13_2 live_14_0 live_14_2 live_16_1 live_17_0 live_17_2 live_18_1 live_18_3 live_18_5 live_18_7 live_21_0 live_42_0 live_42_2 live_43_0 live_45_0 live_47_0 live_47_2 live_48_0 live_48_2 live_50_0 live_50_2 live_51_0 live_53_0 live_54_0 live_54_2 live_58_1 live_58_3 live_59_2 live_60_0 live_60_2 live_63_0 live_64_1 live_64_3 live_65_0 live_67_0 live_68_0 live_69_0 live_74_1
attribute [go_sem] live_88_0 live_94_0 live_94_2 live_95_0 live_110_0 live_113_0 live_113_2 live_117_0 live_118_0 live_119_0 live_128_0 live_132_0 live_133_0 live_152_0 live_152_2 live_152_4 live_157_0 live_164_0 live_171_0 live_175_0 live_178_0 live_186_0 live_186_3 live_186_5 live_216_0 live_216_2 live_217_0 live_224_0 live_224_2 live_224_4 live_225_0 live_248_0 drw_3_8 drw_4_8 drw_13_1 drw_16_6 drw_16_8 drw_16_10 drw_16_12 drw_16_14
attribute [go_sem] drw_16_16 drw_16_18 drw_16_25 drw_17_14 drw_17_15 drw_18_6 drw_18_8 drw_18_10 drw_18_12 drw_18_14 drw_18_16 drw_18_18 drw_18_19 drw_42_11 drw_43_5 drw_45_9 drw_45_10 drw_45_6 drw_49_11 drw_58_9 drw_58_13 drw_60_13 drw_62_1 drw_63_13 drw_64_18 drw_64_19 drw_66_5 drw_84_3 drw_87_5 drw_94_13 drw_112_4 drw_112_15 drw_112_20 drw_112_22 drw_112_24 drw_112_25 drw_113_31 drw_116_12 drw_116_18 drw_118_5
attribute [go_sem] drw_118_9 drw_127_1 drw_128_7 drw_152_6 drw_152_18 drw_152_19 drw_152_23 drw_171_9 drw_171_11 drw_178_20 drw_186_18 drw_186_26 drw_216_12 drw_224_3 drw_224_5 drw_224_7 res_3 res_4 res_9 res_10 res_11
attribute [go_sem] res_12 res_13 res_14 res_15 res_16 res_17 res_18 res_19
attribute [go_sem] res_20 res_21 res_22 res_42 res_43 res_44 res_45 res_46
attribute [go_sem] res_47 res_48 res_49 res_50 res_51 res_52 res_53 res_54
attribute [go_sem] res_55 res_56 res_57 res_58 res_59 res_60 res_62 res_63
attribute [go_sem] res_64 res_65 res_66 res_67 res_68 res_69 res_70 res_71
attribute [go_sem] res_72 res_73 res_74 res_75 res_76 res_84 res_87 res_88
attribute [go_sem] res_94 res_95 res_105 res_106 res_107 res_108 res_109 res_110
attribute [go_sem] res_111 res_112 res_113 res_114 res_115 res_116 res_117 res_118
attribute [go_sem] res_119 res_121 res_122 res_123 res_127 res_128 res_129 res_130
attribute [go_sem] res_131 res_132 res_133 res_152 res_153 res_157 res_161 res_162
attribute [go_sem] res_163 res_164 res_165 res_166 res_167 res_168 res_169 res_171
attribute [go_sem] res_172 res_173 res_174 res_175 res_176 res_177 res_178 res_179
attribute [go_sem] res_183 res_184 res_185 res_186 res_215 res_216 res_217 res_219
attribute [go_sem] res_222 res_224 res_225 res_246 res_247 res_248 ts3 ts4 ts5 ts9 ts23 ts25 ts26 ts28 ts29
attribute [go_sem] ts30 ts32 ts36 ts38 ts39 ts41 ts42 ts43 ts45 ts49 ts55 ts82 ts117 ts122 ts130 ts134 ts146 ts147 ts149 ts202 ts206 ts227 ts253 ts256 gift_118 tsM tg3 tg4 tg9 tg23 tg25 tg26 tg28 tg29 tg30 tg32 tg36 tg38 tg39 tg41
attribute [go_sem] tg42 tg43 tg45 tg49 tg55 tg82 tg117 tg130 tg134 tg146 tg147 tg149 tg202 tg253 te3 te4 te5 te9 te23 te25 te26 te28 te29 te30 te32 te33 te34 te36 te38 te39 te41 te42 te43 te45 te46 te49 te57 te59 te112 te113
attribute [go_sem] te117 te118 te120 te125 te130 te132 te134 te135 te139 te141 te142 te143 te177 te185 te198 te202 te215 te220 te221 te225 te238 te253 te254 te257 te270 te281 tf25_0 tf25_1 tf25_2 tf25_3 tf28_0 tf28_1 tf28_2 tf28_3 tf28_4 tf32_0 tf32_1 tf32_2 tf32_3 tf32_4
attribute [go_sem] tf32_5 tf38_0 tf38_1 tf38_2 tf38_3 tf41_0 tf41_1 tf41_2 tf41_3 tf41_4 tf45_0 tf45_1 tf45_2 tf45_3 tf45_4 tf45_5 tf55_0 tf55_1 tf55_2 tf55_3 tf55_4 tf55_5 tf122_0 tf122_1 tf130_0 tf130_1 tf130_2 tf130_3 tf130_4 tf134_0 tf134_1 tf134_2 tf134_3 tf134_4 tf149_0 tf149_1 tf149_2 tf202_0 tf202_1 tf202_2
attribute [go_sem] tf206_0 tf206_1 tf227_0 tf227_1 tf253_0 tf253_1 tf256_0 tp25_0 tp25_1 tp25_2 tp25_3 tp28_0 tp28_1 tp28_3 tp32_0 tp32_1 tp32_2 tp32_3 tp32_4 tp38_0 tp38_1 tp38_2 tp38_3 tp41_0 tp41_1 tp41_2 tp41_3 tp45_0 tp45_1 tp45_2 tp45_3 tp45_4 tp55_2 tp55_3 tp55_4 tp55_5 tp122_0 tp130_0 tp134_0 tp149_0
attribute [go_sem] tp149_1 tp149_2 tp202_0 tp202_1 tp202_2 tp206_0 tp206_1 tp206_2 tp227_0 tp256_0 tz3 tz25 tz28 tz32 tz38 tz41 tz45 tz55 tz122 tz130 tz134 tz149 tz202 tz206 tz227 tz253 tz256 ti3 ti5 ti9 ti25 ti28 ti32 ti38 ti41 ti45 ti130 ti134 ti202 ti206
attribute [go_sem] ti215 tst3 tst5 tst9 tst23 tst26 tst29 tst30 tst36 tst39 tst42 tst43 tst49 tst112 tst117 tbo3 tbo5 tbo9 tbo33 tpt3 tpt5 tpt9 tpt33 tfo25 tfo28 tfo32 tfo38 tfo41 tfo45 tfo55 tfo122 tfo130 tfo134 tfo149 tfo202 tfo206 tfo227 tfo253 tfo256 tze5
attribute [go_sem] tze9 tze25 tze28 tze32 tze38 tze41 tze45 tze130 tze134 tze202 tze206 tu3 tu5 tu215 tby9 tby25 tby28 tby32 tby38 tby41 tby45 tby130 tby134 tby202 tby206
end Go.Proofs
