/- The program as the abstract machine sees it: what is alive at each loop, which operations may be drawn, sizes of types. -/
import Derived.Test.YtnodmhkacfcmfaaGreatDoorAvD
import Derived.Test.YtnodmhkacfcmfaaGreatDoorProg
import Derived.KernelRfl
namespace Go.Proofs
open Go.Av
def liveT : List (Nat × (List Nat × List Nat)) := [(3000, ([2, 7, 8, 10, 12, 13, 14, 15], [8, 10])),
  (3002, ([2, 7, 12, 13, 17, 18, 19], [])),
  (3004, ([2, 7, 12, 13, 17, 18, 22], [])),
  (3006, ([7, 13, 17, 18, 24], [])),
  (8000, ([0, 1, 5], [])),
  (9001, ([1, 3, 5, 6, 7, 43, 44, 45], [3, 5, 6, 42, 73])),
  (9003, ([1, 3, 5, 6, 7, 10, 74, 75, 76], [3, 5, 6, 42, 73])),
  (11000, ([1, 2, 3, 5], [1, 3])),
  (12001, ([0, 2, 6], [2, 6])),
  (13000, ([3, 7, 8, 9], [])),
  (14000, ([3, 17, 18, 19], [])),
  (15001, ([1, 2, 3, 4, 55, 56, 57], [4])),
  (15003, ([1, 2, 3, 68, 69, 70], [])),
  (20000, ([1, 6, 7, 8], [])),
  (24000, ([5, 7, 9, 11, 13, 15, 17, 18, 19], [5, 7, 13, 15])),
  (25000, ([0, 2, 4, 6, 8, 9], [4, 6])),
  (27001, ([1, 4, 68, 69, 70], [1])),
  (30000, ([0, 3, 4], [])),
  (34000, ([0, 1], [])),
  (38000, ([3, 16, 17, 18], [])),
  (39000, ([3, 7, 8, 9], [])),
  (40000, ([0, 9, 10, 11], [])),
  (41000, ([0, 1, 7, 8], [])),
  (42000, ([7, 8], [22])),
  (42002, ([8, 50, 51, 52], [])),
  (43000, ([4, 7, 8, 9], [])),
  (43002, ([7, 12], [])),
  (46000, ([2, 7, 8, 9], [2])),
  (47001, ([3, 22, 23, 24], [])),
  (47003, ([6, 7], [7])),
  (51000, ([0, 1, 5], [])),
  (59000, ([0, 3], [])),
  (62000, ([1, 6, 7, 8], [1])),
  (63000, ([0, 5, 6], [])),
  (63002, ([0, 5, 6], [])),
  (64000, ([0, 4, 7, 9, 11], [4, 7])),
  (66000, ([1, 3], [1])),
  (67000, ([0, 4, 19, 20, 22], [4, 20])),
  (67002, ([0, 4, 26, 27], [4, 26])),
  (68000, ([3, 4], [])),
  (69000, ([3, 4, 5], [])),
  (70000, ([1, 3], [1])),
  (72000, ([0, 1, 7, 8], [])),
  (74001, ([2, 5, 8, 66, 67, 68], [2, 8])),
  (86000, ([0, 1, 7], [])),
  (86002, ([0, 1, 11, 12], [])),
  (88000, ([0, 1, 6, 7], [])),
  (92000, ([1, 3, 4], [1])),
  (94000, ([1, 3, 4], [1])),
  (96000, ([0, 1, 7, 8], [])),
  (105000, ([0, 1, 5], [])),
  (106000, ([0, 1, 4, 7], [4])),
  (106002, ([0, 1, 4, 9, 10, 11], [4, 9])),
  (111000, ([0, 2, 4], [2])),
  (111002, ([2, 4, 9, 10, 11], [2, 9])),
  (112000, ([0, 2, 6], [2, 6])),
  (113000, ([0, 4, 7, 8], [4, 7])),
  (127000, ([0, 3, 4], []))]
def drwT : List (Nat × List (Nat × Nat)) := [(10005, [(4, 2)]),
  (11009, []),
  (11010, []),
  (11006, [(0, 4)]),
  (12014, []),
  (12017, [(0, 2)]),
  (15004, [(1, 8), (3, 8)]),
  (15007, [(1, 8), (3, 8)]),
  (15017, [(1, 5)]),
  (24006, [(1, 3)]),
  (24013, []),
  (24014, []),
  (24015, [(3, 5)]),
  (26003, []),
  (27003, [(1, 8)]),
  (27005, [(8, 5), (10, 5)]),
  (27010, [(10, 6), (12, 6)]),
  (27016, [(10, 6), (10, 7)]),
  (27020, [(8, 4)]),
  (33007, [(0, 2)]),
  (35000, [(8, 4)]),
  (36008, [(2, 1)]),
  (45014, []),
  (45018, []),
  (47009, [(1, 3)]),
  (47013, [(13, 10), (15, 10)]),
  (64018, [(0, 3)]),
  (64023, [(3, 2)]),
  (64025, [(3, 2)]),
  (67005, [(4, 3)]),
  (67035, [(0, 3)]),
  (70005, []),
  (71001, []),
  (74017, []),
  (83005, [(4, 5)]),
  (85003, []),
  (86031, []),
  (93016, [(0, 3)]),
  (106013, []),
  (111012, [])]
def keepT : List Nat := []
def primT : List (Nat × (List AVal → Heap → Option (AVal × Heap))) := [(48, joinP), (75, itoaP), (126, atoiQ), (57, indexByteP), (60, cloneP)]
def frzT : List (Nat × List (Nat × List (Nat × Nat))) := [(9, [(19, [(7, 26), (10, 27)])]), (40, [(7, [(0, 47)])]), (70, [(5, [(3, 26)])]), (71, [(6, [(6, 26)])])]
def mkmT : List (Nat × Nat) := [(47, 10)]
def lendT : List (Nat × List (Nat × Nat)) := []
def clnT : List (Nat × Nat) := [(21, 29), (22, 54)]
def rvsT : List (Nat × Nat) := [(95, 29)]
def xopT : List (Nat × List (Nat × Nat)) := [(9, [(5, 2), (12, 2)]), (70, [(3, 6), (4, 1)]), (71, [(4, 2)])]
noncomputable def E : Env := { P := Tryz.prog, cln := fun f => alGet clnT f, rvs := fun f => alGet rvsT f, xop := fun f => (alGet xopT f).getD [], mkm := fun T _ d => mkmT.contains (T, d.getD 0), lend := fun f => (alGet lendT f).getD [], frz := fun f => (alGet frzT f).getD [], live := fun f id => alGet liveT (f * 1000 + id), drw := fun f id => alGet drwT (f * 1000 + id), keep := fun f => keepT.contains f, prim := fun f => alGet primT f }
theorem live_3_0 : E.live 3 0 = some ([2, 7, 8, 10, 12, 13, 14, 15], [8, 10]) := by kernel_rfl
theorem live_3_2 : E.live 3 2 = some ([2, 7, 12, 13, 17, 18, 19], []) := by kernel_rfl
theorem live_3_4 : E.live 3 4 = some ([2, 7, 12, 13, 17, 18, 22], []) := by kernel_rfl
theorem live_3_6 : E.live 3 6 = some ([7, 13, 17, 18, 24], []) := by kernel_rfl
theorem live_8_0 : E.live 8 0 = some ([0, 1, 5], []) := by kernel_rfl
theorem live_9_1 : E.live 9 1 = some ([1, 3, 5, 6, 7, 43, 44, 45], [3, 5, 6, 42, 73]) := by kernel_rfl
theorem live_9_3 : E.live 9 3 = some ([1, 3, 5, 6, 7, 10, 74, 75, 76], [3, 5, 6, 42, 73]) := by kernel_rfl
theorem live_11_0 : E.live 11 0 = some ([1, 2, 3, 5], [1, 3]) := by kernel_rfl
theorem live_12_1 : E.live 12 1 = some ([0, 2, 6], [2, 6]) := by kernel_rfl
theorem live_13_0 : E.live 13 0 = some ([3, 7, 8, 9], []) := by kernel_rfl
theorem live_14_0 : E.live 14 0 = some ([3, 17, 18, 19], []) := by kernel_rfl
theorem live_15_1 : E.live 15 1 = some ([1, 2, 3, 4, 55, 56, 57], [4]) := by kernel_rfl
theorem live_15_3 : E.live 15 3 = some ([1, 2, 3, 68, 69, 70], []) := by kernel_rfl
theorem live_20_0 : E.live 20 0 = some ([1, 6, 7, 8], []) := by kernel_rfl
theorem live_24_0 : E.live 24 0 = some ([5, 7, 9, 11, 13, 15, 17, 18, 19], [5, 7, 13, 15]) := by kernel_rfl
theorem live_25_0 : E.live 25 0 = some ([0, 2, 4, 6, 8, 9], [4, 6]) := by kernel_rfl
theorem live_27_1 : E.live 27 1 = some ([1, 4, 68, 69, 70], [1]) := by kernel_rfl
theorem live_30_0 : E.live 30 0 = some ([0, 3, 4], []) := by kernel_rfl
theorem live_34_0 : E.live 34 0 = some ([0, 1], []) := by kernel_rfl
theorem live_38_0 : E.live 38 0 = some ([3, 16, 17, 18], []) := by kernel_rfl
theorem live_39_0 : E.live 39 0 = some ([3, 7, 8, 9], []) := by kernel_rfl
theorem live_40_0 : E.live 40 0 = some ([0, 9, 10, 11], []) := by kernel_rfl
theorem live_41_0 : E.live 41 0 = some ([0, 1, 7, 8], []) := by kernel_rfl
theorem live_42_0 : E.live 42 0 = some ([7, 8], [22]) := by kernel_rfl
theorem live_42_2 : E.live 42 2 = some ([8, 50, 51, 52], []) := by kernel_rfl
theorem live_43_0 : E.live 43 0 = some ([4, 7, 8, 9], []) := by kernel_rfl
theorem live_43_2 : E.live 43 2 = some ([7, 12], []) := by kernel_rfl
theorem live_46_0 : E.live 46 0 = some ([2, 7, 8, 9], [2]) := by kernel_rfl
theorem live_47_1 : E.live 47 1 = some ([3, 22, 23, 24], []) := by kernel_rfl
theorem live_47_3 : E.live 47 3 = some ([6, 7], [7]) := by kernel_rfl
theorem live_51_0 : E.live 51 0 = some ([0, 1, 5], []) := by kernel_rfl
theorem live_59_0 : E.live 59 0 = some ([0, 3], []) := by kernel_rfl
theorem live_62_0 : E.live 62 0 = some ([1, 6, 7, 8], [1]) := by kernel_rfl
theorem live_63_0 : E.live 63 0 = some ([0, 5, 6], []) := by kernel_rfl
theorem live_63_2 : E.live 63 2 = some ([0, 5, 6], []) := by kernel_rfl
theorem live_64_0 : E.live 64 0 = some ([0, 4, 7, 9, 11], [4, 7]) := by kernel_rfl
theorem live_66_0 : E.live 66 0 = some ([1, 3], [1]) := by kernel_rfl
theorem live_67_0 : E.live 67 0 = some ([0, 4, 19, 20, 22], [4, 20]) := by kernel_rfl
theorem live_67_2 : E.live 67 2 = some ([0, 4, 26, 27], [4, 26]) := by kernel_rfl
theorem live_68_0 : E.live 68 0 = some ([3, 4], []) := by kernel_rfl
theorem live_69_0 : E.live 69 0 = some ([3, 4, 5], []) := by kernel_rfl
theorem live_70_0 : E.live 70 0 = some ([1, 3], [1]) := by kernel_rfl
theorem live_72_0 : E.live 72 0 = some ([0, 1, 7, 8], []) := by kernel_rfl
theorem live_74_1 : E.live 74 1 = some ([2, 5, 8, 66, 67, 68], [2, 8]) := by kernel_rfl
theorem live_86_0 : E.live 86 0 = some ([0, 1, 7], []) := by kernel_rfl
theorem live_86_2 : E.live 86 2 = some ([0, 1, 11, 12], []) := by kernel_rfl
theorem live_88_0 : E.live 88 0 = some ([0, 1, 6, 7], []) := by kernel_rfl
theorem live_92_0 : E.live 92 0 = some ([1, 3, 4], [1]) := by kernel_rfl
theorem live_94_0 : E.live 94 0 = some ([1, 3, 4], [1]) := by kernel_rfl
theorem live_96_0 : E.live 96 0 = some ([0, 1, 7, 8], []) := by kernel_rfl
theorem live_105_0 : E.live 105 0 = some ([0, 1, 5], []) := by kernel_rfl
theorem live_106_0 : E.live 106 0 = some ([0, 1, 4, 7], [4]) := by kernel_rfl
theorem live_106_2 : E.live 106 2 = some ([0, 1, 4, 9, 10, 11], [4, 9]) := by kernel_rfl
theorem live_111_0 : E.live 111 0 = some ([0, 2, 4], [2]) := by kernel_rfl
theorem live_111_2 : E.live 111 2 = some ([2, 4, 9, 10, 11], [2, 9]) := by kernel_rfl
theorem live_112_0 : E.live 112 0 = some ([0, 2, 6], [2, 6]) := by kernel_rfl
theorem live_113_0 : E.live 113 0 = some ([0, 4, 7, 8], [4, 7]) := by kernel_rfl
theorem live_127_0 : E.live 127 0 = some ([0, 3, 4], []) := by kernel_rfl
theorem drw_10_5 : E.drw 10 5 = some [(4, 2)] := by kernel_rfl
theorem drw_11_9 : E.drw 11 9 = some [] := by kernel_rfl
theorem drw_11_10 : E.drw 11 10 = some [] := by kernel_rfl
theorem drw_11_6 : E.drw 11 6 = some [(0, 4)] := by kernel_rfl
theorem drw_12_14 : E.drw 12 14 = some [] := by kernel_rfl
theorem drw_12_17 : E.drw 12 17 = some [(0, 2)] := by kernel_rfl
theorem drw_15_4 : E.drw 15 4 = some [(1, 8), (3, 8)] := by kernel_rfl
theorem drw_15_7 : E.drw 15 7 = some [(1, 8), (3, 8)] := by kernel_rfl
theorem drw_15_17 : E.drw 15 17 = some [(1, 5)] := by kernel_rfl
theorem drw_24_6 : E.drw 24 6 = some [(1, 3)] := by kernel_rfl
theorem drw_24_13 : E.drw 24 13 = some [] := by kernel_rfl
theorem drw_24_14 : E.drw 24 14 = some [] := by kernel_rfl
theorem drw_24_15 : E.drw 24 15 = some [(3, 5)] := by kernel_rfl
theorem drw_26_3 : E.drw 26 3 = some [] := by kernel_rfl
theorem drw_27_3 : E.drw 27 3 = some [(1, 8)] := by kernel_rfl
theorem drw_27_5 : E.drw 27 5 = some [(8, 5), (10, 5)] := by kernel_rfl
theorem drw_27_10 : E.drw 27 10 = some [(10, 6), (12, 6)] := by kernel_rfl
theorem drw_27_16 : E.drw 27 16 = some [(10, 6), (10, 7)] := by kernel_rfl
theorem drw_27_20 : E.drw 27 20 = some [(8, 4)] := by kernel_rfl
theorem drw_33_7 : E.drw 33 7 = some [(0, 2)] := by kernel_rfl
theorem drw_35_0 : E.drw 35 0 = some [(8, 4)] := by kernel_rfl
theorem drw_36_8 : E.drw 36 8 = some [(2, 1)] := by kernel_rfl
theorem drw_45_14 : E.drw 45 14 = some [] := by kernel_rfl
theorem drw_45_18 : E.drw 45 18 = some [] := by kernel_rfl
theorem drw_47_9 : E.drw 47 9 = some [(1, 3)] := by kernel_rfl
theorem drw_47_13 : E.drw 47 13 = some [(13, 10), (15, 10)] := by kernel_rfl
theorem drw_64_18 : E.drw 64 18 = some [(0, 3)] := by kernel_rfl
theorem drw_64_23 : E.drw 64 23 = some [(3, 2)] := by kernel_rfl
theorem drw_64_25 : E.drw 64 25 = some [(3, 2)] := by kernel_rfl
theorem drw_67_5 : E.drw 67 5 = some [(4, 3)] := by kernel_rfl
theorem drw_67_35 : E.drw 67 35 = some [(0, 3)] := by kernel_rfl
theorem drw_70_5 : E.drw 70 5 = some [] := by kernel_rfl
theorem drw_71_1 : E.drw 71 1 = some [] := by kernel_rfl
theorem drw_74_17 : E.drw 74 17 = some [] := by kernel_rfl
theorem drw_83_5 : E.drw 83 5 = some [(4, 5)] := by kernel_rfl
theorem drw_85_3 : E.drw 85 3 = some [] := by kernel_rfl
theorem drw_86_31 : E.drw 86 31 = some [] := by kernel_rfl
theorem drw_93_16 : E.drw 93 16 = some [(0, 3)] := by kernel_rfl
theorem drw_106_13 : E.drw 106 13 = some [] := by kernel_rfl
theorem drw_111_12 : E.drw 111 12 = some [] := by kernel_rfl
theorem body_3 : bodyOf E 3 = Tryz.f3.body := by kernel_rfl
theorem prim_3 : E.prim 3 = none := by kernel_rfl
theorem res_3 : resOf E 3 = some [.tmp 6] := by kernel_rfl
theorem frz_3 : E.frz 3 = [] := by kernel_rfl
theorem lend_3 : E.lend 3 = [] := by kernel_rfl
theorem xop_3 : E.xop 3 = [] := by kernel_rfl
theorem keep_3 : E.keep 3 = false := by kernel_rfl
theorem body_4 : bodyOf E 4 = Tryz.f4.body := by kernel_rfl
theorem prim_4 : E.prim 4 = none := by kernel_rfl
theorem res_4 : resOf E 4 = some [.tmp 0] := by kernel_rfl
theorem frz_4 : E.frz 4 = [] := by kernel_rfl
theorem lend_4 : E.lend 4 = [] := by kernel_rfl
theorem xop_4 : E.xop 4 = [] := by kernel_rfl
theorem keep_4 : E.keep 4 = false := by kernel_rfl
theorem body_5 : bodyOf E 5 = Tryz.f5.body := by kernel_rfl
theorem prim_5 : E.prim 5 = none := by kernel_rfl
theorem res_5 : resOf E 5 = some [.cell 2 29, .tmp 3] := by kernel_rfl
theorem frz_5 : E.frz 5 = [] := by kernel_rfl
theorem lend_5 : E.lend 5 = [] := by kernel_rfl
theorem xop_5 : E.xop 5 = [] := by kernel_rfl
theorem keep_5 : E.keep 5 = false := by kernel_rfl
theorem body_6 : bodyOf E 6 = Tryz.f6.body := by kernel_rfl
theorem prim_6 : E.prim 6 = none := by kernel_rfl
theorem res_6 : resOf E 6 = some [.tmp 2] := by kernel_rfl
theorem frz_6 : E.frz 6 = [] := by kernel_rfl
theorem lend_6 : E.lend 6 = [] := by kernel_rfl
theorem xop_6 : E.xop 6 = [] := by kernel_rfl
theorem keep_6 : E.keep 6 = false := by kernel_rfl
theorem body_7 : bodyOf E 7 = Tryz.f7.body := by kernel_rfl
theorem prim_7 : E.prim 7 = none := by kernel_rfl
theorem res_7 : resOf E 7 = some [.tmp 2] := by kernel_rfl
theorem frz_7 : E.frz 7 = [] := by kernel_rfl
theorem lend_7 : E.lend 7 = [] := by kernel_rfl
theorem xop_7 : E.xop 7 = [] := by kernel_rfl
theorem keep_7 : E.keep 7 = false := by kernel_rfl
theorem body_8 : bodyOf E 8 = Tryz.f8.body := by kernel_rfl
theorem prim_8 : E.prim 8 = none := by kernel_rfl
theorem res_8 : resOf E 8 = some [.tmp 4] := by kernel_rfl
theorem frz_8 : E.frz 8 = [] := by kernel_rfl
theorem lend_8 : E.lend 8 = [] := by kernel_rfl
theorem xop_8 : E.xop 8 = [] := by kernel_rfl
theorem keep_8 : E.keep 8 = false := by kernel_rfl
theorem body_9 : bodyOf E 9 = Tryz.f9.body := by kernel_rfl
theorem prim_9 : E.prim 9 = none := by kernel_rfl
theorem res_9 : resOf E 9 = some [.cell 6 29] := by kernel_rfl
theorem frz_9 : E.frz 9 = [(19, [(7, 26), (10, 27)])] := by kernel_rfl
theorem lend_9 : E.lend 9 = [] := by kernel_rfl
theorem xop_9 : E.xop 9 = [(5, 2), (12, 2)] := by kernel_rfl
theorem keep_9 : E.keep 9 = false := by kernel_rfl
theorem body_10 : bodyOf E 10 = Tryz.f10.body := by kernel_rfl
theorem prim_10 : E.prim 10 = none := by kernel_rfl
theorem res_10 : resOf E 10 = some [.tmp 6] := by kernel_rfl
theorem frz_10 : E.frz 10 = [] := by kernel_rfl
theorem lend_10 : E.lend 10 = [] := by kernel_rfl
theorem xop_10 : E.xop 10 = [] := by kernel_rfl
theorem keep_10 : E.keep 10 = false := by kernel_rfl
theorem body_11 : bodyOf E 11 = Tryz.f11.body := by kernel_rfl
theorem prim_11 : E.prim 11 = none := by kernel_rfl
theorem res_11 : resOf E 11 = some [.tmp 2, .cell 3 3, .tmp 4] := by kernel_rfl
theorem frz_11 : E.frz 11 = [] := by kernel_rfl
theorem lend_11 : E.lend 11 = [] := by kernel_rfl
theorem xop_11 : E.xop 11 = [] := by kernel_rfl
theorem keep_11 : E.keep 11 = false := by kernel_rfl
theorem body_12 : bodyOf E 12 = Tryz.f12.body := by kernel_rfl
theorem prim_12 : E.prim 12 = none := by kernel_rfl
theorem res_12 : resOf E 12 = some [.cell 2 29] := by kernel_rfl
theorem frz_12 : E.frz 12 = [] := by kernel_rfl
theorem lend_12 : E.lend 12 = [] := by kernel_rfl
theorem xop_12 : E.xop 12 = [] := by kernel_rfl
theorem keep_12 : E.keep 12 = false := by kernel_rfl
theorem body_13 : bodyOf E 13 = Tryz.f13.body := by kernel_rfl
theorem prim_13 : E.prim 13 = none := by kernel_rfl
theorem res_13 : resOf E 13 = some [.tmp 2] := by kernel_rfl
theorem frz_13 : E.frz 13 = [] := by kernel_rfl
theorem lend_13 : E.lend 13 = [] := by kernel_rfl
theorem xop_13 : E.xop 13 = [] := by kernel_rfl
theorem keep_13 : E.keep 13 = false := by kernel_rfl
theorem body_14 : bodyOf E 14 = Tryz.f14.body := by kernel_rfl
theorem prim_14 : E.prim 14 = none := by kernel_rfl
theorem res_14 : resOf E 14 = some [.tmp 2] := by kernel_rfl
theorem frz_14 : E.frz 14 = [] := by kernel_rfl
theorem lend_14 : E.lend 14 = [] := by kernel_rfl
theorem xop_14 : E.xop 14 = [] := by kernel_rfl
theorem keep_14 : E.keep 14 = false := by kernel_rfl
theorem body_15 : bodyOf E 15 = Tryz.f15.body := by kernel_rfl
theorem prim_15 : E.prim 15 = none := by kernel_rfl
theorem res_15 : resOf E 15 = some [] := by kernel_rfl
theorem frz_15 : E.frz 15 = [] := by kernel_rfl
theorem lend_15 : E.lend 15 = [] := by kernel_rfl
theorem xop_15 : E.xop 15 = [] := by kernel_rfl
theorem keep_15 : E.keep 15 = false := by kernel_rfl
theorem body_16 : bodyOf E 16 = Tryz.f16.body := by kernel_rfl
theorem prim_16 : E.prim 16 = none := by kernel_rfl
theorem res_16 : resOf E 16 = some [] := by kernel_rfl
theorem frz_16 : E.frz 16 = [] := by kernel_rfl
theorem lend_16 : E.lend 16 = [] := by kernel_rfl
theorem xop_16 : E.xop 16 = [] := by kernel_rfl
theorem keep_16 : E.keep 16 = false := by kernel_rfl
theorem body_17 : bodyOf E 17 = Tryz.f17.body := by kernel_rfl
theorem prim_17 : E.prim 17 = none := by kernel_rfl
theorem res_17 : resOf E 17 = some [] := by kernel_rfl
theorem frz_17 : E.frz 17 = [] := by kernel_rfl
theorem lend_17 : E.lend 17 = [] := by kernel_rfl
theorem xop_17 : E.xop 17 = [] := by kernel_rfl
theorem keep_17 : E.keep 17 = false := by kernel_rfl
theorem body_18 : bodyOf E 18 = Tryz.f18.body := by kernel_rfl
theorem prim_18 : E.prim 18 = none := by kernel_rfl
theorem res_18 : resOf E 18 = some [] := by kernel_rfl
theorem frz_18 : E.frz 18 = [] := by kernel_rfl
theorem lend_18 : E.lend 18 = [] := by kernel_rfl
theorem xop_18 : E.xop 18 = [] := by kernel_rfl
theorem keep_18 : E.keep 18 = false := by kernel_rfl
theorem body_19 : bodyOf E 19 = Tryz.f19.body := by kernel_rfl
theorem prim_19 : E.prim 19 = none := by kernel_rfl
theorem res_19 : resOf E 19 = some [] := by kernel_rfl
theorem frz_19 : E.frz 19 = [] := by kernel_rfl
theorem lend_19 : E.lend 19 = [] := by kernel_rfl
theorem xop_19 : E.xop 19 = [] := by kernel_rfl
theorem keep_19 : E.keep 19 = false := by kernel_rfl
theorem body_20 : bodyOf E 20 = Tryz.f20.body := by kernel_rfl
theorem prim_20 : E.prim 20 = none := by kernel_rfl
theorem res_20 : resOf E 20 = some [] := by kernel_rfl
theorem frz_20 : E.frz 20 = [] := by kernel_rfl
theorem lend_20 : E.lend 20 = [] := by kernel_rfl
theorem xop_20 : E.xop 20 = [] := by kernel_rfl
theorem keep_20 : E.keep 20 = false := by kernel_rfl
theorem body_23 : bodyOf E 23 = Tryz.f23.body := by kernel_rfl
theorem prim_23 : E.prim 23 = none := by kernel_rfl
theorem res_23 : resOf E 23 = some [.tmp 4] := by kernel_rfl
theorem frz_23 : E.frz 23 = [] := by kernel_rfl
theorem lend_23 : E.lend 23 = [] := by kernel_rfl
theorem xop_23 : E.xop 23 = [] := by kernel_rfl
theorem keep_23 : E.keep 23 = false := by kernel_rfl
theorem body_24 : bodyOf E 24 = Tryz.f24.body := by kernel_rfl
theorem prim_24 : E.prim 24 = none := by kernel_rfl
theorem res_24 : resOf E 24 = some [.tmp 4, .cell 5 29, .tmp 6, .cell 7 66, .tmp 8] := by kernel_rfl
theorem frz_24 : E.frz 24 = [] := by kernel_rfl
theorem lend_24 : E.lend 24 = [] := by kernel_rfl
theorem xop_24 : E.xop 24 = [] := by kernel_rfl
theorem keep_24 : E.keep 24 = false := by kernel_rfl
theorem body_25 : bodyOf E 25 = Tryz.f25.body := by kernel_rfl
theorem prim_25 : E.prim 25 = none := by kernel_rfl
theorem res_25 : resOf E 25 = some [.cell 6 29, .tmp 7] := by kernel_rfl
theorem frz_25 : E.frz 25 = [] := by kernel_rfl
theorem lend_25 : E.lend 25 = [] := by kernel_rfl
theorem xop_25 : E.xop 25 = [] := by kernel_rfl
theorem keep_25 : E.keep 25 = false := by kernel_rfl
theorem body_26 : bodyOf E 26 = Tryz.f26.body := by kernel_rfl
theorem prim_26 : E.prim 26 = none := by kernel_rfl
theorem res_26 : resOf E 26 = some [.tmp 2] := by kernel_rfl
theorem frz_26 : E.frz 26 = [] := by kernel_rfl
theorem lend_26 : E.lend 26 = [] := by kernel_rfl
theorem xop_26 : E.xop 26 = [] := by kernel_rfl
theorem keep_26 : E.keep 26 = false := by kernel_rfl
theorem body_27 : bodyOf E 27 = Tryz.f27.body := by kernel_rfl
theorem prim_27 : E.prim 27 = none := by kernel_rfl
theorem res_27 : resOf E 27 = some [.tmp 2] := by kernel_rfl
theorem frz_27 : E.frz 27 = [] := by kernel_rfl
theorem lend_27 : E.lend 27 = [] := by kernel_rfl
theorem xop_27 : E.xop 27 = [] := by kernel_rfl
theorem keep_27 : E.keep 27 = false := by kernel_rfl
theorem body_28 : bodyOf E 28 = Tryz.f28.body := by kernel_rfl
theorem prim_28 : E.prim 28 = none := by kernel_rfl
theorem res_28 : resOf E 28 = some [.tmp 2, .tmp 3] := by kernel_rfl
theorem frz_28 : E.frz 28 = [] := by kernel_rfl
theorem lend_28 : E.lend 28 = [] := by kernel_rfl
theorem xop_28 : E.xop 28 = [] := by kernel_rfl
theorem keep_28 : E.keep 28 = false := by kernel_rfl
theorem body_29 : bodyOf E 29 = Tryz.f29.body := by kernel_rfl
theorem prim_29 : E.prim 29 = none := by kernel_rfl
theorem res_29 : resOf E 29 = some [.tmp 2, .tmp 3] := by kernel_rfl
theorem frz_29 : E.frz 29 = [] := by kernel_rfl
theorem lend_29 : E.lend 29 = [] := by kernel_rfl
theorem xop_29 : E.xop 29 = [] := by kernel_rfl
theorem keep_29 : E.keep 29 = false := by kernel_rfl
theorem body_30 : bodyOf E 30 = Tryz.f30.body := by kernel_rfl
theorem prim_30 : E.prim 30 = none := by kernel_rfl
theorem res_30 : resOf E 30 = some [.tmp 2] := by kernel_rfl
theorem frz_30 : E.frz 30 = [] := by kernel_rfl
theorem lend_30 : E.lend 30 = [] := by kernel_rfl
theorem xop_30 : E.xop 30 = [] := by kernel_rfl
theorem keep_30 : E.keep 30 = false := by kernel_rfl
theorem body_31 : bodyOf E 31 = Tryz.f31.body := by kernel_rfl
theorem prim_31 : E.prim 31 = none := by kernel_rfl
theorem res_31 : resOf E 31 = some [.tmp 6] := by kernel_rfl
theorem frz_31 : E.frz 31 = [] := by kernel_rfl
theorem lend_31 : E.lend 31 = [] := by kernel_rfl
theorem xop_31 : E.xop 31 = [] := by kernel_rfl
theorem keep_31 : E.keep 31 = false := by kernel_rfl
theorem body_32 : bodyOf E 32 = Tryz.f32.body := by kernel_rfl
theorem prim_32 : E.prim 32 = none := by kernel_rfl
theorem res_32 : resOf E 32 = some [.tmp 6] := by kernel_rfl
theorem frz_32 : E.frz 32 = [] := by kernel_rfl
theorem lend_32 : E.lend 32 = [] := by kernel_rfl
theorem xop_32 : E.xop 32 = [] := by kernel_rfl
theorem keep_32 : E.keep 32 = false := by kernel_rfl
theorem body_33 : bodyOf E 33 = Tryz.f33.body := by kernel_rfl
theorem prim_33 : E.prim 33 = none := by kernel_rfl
theorem res_33 : resOf E 33 = some [.cell 2 29] := by kernel_rfl
theorem frz_33 : E.frz 33 = [] := by kernel_rfl
theorem lend_33 : E.lend 33 = [] := by kernel_rfl
theorem xop_33 : E.xop 33 = [] := by kernel_rfl
theorem keep_33 : E.keep 33 = false := by kernel_rfl
theorem body_34 : bodyOf E 34 = Tryz.f34.body := by kernel_rfl
theorem prim_34 : E.prim 34 = none := by kernel_rfl
theorem res_34 : resOf E 34 = some [] := by kernel_rfl
theorem frz_34 : E.frz 34 = [] := by kernel_rfl
theorem lend_34 : E.lend 34 = [] := by kernel_rfl
theorem xop_34 : E.xop 34 = [] := by kernel_rfl
theorem keep_34 : E.keep 34 = false := by kernel_rfl
theorem body_35 : bodyOf E 35 = Tryz.f35.body := by kernel_rfl
theorem prim_35 : E.prim 35 = none := by kernel_rfl
theorem res_35 : resOf E 35 = some [] := by kernel_rfl
theorem frz_35 : E.frz 35 = [] := by kernel_rfl
theorem lend_35 : E.lend 35 = [] := by kernel_rfl
theorem xop_35 : E.xop 35 = [] := by kernel_rfl
theorem keep_35 : E.keep 35 = false := by kernel_rfl
theorem body_36 : bodyOf E 36 = Tryz.f36.body := by kernel_rfl
theorem prim_36 : E.prim 36 = none := by kernel_rfl
theorem res_36 : resOf E 36 = some [.cell 2 29] := by kernel_rfl
theorem frz_36 : E.frz 36 = [] := by kernel_rfl
theorem lend_36 : E.lend 36 = [] := by kernel_rfl
theorem xop_36 : E.xop 36 = [] := by kernel_rfl
theorem keep_36 : E.keep 36 = false := by kernel_rfl
theorem body_37 : bodyOf E 37 = Tryz.f37.body := by kernel_rfl
theorem prim_37 : E.prim 37 = none := by kernel_rfl
theorem res_37 : resOf E 37 = some [.tmp 6] := by kernel_rfl
theorem frz_37 : E.frz 37 = [] := by kernel_rfl
theorem lend_37 : E.lend 37 = [] := by kernel_rfl
theorem xop_37 : E.xop 37 = [] := by kernel_rfl
theorem keep_37 : E.keep 37 = false := by kernel_rfl
theorem body_38 : bodyOf E 38 = Tryz.f38.body := by kernel_rfl
theorem prim_38 : E.prim 38 = none := by kernel_rfl
theorem res_38 : resOf E 38 = some [.tmp 2] := by kernel_rfl
theorem frz_38 : E.frz 38 = [] := by kernel_rfl
theorem lend_38 : E.lend 38 = [] := by kernel_rfl
theorem xop_38 : E.xop 38 = [] := by kernel_rfl
theorem keep_38 : E.keep 38 = false := by kernel_rfl
theorem body_39 : bodyOf E 39 = Tryz.f39.body := by kernel_rfl
theorem prim_39 : E.prim 39 = none := by kernel_rfl
theorem res_39 : resOf E 39 = some [.tmp 2] := by kernel_rfl
theorem frz_39 : E.frz 39 = [] := by kernel_rfl
theorem lend_39 : E.lend 39 = [] := by kernel_rfl
theorem xop_39 : E.xop 39 = [] := by kernel_rfl
theorem keep_39 : E.keep 39 = false := by kernel_rfl
theorem body_40 : bodyOf E 40 = Tryz.f40.body := by kernel_rfl
theorem prim_40 : E.prim 40 = none := by kernel_rfl
theorem res_40 : resOf E 40 = some [.tmp 4] := by kernel_rfl
theorem frz_40 : E.frz 40 = [(7, [(0, 47)])] := by kernel_rfl
theorem lend_40 : E.lend 40 = [] := by kernel_rfl
theorem xop_40 : E.xop 40 = [] := by kernel_rfl
theorem keep_40 : E.keep 40 = false := by kernel_rfl
theorem body_41 : bodyOf E 41 = Tryz.f41.body := by kernel_rfl
theorem prim_41 : E.prim 41 = none := by kernel_rfl
theorem res_41 : resOf E 41 = some [.tmp 4] := by kernel_rfl
theorem frz_41 : E.frz 41 = [] := by kernel_rfl
theorem lend_41 : E.lend 41 = [] := by kernel_rfl
theorem xop_41 : E.xop 41 = [] := by kernel_rfl
theorem keep_41 : E.keep 41 = false := by kernel_rfl
theorem body_42 : bodyOf E 42 = Tryz.f42.body := by kernel_rfl
theorem prim_42 : E.prim 42 = none := by kernel_rfl
theorem res_42 : resOf E 42 = some [.tmp 2, .tmp 3] := by kernel_rfl
theorem frz_42 : E.frz 42 = [] := by kernel_rfl
theorem lend_42 : E.lend 42 = [] := by kernel_rfl
theorem xop_42 : E.xop 42 = [] := by kernel_rfl
theorem keep_42 : E.keep 42 = false := by kernel_rfl
theorem body_43 : bodyOf E 43 = Tryz.f43.body := by kernel_rfl
theorem prim_43 : E.prim 43 = none := by kernel_rfl
theorem res_43 : resOf E 43 = some [.tmp 2, .tmp 3] := by kernel_rfl
theorem frz_43 : E.frz 43 = [] := by kernel_rfl
theorem lend_43 : E.lend 43 = [] := by kernel_rfl
theorem xop_43 : E.xop 43 = [] := by kernel_rfl
theorem keep_43 : E.keep 43 = false := by kernel_rfl
theorem body_44 : bodyOf E 44 = Tryz.f44.body := by kernel_rfl
theorem prim_44 : E.prim 44 = none := by kernel_rfl
theorem res_44 : resOf E 44 = some [.cell 2 66, .tmp 3] := by kernel_rfl
theorem frz_44 : E.frz 44 = [] := by kernel_rfl
theorem lend_44 : E.lend 44 = [] := by kernel_rfl
theorem xop_44 : E.xop 44 = [] := by kernel_rfl
theorem keep_44 : E.keep 44 = false := by kernel_rfl
theorem body_45 : bodyOf E 45 = Tryz.f45.body := by kernel_rfl
theorem prim_45 : E.prim 45 = none := by kernel_rfl
theorem res_45 : resOf E 45 = some [.cell 4 29, .tmp 5] := by kernel_rfl
theorem frz_45 : E.frz 45 = [] := by kernel_rfl
theorem lend_45 : E.lend 45 = [] := by kernel_rfl
theorem xop_45 : E.xop 45 = [] := by kernel_rfl
theorem keep_45 : E.keep 45 = false := by kernel_rfl
theorem body_46 : bodyOf E 46 = Tryz.f46.body := by kernel_rfl
theorem prim_46 : E.prim 46 = none := by kernel_rfl
theorem res_46 : resOf E 46 = some [.tmp 4] := by kernel_rfl
theorem frz_46 : E.frz 46 = [] := by kernel_rfl
theorem lend_46 : E.lend 46 = [] := by kernel_rfl
theorem xop_46 : E.xop 46 = [] := by kernel_rfl
theorem keep_46 : E.keep 46 = false := by kernel_rfl
theorem body_47 : bodyOf E 47 = Tryz.f47.body := by kernel_rfl
theorem prim_47 : E.prim 47 = none := by kernel_rfl
theorem res_47 : resOf E 47 = some [.tmp 2] := by kernel_rfl
theorem frz_47 : E.frz 47 = [] := by kernel_rfl
theorem lend_47 : E.lend 47 = [] := by kernel_rfl
theorem xop_47 : E.xop 47 = [] := by kernel_rfl
theorem keep_47 : E.keep 47 = false := by kernel_rfl
theorem body_49 : bodyOf E 49 = Tryz.f49.body := by kernel_rfl
theorem prim_49 : E.prim 49 = none := by kernel_rfl
theorem res_49 : resOf E 49 = some [.tmp 2] := by kernel_rfl
theorem frz_49 : E.frz 49 = [] := by kernel_rfl
theorem lend_49 : E.lend 49 = [] := by kernel_rfl
theorem xop_49 : E.xop 49 = [] := by kernel_rfl
theorem keep_49 : E.keep 49 = false := by kernel_rfl
theorem body_50 : bodyOf E 50 = Tryz.f50.body := by kernel_rfl
theorem prim_50 : E.prim 50 = none := by kernel_rfl
theorem res_50 : resOf E 50 = some [.tmp 2] := by kernel_rfl
theorem frz_50 : E.frz 50 = [] := by kernel_rfl
theorem lend_50 : E.lend 50 = [] := by kernel_rfl
theorem xop_50 : E.xop 50 = [] := by kernel_rfl
theorem keep_50 : E.keep 50 = false := by kernel_rfl
theorem body_51 : bodyOf E 51 = Tryz.f51.body := by kernel_rfl
theorem prim_51 : E.prim 51 = none := by kernel_rfl
theorem res_51 : resOf E 51 = some [.tmp 4] := by kernel_rfl
theorem frz_51 : E.frz 51 = [] := by kernel_rfl
theorem lend_51 : E.lend 51 = [] := by kernel_rfl
theorem xop_51 : E.xop 51 = [] := by kernel_rfl
theorem keep_51 : E.keep 51 = false := by kernel_rfl
theorem body_52 : bodyOf E 52 = Tryz.f52.body := by kernel_rfl
theorem prim_52 : E.prim 52 = none := by kernel_rfl
theorem res_52 : resOf E 52 = some [.tmp 2] := by kernel_rfl
theorem frz_52 : E.frz 52 = [] := by kernel_rfl
theorem lend_52 : E.lend 52 = [] := by kernel_rfl
theorem xop_52 : E.xop 52 = [] := by kernel_rfl
theorem keep_52 : E.keep 52 = false := by kernel_rfl
theorem body_53 : bodyOf E 53 = Tryz.f53.body := by kernel_rfl
theorem prim_53 : E.prim 53 = none := by kernel_rfl
theorem res_53 : resOf E 53 = some [.tmp 2] := by kernel_rfl
theorem frz_53 : E.frz 53 = [] := by kernel_rfl
theorem lend_53 : E.lend 53 = [] := by kernel_rfl
theorem xop_53 : E.xop 53 = [] := by kernel_rfl
theorem keep_53 : E.keep 53 = false := by kernel_rfl
theorem body_54 : bodyOf E 54 = Tryz.f54.body := by kernel_rfl
theorem prim_54 : E.prim 54 = none := by kernel_rfl
theorem res_54 : resOf E 54 = some [.tmp 2] := by kernel_rfl
theorem frz_54 : E.frz 54 = [] := by kernel_rfl
theorem lend_54 : E.lend 54 = [] := by kernel_rfl
theorem xop_54 : E.xop 54 = [] := by kernel_rfl
theorem keep_54 : E.keep 54 = false := by kernel_rfl
theorem body_55 : bodyOf E 55 = Tryz.f55.body := by kernel_rfl
theorem prim_55 : E.prim 55 = none := by kernel_rfl
theorem res_55 : resOf E 55 = some [.tmp 2] := by kernel_rfl
theorem frz_55 : E.frz 55 = [] := by kernel_rfl
theorem lend_55 : E.lend 55 = [] := by kernel_rfl
theorem xop_55 : E.xop 55 = [] := by kernel_rfl
theorem keep_55 : E.keep 55 = false := by kernel_rfl
theorem body_56 : bodyOf E 56 = Tryz.f56.body := by kernel_rfl
theorem prim_56 : E.prim 56 = none := by kernel_rfl
theorem res_56 : resOf E 56 = some [.tmp 4] := by kernel_rfl
theorem frz_56 : E.frz 56 = [] := by kernel_rfl
theorem lend_56 : E.lend 56 = [] := by kernel_rfl
theorem xop_56 : E.xop 56 = [] := by kernel_rfl
theorem keep_56 : E.keep 56 = false := by kernel_rfl
theorem body_58 : bodyOf E 58 = Tryz.f58.body := by kernel_rfl
theorem prim_58 : E.prim 58 = none := by kernel_rfl
theorem res_58 : resOf E 58 = some [.cell 2 25] := by kernel_rfl
theorem frz_58 : E.frz 58 = [] := by kernel_rfl
theorem lend_58 : E.lend 58 = [] := by kernel_rfl
theorem xop_58 : E.xop 58 = [] := by kernel_rfl
theorem keep_58 : E.keep 58 = false := by kernel_rfl
theorem body_59 : bodyOf E 59 = Tryz.f59.body := by kernel_rfl
theorem prim_59 : E.prim 59 = none := by kernel_rfl
theorem res_59 : resOf E 59 = some [.tmp 2] := by kernel_rfl
theorem frz_59 : E.frz 59 = [] := by kernel_rfl
theorem lend_59 : E.lend 59 = [] := by kernel_rfl
theorem xop_59 : E.xop 59 = [] := by kernel_rfl
theorem keep_59 : E.keep 59 = false := by kernel_rfl
theorem body_61 : bodyOf E 61 = Tryz.f61.body := by kernel_rfl
theorem prim_61 : E.prim 61 = none := by kernel_rfl
theorem res_61 : resOf E 61 = some [.cell 2 99] := by kernel_rfl
theorem frz_61 : E.frz 61 = [] := by kernel_rfl
theorem lend_61 : E.lend 61 = [] := by kernel_rfl
theorem xop_61 : E.xop 61 = [] := by kernel_rfl
theorem keep_61 : E.keep 61 = false := by kernel_rfl
theorem body_62 : bodyOf E 62 = Tryz.f62.body := by kernel_rfl
theorem prim_62 : E.prim 62 = none := by kernel_rfl
theorem res_62 : resOf E 62 = some [.tmp 2] := by kernel_rfl
theorem frz_62 : E.frz 62 = [] := by kernel_rfl
theorem lend_62 : E.lend 62 = [] := by kernel_rfl
theorem xop_62 : E.xop 62 = [] := by kernel_rfl
theorem keep_62 : E.keep 62 = false := by kernel_rfl
theorem body_63 : bodyOf E 63 = Tryz.f63.body := by kernel_rfl
theorem prim_63 : E.prim 63 = none := by kernel_rfl
theorem res_63 : resOf E 63 = some [.tmp 2, .tmp 3, .tmp 4] := by kernel_rfl
theorem frz_63 : E.frz 63 = [] := by kernel_rfl
theorem lend_63 : E.lend 63 = [] := by kernel_rfl
theorem xop_63 : E.xop 63 = [] := by kernel_rfl
theorem keep_63 : E.keep 63 = false := by kernel_rfl
theorem body_64 : bodyOf E 64 = Tryz.f64.body := by kernel_rfl
theorem prim_64 : E.prim 64 = none := by kernel_rfl
theorem res_64 : resOf E 64 = some [.cell 4 104, .tmp 5] := by kernel_rfl
theorem frz_64 : E.frz 64 = [] := by kernel_rfl
theorem lend_64 : E.lend 64 = [] := by kernel_rfl
theorem xop_64 : E.xop 64 = [] := by kernel_rfl
theorem keep_64 : E.keep 64 = false := by kernel_rfl
theorem body_65 : bodyOf E 65 = Tryz.f65.body := by kernel_rfl
theorem prim_65 : E.prim 65 = none := by kernel_rfl
theorem res_65 : resOf E 65 = some [.tmp 8] := by kernel_rfl
theorem frz_65 : E.frz 65 = [] := by kernel_rfl
theorem lend_65 : E.lend 65 = [] := by kernel_rfl
theorem xop_65 : E.xop 65 = [] := by kernel_rfl
theorem keep_65 : E.keep 65 = false := by kernel_rfl
theorem body_66 : bodyOf E 66 = Tryz.f66.body := by kernel_rfl
theorem prim_66 : E.prim 66 = none := by kernel_rfl
theorem res_66 : resOf E 66 = some [.tmp 2] := by kernel_rfl
theorem frz_66 : E.frz 66 = [] := by kernel_rfl
theorem lend_66 : E.lend 66 = [] := by kernel_rfl
theorem xop_66 : E.xop 66 = [] := by kernel_rfl
theorem keep_66 : E.keep 66 = false := by kernel_rfl
theorem body_67 : bodyOf E 67 = Tryz.f67.body := by kernel_rfl
theorem prim_67 : E.prim 67 = none := by kernel_rfl
theorem res_67 : resOf E 67 = some [.cell 4 66, .tmp 5] := by kernel_rfl
theorem frz_67 : E.frz 67 = [] := by kernel_rfl
theorem lend_67 : E.lend 67 = [] := by kernel_rfl
theorem xop_67 : E.xop 67 = [] := by kernel_rfl
theorem keep_67 : E.keep 67 = false := by kernel_rfl
theorem body_68 : bodyOf E 68 = Tryz.f68.body := by kernel_rfl
theorem prim_68 : E.prim 68 = none := by kernel_rfl
theorem res_68 : resOf E 68 = some [.tmp 2] := by kernel_rfl
theorem frz_68 : E.frz 68 = [] := by kernel_rfl
theorem lend_68 : E.lend 68 = [] := by kernel_rfl
theorem xop_68 : E.xop 68 = [] := by kernel_rfl
theorem keep_68 : E.keep 68 = false := by kernel_rfl
theorem body_69 : bodyOf E 69 = Tryz.f69.body := by kernel_rfl
theorem prim_69 : E.prim 69 = none := by kernel_rfl
theorem res_69 : resOf E 69 = some [.tmp 2] := by kernel_rfl
theorem frz_69 : E.frz 69 = [] := by kernel_rfl
theorem lend_69 : E.lend 69 = [] := by kernel_rfl
theorem xop_69 : E.xop 69 = [] := by kernel_rfl
theorem keep_69 : E.keep 69 = false := by kernel_rfl
theorem body_70 : bodyOf E 70 = Tryz.f70.body := by kernel_rfl
theorem prim_70 : E.prim 70 = none := by kernel_rfl
theorem res_70 : resOf E 70 = some [.tmp 2, .tmp 3, .tmp 4] := by kernel_rfl
theorem frz_70 : E.frz 70 = [(5, [(3, 26)])] := by kernel_rfl
theorem lend_70 : E.lend 70 = [] := by kernel_rfl
theorem xop_70 : E.xop 70 = [(3, 6), (4, 1)] := by kernel_rfl
theorem keep_70 : E.keep 70 = false := by kernel_rfl
theorem body_71 : bodyOf E 71 = Tryz.f71.body := by kernel_rfl
theorem prim_71 : E.prim 71 = none := by kernel_rfl
theorem res_71 : resOf E 71 = some [.cell 2 29, .tmp 3] := by kernel_rfl
theorem frz_71 : E.frz 71 = [(6, [(6, 26)])] := by kernel_rfl
theorem lend_71 : E.lend 71 = [] := by kernel_rfl
theorem xop_71 : E.xop 71 = [(4, 2)] := by kernel_rfl
theorem keep_71 : E.keep 71 = false := by kernel_rfl
theorem body_72 : bodyOf E 72 = Tryz.f72.body := by kernel_rfl
theorem prim_72 : E.prim 72 = none := by kernel_rfl
theorem res_72 : resOf E 72 = some [.tmp 4] := by kernel_rfl
theorem frz_72 : E.frz 72 = [] := by kernel_rfl
theorem lend_72 : E.lend 72 = [] := by kernel_rfl
theorem xop_72 : E.xop 72 = [] := by kernel_rfl
theorem keep_72 : E.keep 72 = false := by kernel_rfl
theorem body_73 : bodyOf E 73 = Tryz.f73.body := by kernel_rfl
theorem prim_73 : E.prim 73 = none := by kernel_rfl
theorem res_73 : resOf E 73 = some [.tmp 3] := by kernel_rfl
theorem frz_73 : E.frz 73 = [] := by kernel_rfl
theorem lend_73 : E.lend 73 = [] := by kernel_rfl
theorem xop_73 : E.xop 73 = [] := by kernel_rfl
theorem keep_73 : E.keep 73 = false := by kernel_rfl
theorem body_74 : bodyOf E 74 = Tryz.f74.body := by kernel_rfl
theorem prim_74 : E.prim 74 = none := by kernel_rfl
theorem res_74 : resOf E 74 = some [.cell 2 29, .tmp 3] := by kernel_rfl
theorem frz_74 : E.frz 74 = [] := by kernel_rfl
theorem lend_74 : E.lend 74 = [] := by kernel_rfl
theorem xop_74 : E.xop 74 = [] := by kernel_rfl
theorem keep_74 : E.keep 74 = false := by kernel_rfl
theorem body_76 : bodyOf E 76 = Tryz.f76.body := by kernel_rfl
theorem prim_76 : E.prim 76 = none := by kernel_rfl
theorem res_76 : resOf E 76 = some [.tmp 4] := by kernel_rfl
theorem frz_76 : E.frz 76 = [] := by kernel_rfl
theorem lend_76 : E.lend 76 = [] := by kernel_rfl
theorem xop_76 : E.xop 76 = [] := by kernel_rfl
theorem keep_76 : E.keep 76 = false := by kernel_rfl
theorem body_77 : bodyOf E 77 = Tryz.f77.body := by kernel_rfl
theorem prim_77 : E.prim 77 = none := by kernel_rfl
theorem res_77 : resOf E 77 = some [.tmp 2] := by kernel_rfl
theorem frz_77 : E.frz 77 = [] := by kernel_rfl
theorem lend_77 : E.lend 77 = [] := by kernel_rfl
theorem xop_77 : E.xop 77 = [] := by kernel_rfl
theorem keep_77 : E.keep 77 = false := by kernel_rfl
theorem body_81 : bodyOf E 81 = Tryz.f81.body := by kernel_rfl
theorem prim_81 : E.prim 81 = none := by kernel_rfl
theorem res_81 : resOf E 81 = some [.tmp 4] := by kernel_rfl
theorem frz_81 : E.frz 81 = [] := by kernel_rfl
theorem lend_81 : E.lend 81 = [] := by kernel_rfl
theorem xop_81 : E.xop 81 = [] := by kernel_rfl
theorem keep_81 : E.keep 81 = false := by kernel_rfl
theorem body_83 : bodyOf E 83 = Tryz.f83.body := by kernel_rfl
theorem prim_83 : E.prim 83 = none := by kernel_rfl
theorem res_83 : resOf E 83 = some [.cell 2 25, .tmp 3, .tmp 4] := by kernel_rfl
theorem frz_83 : E.frz 83 = [] := by kernel_rfl
theorem lend_83 : E.lend 83 = [] := by kernel_rfl
theorem xop_83 : E.xop 83 = [] := by kernel_rfl
theorem keep_83 : E.keep 83 = false := by kernel_rfl
theorem body_85 : bodyOf E 85 = Tryz.f85.body := by kernel_rfl
theorem prim_85 : E.prim 85 = none := by kernel_rfl
theorem res_85 : resOf E 85 = some [] := by kernel_rfl
theorem frz_85 : E.frz 85 = [] := by kernel_rfl
theorem lend_85 : E.lend 85 = [] := by kernel_rfl
theorem xop_85 : E.xop 85 = [] := by kernel_rfl
theorem keep_85 : E.keep 85 = false := by kernel_rfl
theorem body_86 : bodyOf E 86 = Tryz.f86.body := by kernel_rfl
theorem prim_86 : E.prim 86 = none := by kernel_rfl
theorem res_86 : resOf E 86 = some [.tmp 4, .tmp 5] := by kernel_rfl
theorem frz_86 : E.frz 86 = [] := by kernel_rfl
theorem lend_86 : E.lend 86 = [] := by kernel_rfl
theorem xop_86 : E.xop 86 = [] := by kernel_rfl
theorem keep_86 : E.keep 86 = false := by kernel_rfl
theorem body_87 : bodyOf E 87 = Tryz.f87.body := by kernel_rfl
theorem prim_87 : E.prim 87 = none := by kernel_rfl
theorem res_87 : resOf E 87 = some [.tmp 4] := by kernel_rfl
theorem frz_87 : E.frz 87 = [] := by kernel_rfl
theorem lend_87 : E.lend 87 = [] := by kernel_rfl
theorem xop_87 : E.xop 87 = [] := by kernel_rfl
theorem keep_87 : E.keep 87 = false := by kernel_rfl
theorem body_88 : bodyOf E 88 = Tryz.f88.body := by kernel_rfl
theorem prim_88 : E.prim 88 = none := by kernel_rfl
theorem res_88 : resOf E 88 = some [.tmp 4, .tmp 5] := by kernel_rfl
theorem frz_88 : E.frz 88 = [] := by kernel_rfl
theorem lend_88 : E.lend 88 = [] := by kernel_rfl
theorem xop_88 : E.xop 88 = [] := by kernel_rfl
theorem keep_88 : E.keep 88 = false := by kernel_rfl
theorem body_89 : bodyOf E 89 = Tryz.f89.body := by kernel_rfl
theorem prim_89 : E.prim 89 = none := by kernel_rfl
theorem res_89 : resOf E 89 = some [.tmp 8] := by kernel_rfl
theorem frz_89 : E.frz 89 = [] := by kernel_rfl
theorem lend_89 : E.lend 89 = [] := by kernel_rfl
theorem xop_89 : E.xop 89 = [] := by kernel_rfl
theorem keep_89 : E.keep 89 = false := by kernel_rfl
theorem body_90 : bodyOf E 90 = Tryz.f90.body := by kernel_rfl
theorem prim_90 : E.prim 90 = none := by kernel_rfl
theorem res_90 : resOf E 90 = some [.cell 4 62, .tmp 5] := by kernel_rfl
theorem frz_90 : E.frz 90 = [] := by kernel_rfl
theorem lend_90 : E.lend 90 = [] := by kernel_rfl
theorem xop_90 : E.xop 90 = [] := by kernel_rfl
theorem keep_90 : E.keep 90 = false := by kernel_rfl
theorem body_91 : bodyOf E 91 = Tryz.f91.body := by kernel_rfl
theorem prim_91 : E.prim 91 = none := by kernel_rfl
theorem res_91 : resOf E 91 = some [.tmp 8] := by kernel_rfl
theorem frz_91 : E.frz 91 = [] := by kernel_rfl
theorem lend_91 : E.lend 91 = [] := by kernel_rfl
theorem xop_91 : E.xop 91 = [] := by kernel_rfl
theorem keep_91 : E.keep 91 = false := by kernel_rfl
theorem body_92 : bodyOf E 92 = Tryz.f92.body := by kernel_rfl
theorem prim_92 : E.prim 92 = none := by kernel_rfl
theorem res_92 : resOf E 92 = some [.tmp 2] := by kernel_rfl
theorem frz_92 : E.frz 92 = [] := by kernel_rfl
theorem lend_92 : E.lend 92 = [] := by kernel_rfl
theorem xop_92 : E.xop 92 = [] := by kernel_rfl
theorem keep_92 : E.keep 92 = false := by kernel_rfl
theorem body_93 : bodyOf E 93 = Tryz.f93.body := by kernel_rfl
theorem prim_93 : E.prim 93 = none := by kernel_rfl
theorem res_93 : resOf E 93 = some [.cell 4 66, .tmp 5] := by kernel_rfl
theorem frz_93 : E.frz 93 = [] := by kernel_rfl
theorem lend_93 : E.lend 93 = [] := by kernel_rfl
theorem xop_93 : E.xop 93 = [] := by kernel_rfl
theorem keep_93 : E.keep 93 = false := by kernel_rfl
theorem body_94 : bodyOf E 94 = Tryz.f94.body := by kernel_rfl
theorem prim_94 : E.prim 94 = none := by kernel_rfl
theorem res_94 : resOf E 94 = some [.tmp 2] := by kernel_rfl
theorem frz_94 : E.frz 94 = [] := by kernel_rfl
theorem lend_94 : E.lend 94 = [] := by kernel_rfl
theorem xop_94 : E.xop 94 = [] := by kernel_rfl
theorem keep_94 : E.keep 94 = false := by kernel_rfl
theorem body_96 : bodyOf E 96 = Tryz.f96.body := by kernel_rfl
theorem prim_96 : E.prim 96 = none := by kernel_rfl
theorem res_96 : resOf E 96 = some [.tmp 4] := by kernel_rfl
theorem frz_96 : E.frz 96 = [] := by kernel_rfl
theorem lend_96 : E.lend 96 = [] := by kernel_rfl
theorem xop_96 : E.xop 96 = [] := by kernel_rfl
theorem keep_96 : E.keep 96 = false := by kernel_rfl
theorem body_97 : bodyOf E 97 = Tryz.f97.body := by kernel_rfl
theorem prim_97 : E.prim 97 = none := by kernel_rfl
theorem res_97 : resOf E 97 = some [.tmp 3] := by kernel_rfl
theorem frz_97 : E.frz 97 = [] := by kernel_rfl
theorem lend_97 : E.lend 97 = [] := by kernel_rfl
theorem xop_97 : E.xop 97 = [] := by kernel_rfl
theorem keep_97 : E.keep 97 = false := by kernel_rfl
theorem body_102 : bodyOf E 102 = Tryz.f102.body := by kernel_rfl
theorem prim_102 : E.prim 102 = none := by kernel_rfl
theorem res_102 : resOf E 102 = some [.cell 2 25, .tmp 3] := by kernel_rfl
theorem frz_102 : E.frz 102 = [] := by kernel_rfl
theorem lend_102 : E.lend 102 = [] := by kernel_rfl
theorem xop_102 : E.xop 102 = [] := by kernel_rfl
theorem keep_102 : E.keep 102 = false := by kernel_rfl
theorem body_103 : bodyOf E 103 = Tryz.f103.body := by kernel_rfl
theorem prim_103 : E.prim 103 = none := by kernel_rfl
theorem res_103 : resOf E 103 = some [.tmp 2] := by kernel_rfl
theorem frz_103 : E.frz 103 = [] := by kernel_rfl
theorem lend_103 : E.lend 103 = [] := by kernel_rfl
theorem xop_103 : E.xop 103 = [] := by kernel_rfl
theorem keep_103 : E.keep 103 = false := by kernel_rfl
theorem body_104 : bodyOf E 104 = Tryz.f104.body := by kernel_rfl
theorem prim_104 : E.prim 104 = none := by kernel_rfl
theorem res_104 : resOf E 104 = some [.tmp 2] := by kernel_rfl
theorem frz_104 : E.frz 104 = [] := by kernel_rfl
theorem lend_104 : E.lend 104 = [] := by kernel_rfl
theorem xop_104 : E.xop 104 = [] := by kernel_rfl
theorem keep_104 : E.keep 104 = false := by kernel_rfl
theorem body_105 : bodyOf E 105 = Tryz.f105.body := by kernel_rfl
theorem prim_105 : E.prim 105 = none := by kernel_rfl
theorem res_105 : resOf E 105 = some [.tmp 4] := by kernel_rfl
theorem frz_105 : E.frz 105 = [] := by kernel_rfl
theorem lend_105 : E.lend 105 = [] := by kernel_rfl
theorem xop_105 : E.xop 105 = [] := by kernel_rfl
theorem keep_105 : E.keep 105 = false := by kernel_rfl
theorem body_106 : bodyOf E 106 = Tryz.f106.body := by kernel_rfl
theorem prim_106 : E.prim 106 = none := by kernel_rfl
theorem res_106 : resOf E 106 = some [.cell 4 62, .tmp 5] := by kernel_rfl
theorem frz_106 : E.frz 106 = [] := by kernel_rfl
theorem lend_106 : E.lend 106 = [] := by kernel_rfl
theorem xop_106 : E.xop 106 = [] := by kernel_rfl
theorem keep_106 : E.keep 106 = false := by kernel_rfl
theorem body_110 : bodyOf E 110 = Tryz.f110.body := by kernel_rfl
theorem prim_110 : E.prim 110 = none := by kernel_rfl
theorem res_110 : resOf E 110 = some [.tmp 6, .tmp 7] := by kernel_rfl
theorem frz_110 : E.frz 110 = [] := by kernel_rfl
theorem lend_110 : E.lend 110 = [] := by kernel_rfl
theorem xop_110 : E.xop 110 = [] := by kernel_rfl
theorem keep_110 : E.keep 110 = false := by kernel_rfl
theorem body_111 : bodyOf E 111 = Tryz.f111.body := by kernel_rfl
theorem prim_111 : E.prim 111 = none := by kernel_rfl
theorem res_111 : resOf E 111 = some [.cell 2 25, .tmp 3] := by kernel_rfl
theorem frz_111 : E.frz 111 = [] := by kernel_rfl
theorem lend_111 : E.lend 111 = [] := by kernel_rfl
theorem xop_111 : E.xop 111 = [] := by kernel_rfl
theorem keep_111 : E.keep 111 = false := by kernel_rfl
theorem body_112 : bodyOf E 112 = Tryz.f112.body := by kernel_rfl
theorem prim_112 : E.prim 112 = none := by kernel_rfl
theorem res_112 : resOf E 112 = some [.cell 2 25, .tmp 3] := by kernel_rfl
theorem frz_112 : E.frz 112 = [] := by kernel_rfl
theorem lend_112 : E.lend 112 = [] := by kernel_rfl
theorem xop_112 : E.xop 112 = [] := by kernel_rfl
theorem keep_112 : E.keep 112 = false := by kernel_rfl
theorem body_113 : bodyOf E 113 = Tryz.f113.body := by kernel_rfl
theorem prim_113 : E.prim 113 = none := by kernel_rfl
theorem res_113 : resOf E 113 = some [.cell 4 62, .tmp 5] := by kernel_rfl
theorem frz_113 : E.frz 113 = [] := by kernel_rfl
theorem lend_113 : E.lend 113 = [] := by kernel_rfl
theorem xop_113 : E.xop 113 = [] := by kernel_rfl
theorem keep_113 : E.keep 113 = false := by kernel_rfl
theorem body_118 : bodyOf E 118 = Tryz.f118.body := by kernel_rfl
theorem prim_118 : E.prim 118 = none := by kernel_rfl
theorem res_118 : resOf E 118 = some [.tmp 6] := by kernel_rfl
theorem frz_118 : E.frz 118 = [] := by kernel_rfl
theorem lend_118 : E.lend 118 = [] := by kernel_rfl
theorem xop_118 : E.xop 118 = [] := by kernel_rfl
theorem keep_118 : E.keep 118 = false := by kernel_rfl
theorem body_119 : bodyOf E 119 = Tryz.f119.body := by kernel_rfl
theorem prim_119 : E.prim 119 = none := by kernel_rfl
theorem res_119 : resOf E 119 = some [.cell 2 25, .tmp 3] := by kernel_rfl
theorem frz_119 : E.frz 119 = [] := by kernel_rfl
theorem lend_119 : E.lend 119 = [] := by kernel_rfl
theorem xop_119 : E.xop 119 = [] := by kernel_rfl
theorem keep_119 : E.keep 119 = false := by kernel_rfl
theorem body_120 : bodyOf E 120 = Tryz.f120.body := by kernel_rfl
theorem prim_120 : E.prim 120 = none := by kernel_rfl
theorem res_120 : resOf E 120 = some [.cell 4 62, .tmp 5] := by kernel_rfl
theorem frz_120 : E.frz 120 = [] := by kernel_rfl
theorem lend_120 : E.lend 120 = [] := by kernel_rfl
theorem xop_120 : E.xop 120 = [] := by kernel_rfl
theorem keep_120 : E.keep 120 = false := by kernel_rfl
theorem body_127 : bodyOf E 127 = Tryz.f127.body := by kernel_rfl
theorem prim_127 : E.prim 127 = none := by kernel_rfl
theorem res_127 : resOf E 127 = some [.tmp 2] := by kernel_rfl
theorem frz_127 : E.frz 127 = [] := by kernel_rfl
theorem lend_127 : E.lend 127 = [] := by kernel_rfl
theorem xop_127 : E.xop 127 = [] := by kernel_rfl
theorem keep_127 : E.keep 127 = false := by kernel_rfl
theorem prim_48 : E.prim 48 = some joinP := by kernel_rfl
theorem prim_75 : E.prim 75 = some itoaP := by kernel_rfl
theorem prim_126 : E.prim 126 = some atoiQ := by kernel_rfl
theorem prim_57 : E.prim 57 = some indexByteP := by kernel_rfl
theorem prim_60 : E.prim 60 = some cloneP := by kernel_rfl
theorem drw_35_3 : E.drw 35 3 = none := by kernel_rfl
theorem ts3 : tsize E.P 3 = 1 := by kernel_rfl
theorem ts4 : tsize E.P 4 = 1 := by kernel_rfl
theorem ts5 : tsize E.P 5 = 1 := by kernel_rfl
theorem ts9 : tsize E.P 9 = 1 := by kernel_rfl
theorem ts23 : tsize E.P 23 = 1 := by kernel_rfl
theorem ts25 : tsize E.P 25 = 4 := by kernel_rfl
theorem ts26 : tsize E.P 26 = 1 := by kernel_rfl
theorem ts27 : tsize E.P 27 = 1 := by kernel_rfl
theorem ts29 : tsize E.P 29 = 9 := by kernel_rfl
theorem ts33 : tsize E.P 33 = 1 := by kernel_rfl
theorem ts39 : tsize E.P 39 = 1 := by kernel_rfl
theorem ts42 : tsize E.P 42 = 1 := by kernel_rfl
theorem ts44 : tsize E.P 44 = 2 := by kernel_rfl
theorem ts47 : tsize E.P 47 = 1 := by kernel_rfl
theorem ts49 : tsize E.P 49 = 2 := by kernel_rfl
theorem ts54 : tsize E.P 54 = 11 := by kernel_rfl
theorem ts58 : tsize E.P 58 = 1 := by kernel_rfl
theorem ts60 : tsize E.P 60 = 1 := by kernel_rfl
theorem ts62 : tsize E.P 62 = 4 := by kernel_rfl
theorem ts63 : tsize E.P 63 = 1 := by kernel_rfl
theorem ts64 : tsize E.P 64 = 1 := by kernel_rfl
theorem ts66 : tsize E.P 66 = 9 := by kernel_rfl
theorem ts78 : tsize E.P 78 = 3 := by kernel_rfl
theorem ts83 : tsize E.P 83 = 2 := by kernel_rfl
theorem ts97 : tsize E.P 97 = 1 := by kernel_rfl
theorem ts99 : tsize E.P 99 = 17 := by kernel_rfl
theorem ts101 : tsize E.P 101 = 10 := by kernel_rfl
theorem ts102 : tsize E.P 102 = 1 := by kernel_rfl
theorem ts104 : tsize E.P 104 = 17 := by kernel_rfl
theorem ts106 : tsize E.P 106 = 10 := by kernel_rfl
theorem ts146 : tsize E.P 146 = 2 := by kernel_rfl
theorem ts148 : tsize E.P 148 = 5 := by kernel_rfl
theorem ts155 : tsize E.P 155 = 5 := by kernel_rfl
theorem ts159 : tsize E.P 159 = 11 := by kernel_rfl
theorem ts167 : tsize E.P 167 = 1 := by kernel_rfl
theorem cln_21 : E.cln 21 = some 29 := by kernel_rfl
theorem cln_22 : E.cln 22 = some 54 := by kernel_rfl
theorem cln_95 : E.cln 95 = none := by kernel_rfl
theorem rvs_95 : E.rvs 95 = some 29 := by kernel_rfl
theorem tsM : tsize E.P 1099511627777 = 0 := by kernel_rfl
theorem mkm47_5 : ∀ n, E.mkm 47 n (some 5) = false := fun _ => by kernel_rfl
theorem mkm47_10 : ∀ n, E.mkm 47 n (some 10) = true := fun _ => by kernel_rfl
theorem tmp47 : tmap E.P 47 = some (9, 4) := by kernel_rfl
theorem tzv4 : zeroV E 4 = some (.bool false) := by kernel_rfl
theorem tg3 : tagg E.P 3 = some false := by kernel_rfl
theorem tg4 : tagg E.P 4 = some false := by kernel_rfl
theorem tg9 : tagg E.P 9 = some false := by kernel_rfl
theorem tg23 : tagg E.P 23 = some false := by kernel_rfl
theorem tg25 : tagg E.P 25 = some true := by kernel_rfl
theorem tg26 : tagg E.P 26 = some false := by kernel_rfl
theorem tg27 : tagg E.P 27 = some false := by kernel_rfl
theorem tg29 : tagg E.P 29 = some true := by kernel_rfl
theorem tg33 : tagg E.P 33 = some false := by kernel_rfl
theorem tg39 : tagg E.P 39 = some false := by kernel_rfl
theorem tg42 : tagg E.P 42 = some false := by kernel_rfl
theorem tg47 : tagg E.P 47 = some false := by kernel_rfl
theorem tg54 : tagg E.P 54 = some true := by kernel_rfl
theorem tg58 : tagg E.P 58 = some false := by kernel_rfl
theorem tg60 : tagg E.P 60 = some false := by kernel_rfl
theorem tg62 : tagg E.P 62 = some true := by kernel_rfl
theorem tg63 : tagg E.P 63 = some false := by kernel_rfl
theorem tg64 : tagg E.P 64 = some false := by kernel_rfl
theorem tg66 : tagg E.P 66 = some true := by kernel_rfl
theorem tg97 : tagg E.P 97 = some false := by kernel_rfl
theorem tg99 : tagg E.P 99 = some true := by kernel_rfl
theorem tg101 : tagg E.P 101 = some true := by kernel_rfl
theorem tg102 : tagg E.P 102 = some false := by kernel_rfl
theorem tg104 : tagg E.P 104 = some true := by kernel_rfl
theorem tg148 : tagg E.P 148 = some true := by kernel_rfl
theorem tg155 : tagg E.P 155 = some true := by kernel_rfl
theorem tg159 : tagg E.P 159 = some true := by kernel_rfl
theorem te1 : telem E.P 1 = none := by kernel_rfl
theorem te3 : telem E.P 3 = none := by kernel_rfl
theorem te4 : telem E.P 4 = none := by kernel_rfl
theorem te5 : telem E.P 5 = none := by kernel_rfl
theorem te9 : telem E.P 9 = none := by kernel_rfl
theorem te23 : telem E.P 23 = some 25 := by kernel_rfl
theorem te25 : telem E.P 25 = none := by kernel_rfl
theorem te26 : telem E.P 26 = some 29 := by kernel_rfl
theorem te27 : telem E.P 27 = some 54 := by kernel_rfl
theorem te29 : telem E.P 29 = none := by kernel_rfl
theorem te30 : telem E.P 30 = none := by kernel_rfl
theorem te31 : telem E.P 31 = none := by kernel_rfl
theorem te33 : telem E.P 33 = some 9 := by kernel_rfl
theorem te39 : telem E.P 39 = some 78 := by kernel_rfl
theorem te40 : telem E.P 40 = none := by kernel_rfl
theorem te42 : telem E.P 42 = none := by kernel_rfl
theorem te47 : telem E.P 47 = none := by kernel_rfl
theorem te52 : telem E.P 52 = none := by kernel_rfl
theorem te54 : telem E.P 54 = none := by kernel_rfl
theorem te55 : telem E.P 55 = none := by kernel_rfl
theorem te58 : telem E.P 58 = some 101 := by kernel_rfl
theorem te59 : telem E.P 59 = some 106 := by kernel_rfl
theorem te60 : telem E.P 60 = some 62 := by kernel_rfl
theorem te62 : telem E.P 62 = none := by kernel_rfl
theorem te63 : telem E.P 63 = some 66 := by kernel_rfl
theorem te64 : telem E.P 64 = some 159 := by kernel_rfl
theorem te66 : telem E.P 66 = none := by kernel_rfl
theorem te67 : telem E.P 67 = none := by kernel_rfl
theorem te69 : telem E.P 69 = none := by kernel_rfl
theorem te73 : telem E.P 73 = none := by kernel_rfl
theorem te75 : telem E.P 75 = none := by kernel_rfl
theorem te81 : telem E.P 81 = none := by kernel_rfl
theorem te87 : telem E.P 87 = none := by kernel_rfl
theorem te89 : telem E.P 89 = some 99 := by kernel_rfl
theorem te90 : telem E.P 90 = none := by kernel_rfl
theorem te92 : telem E.P 92 = some 104 := by kernel_rfl
theorem te93 : telem E.P 93 = none := by kernel_rfl
theorem te95 : telem E.P 95 = none := by kernel_rfl
theorem te97 : telem E.P 97 = some 148 := by kernel_rfl
theorem te99 : telem E.P 99 = none := by kernel_rfl
theorem te102 : telem E.P 102 = some 155 := by kernel_rfl
theorem te104 : telem E.P 104 = none := by kernel_rfl
theorem te108 : telem E.P 108 = some 5 := by kernel_rfl
theorem te111 : telem E.P 111 = none := by kernel_rfl
theorem te119 : telem E.P 119 = none := by kernel_rfl
theorem te123 : telem E.P 123 = none := by kernel_rfl
theorem te125 : telem E.P 125 = none := by kernel_rfl
theorem te127 : telem E.P 127 = none := by kernel_rfl
theorem te129 : telem E.P 129 = none := by kernel_rfl
theorem te131 : telem E.P 131 = some 3 := by kernel_rfl
theorem te138 : telem E.P 138 = none := by kernel_rfl
theorem te139 : telem E.P 139 = none := by kernel_rfl
theorem te141 : telem E.P 141 = none := by kernel_rfl
theorem te144 : telem E.P 144 = none := by kernel_rfl
theorem te148 : telem E.P 148 = none := by kernel_rfl
theorem te151 : telem E.P 151 = none := by kernel_rfl
theorem te155 : telem E.P 155 = none := by kernel_rfl
theorem te156 : telem E.P 156 = none := by kernel_rfl
theorem te159 : telem E.P 159 = none := by kernel_rfl
theorem te163 : telem E.P 163 = none := by kernel_rfl
theorem te165 : telem E.P 165 = none := by kernel_rfl
theorem te168 : telem E.P 168 = none := by kernel_rfl
theorem te175 : telem E.P 175 = none := by kernel_rfl
theorem tf25_0 : tfield E.P 25 0 = some (0, 1) := by kernel_rfl
theorem tf25_1 : tfield E.P 25 1 = some (1, 1) := by kernel_rfl
theorem tf25_2 : tfield E.P 25 2 = some (2, 1) := by kernel_rfl
theorem tf25_3 : tfield E.P 25 3 = some (3, 1) := by kernel_rfl
theorem tf29_0 : tfield E.P 29 0 = some (0, 1) := by kernel_rfl
theorem tf29_1 : tfield E.P 29 1 = some (1, 1) := by kernel_rfl
theorem tf29_2 : tfield E.P 29 2 = some (2, 1) := by kernel_rfl
theorem tf29_3 : tfield E.P 29 3 = some (3, 4) := by kernel_rfl
theorem tf29_4 : tfield E.P 29 4 = some (7, 1) := by kernel_rfl
theorem tf29_5 : tfield E.P 29 5 = some (8, 1) := by kernel_rfl
theorem tf44_0 : tfield E.P 44 0 = some (0, 1) := by kernel_rfl
theorem tf44_1 : tfield E.P 44 1 = some (1, 1) := by kernel_rfl
theorem tf49_0 : tfield E.P 49 0 = some (0, 1) := by kernel_rfl
theorem tf49_1 : tfield E.P 49 1 = some (1, 1) := by kernel_rfl
theorem tf54_0 : tfield E.P 54 0 = some (0, 1) := by kernel_rfl
theorem tf54_1 : tfield E.P 54 1 = some (1, 1) := by kernel_rfl
theorem tf54_2 : tfield E.P 54 2 = some (2, 9) := by kernel_rfl
theorem tf62_3 : tfield E.P 62 3 = some (3, 1) := by kernel_rfl
theorem tf66_0 : tfield E.P 66 0 = some (0, 1) := by kernel_rfl
theorem tf66_2 : tfield E.P 66 2 = some (2, 1) := by kernel_rfl
theorem tf66_3 : tfield E.P 66 3 = some (3, 4) := by kernel_rfl
theorem tf66_4 : tfield E.P 66 4 = some (7, 1) := by kernel_rfl
theorem tf66_5 : tfield E.P 66 5 = some (8, 1) := by kernel_rfl
theorem tf78_0 : tfield E.P 78 0 = some (0, 1) := by kernel_rfl
theorem tf78_1 : tfield E.P 78 1 = some (1, 1) := by kernel_rfl
theorem tf83_0 : tfield E.P 83 0 = some (0, 1) := by kernel_rfl
theorem tf83_1 : tfield E.P 83 1 = some (1, 1) := by kernel_rfl
theorem tf99_0 : tfield E.P 99 0 = some (0, 1) := by kernel_rfl
theorem tf99_1 : tfield E.P 99 1 = some (1, 1) := by kernel_rfl
theorem tf99_3 : tfield E.P 99 3 = some (3, 1) := by kernel_rfl
theorem tf99_4 : tfield E.P 99 4 = some (4, 4) := by kernel_rfl
theorem tf99_5 : tfield E.P 99 5 = some (8, 9) := by kernel_rfl
theorem tf101_0 : tfield E.P 101 0 = some (0, 1) := by kernel_rfl
theorem tf101_1 : tfield E.P 101 1 = some (1, 9) := by kernel_rfl
theorem tf104_1 : tfield E.P 104 1 = some (1, 1) := by kernel_rfl
theorem tf104_2 : tfield E.P 104 2 = some (2, 1) := by kernel_rfl
theorem tf104_3 : tfield E.P 104 3 = some (3, 1) := by kernel_rfl
theorem tf104_4 : tfield E.P 104 4 = some (4, 4) := by kernel_rfl
theorem tf104_5 : tfield E.P 104 5 = some (8, 9) := by kernel_rfl
theorem tf146_0 : tfield E.P 146 0 = some (0, 1) := by kernel_rfl
theorem tf146_1 : tfield E.P 146 1 = some (1, 1) := by kernel_rfl
theorem tf148_1 : tfield E.P 148 1 = some (1, 4) := by kernel_rfl
theorem tf155_1 : tfield E.P 155 1 = some (1, 4) := by kernel_rfl
theorem tf159_1 : tfield E.P 159 1 = some (1, 1) := by kernel_rfl
theorem tf159_2 : tfield E.P 159 2 = some (2, 9) := by kernel_rfl
theorem tf167_0 : tfield E.P 167 0 = some (0, 1) := by kernel_rfl
theorem tp25_0 : tplace E.P 25 0 = some (0, 1) := by kernel_rfl
theorem tp25_1 : tplace E.P 25 1 = some (1, 1) := by kernel_rfl
theorem tp25_2 : tplace E.P 25 2 = some (2, 1) := by kernel_rfl
theorem tp25_3 : tplace E.P 25 3 = some (3, 1) := by kernel_rfl
theorem tp29_0 : tplace E.P 29 0 = some (0, 1) := by kernel_rfl
theorem tp29_1 : tplace E.P 29 1 = some (1, 1) := by kernel_rfl
theorem tp29_3 : tplace E.P 29 3 = some (3, 4) := by kernel_rfl
theorem tp29_4 : tplace E.P 29 4 = some (7, 1) := by kernel_rfl
theorem tp29_5 : tplace E.P 29 5 = some (8, 1) := by kernel_rfl
theorem tp44_0 : tplace E.P 44 0 = some (0, 1) := by kernel_rfl
theorem tp54_0 : tplace E.P 54 0 = some (0, 1) := by kernel_rfl
theorem tp54_1 : tplace E.P 54 1 = some (1, 1) := by kernel_rfl
theorem tp62_0 : tplace E.P 62 0 = some (0, 1) := by kernel_rfl
theorem tp62_1 : tplace E.P 62 1 = some (1, 1) := by kernel_rfl
theorem tp62_2 : tplace E.P 62 2 = some (2, 1) := by kernel_rfl
theorem tp62_3 : tplace E.P 62 3 = some (3, 1) := by kernel_rfl
theorem tp66_0 : tplace E.P 66 0 = some (0, 1) := by kernel_rfl
theorem tp66_1 : tplace E.P 66 1 = some (1, 1) := by kernel_rfl
theorem tp66_4 : tplace E.P 66 4 = some (7, 1) := by kernel_rfl
theorem tp78_0 : tplace E.P 78 0 = some (0, 1) := by kernel_rfl
theorem tp78_1 : tplace E.P 78 1 = some (1, 1) := by kernel_rfl
theorem tp78_2 : tplace E.P 78 2 = some (2, 1) := by kernel_rfl
theorem tp83_0 : tplace E.P 83 0 = some (0, 1) := by kernel_rfl
theorem tp99_0 : tplace E.P 99 0 = some (0, 1) := by kernel_rfl
theorem tp99_1 : tplace E.P 99 1 = some (1, 1) := by kernel_rfl
theorem tp99_2 : tplace E.P 99 2 = some (2, 1) := by kernel_rfl
theorem tp101_0 : tplace E.P 101 0 = some (0, 1) := by kernel_rfl
theorem tp101_1 : tplace E.P 101 1 = some (1, 9) := by kernel_rfl
theorem tp104_0 : tplace E.P 104 0 = some (0, 1) := by kernel_rfl
theorem tp104_1 : tplace E.P 104 1 = some (1, 1) := by kernel_rfl
theorem tp104_4 : tplace E.P 104 4 = some (4, 4) := by kernel_rfl
theorem tp104_5 : tplace E.P 104 5 = some (8, 9) := by kernel_rfl
theorem tp106_0 : tplace E.P 106 0 = some (0, 1) := by kernel_rfl
theorem tp106_1 : tplace E.P 106 1 = some (1, 9) := by kernel_rfl
theorem tp146_0 : tplace E.P 146 0 = some (0, 1) := by kernel_rfl
theorem tp148_0 : tplace E.P 148 0 = some (0, 1) := by kernel_rfl
theorem tp155_0 : tplace E.P 155 0 = some (0, 1) := by kernel_rfl
theorem tp159_0 : tplace E.P 159 0 = some (0, 1) := by kernel_rfl
theorem tp167_0 : tplace E.P 167 0 = some (0, 1) := by kernel_rfl
theorem tz3 : zeroA E.P 3 = some [.int .i64 0] := by kernel_rfl
theorem tz9 : zeroA E.P 9 = some [.str []] := by kernel_rfl
theorem tz25 : zeroA E.P 25 = some [.int .i64 0, .str [], .int .i64 0, .own 25 0 []] := by kernel_rfl
theorem tz29 : zeroA E.P 29 = some [.int .i64 0, .str [], .bool false, .int .i64 0, .str [], .int .i64 0, .own 25 0 [], .own 29 0 [], .own 54 0 []] := by kernel_rfl
theorem tz44 : zeroA E.P 44 = some [.own 78 0 [], .bool false] := by kernel_rfl
theorem tz49 : zeroA E.P 49 = some [.own 9 0 [], .nilm] := by kernel_rfl
theorem tz54 : zeroA E.P 54 = some [.str [], .own 9 0 [], .int .i64 0, .str [], .bool false, .int .i64 0, .str [], .int .i64 0, .own 25 0 [], .own 29 0 [], .own 54 0 []] := by kernel_rfl
theorem tz62 : zeroA E.P 62 = some [.int .i64 0, .str [], .int .i64 0, .own 62 0 []] := by kernel_rfl
theorem tz66 : zeroA E.P 66 = some [.int .i64 0, .str [], .bool false, .int .i64 0, .str [], .int .i64 0, .own 62 0 [], .own 66 0 [], .own 159 0 []] := by kernel_rfl
theorem tz78 : zeroA E.P 78 = some [.int .i64 0, .str [], .int .i64 0] := by kernel_rfl
theorem tz83 : zeroA E.P 83 = some [.nilp, .own 54 0 []] := by kernel_rfl
theorem tz99 : zeroA E.P 99 = some [.int .i64 0, .str [], .own 9 0 [], .own 148 0 [], .int .i64 0, .str [], .int .i64 0, .own 25 0 [], .int .i64 0, .str [], .bool false, .int .i64 0, .str [], .int .i64 0, .own 25 0 [], .own 29 0 [], .own 54 0 []] := by kernel_rfl
theorem tz101 : zeroA E.P 101 = some [.str [], .int .i64 0, .str [], .bool false, .int .i64 0, .str [], .int .i64 0, .own 25 0 [], .own 29 0 [], .own 54 0 []] := by kernel_rfl
theorem tz104 : zeroA E.P 104 = some [.int .i64 0, .str [], .own 9 0 [], .own 155 0 [], .int .i64 0, .str [], .int .i64 0, .own 62 0 [], .int .i64 0, .str [], .bool false, .int .i64 0, .str [], .int .i64 0, .own 62 0 [], .own 66 0 [], .own 159 0 []] := by kernel_rfl
theorem tz106 : zeroA E.P 106 = some [.str [], .int .i64 0, .str [], .bool false, .int .i64 0, .str [], .int .i64 0, .own 62 0 [], .own 66 0 [], .own 159 0 []] := by kernel_rfl
theorem tz146 : zeroA E.P 146 = some [.nilp, .own 148 0 []] := by kernel_rfl
theorem tz148 : zeroA E.P 148 = some [.str [], .int .i64 0, .str [], .int .i64 0, .own 25 0 []] := by kernel_rfl
theorem tz155 : zeroA E.P 155 = some [.str [], .int .i64 0, .str [], .int .i64 0, .own 62 0 []] := by kernel_rfl
theorem tz159 : zeroA E.P 159 = some [.str [], .own 9 0 [], .int .i64 0, .str [], .bool false, .int .i64 0, .str [], .int .i64 0, .own 62 0 [], .own 66 0 [], .own 159 0 []] := by kernel_rfl
theorem tz167 : zeroA E.P 167 = some [.own 78 0 []] := by kernel_rfl
theorem ti3 : tint E.P 3 = some .i64 := by kernel_rfl
theorem ti5 : tint E.P 5 = some .u8 := by kernel_rfl
theorem ti9 : tint E.P 9 = none := by kernel_rfl
theorem ti25 : tint E.P 25 = none := by kernel_rfl
theorem ti29 : tint E.P 29 = none := by kernel_rfl
theorem ti54 : tint E.P 54 = none := by kernel_rfl
theorem ti62 : tint E.P 62 = none := by kernel_rfl
theorem ti66 : tint E.P 66 = none := by kernel_rfl
theorem ti78 : tint E.P 78 = none := by kernel_rfl
theorem ti99 : tint E.P 99 = none := by kernel_rfl
theorem ti101 : tint E.P 101 = none := by kernel_rfl
theorem ti104 : tint E.P 104 = none := by kernel_rfl
theorem ti106 : tint E.P 106 = none := by kernel_rfl
theorem ti108 : tint E.P 108 = none := by kernel_rfl
theorem ti148 : tint E.P 148 = none := by kernel_rfl
theorem ti155 : tint E.P 155 = none := by kernel_rfl
theorem ti159 : tint E.P 159 = none := by kernel_rfl
theorem tst3 : tstring E.P 3 = false := by kernel_rfl
theorem tst5 : tstring E.P 5 = false := by kernel_rfl
theorem tst9 : tstring E.P 9 = true := by kernel_rfl
theorem tst23 : tstring E.P 23 = false := by kernel_rfl
theorem tst26 : tstring E.P 26 = false := by kernel_rfl
theorem tst27 : tstring E.P 27 = false := by kernel_rfl
theorem tst33 : tstring E.P 33 = false := by kernel_rfl
theorem tst39 : tstring E.P 39 = false := by kernel_rfl
theorem tst58 : tstring E.P 58 = false := by kernel_rfl
theorem tst59 : tstring E.P 59 = false := by kernel_rfl
theorem tst60 : tstring E.P 60 = false := by kernel_rfl
theorem tst63 : tstring E.P 63 = false := by kernel_rfl
theorem tst64 : tstring E.P 64 = false := by kernel_rfl
theorem tst89 : tstring E.P 89 = false := by kernel_rfl
theorem tst92 : tstring E.P 92 = false := by kernel_rfl
theorem tst97 : tstring E.P 97 = false := by kernel_rfl
theorem tst102 : tstring E.P 102 = false := by kernel_rfl
theorem tst131 : tstring E.P 131 = false := by kernel_rfl
theorem tbo3 : tbool E.P 3 = false := by kernel_rfl
theorem tbo5 : tbool E.P 5 = false := by kernel_rfl
theorem tbo9 : tbool E.P 9 = false := by kernel_rfl
theorem tbo30 : tbool E.P 30 = false := by kernel_rfl
theorem tbo47 : tbool E.P 47 = false := by kernel_rfl
theorem tpt3 : tptr E.P 3 = false := by kernel_rfl
theorem tpt5 : tptr E.P 5 = false := by kernel_rfl
theorem tpt9 : tptr E.P 9 = false := by kernel_rfl
theorem tpt30 : tptr E.P 30 = false := by kernel_rfl
theorem tpt47 : tptr E.P 47 = false := by kernel_rfl
theorem tfo25 : fieldsOK E.P 25 = true := by kernel_rfl
theorem tfo29 : fieldsOK E.P 29 = true := by kernel_rfl
theorem tfo44 : fieldsOK E.P 44 = true := by kernel_rfl
theorem tfo54 : fieldsOK E.P 54 = true := by kernel_rfl
theorem tfo62 : fieldsOK E.P 62 = true := by kernel_rfl
theorem tfo66 : fieldsOK E.P 66 = true := by kernel_rfl
theorem tfo78 : fieldsOK E.P 78 = true := by kernel_rfl
theorem tfo83 : fieldsOK E.P 83 = true := by kernel_rfl
theorem tfo99 : fieldsOK E.P 99 = true := by kernel_rfl
theorem tfo101 : fieldsOK E.P 101 = true := by kernel_rfl
theorem tfo104 : fieldsOK E.P 104 = true := by kernel_rfl
theorem tfo106 : fieldsOK E.P 106 = true := by kernel_rfl
theorem tfo146 : fieldsOK E.P 146 = true := by kernel_rfl
theorem tfo148 : fieldsOK E.P 148 = true := by kernel_rfl
theorem tfo155 : fieldsOK E.P 155 = true := by kernel_rfl
theorem tfo159 : fieldsOK E.P 159 = true := by kernel_rfl
theorem tfo167 : fieldsOK E.P 167 = true := by kernel_rfl
theorem tze3 : tzero E.P 3 = some 1 := by kernel_rfl
theorem tze5 : tzero E.P 5 = some 1 := by kernel_rfl
theorem tze9 : tzero E.P 9 = some 1 := by kernel_rfl
theorem tze25 : tzero E.P 25 = some 4 := by kernel_rfl
theorem tze29 : tzero E.P 29 = some 9 := by kernel_rfl
theorem tze54 : tzero E.P 54 = some 11 := by kernel_rfl
theorem tze62 : tzero E.P 62 = some 4 := by kernel_rfl
theorem tze66 : tzero E.P 66 = some 9 := by kernel_rfl
theorem tze78 : tzero E.P 78 = some 3 := by kernel_rfl
theorem tze99 : tzero E.P 99 = some 17 := by kernel_rfl
theorem tze101 : tzero E.P 101 = some 10 := by kernel_rfl
theorem tze104 : tzero E.P 104 = some 17 := by kernel_rfl
theorem tze106 : tzero E.P 106 = some 10 := by kernel_rfl
theorem tze148 : tzero E.P 148 = some 5 := by kernel_rfl
theorem tze155 : tzero E.P 155 = some 5 := by kernel_rfl
theorem tze159 : tzero E.P 159 = some 11 := by kernel_rfl
theorem tu3 : (E.P.underlying 3).isSome = true := by kernel_rfl
theorem tu5 : (E.P.underlying 5).isSome = true := by kernel_rfl
theorem tu108 : (E.P.underlying 108).isSome = true := by kernel_rfl
theorem tby9 : (E.P.bytesOf 9 ≤ 32768) = True := by rw [show E.P.bytesOf 9 = 16 from by kernel_rfl]; simp
theorem tby25 : (E.P.bytesOf 25 ≤ 32768) = True := by rw [show E.P.bytesOf 25 = 56 from by kernel_rfl]; simp
theorem tby29 : (E.P.bytesOf 29 ≤ 32768) = True := by rw [show E.P.bytesOf 29 = 136 from by kernel_rfl]; simp
theorem tby54 : (E.P.bytesOf 54 ≤ 32768) = True := by rw [show E.P.bytesOf 54 = 176 from by kernel_rfl]; simp
theorem tby62 : (E.P.bytesOf 62 ≤ 32768) = True := by rw [show E.P.bytesOf 62 = 56 from by kernel_rfl]; simp
theorem tby66 : (E.P.bytesOf 66 ≤ 32768) = True := by rw [show E.P.bytesOf 66 = 136 from by kernel_rfl]; simp
theorem tby78 : (E.P.bytesOf 78 ≤ 32768) = True := by rw [show E.P.bytesOf 78 = 32 from by kernel_rfl]; simp
theorem tby99 : (E.P.bytesOf 99 ≤ 32768) = True := by rw [show E.P.bytesOf 99 = 264 from by kernel_rfl]; simp
theorem tby101 : (E.P.bytesOf 101 ≤ 32768) = True := by rw [show E.P.bytesOf 101 = 152 from by kernel_rfl]; simp
theorem tby104 : (E.P.bytesOf 104 ≤ 32768) = True := by rw [show E.P.bytesOf 104 = 264 from by kernel_rfl]; simp
theorem tby106 : (E.P.bytesOf 106 ≤ 32768) = True := by rw [show E.P.bytesOf 106 = 152 from by kernel_rfl]; simp
theorem tby148 : (E.P.bytesOf 148 ≤ 32768) = True := by rw [show E.P.bytesOf 148 = 72 from by kernel_rfl]; simp
theorem tby155 : (E.P.bytesOf 155 ≤ 32768) = True := by rw [show E.P.bytesOf 155 = 72 from by kernel_rfl]; simp
theorem tby159 : (E.P.bytesOf 159 ≤ 32768) = True := by rw [show E.P.bytesOf 159 = 176 from by kernel_rfl]; simp
attribute [go_sem] live_3_0 live_3_2 live_3_4 live_3_6 live_8_0 live_9_1 live_9_3 live_11_0 live_12_1 live_13_0 live_14_0 live_15_1 live_15_3 live_20_0 live_24_0 live_25_0 live_27_1 live_30_0 live_34_0 live_38_0 live_39_0 live_40_0 live_41_0 live_42_0 live_42_2 live_43_0 live_43_2 live_46_0 live_47_1 live_47_3 live_51_0 live_59_0 live_62_0 live_63_0 live_63_2 live_64_0 live_66_0 live_67_0 live_67_2 live_68_0
attribute [go_sem] live_69_0 live_70_0 live_72_0 live_74_1 live_86_0 live_86_2 live_88_0 live_92_0 live_94_0 live_96_0 live_105_0 live_106_0 live_106_2 live_111_0 live_111_2 live_112_0 live_113_0 live_127_0 drw_10_5 drw_11_9 drw_11_10 drw_11_6 drw_12_14 drw_12_17 drw_15_4 drw_15_7 drw_15_17 drw_24_6 drw_24_13 drw_24_14 drw_24_15 drw_26_3 drw_27_3 drw_27_5 drw_27_10 drw_27_16 drw_27_20 drw_33_7 drw_35_0 drw_36_8
attribute [go_sem] drw_45_14 drw_45_18 drw_47_9 drw_47_13 drw_64_18 drw_64_23 drw_64_25 drw_67_5 drw_67_35 drw_70_5 drw_71_1 drw_74_17 drw_83_5 drw_85_3 drw_86_31 drw_93_16 drw_106_13 drw_111_12 res_3 frz_3 lend_3 xop_3 keep_3 res_4 frz_4 lend_4 xop_4 keep_4 res_5 frz_5 lend_5 xop_5 keep_5 res_6 frz_6 lend_6 xop_6 keep_6 res_7 frz_7
attribute [go_sem] lend_7 xop_7 keep_7 res_8 frz_8 lend_8 xop_8 keep_8 res_9 frz_9 lend_9 xop_9 keep_9 res_10 frz_10 lend_10 xop_10 keep_10 res_11 frz_11 lend_11 xop_11 keep_11 res_12 frz_12 lend_12 xop_12 keep_12 res_13 frz_13 lend_13 xop_13 keep_13 res_14 frz_14 lend_14 xop_14 keep_14 res_15 frz_15
attribute [go_sem] lend_15 xop_15 keep_15 res_16 frz_16 lend_16 xop_16 keep_16 res_17 frz_17 lend_17 xop_17 keep_17 res_18 frz_18 lend_18 xop_18 keep_18 res_19 frz_19 lend_19 xop_19 keep_19 res_20 frz_20 lend_20 xop_20 keep_20 res_23 frz_23 lend_23 xop_23 keep_23 res_24 frz_24 lend_24 xop_24 keep_24 res_25 frz_25
attribute [go_sem] lend_25 xop_25 keep_25 res_26 frz_26 lend_26 xop_26 keep_26 res_27 frz_27 lend_27 xop_27 keep_27 res_28 frz_28 lend_28 xop_28 keep_28 res_29 frz_29 lend_29 xop_29 keep_29 res_30 frz_30 lend_30 xop_30 keep_30 res_31 frz_31 lend_31 xop_31 keep_31 res_32 frz_32 lend_32 xop_32 keep_32 res_33 frz_33
attribute [go_sem] lend_33 xop_33 keep_33 res_34 frz_34 lend_34 xop_34 keep_34 res_35 frz_35 lend_35 xop_35 keep_35 res_36 frz_36 lend_36 xop_36 keep_36 res_37 frz_37 lend_37 xop_37 keep_37 res_38 frz_38 lend_38 xop_38 keep_38 res_39 frz_39 lend_39 xop_39 keep_39 res_40 frz_40 lend_40 xop_40 keep_40 res_41 frz_41
attribute [go_sem] lend_41 xop_41 keep_41 res_42 frz_42 lend_42 xop_42 keep_42 res_43 frz_43 lend_43 xop_43 keep_43 res_44 frz_44 lend_44 xop_44 keep_44 res_45 frz_45 lend_45 xop_45 keep_45 res_46 frz_46 lend_46 xop_46 keep_46 res_47 frz_47 lend_47 xop_47 keep_47 res_49 frz_49 lend_49 xop_49 keep_49 res_50 frz_50
attribute [go_sem] lend_50 xop_50 keep_50 res_51 frz_51 lend_51 xop_51 keep_51 res_52 frz_52 lend_52 xop_52 keep_52 res_53 frz_53 lend_53 xop_53 keep_53 res_54 frz_54 lend_54 xop_54 keep_54 res_55 frz_55 lend_55 xop_55 keep_55 res_56 frz_56 lend_56 xop_56 keep_56 res_58 frz_58 lend_58 xop_58 keep_58 res_59 frz_59
attribute [go_sem] lend_59 xop_59 keep_59 res_61 frz_61 lend_61 xop_61 keep_61 res_62 frz_62 lend_62 xop_62 keep_62 res_63 frz_63 lend_63 xop_63 keep_63 res_64 frz_64 lend_64 xop_64 keep_64 res_65 frz_65 lend_65 xop_65 keep_65 res_66 frz_66 lend_66 xop_66 keep_66 res_67 frz_67 lend_67 xop_67 keep_67 res_68 frz_68
attribute [go_sem] lend_68 xop_68 keep_68 res_69 frz_69 lend_69 xop_69 keep_69 res_70 frz_70 lend_70 xop_70 keep_70 res_71 frz_71 lend_71 xop_71 keep_71 res_72 frz_72 lend_72 xop_72 keep_72 res_73 frz_73 lend_73 xop_73 keep_73 res_74 frz_74 lend_74 xop_74 keep_74 res_76 frz_76 lend_76 xop_76 keep_76 res_77 frz_77
attribute [go_sem] lend_77 xop_77 keep_77 res_81 frz_81 lend_81 xop_81 keep_81 res_83 frz_83 lend_83 xop_83 keep_83 res_85 frz_85 lend_85 xop_85 keep_85 res_86 frz_86 lend_86 xop_86 keep_86 res_87 frz_87 lend_87 xop_87 keep_87 res_88 frz_88 lend_88 xop_88 keep_88 res_89 frz_89 lend_89 xop_89 keep_89 res_90 frz_90
attribute [go_sem] lend_90 xop_90 keep_90 res_91 frz_91 lend_91 xop_91 keep_91 res_92 frz_92 lend_92 xop_92 keep_92 res_93 frz_93 lend_93 xop_93 keep_93 res_94 frz_94 lend_94 xop_94 keep_94 res_96 frz_96 lend_96 xop_96 keep_96 res_97 frz_97 lend_97 xop_97 keep_97 res_102 frz_102 lend_102 xop_102 keep_102 res_103 frz_103
attribute [go_sem] lend_103 xop_103 keep_103 res_104 frz_104 lend_104 xop_104 keep_104 res_105 frz_105 lend_105 xop_105 keep_105 res_106 frz_106 lend_106 xop_106 keep_106 res_110 frz_110 lend_110 xop_110 keep_110 res_111 frz_111 lend_111 xop_111 keep_111 res_112 frz_112 lend_112 xop_112 keep_112 res_113 frz_113 lend_113 xop_113 keep_113 res_118 frz_118
attribute [go_sem] lend_118 xop_118 keep_118 res_119 frz_119 lend_119 xop_119 keep_119 res_120 frz_120 lend_120 xop_120 keep_120 res_127 frz_127 lend_127 xop_127 keep_127 drw_35_3 ts3 ts4 ts5 ts9 ts23 ts25 ts26 ts27 ts29 ts33 ts39 ts42 ts44 ts47 ts49 ts54 ts58 ts60 ts62 ts63 ts64
attribute [go_sem] ts66 ts78 ts83 ts97 ts99 ts101 ts102 ts104 ts106 ts146 ts148 ts155 ts159 ts167 cln_21 cln_22 cln_95 rvs_95 tsM mkm47_5 mkm47_10 tmp47 tzv4 tg3 tg4 tg9 tg23 tg25 tg26 tg27 tg29 tg33 tg39 tg42 tg47 tg54 tg58 tg60 tg62 tg63
attribute [go_sem] tg64 tg66 tg97 tg99 tg101 tg102 tg104 tg148 tg155 tg159 te1 te3 te4 te5 te9 te23 te25 te26 te27 te29 te30 te31 te33 te39 te40 te42 te47 te52 te54 te55 te58 te59 te60 te62 te63 te64 te66 te67 te69 te73
attribute [go_sem] te75 te81 te87 te89 te90 te92 te93 te95 te97 te99 te102 te104 te108 te111 te119 te123 te125 te127 te129 te131 te138 te139 te141 te144 te148 te151 te155 te156 te159 te163 te165 te168 te175 tf25_0 tf25_1 tf25_2 tf25_3 tf29_0 tf29_1 tf29_2
attribute [go_sem] tf29_3 tf29_4 tf29_5 tf44_0 tf44_1 tf49_0 tf49_1 tf54_0 tf54_1 tf54_2 tf62_3 tf66_0 tf66_2 tf66_3 tf66_4 tf66_5 tf78_0 tf78_1 tf83_0 tf83_1 tf99_0 tf99_1 tf99_3 tf99_4 tf99_5 tf101_0 tf101_1 tf104_1 tf104_2 tf104_3 tf104_4 tf104_5 tf146_0 tf146_1 tf148_1 tf155_1 tf159_1 tf159_2 tf167_0 tp25_0
attribute [go_sem] tp25_1 tp25_2 tp25_3 tp29_0 tp29_1 tp29_3 tp29_4 tp29_5 tp44_0 tp54_0 tp54_1 tp62_0 tp62_1 tp62_2 tp62_3 tp66_0 tp66_1 tp66_4 tp78_0 tp78_1 tp78_2 tp83_0 tp99_0 tp99_1 tp99_2 tp101_0 tp101_1 tp104_0 tp104_1 tp104_4 tp104_5 tp106_0 tp106_1 tp146_0 tp148_0 tp155_0 tp159_0 tp167_0 tz3 tz9
attribute [go_sem] tz25 tz29 tz44 tz49 tz54 tz62 tz66 tz78 tz83 tz99 tz101 tz104 tz106 tz146 tz148 tz155 tz159 tz167 ti3 ti5 ti9 ti25 ti29 ti54 ti62 ti66 ti78 ti99 ti101 ti104 ti106 ti108 ti148 ti155 ti159 tst3 tst5 tst9 tst23 tst26
attribute [go_sem] tst27 tst33 tst39 tst58 tst59 tst60 tst63 tst64 tst89 tst92 tst97 tst102 tst131 tbo3 tbo5 tbo9 tbo30 tbo47 tpt3 tpt5 tpt9 tpt30 tpt47 tfo25 tfo29 tfo44 tfo54 tfo62 tfo66 tfo78 tfo83 tfo99 tfo101 tfo104 tfo106 tfo146 tfo148 tfo155 tfo159 tfo167
attribute [go_sem] tze3 tze5 tze9 tze25 tze29 tze54 tze62 tze66 tze78 tze99 tze101 tze104 tze106 tze148 tze155 tze159 tu3 tu5 tu108 tby9 tby25 tby29 tby54 tby62 tby66 tby78 tby99 tby101 tby104 tby106 tby148 tby155 tby159
end Go.Proofs
