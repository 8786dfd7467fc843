/- The program as the abstract machine sees it: what is alive at each loop, which operations may be drawn, sizes of types. -/
import Derived.Test.YteidnocfcilajaaGreatDoorAvC
import Derived.Test.YteidnocfcilajaaGreatDoorProg
import Derived.KernelRfl
namespace Go.Proofs
open Go.Av
def liveT : List (Nat × (List Nat × List Nat)) := [(10000, ([0, 1, 2, 7, 8, 10, 12, 13], [8, 10])),
  (16000, ([7, 8], [22])),
  (16002, ([8, 50, 51, 52], [])),
  (17000, ([4, 7, 8, 9], [])),
  (17002, ([7, 12], [])),
  (18000, ([3, 6, 7, 8], [])),
  (19000, ([0, 3, 4], [])),
  (19003, ([0, 3, 4, 5, 6], [5])),
  (19005, ([0, 3, 4, 5, 7], [5])),
  (22001, ([1, 4, 68, 69, 70], [1])),
  (23000, ([3, 7, 8, 9], [])),
  (24000, ([3, 7, 8, 9], [])),
  (25001, ([1, 8, 9], [1])),
  (25003, ([1, 8, 9, 10], [1])),
  (26000, ([3, 4, 5], [])),
  (27000, ([3, 4, 5], [])),
  (43001, ([3, 22, 23, 24], [])),
  (43003, ([6, 7], [7])),
  (54000, ([1, 2, 3, 5], [1, 3])),
  (57000, ([1, 6, 7, 8], [1])),
  (58000, ([0, 5, 6], [])),
  (58002, ([0, 5, 6], [])),
  (59000, ([0, 4, 7, 9, 11], [4, 7])),
  (61000, ([1, 3], [1])),
  (62001, ([1, 3, 11, 12, 13], [1])),
  (64001, ([1, 3, 4], [1])),
  (64003, ([6, 7], [7])),
  (65001, ([0, 2, 6], [2, 6])),
  (66000, ([3, 17, 18, 19], [])),
  (67000, ([0, 4, 19, 20, 22], [4, 20])),
  (67002, ([0, 4, 26, 27], [4, 26])),
  (68000, ([3, 4], [])),
  (69000, ([2, 7, 8, 9], [2])),
  (70000, ([3, 16, 17, 18], [])),
  (72000, ([1, 3, 4], [1])),
  (91000, ([3, 7, 8, 9], [])),
  (109000, ([0, 3, 4], [])),
  (111000, ([0, 3], [])),
  (112000, ([0, 1], [])),
  (116000, ([0, 1, 7], [])),
  (116002, ([0, 1, 11, 12], [])),
  (118000, ([0, 1, 6, 7], [])),
  (122000, ([1, 3, 4], [1])),
  (140000, ([3, 4, 5, 6, 8], [3, 4, 5, 6])),
  (143000, ([0, 1, 7, 8], [])),
  (149000, ([0, 1, 5], [])),
  (158000, ([0, 1, 5], [])),
  (159000, ([0, 1, 4, 7], [4])),
  (159002, ([0, 1, 4, 9, 10, 11], [4, 9])),
  (164000, ([0, 2, 4], [2])),
  (164002, ([2, 4, 9, 10, 11], [2, 9])),
  (165000, ([0, 2, 6], [2, 6])),
  (167000, ([1, 2, 4, 5, 18, 19, 20], [2, 4, 16])),
  (169000, ([1, 2, 21, 22, 23], [])),
  (174000, ([0, 4, 7, 8], [4, 7])),
  (180000, ([0, 1, 5], [])),
  (194000, ([0, 3, 4], []))]
def drwT : List (Nat × List (Nat × Nat)) := [(10016, []),
  (10017, []),
  (10019, [(7, 4)]),
  (19023, [(2, 7)]),
  (19025, [(2, 7)]),
  (19020, [(2, 15), (6, 15)]),
  (22003, [(1, 8)]),
  (22005, [(8, 5), (10, 5)]),
  (22010, [(10, 6), (12, 6)]),
  (22016, [(10, 6), (10, 7)]),
  (22020, [(8, 4)]),
  (25006, [(1, 8)]),
  (25021, [(1, 10), (1, 17), (14, 10), (16, 10)]),
  (25023, [(8, 4)]),
  (42001, [(2, 1)]),
  (43009, [(1, 3)]),
  (43013, [(13, 10), (15, 10)]),
  (54009, []),
  (54010, []),
  (54006, [(0, 4)]),
  (59018, [(0, 3)]),
  (59023, [(3, 2)]),
  (59025, [(3, 2)]),
  (62007, [(2, 6)]),
  (62011, [(1, 5)]),
  (62012, [(1, 5)]),
  (64018, [(8, 4), (10, 4)]),
  (64019, [(7, 4), (9, 4)]),
  (65014, []),
  (65017, [(0, 2)]),
  (67005, [(4, 3)]),
  (67035, [(0, 3)]),
  (90005, [(4, 5)]),
  (92001, [(0, 2)]),
  (113003, []),
  (116031, []),
  (126003, []),
  (127007, [(0, 2)]),
  (128000, [(8, 4)]),
  (129008, [(2, 1)]),
  (130016, [(0, 3)]),
  (140007, []),
  (140009, [(1, 2)]),
  (159013, []),
  (164012, []),
  (166007, [(0, 5), (0, 9), (6, 5), (7, 5)]),
  (166008, []),
  (180003, [])]
def keepT : List Nat := [141]
def primT : List (Nat × (List AVal → Heap → Option (AVal × Heap))) := [(63, joinP), (93, itoaP), (188, atoiQ), (155, indexByteP), (162, cloneP)]
def frzT : List (Nat × List (Nat × List (Nat × Nat))) := [(167, [(9, [(5, 33)])]), (169, [(5, [(1, 118)])])]
def mkmT : List (Nat × Nat) := []
def lendT : List (Nat × List (Nat × Nat)) := []
noncomputable def E : Env := { P := Tryz.prog, mkm := fun T _ d => mkmT.contains (T, d.getD 0), lend := fun f => (alGet lendT f).getD [], frz := fun f => (alGet frzT f).getD [], live := fun f id => alGet liveT (f * 1000 + id), drw := fun f id => alGet drwT (f * 1000 + id), keep := fun f => keepT.contains f, prim := fun f => alGet primT f }
theorem live_10_0 : E.live 10 0 = some ([0, 1, 2, 7, 8, 10, 12, 13], [8, 10]) := by kernel_rfl
theorem live_16_0 : E.live 16 0 = some ([7, 8], [22]) := by kernel_rfl
theorem live_16_2 : E.live 16 2 = some ([8, 50, 51, 52], []) := by kernel_rfl
theorem live_17_0 : E.live 17 0 = some ([4, 7, 8, 9], []) := by kernel_rfl
theorem live_17_2 : E.live 17 2 = some ([7, 12], []) := by kernel_rfl
theorem live_18_0 : E.live 18 0 = some ([3, 6, 7, 8], []) := by kernel_rfl
theorem live_19_0 : E.live 19 0 = some ([0, 3, 4], []) := by kernel_rfl
theorem live_19_3 : E.live 19 3 = some ([0, 3, 4, 5, 6], [5]) := by kernel_rfl
theorem live_19_5 : E.live 19 5 = some ([0, 3, 4, 5, 7], [5]) := by kernel_rfl
theorem live_22_1 : E.live 22 1 = some ([1, 4, 68, 69, 70], [1]) := by kernel_rfl
theorem live_23_0 : E.live 23 0 = some ([3, 7, 8, 9], []) := by kernel_rfl
theorem live_24_0 : E.live 24 0 = some ([3, 7, 8, 9], []) := by kernel_rfl
theorem live_25_1 : E.live 25 1 = some ([1, 8, 9], [1]) := by kernel_rfl
theorem live_25_3 : E.live 25 3 = some ([1, 8, 9, 10], [1]) := by kernel_rfl
theorem live_26_0 : E.live 26 0 = some ([3, 4, 5], []) := by kernel_rfl
theorem live_27_0 : E.live 27 0 = some ([3, 4, 5], []) := by kernel_rfl
theorem live_43_1 : E.live 43 1 = some ([3, 22, 23, 24], []) := by kernel_rfl
theorem live_43_3 : E.live 43 3 = some ([6, 7], [7]) := by kernel_rfl
theorem live_54_0 : E.live 54 0 = some ([1, 2, 3, 5], [1, 3]) := by kernel_rfl
theorem live_57_0 : E.live 57 0 = some ([1, 6, 7, 8], [1]) := by kernel_rfl
theorem live_58_0 : E.live 58 0 = some ([0, 5, 6], []) := by kernel_rfl
theorem live_58_2 : E.live 58 2 = some ([0, 5, 6], []) := by kernel_rfl
theorem live_59_0 : E.live 59 0 = some ([0, 4, 7, 9, 11], [4, 7]) := by kernel_rfl
theorem live_61_0 : E.live 61 0 = some ([1, 3], [1]) := by kernel_rfl
theorem live_62_1 : E.live 62 1 = some ([1, 3, 11, 12, 13], [1]) := by kernel_rfl
theorem live_64_1 : E.live 64 1 = some ([1, 3, 4], [1]) := by kernel_rfl
theorem live_64_3 : E.live 64 3 = some ([6, 7], [7]) := by kernel_rfl
theorem live_65_1 : E.live 65 1 = some ([0, 2, 6], [2, 6]) := by kernel_rfl
theorem live_66_0 : E.live 66 0 = some ([3, 17, 18, 19], []) := by kernel_rfl
theorem live_67_0 : E.live 67 0 = some ([0, 4, 19, 20, 22], [4, 20]) := by kernel_rfl
theorem live_67_2 : E.live 67 2 = some ([0, 4, 26, 27], [4, 26]) := by kernel_rfl
theorem live_68_0 : E.live 68 0 = some ([3, 4], []) := by kernel_rfl
theorem live_69_0 : E.live 69 0 = some ([2, 7, 8, 9], [2]) := by kernel_rfl
theorem live_70_0 : E.live 70 0 = some ([3, 16, 17, 18], []) := by kernel_rfl
theorem live_72_0 : E.live 72 0 = some ([1, 3, 4], [1]) := by kernel_rfl
theorem live_91_0 : E.live 91 0 = some ([3, 7, 8, 9], []) := by kernel_rfl
theorem live_109_0 : E.live 109 0 = some ([0, 3, 4], []) := by kernel_rfl
theorem live_111_0 : E.live 111 0 = some ([0, 3], []) := by kernel_rfl
theorem live_112_0 : E.live 112 0 = some ([0, 1], []) := by kernel_rfl
theorem live_116_0 : E.live 116 0 = some ([0, 1, 7], []) := by kernel_rfl
theorem live_116_2 : E.live 116 2 = some ([0, 1, 11, 12], []) := by kernel_rfl
theorem live_118_0 : E.live 118 0 = some ([0, 1, 6, 7], []) := by kernel_rfl
theorem live_122_0 : E.live 122 0 = some ([1, 3, 4], [1]) := by kernel_rfl
theorem live_140_0 : E.live 140 0 = some ([3, 4, 5, 6, 8], [3, 4, 5, 6]) := by kernel_rfl
theorem live_143_0 : E.live 143 0 = some ([0, 1, 7, 8], []) := by kernel_rfl
theorem live_149_0 : E.live 149 0 = some ([0, 1, 5], []) := by kernel_rfl
theorem live_158_0 : E.live 158 0 = some ([0, 1, 5], []) := by kernel_rfl
theorem live_159_0 : E.live 159 0 = some ([0, 1, 4, 7], [4]) := by kernel_rfl
theorem live_159_2 : E.live 159 2 = some ([0, 1, 4, 9, 10, 11], [4, 9]) := by kernel_rfl
theorem live_164_0 : E.live 164 0 = some ([0, 2, 4], [2]) := by kernel_rfl
theorem live_164_2 : E.live 164 2 = some ([2, 4, 9, 10, 11], [2, 9]) := by kernel_rfl
theorem live_165_0 : E.live 165 0 = some ([0, 2, 6], [2, 6]) := by kernel_rfl
theorem live_167_0 : E.live 167 0 = some ([1, 2, 4, 5, 18, 19, 20], [2, 4, 16]) := by kernel_rfl
theorem live_169_0 : E.live 169 0 = some ([1, 2, 21, 22, 23], []) := by kernel_rfl
theorem live_174_0 : E.live 174 0 = some ([0, 4, 7, 8], [4, 7]) := by kernel_rfl
theorem live_180_0 : E.live 180 0 = some ([0, 1, 5], []) := by kernel_rfl
theorem live_194_0 : E.live 194 0 = some ([0, 3, 4], []) := by kernel_rfl
theorem drw_10_16 : E.drw 10 16 = some [] := by kernel_rfl
theorem drw_10_17 : E.drw 10 17 = some [] := by kernel_rfl
theorem drw_10_19 : E.drw 10 19 = some [(7, 4)] := by kernel_rfl
theorem drw_19_23 : E.drw 19 23 = some [(2, 7)] := by kernel_rfl
theorem drw_19_25 : E.drw 19 25 = some [(2, 7)] := by kernel_rfl
theorem drw_19_20 : E.drw 19 20 = some [(2, 15), (6, 15)] := by kernel_rfl
theorem drw_22_3 : E.drw 22 3 = some [(1, 8)] := by kernel_rfl
theorem drw_22_5 : E.drw 22 5 = some [(8, 5), (10, 5)] := by kernel_rfl
theorem drw_22_10 : E.drw 22 10 = some [(10, 6), (12, 6)] := by kernel_rfl
theorem drw_22_16 : E.drw 22 16 = some [(10, 6), (10, 7)] := by kernel_rfl
theorem drw_22_20 : E.drw 22 20 = some [(8, 4)] := by kernel_rfl
theorem drw_25_6 : E.drw 25 6 = some [(1, 8)] := by kernel_rfl
theorem drw_25_21 : E.drw 25 21 = some [(1, 10), (1, 17), (14, 10), (16, 10)] := by kernel_rfl
theorem drw_25_23 : E.drw 25 23 = some [(8, 4)] := by kernel_rfl
theorem drw_42_1 : E.drw 42 1 = some [(2, 1)] := by kernel_rfl
theorem drw_43_9 : E.drw 43 9 = some [(1, 3)] := by kernel_rfl
theorem drw_43_13 : E.drw 43 13 = some [(13, 10), (15, 10)] := by kernel_rfl
theorem drw_54_9 : E.drw 54 9 = some [] := by kernel_rfl
theorem drw_54_10 : E.drw 54 10 = some [] := by kernel_rfl
theorem drw_54_6 : E.drw 54 6 = some [(0, 4)] := by kernel_rfl
theorem drw_59_18 : E.drw 59 18 = some [(0, 3)] := by kernel_rfl
theorem drw_59_23 : E.drw 59 23 = some [(3, 2)] := by kernel_rfl
theorem drw_59_25 : E.drw 59 25 = some [(3, 2)] := by kernel_rfl
theorem drw_62_7 : E.drw 62 7 = some [(2, 6)] := by kernel_rfl
theorem drw_62_11 : E.drw 62 11 = some [(1, 5)] := by kernel_rfl
theorem drw_62_12 : E.drw 62 12 = some [(1, 5)] := by kernel_rfl
theorem drw_64_18 : E.drw 64 18 = some [(8, 4), (10, 4)] := by kernel_rfl
theorem drw_64_19 : E.drw 64 19 = some [(7, 4), (9, 4)] := by kernel_rfl
theorem drw_65_14 : E.drw 65 14 = some [] := by kernel_rfl
theorem drw_65_17 : E.drw 65 17 = some [(0, 2)] := by kernel_rfl
theorem drw_67_5 : E.drw 67 5 = some [(4, 3)] := by kernel_rfl
theorem drw_67_35 : E.drw 67 35 = some [(0, 3)] := by kernel_rfl
theorem drw_90_5 : E.drw 90 5 = some [(4, 5)] := by kernel_rfl
theorem drw_92_1 : E.drw 92 1 = some [(0, 2)] := by kernel_rfl
theorem drw_113_3 : E.drw 113 3 = some [] := by kernel_rfl
theorem drw_116_31 : E.drw 116 31 = some [] := by kernel_rfl
theorem drw_126_3 : E.drw 126 3 = some [] := by kernel_rfl
theorem drw_127_7 : E.drw 127 7 = some [(0, 2)] := by kernel_rfl
theorem drw_128_0 : E.drw 128 0 = some [(8, 4)] := by kernel_rfl
theorem drw_129_8 : E.drw 129 8 = some [(2, 1)] := by kernel_rfl
theorem drw_130_16 : E.drw 130 16 = some [(0, 3)] := by kernel_rfl
theorem drw_140_7 : E.drw 140 7 = some [] := by kernel_rfl
theorem drw_140_9 : E.drw 140 9 = some [(1, 2)] := by kernel_rfl
theorem drw_159_13 : E.drw 159 13 = some [] := by kernel_rfl
theorem drw_164_12 : E.drw 164 12 = some [] := by kernel_rfl
theorem drw_166_7 : E.drw 166 7 = some [(0, 5), (0, 9), (6, 5), (7, 5)] := by kernel_rfl
theorem drw_166_8 : E.drw 166 8 = some [] := by kernel_rfl
theorem drw_180_3 : E.drw 180 3 = some [] := by kernel_rfl
theorem res_3 : resOf E 3 = some [.tmp 2] := by kernel_rfl
theorem frz_3 : E.frz 3 = [] := by kernel_rfl
theorem lend_3 : E.lend 3 = [] := by kernel_rfl
theorem keep_3 : E.keep 3 = false := by kernel_rfl
theorem res_4 : resOf E 4 = some [.tmp 2] := by kernel_rfl
theorem frz_4 : E.frz 4 = [] := by kernel_rfl
theorem lend_4 : E.lend 4 = [] := by kernel_rfl
theorem keep_4 : E.keep 4 = false := by kernel_rfl
theorem body_10 : bodyOf E 10 = Tryz.f10.body := by kernel_rfl
theorem prim_10 : E.prim 10 = none := by kernel_rfl
theorem res_10 : resOf E 10 = some [.tmp 6] := by kernel_rfl
theorem frz_10 : E.frz 10 = [] := by kernel_rfl
theorem lend_10 : E.lend 10 = [] := by kernel_rfl
theorem keep_10 : E.keep 10 = false := by kernel_rfl
theorem body_15 : bodyOf E 15 = Tryz.f15.body := by kernel_rfl
theorem prim_15 : E.prim 15 = none := by kernel_rfl
theorem res_15 : resOf E 15 = some [.tmp 0] := by kernel_rfl
theorem frz_15 : E.frz 15 = [] := by kernel_rfl
theorem lend_15 : E.lend 15 = [] := by kernel_rfl
theorem keep_15 : E.keep 15 = false := by kernel_rfl
theorem body_16 : bodyOf E 16 = Tryz.f16.body := by kernel_rfl
theorem prim_16 : E.prim 16 = none := by kernel_rfl
theorem res_16 : resOf E 16 = some [.tmp 2, .tmp 3] := by kernel_rfl
theorem frz_16 : E.frz 16 = [] := by kernel_rfl
theorem lend_16 : E.lend 16 = [] := by kernel_rfl
theorem keep_16 : E.keep 16 = false := by kernel_rfl
theorem body_17 : bodyOf E 17 = Tryz.f17.body := by kernel_rfl
theorem prim_17 : E.prim 17 = none := by kernel_rfl
theorem res_17 : resOf E 17 = some [.tmp 2, .tmp 3] := by kernel_rfl
theorem frz_17 : E.frz 17 = [] := by kernel_rfl
theorem lend_17 : E.lend 17 = [] := by kernel_rfl
theorem keep_17 : E.keep 17 = false := by kernel_rfl
theorem body_18 : bodyOf E 18 = Tryz.f18.body := by kernel_rfl
theorem prim_18 : E.prim 18 = none := by kernel_rfl
theorem res_18 : resOf E 18 = some [.tmp 2] := by kernel_rfl
theorem frz_18 : E.frz 18 = [] := by kernel_rfl
theorem lend_18 : E.lend 18 = [] := by kernel_rfl
theorem keep_18 : E.keep 18 = false := by kernel_rfl
theorem body_19 : bodyOf E 19 = Tryz.f19.body := by kernel_rfl
theorem prim_19 : E.prim 19 = none := by kernel_rfl
theorem res_19 : resOf E 19 = some [.tmp 2] := by kernel_rfl
theorem frz_19 : E.frz 19 = [] := by kernel_rfl
theorem lend_19 : E.lend 19 = [] := by kernel_rfl
theorem keep_19 : E.keep 19 = false := by kernel_rfl
theorem body_20 : bodyOf E 20 = Tryz.f20.body := by kernel_rfl
theorem prim_20 : E.prim 20 = none := by kernel_rfl
theorem res_20 : resOf E 20 = some [.cell 2 39, .tmp 3] := by kernel_rfl
theorem frz_20 : E.frz 20 = [] := by kernel_rfl
theorem lend_20 : E.lend 20 = [] := by kernel_rfl
theorem keep_20 : E.keep 20 = false := by kernel_rfl
theorem body_21 : bodyOf E 21 = Tryz.f21.body := by kernel_rfl
theorem prim_21 : E.prim 21 = none := by kernel_rfl
theorem res_21 : resOf E 21 = some [.cell 2 48, .tmp 3] := by kernel_rfl
theorem frz_21 : E.frz 21 = [] := by kernel_rfl
theorem lend_21 : E.lend 21 = [] := by kernel_rfl
theorem keep_21 : E.keep 21 = false := by kernel_rfl
theorem body_22 : bodyOf E 22 = Tryz.f22.body := by kernel_rfl
theorem prim_22 : E.prim 22 = none := by kernel_rfl
theorem res_22 : resOf E 22 = some [.tmp 2] := by kernel_rfl
theorem frz_22 : E.frz 22 = [] := by kernel_rfl
theorem lend_22 : E.lend 22 = [] := by kernel_rfl
theorem keep_22 : E.keep 22 = false := by kernel_rfl
theorem body_23 : bodyOf E 23 = Tryz.f23.body := by kernel_rfl
theorem prim_23 : E.prim 23 = none := by kernel_rfl
theorem res_23 : resOf E 23 = some [.tmp 2] := by kernel_rfl
theorem frz_23 : E.frz 23 = [] := by kernel_rfl
theorem lend_23 : E.lend 23 = [] := by kernel_rfl
theorem keep_23 : E.keep 23 = false := by kernel_rfl
theorem body_24 : bodyOf E 24 = Tryz.f24.body := by kernel_rfl
theorem prim_24 : E.prim 24 = none := by kernel_rfl
theorem res_24 : resOf E 24 = some [.tmp 2] := by kernel_rfl
theorem frz_24 : E.frz 24 = [] := by kernel_rfl
theorem lend_24 : E.lend 24 = [] := by kernel_rfl
theorem keep_24 : E.keep 24 = false := by kernel_rfl
theorem body_25 : bodyOf E 25 = Tryz.f25.body := by kernel_rfl
theorem prim_25 : E.prim 25 = none := by kernel_rfl
theorem res_25 : resOf E 25 = some [.tmp 2] := by kernel_rfl
theorem frz_25 : E.frz 25 = [] := by kernel_rfl
theorem lend_25 : E.lend 25 = [] := by kernel_rfl
theorem keep_25 : E.keep 25 = false := by kernel_rfl
theorem res_26 : resOf E 26 = some [.tmp 2] := by kernel_rfl
theorem frz_26 : E.frz 26 = [] := by kernel_rfl
theorem lend_26 : E.lend 26 = [] := by kernel_rfl
theorem keep_26 : E.keep 26 = false := by kernel_rfl
theorem body_27 : bodyOf E 27 = Tryz.f27.body := by kernel_rfl
theorem prim_27 : E.prim 27 = none := by kernel_rfl
theorem res_27 : resOf E 27 = some [.tmp 2] := by kernel_rfl
theorem frz_27 : E.frz 27 = [] := by kernel_rfl
theorem lend_27 : E.lend 27 = [] := by kernel_rfl
theorem keep_27 : E.keep 27 = false := by kernel_rfl
theorem body_41 : bodyOf E 41 = Tryz.f41.body := by kernel_rfl
theorem prim_41 : E.prim 41 = none := by kernel_rfl
theorem res_41 : resOf E 41 = some [.cell 2 35, .tmp 3] := by kernel_rfl
theorem frz_41 : E.frz 41 = [] := by kernel_rfl
theorem lend_41 : E.lend 41 = [] := by kernel_rfl
theorem keep_41 : E.keep 41 = false := by kernel_rfl
theorem body_42 : bodyOf E 42 = Tryz.f42.body := by kernel_rfl
theorem prim_42 : E.prim 42 = none := by kernel_rfl
theorem res_42 : resOf E 42 = some [.tmp 4] := by kernel_rfl
theorem frz_42 : E.frz 42 = [] := by kernel_rfl
theorem lend_42 : E.lend 42 = [] := by kernel_rfl
theorem keep_42 : E.keep 42 = false := by kernel_rfl
theorem body_43 : bodyOf E 43 = Tryz.f43.body := by kernel_rfl
theorem prim_43 : E.prim 43 = none := by kernel_rfl
theorem res_43 : resOf E 43 = some [.tmp 2] := by kernel_rfl
theorem frz_43 : E.frz 43 = [] := by kernel_rfl
theorem lend_43 : E.lend 43 = [] := by kernel_rfl
theorem keep_43 : E.keep 43 = false := by kernel_rfl
theorem body_53 : bodyOf E 53 = Tryz.f53.body := by kernel_rfl
theorem prim_53 : E.prim 53 = none := by kernel_rfl
theorem res_53 : resOf E 53 = some [.tmp 2] := by kernel_rfl
theorem frz_53 : E.frz 53 = [] := by kernel_rfl
theorem lend_53 : E.lend 53 = [] := by kernel_rfl
theorem keep_53 : E.keep 53 = false := by kernel_rfl
theorem body_54 : bodyOf E 54 = Tryz.f54.body := by kernel_rfl
theorem prim_54 : E.prim 54 = none := by kernel_rfl
theorem res_54 : resOf E 54 = some [.tmp 2, .cell 3 3, .tmp 4] := by kernel_rfl
theorem frz_54 : E.frz 54 = [] := by kernel_rfl
theorem lend_54 : E.lend 54 = [] := by kernel_rfl
theorem keep_54 : E.keep 54 = false := by kernel_rfl
theorem body_55 : bodyOf E 55 = Tryz.f55.body := by kernel_rfl
theorem prim_55 : E.prim 55 = none := by kernel_rfl
theorem res_55 : resOf E 55 = some [.cell 2 62] := by kernel_rfl
theorem frz_55 : E.frz 55 = [] := by kernel_rfl
theorem lend_55 : E.lend 55 = [] := by kernel_rfl
theorem keep_55 : E.keep 55 = false := by kernel_rfl
theorem body_56 : bodyOf E 56 = Tryz.f56.body := by kernel_rfl
theorem prim_56 : E.prim 56 = none := by kernel_rfl
theorem res_56 : resOf E 56 = some [.tmp 6] := by kernel_rfl
theorem frz_56 : E.frz 56 = [] := by kernel_rfl
theorem lend_56 : E.lend 56 = [] := by kernel_rfl
theorem keep_56 : E.keep 56 = false := by kernel_rfl
theorem body_57 : bodyOf E 57 = Tryz.f57.body := by kernel_rfl
theorem prim_57 : E.prim 57 = none := by kernel_rfl
theorem res_57 : resOf E 57 = some [.tmp 2] := by kernel_rfl
theorem frz_57 : E.frz 57 = [] := by kernel_rfl
theorem lend_57 : E.lend 57 = [] := by kernel_rfl
theorem keep_57 : E.keep 57 = false := by kernel_rfl
theorem body_58 : bodyOf E 58 = Tryz.f58.body := by kernel_rfl
theorem prim_58 : E.prim 58 = none := by kernel_rfl
theorem res_58 : resOf E 58 = some [.tmp 2, .tmp 3, .tmp 4] := by kernel_rfl
theorem frz_58 : E.frz 58 = [] := by kernel_rfl
theorem lend_58 : E.lend 58 = [] := by kernel_rfl
theorem keep_58 : E.keep 58 = false := by kernel_rfl
theorem body_59 : bodyOf E 59 = Tryz.f59.body := by kernel_rfl
theorem prim_59 : E.prim 59 = none := by kernel_rfl
theorem res_59 : resOf E 59 = some [.cell 4 102, .tmp 5] := by kernel_rfl
theorem frz_59 : E.frz 59 = [] := by kernel_rfl
theorem lend_59 : E.lend 59 = [] := by kernel_rfl
theorem keep_59 : E.keep 59 = false := by kernel_rfl
theorem body_60 : bodyOf E 60 = Tryz.f60.body := by kernel_rfl
theorem prim_60 : E.prim 60 = none := by kernel_rfl
theorem res_60 : resOf E 60 = some [.tmp 8] := by kernel_rfl
theorem frz_60 : E.frz 60 = [] := by kernel_rfl
theorem lend_60 : E.lend 60 = [] := by kernel_rfl
theorem keep_60 : E.keep 60 = false := by kernel_rfl
theorem body_61 : bodyOf E 61 = Tryz.f61.body := by kernel_rfl
theorem prim_61 : E.prim 61 = none := by kernel_rfl
theorem res_61 : resOf E 61 = some [.tmp 2] := by kernel_rfl
theorem frz_61 : E.frz 61 = [] := by kernel_rfl
theorem lend_61 : E.lend 61 = [] := by kernel_rfl
theorem keep_61 : E.keep 61 = false := by kernel_rfl
theorem body_62 : bodyOf E 62 = Tryz.f62.body := by kernel_rfl
theorem prim_62 : E.prim 62 = none := by kernel_rfl
theorem res_62 : resOf E 62 = some [.tmp 2] := by kernel_rfl
theorem frz_62 : E.frz 62 = [] := by kernel_rfl
theorem lend_62 : E.lend 62 = [] := by kernel_rfl
theorem keep_62 : E.keep 62 = false := by kernel_rfl
theorem body_64 : bodyOf E 64 = Tryz.f64.body := by kernel_rfl
theorem prim_64 : E.prim 64 = none := by kernel_rfl
theorem res_64 : resOf E 64 = some [.tmp 2] := by kernel_rfl
theorem frz_64 : E.frz 64 = [] := by kernel_rfl
theorem lend_64 : E.lend 64 = [] := by kernel_rfl
theorem keep_64 : E.keep 64 = false := by kernel_rfl
theorem body_65 : bodyOf E 65 = Tryz.f65.body := by kernel_rfl
theorem prim_65 : E.prim 65 = none := by kernel_rfl
theorem res_65 : resOf E 65 = some [.cell 2 39] := by kernel_rfl
theorem frz_65 : E.frz 65 = [] := by kernel_rfl
theorem lend_65 : E.lend 65 = [] := by kernel_rfl
theorem keep_65 : E.keep 65 = false := by kernel_rfl
theorem body_66 : bodyOf E 66 = Tryz.f66.body := by kernel_rfl
theorem prim_66 : E.prim 66 = none := by kernel_rfl
theorem res_66 : resOf E 66 = some [.tmp 2] := by kernel_rfl
theorem frz_66 : E.frz 66 = [] := by kernel_rfl
theorem lend_66 : E.lend 66 = [] := by kernel_rfl
theorem keep_66 : E.keep 66 = false := by kernel_rfl
theorem body_67 : bodyOf E 67 = Tryz.f67.body := by kernel_rfl
theorem prim_67 : E.prim 67 = none := by kernel_rfl
theorem res_67 : resOf E 67 = some [.cell 4 48, .tmp 5] := by kernel_rfl
theorem frz_67 : E.frz 67 = [] := by kernel_rfl
theorem lend_67 : E.lend 67 = [] := by kernel_rfl
theorem keep_67 : E.keep 67 = false := by kernel_rfl
theorem body_68 : bodyOf E 68 = Tryz.f68.body := by kernel_rfl
theorem prim_68 : E.prim 68 = none := by kernel_rfl
theorem res_68 : resOf E 68 = some [.tmp 2] := by kernel_rfl
theorem frz_68 : E.frz 68 = [] := by kernel_rfl
theorem lend_68 : E.lend 68 = [] := by kernel_rfl
theorem keep_68 : E.keep 68 = false := by kernel_rfl
theorem body_69 : bodyOf E 69 = Tryz.f69.body := by kernel_rfl
theorem prim_69 : E.prim 69 = none := by kernel_rfl
theorem res_69 : resOf E 69 = some [.tmp 4] := by kernel_rfl
theorem frz_69 : E.frz 69 = [] := by kernel_rfl
theorem lend_69 : E.lend 69 = [] := by kernel_rfl
theorem keep_69 : E.keep 69 = false := by kernel_rfl
theorem body_70 : bodyOf E 70 = Tryz.f70.body := by kernel_rfl
theorem prim_70 : E.prim 70 = none := by kernel_rfl
theorem res_70 : resOf E 70 = some [.tmp 2] := by kernel_rfl
theorem frz_70 : E.frz 70 = [] := by kernel_rfl
theorem lend_70 : E.lend 70 = [] := by kernel_rfl
theorem keep_70 : E.keep 70 = false := by kernel_rfl
theorem body_71 : bodyOf E 71 = Tryz.f71.body := by kernel_rfl
theorem prim_71 : E.prim 71 = none := by kernel_rfl
theorem res_71 : resOf E 71 = some [.tmp 2] := by kernel_rfl
theorem frz_71 : E.frz 71 = [] := by kernel_rfl
theorem lend_71 : E.lend 71 = [] := by kernel_rfl
theorem keep_71 : E.keep 71 = false := by kernel_rfl
theorem body_72 : bodyOf E 72 = Tryz.f72.body := by kernel_rfl
theorem prim_72 : E.prim 72 = none := by kernel_rfl
theorem res_72 : resOf E 72 = some [.tmp 2] := by kernel_rfl
theorem frz_72 : E.frz 72 = [] := by kernel_rfl
theorem lend_72 : E.lend 72 = [] := by kernel_rfl
theorem keep_72 : E.keep 72 = false := by kernel_rfl
theorem body_90 : bodyOf E 90 = Tryz.f90.body := by kernel_rfl
theorem prim_90 : E.prim 90 = none := by kernel_rfl
theorem res_90 : resOf E 90 = some [.cell 2 35, .tmp 3, .tmp 4] := by kernel_rfl
theorem frz_90 : E.frz 90 = [] := by kernel_rfl
theorem lend_90 : E.lend 90 = [] := by kernel_rfl
theorem keep_90 : E.keep 90 = false := by kernel_rfl
theorem body_91 : bodyOf E 91 = Tryz.f91.body := by kernel_rfl
theorem prim_91 : E.prim 91 = none := by kernel_rfl
theorem res_91 : resOf E 91 = some [.tmp 2] := by kernel_rfl
theorem frz_91 : E.frz 91 = [] := by kernel_rfl
theorem lend_91 : E.lend 91 = [] := by kernel_rfl
theorem keep_91 : E.keep 91 = false := by kernel_rfl
theorem body_92 : bodyOf E 92 = Tryz.f92.body := by kernel_rfl
theorem prim_92 : E.prim 92 = none := by kernel_rfl
theorem res_92 : resOf E 92 = some [.tmp 2] := by kernel_rfl
theorem frz_92 : E.frz 92 = [] := by kernel_rfl
theorem lend_92 : E.lend 92 = [] := by kernel_rfl
theorem keep_92 : E.keep 92 = false := by kernel_rfl
theorem body_94 : bodyOf E 94 = Tryz.f94.body := by kernel_rfl
theorem prim_94 : E.prim 94 = none := by kernel_rfl
theorem res_94 : resOf E 94 = some [.tmp 4] := by kernel_rfl
theorem frz_94 : E.frz 94 = [] := by kernel_rfl
theorem lend_94 : E.lend 94 = [] := by kernel_rfl
theorem keep_94 : E.keep 94 = false := by kernel_rfl
theorem body_95 : bodyOf E 95 = Tryz.f95.body := by kernel_rfl
theorem prim_95 : E.prim 95 = none := by kernel_rfl
theorem res_95 : resOf E 95 = some [.tmp 2] := by kernel_rfl
theorem frz_95 : E.frz 95 = [] := by kernel_rfl
theorem lend_95 : E.lend 95 = [] := by kernel_rfl
theorem keep_95 : E.keep 95 = false := by kernel_rfl
theorem body_99 : bodyOf E 99 = Tryz.f99.body := by kernel_rfl
theorem prim_99 : E.prim 99 = none := by kernel_rfl
theorem res_99 : resOf E 99 = some [.tmp 4] := by kernel_rfl
theorem frz_99 : E.frz 99 = [] := by kernel_rfl
theorem lend_99 : E.lend 99 = [] := by kernel_rfl
theorem keep_99 : E.keep 99 = false := by kernel_rfl
theorem body_107 : bodyOf E 107 = Tryz.f107.body := by kernel_rfl
theorem prim_107 : E.prim 107 = none := by kernel_rfl
theorem res_107 : resOf E 107 = some [.tmp 2, .tmp 3] := by kernel_rfl
theorem frz_107 : E.frz 107 = [] := by kernel_rfl
theorem lend_107 : E.lend 107 = [] := by kernel_rfl
theorem keep_107 : E.keep 107 = false := by kernel_rfl
theorem body_108 : bodyOf E 108 = Tryz.f108.body := by kernel_rfl
theorem prim_108 : E.prim 108 = none := by kernel_rfl
theorem res_108 : resOf E 108 = some [.tmp 2, .tmp 3] := by kernel_rfl
theorem frz_108 : E.frz 108 = [] := by kernel_rfl
theorem lend_108 : E.lend 108 = [] := by kernel_rfl
theorem keep_108 : E.keep 108 = false := by kernel_rfl
theorem body_109 : bodyOf E 109 = Tryz.f109.body := by kernel_rfl
theorem prim_109 : E.prim 109 = none := by kernel_rfl
theorem res_109 : resOf E 109 = some [.tmp 2] := by kernel_rfl
theorem frz_109 : E.frz 109 = [] := by kernel_rfl
theorem lend_109 : E.lend 109 = [] := by kernel_rfl
theorem keep_109 : E.keep 109 = false := by kernel_rfl
theorem body_110 : bodyOf E 110 = Tryz.f110.body := by kernel_rfl
theorem prim_110 : E.prim 110 = none := by kernel_rfl
theorem res_110 : resOf E 110 = some [.tmp 6] := by kernel_rfl
theorem frz_110 : E.frz 110 = [] := by kernel_rfl
theorem lend_110 : E.lend 110 = [] := by kernel_rfl
theorem keep_110 : E.keep 110 = false := by kernel_rfl
theorem body_111 : bodyOf E 111 = Tryz.f111.body := by kernel_rfl
theorem prim_111 : E.prim 111 = none := by kernel_rfl
theorem res_111 : resOf E 111 = some [.tmp 2] := by kernel_rfl
theorem frz_111 : E.frz 111 = [] := by kernel_rfl
theorem lend_111 : E.lend 111 = [] := by kernel_rfl
theorem keep_111 : E.keep 111 = false := by kernel_rfl
theorem body_112 : bodyOf E 112 = Tryz.f112.body := by kernel_rfl
theorem prim_112 : E.prim 112 = none := by kernel_rfl
theorem res_112 : resOf E 112 = some [] := by kernel_rfl
theorem frz_112 : E.frz 112 = [] := by kernel_rfl
theorem lend_112 : E.lend 112 = [] := by kernel_rfl
theorem keep_112 : E.keep 112 = false := by kernel_rfl
theorem body_113 : bodyOf E 113 = Tryz.f113.body := by kernel_rfl
theorem prim_113 : E.prim 113 = none := by kernel_rfl
theorem res_113 : resOf E 113 = some [] := by kernel_rfl
theorem frz_113 : E.frz 113 = [] := by kernel_rfl
theorem lend_113 : E.lend 113 = [] := by kernel_rfl
theorem keep_113 : E.keep 113 = false := by kernel_rfl
theorem body_114 : bodyOf E 114 = Tryz.f114.body := by kernel_rfl
theorem prim_114 : E.prim 114 = none := by kernel_rfl
theorem res_114 : resOf E 114 = some [.cell 2 35] := by kernel_rfl
theorem frz_114 : E.frz 114 = [] := by kernel_rfl
theorem lend_114 : E.lend 114 = [] := by kernel_rfl
theorem keep_114 : E.keep 114 = false := by kernel_rfl
theorem body_115 : bodyOf E 115 = Tryz.f115.body := by kernel_rfl
theorem prim_115 : E.prim 115 = none := by kernel_rfl
theorem res_115 : resOf E 115 = some [.tmp 6] := by kernel_rfl
theorem frz_115 : E.frz 115 = [] := by kernel_rfl
theorem lend_115 : E.lend 115 = [] := by kernel_rfl
theorem keep_115 : E.keep 115 = false := by kernel_rfl
theorem body_116 : bodyOf E 116 = Tryz.f116.body := by kernel_rfl
theorem prim_116 : E.prim 116 = none := by kernel_rfl
theorem res_116 : resOf E 116 = some [.tmp 4, .tmp 5] := by kernel_rfl
theorem frz_116 : E.frz 116 = [] := by kernel_rfl
theorem lend_116 : E.lend 116 = [] := by kernel_rfl
theorem keep_116 : E.keep 116 = false := by kernel_rfl
theorem body_117 : bodyOf E 117 = Tryz.f117.body := by kernel_rfl
theorem prim_117 : E.prim 117 = none := by kernel_rfl
theorem res_117 : resOf E 117 = some [.tmp 4] := by kernel_rfl
theorem frz_117 : E.frz 117 = [] := by kernel_rfl
theorem lend_117 : E.lend 117 = [] := by kernel_rfl
theorem keep_117 : E.keep 117 = false := by kernel_rfl
theorem body_118 : bodyOf E 118 = Tryz.f118.body := by kernel_rfl
theorem prim_118 : E.prim 118 = none := by kernel_rfl
theorem res_118 : resOf E 118 = some [.tmp 4, .tmp 5] := by kernel_rfl
theorem frz_118 : E.frz 118 = [] := by kernel_rfl
theorem lend_118 : E.lend 118 = [] := by kernel_rfl
theorem keep_118 : E.keep 118 = false := by kernel_rfl
theorem body_119 : bodyOf E 119 = Tryz.f119.body := by kernel_rfl
theorem prim_119 : E.prim 119 = none := by kernel_rfl
theorem res_119 : resOf E 119 = some [.tmp 8] := by kernel_rfl
theorem frz_119 : E.frz 119 = [] := by kernel_rfl
theorem lend_119 : E.lend 119 = [] := by kernel_rfl
theorem keep_119 : E.keep 119 = false := by kernel_rfl
theorem body_120 : bodyOf E 120 = Tryz.f120.body := by kernel_rfl
theorem prim_120 : E.prim 120 = none := by kernel_rfl
theorem res_120 : resOf E 120 = some [.cell 4 44, .tmp 5] := by kernel_rfl
theorem frz_120 : E.frz 120 = [] := by kernel_rfl
theorem lend_120 : E.lend 120 = [] := by kernel_rfl
theorem keep_120 : E.keep 120 = false := by kernel_rfl
theorem body_121 : bodyOf E 121 = Tryz.f121.body := by kernel_rfl
theorem prim_121 : E.prim 121 = none := by kernel_rfl
theorem res_121 : resOf E 121 = some [.tmp 8] := by kernel_rfl
theorem frz_121 : E.frz 121 = [] := by kernel_rfl
theorem lend_121 : E.lend 121 = [] := by kernel_rfl
theorem keep_121 : E.keep 121 = false := by kernel_rfl
theorem body_122 : bodyOf E 122 = Tryz.f122.body := by kernel_rfl
theorem prim_122 : E.prim 122 = none := by kernel_rfl
theorem res_122 : resOf E 122 = some [.tmp 2] := by kernel_rfl
theorem frz_122 : E.frz 122 = [] := by kernel_rfl
theorem lend_122 : E.lend 122 = [] := by kernel_rfl
theorem keep_122 : E.keep 122 = false := by kernel_rfl
theorem body_126 : bodyOf E 126 = Tryz.f126.body := by kernel_rfl
theorem prim_126 : E.prim 126 = none := by kernel_rfl
theorem res_126 : resOf E 126 = some [.tmp 2] := by kernel_rfl
theorem frz_126 : E.frz 126 = [] := by kernel_rfl
theorem lend_126 : E.lend 126 = [] := by kernel_rfl
theorem keep_126 : E.keep 126 = false := by kernel_rfl
theorem body_127 : bodyOf E 127 = Tryz.f127.body := by kernel_rfl
theorem prim_127 : E.prim 127 = none := by kernel_rfl
theorem res_127 : resOf E 127 = some [.cell 2 39] := by kernel_rfl
theorem frz_127 : E.frz 127 = [] := by kernel_rfl
theorem lend_127 : E.lend 127 = [] := by kernel_rfl
theorem keep_127 : E.keep 127 = false := by kernel_rfl
theorem body_128 : bodyOf E 128 = Tryz.f128.body := by kernel_rfl
theorem prim_128 : E.prim 128 = none := by kernel_rfl
theorem res_128 : resOf E 128 = some [] := by kernel_rfl
theorem frz_128 : E.frz 128 = [] := by kernel_rfl
theorem lend_128 : E.lend 128 = [] := by kernel_rfl
theorem keep_128 : E.keep 128 = false := by kernel_rfl
theorem body_129 : bodyOf E 129 = Tryz.f129.body := by kernel_rfl
theorem prim_129 : E.prim 129 = none := by kernel_rfl
theorem res_129 : resOf E 129 = some [.cell 2 39] := by kernel_rfl
theorem frz_129 : E.frz 129 = [] := by kernel_rfl
theorem lend_129 : E.lend 129 = [] := by kernel_rfl
theorem keep_129 : E.keep 129 = false := by kernel_rfl
theorem body_130 : bodyOf E 130 = Tryz.f130.body := by kernel_rfl
theorem prim_130 : E.prim 130 = none := by kernel_rfl
theorem res_130 : resOf E 130 = some [.cell 4 48, .tmp 5] := by kernel_rfl
theorem frz_130 : E.frz 130 = [] := by kernel_rfl
theorem lend_130 : E.lend 130 = [] := by kernel_rfl
theorem keep_130 : E.keep 130 = false := by kernel_rfl
theorem body_139 : bodyOf E 139 = Tryz.f139.body := by kernel_rfl
theorem prim_139 : E.prim 139 = none := by kernel_rfl
theorem res_139 : resOf E 139 = some [.cell 2 35, .tmp 3] := by kernel_rfl
theorem frz_139 : E.frz 139 = [] := by kernel_rfl
theorem lend_139 : E.lend 139 = [] := by kernel_rfl
theorem keep_139 : E.keep 139 = false := by kernel_rfl
theorem body_140 : bodyOf E 140 = Tryz.f140.body := by kernel_rfl
theorem prim_140 : E.prim 140 = none := by kernel_rfl
theorem res_140 : resOf E 140 = some [.cell 6 35, .tmp 7] := by kernel_rfl
theorem frz_140 : E.frz 140 = [] := by kernel_rfl
theorem lend_140 : E.lend 140 = [] := by kernel_rfl
theorem keep_140 : E.keep 140 = false := by kernel_rfl
theorem body_141 : bodyOf E 141 = Tryz.f141.body := by kernel_rfl
theorem prim_141 : E.prim 141 = none := by kernel_rfl
theorem res_141 : resOf E 141 = some [.tmp 2] := by kernel_rfl
theorem frz_141 : E.frz 141 = [] := by kernel_rfl
theorem lend_141 : E.lend 141 = [] := by kernel_rfl
theorem keep_141 : E.keep 141 = true := by kernel_rfl
theorem body_143 : bodyOf E 143 = Tryz.f143.body := by kernel_rfl
theorem prim_143 : E.prim 143 = none := by kernel_rfl
theorem res_143 : resOf E 143 = some [.tmp 4] := by kernel_rfl
theorem frz_143 : E.frz 143 = [] := by kernel_rfl
theorem lend_143 : E.lend 143 = [] := by kernel_rfl
theorem keep_143 : E.keep 143 = false := by kernel_rfl
theorem body_147 : bodyOf E 147 = Tryz.f147.body := by kernel_rfl
theorem prim_147 : E.prim 147 = none := by kernel_rfl
theorem res_147 : resOf E 147 = some [.tmp 2] := by kernel_rfl
theorem frz_147 : E.frz 147 = [] := by kernel_rfl
theorem lend_147 : E.lend 147 = [] := by kernel_rfl
theorem keep_147 : E.keep 147 = false := by kernel_rfl
theorem body_148 : bodyOf E 148 = Tryz.f148.body := by kernel_rfl
theorem prim_148 : E.prim 148 = none := by kernel_rfl
theorem res_148 : resOf E 148 = some [.tmp 2] := by kernel_rfl
theorem frz_148 : E.frz 148 = [] := by kernel_rfl
theorem lend_148 : E.lend 148 = [] := by kernel_rfl
theorem keep_148 : E.keep 148 = false := by kernel_rfl
theorem body_149 : bodyOf E 149 = Tryz.f149.body := by kernel_rfl
theorem prim_149 : E.prim 149 = none := by kernel_rfl
theorem res_149 : resOf E 149 = some [.tmp 4] := by kernel_rfl
theorem frz_149 : E.frz 149 = [] := by kernel_rfl
theorem lend_149 : E.lend 149 = [] := by kernel_rfl
theorem keep_149 : E.keep 149 = false := by kernel_rfl
theorem body_150 : bodyOf E 150 = Tryz.f150.body := by kernel_rfl
theorem prim_150 : E.prim 150 = none := by kernel_rfl
theorem res_150 : resOf E 150 = some [.tmp 2] := by kernel_rfl
theorem frz_150 : E.frz 150 = [] := by kernel_rfl
theorem lend_150 : E.lend 150 = [] := by kernel_rfl
theorem keep_150 : E.keep 150 = false := by kernel_rfl
theorem body_151 : bodyOf E 151 = Tryz.f151.body := by kernel_rfl
theorem prim_151 : E.prim 151 = none := by kernel_rfl
theorem res_151 : resOf E 151 = some [.tmp 2] := by kernel_rfl
theorem frz_151 : E.frz 151 = [] := by kernel_rfl
theorem lend_151 : E.lend 151 = [] := by kernel_rfl
theorem keep_151 : E.keep 151 = false := by kernel_rfl
theorem body_152 : bodyOf E 152 = Tryz.f152.body := by kernel_rfl
theorem prim_152 : E.prim 152 = none := by kernel_rfl
theorem res_152 : resOf E 152 = some [.tmp 2] := by kernel_rfl
theorem frz_152 : E.frz 152 = [] := by kernel_rfl
theorem lend_152 : E.lend 152 = [] := by kernel_rfl
theorem keep_152 : E.keep 152 = false := by kernel_rfl
theorem body_153 : bodyOf E 153 = Tryz.f153.body := by kernel_rfl
theorem prim_153 : E.prim 153 = none := by kernel_rfl
theorem res_153 : resOf E 153 = some [.tmp 2] := by kernel_rfl
theorem frz_153 : E.frz 153 = [] := by kernel_rfl
theorem lend_153 : E.lend 153 = [] := by kernel_rfl
theorem keep_153 : E.keep 153 = false := by kernel_rfl
theorem body_154 : bodyOf E 154 = Tryz.f154.body := by kernel_rfl
theorem prim_154 : E.prim 154 = none := by kernel_rfl
theorem res_154 : resOf E 154 = some [.tmp 4] := by kernel_rfl
theorem frz_154 : E.frz 154 = [] := by kernel_rfl
theorem lend_154 : E.lend 154 = [] := by kernel_rfl
theorem keep_154 : E.keep 154 = false := by kernel_rfl
theorem body_156 : bodyOf E 156 = Tryz.f156.body := by kernel_rfl
theorem prim_156 : E.prim 156 = none := by kernel_rfl
theorem res_156 : resOf E 156 = some [.tmp 2] := by kernel_rfl
theorem frz_156 : E.frz 156 = [] := by kernel_rfl
theorem lend_156 : E.lend 156 = [] := by kernel_rfl
theorem keep_156 : E.keep 156 = false := by kernel_rfl
theorem body_157 : bodyOf E 157 = Tryz.f157.body := by kernel_rfl
theorem prim_157 : E.prim 157 = none := by kernel_rfl
theorem res_157 : resOf E 157 = some [.tmp 2] := by kernel_rfl
theorem frz_157 : E.frz 157 = [] := by kernel_rfl
theorem lend_157 : E.lend 157 = [] := by kernel_rfl
theorem keep_157 : E.keep 157 = false := by kernel_rfl
theorem body_158 : bodyOf E 158 = Tryz.f158.body := by kernel_rfl
theorem prim_158 : E.prim 158 = none := by kernel_rfl
theorem res_158 : resOf E 158 = some [.tmp 4] := by kernel_rfl
theorem frz_158 : E.frz 158 = [] := by kernel_rfl
theorem lend_158 : E.lend 158 = [] := by kernel_rfl
theorem keep_158 : E.keep 158 = false := by kernel_rfl
theorem body_159 : bodyOf E 159 = Tryz.f159.body := by kernel_rfl
theorem prim_159 : E.prim 159 = none := by kernel_rfl
theorem res_159 : resOf E 159 = some [.cell 4 44, .tmp 5] := by kernel_rfl
theorem frz_159 : E.frz 159 = [] := by kernel_rfl
theorem lend_159 : E.lend 159 = [] := by kernel_rfl
theorem keep_159 : E.keep 159 = false := by kernel_rfl
theorem body_163 : bodyOf E 163 = Tryz.f163.body := by kernel_rfl
theorem prim_163 : E.prim 163 = none := by kernel_rfl
theorem res_163 : resOf E 163 = some [.tmp 6, .tmp 7] := by kernel_rfl
theorem frz_163 : E.frz 163 = [] := by kernel_rfl
theorem lend_163 : E.lend 163 = [] := by kernel_rfl
theorem keep_163 : E.keep 163 = false := by kernel_rfl
theorem body_164 : bodyOf E 164 = Tryz.f164.body := by kernel_rfl
theorem prim_164 : E.prim 164 = none := by kernel_rfl
theorem res_164 : resOf E 164 = some [.cell 2 35, .tmp 3] := by kernel_rfl
theorem frz_164 : E.frz 164 = [] := by kernel_rfl
theorem lend_164 : E.lend 164 = [] := by kernel_rfl
theorem keep_164 : E.keep 164 = false := by kernel_rfl
theorem body_165 : bodyOf E 165 = Tryz.f165.body := by kernel_rfl
theorem prim_165 : E.prim 165 = none := by kernel_rfl
theorem res_165 : resOf E 165 = some [.cell 2 35, .tmp 3] := by kernel_rfl
theorem frz_165 : E.frz 165 = [] := by kernel_rfl
theorem lend_165 : E.lend 165 = [] := by kernel_rfl
theorem keep_165 : E.keep 165 = false := by kernel_rfl
theorem body_166 : bodyOf E 166 = Tryz.f166.body := by kernel_rfl
theorem prim_166 : E.prim 166 = none := by kernel_rfl
theorem res_166 : resOf E 166 = some [.cell 6 35] := by kernel_rfl
theorem frz_166 : E.frz 166 = [] := by kernel_rfl
theorem lend_166 : E.lend 166 = [] := by kernel_rfl
theorem keep_166 : E.keep 166 = false := by kernel_rfl
theorem body_167 : bodyOf E 167 = Tryz.f167.body := by kernel_rfl
theorem prim_167 : E.prim 167 = none := by kernel_rfl
theorem res_167 : resOf E 167 = some [.cell 4 35] := by kernel_rfl
theorem frz_167 : E.frz 167 = [(9, [(5, 33)])] := by kernel_rfl
theorem lend_167 : E.lend 167 = [] := by kernel_rfl
theorem keep_167 : E.keep 167 = false := by kernel_rfl
theorem body_168 : bodyOf E 168 = Tryz.f168.body := by kernel_rfl
theorem prim_168 : E.prim 168 = none := by kernel_rfl
theorem res_168 : resOf E 168 = some [.cell 4 35] := by kernel_rfl
theorem frz_168 : E.frz 168 = [] := by kernel_rfl
theorem lend_168 : E.lend 168 = [] := by kernel_rfl
theorem keep_168 : E.keep 168 = false := by kernel_rfl
theorem body_169 : bodyOf E 169 = Tryz.f169.body := by kernel_rfl
theorem prim_169 : E.prim 169 = none := by kernel_rfl
theorem res_169 : resOf E 169 = some [] := by kernel_rfl
theorem frz_169 : E.frz 169 = [(5, [(1, 118)])] := by kernel_rfl
theorem lend_169 : E.lend 169 = [] := by kernel_rfl
theorem keep_169 : E.keep 169 = false := by kernel_rfl
theorem body_170 : bodyOf E 170 = Tryz.f170.body := by kernel_rfl
theorem prim_170 : E.prim 170 = none := by kernel_rfl
theorem res_170 : resOf E 170 = some [] := by kernel_rfl
theorem frz_170 : E.frz 170 = [] := by kernel_rfl
theorem lend_170 : E.lend 170 = [] := by kernel_rfl
theorem keep_170 : E.keep 170 = false := by kernel_rfl
theorem body_172 : bodyOf E 172 = Tryz.f172.body := by kernel_rfl
theorem prim_172 : E.prim 172 = none := by kernel_rfl
theorem res_172 : resOf E 172 = some [.tmp 4] := by kernel_rfl
theorem frz_172 : E.frz 172 = [] := by kernel_rfl
theorem lend_172 : E.lend 172 = [] := by kernel_rfl
theorem keep_172 : E.keep 172 = false := by kernel_rfl
theorem body_174 : bodyOf E 174 = Tryz.f174.body := by kernel_rfl
theorem prim_174 : E.prim 174 = none := by kernel_rfl
theorem res_174 : resOf E 174 = some [.cell 4 44, .tmp 5] := by kernel_rfl
theorem frz_174 : E.frz 174 = [] := by kernel_rfl
theorem lend_174 : E.lend 174 = [] := by kernel_rfl
theorem keep_174 : E.keep 174 = false := by kernel_rfl
theorem body_178 : bodyOf E 178 = Tryz.f178.body := by kernel_rfl
theorem prim_178 : E.prim 178 = none := by kernel_rfl
theorem res_178 : resOf E 178 = some [.tmp 6] := by kernel_rfl
theorem frz_178 : E.frz 178 = [] := by kernel_rfl
theorem lend_178 : E.lend 178 = [] := by kernel_rfl
theorem keep_178 : E.keep 178 = false := by kernel_rfl
theorem body_179 : bodyOf E 179 = Tryz.f179.body := by kernel_rfl
theorem prim_179 : E.prim 179 = none := by kernel_rfl
theorem res_179 : resOf E 179 = some [.cell 2 35, .tmp 3] := by kernel_rfl
theorem frz_179 : E.frz 179 = [] := by kernel_rfl
theorem lend_179 : E.lend 179 = [] := by kernel_rfl
theorem keep_179 : E.keep 179 = false := by kernel_rfl
theorem body_180 : bodyOf E 180 = Tryz.f180.body := by kernel_rfl
theorem prim_180 : E.prim 180 = none := by kernel_rfl
theorem res_180 : resOf E 180 = some [.tmp 4] := by kernel_rfl
theorem frz_180 : E.frz 180 = [] := by kernel_rfl
theorem lend_180 : E.lend 180 = [] := by kernel_rfl
theorem keep_180 : E.keep 180 = false := by kernel_rfl
theorem body_181 : bodyOf E 181 = Tryz.f181.body := by kernel_rfl
theorem prim_181 : E.prim 181 = none := by kernel_rfl
theorem res_181 : resOf E 181 = some [.cell 4 35] := by kernel_rfl
theorem frz_181 : E.frz 181 = [] := by kernel_rfl
theorem lend_181 : E.lend 181 = [] := by kernel_rfl
theorem keep_181 : E.keep 181 = false := by kernel_rfl
theorem body_187 : bodyOf E 187 = Tryz.f187.body := by kernel_rfl
theorem prim_187 : E.prim 187 = none := by kernel_rfl
theorem res_187 : resOf E 187 = some [.cell 4 44, .tmp 5] := by kernel_rfl
theorem frz_187 : E.frz 187 = [] := by kernel_rfl
theorem lend_187 : E.lend 187 = [] := by kernel_rfl
theorem keep_187 : E.keep 187 = false := by kernel_rfl
theorem body_194 : bodyOf E 194 = Tryz.f194.body := by kernel_rfl
theorem prim_194 : E.prim 194 = none := by kernel_rfl
theorem res_194 : resOf E 194 = some [.tmp 2] := by kernel_rfl
theorem frz_194 : E.frz 194 = [] := by kernel_rfl
theorem lend_194 : E.lend 194 = [] := by kernel_rfl
theorem keep_194 : E.keep 194 = false := by kernel_rfl
theorem prim_63 : E.prim 63 = some joinP := by kernel_rfl
theorem prim_93 : E.prim 93 = some itoaP := by kernel_rfl
theorem prim_188 : E.prim 188 = some atoiQ := by kernel_rfl
theorem prim_155 : E.prim 155 = some indexByteP := by kernel_rfl
theorem prim_162 : E.prim 162 = some cloneP := by kernel_rfl
theorem drw_128_3 : E.drw 128 3 = none := by kernel_rfl
theorem ts3 : tsize E.P 3 = 1 := by kernel_rfl
theorem ts4 : tsize E.P 4 = 1 := by kernel_rfl
theorem ts5 : tsize E.P 5 = 1 := by kernel_rfl
theorem ts9 : tsize E.P 9 = 1 := by kernel_rfl
theorem ts33 : tsize E.P 33 = 1 := by kernel_rfl
theorem ts35 : tsize E.P 35 = 4 := by kernel_rfl
theorem ts36 : tsize E.P 36 = 1 := by kernel_rfl
theorem ts37 : tsize E.P 37 = 1 := by kernel_rfl
theorem ts39 : tsize E.P 39 = 9 := by kernel_rfl
theorem ts42 : tsize E.P 42 = 1 := by kernel_rfl
theorem ts44 : tsize E.P 44 = 4 := by kernel_rfl
theorem ts45 : tsize E.P 45 = 1 := by kernel_rfl
theorem ts46 : tsize E.P 46 = 1 := by kernel_rfl
theorem ts48 : tsize E.P 48 = 9 := by kernel_rfl
theorem ts54 : tsize E.P 54 = 1 := by kernel_rfl
theorem ts60 : tsize E.P 60 = 1 := by kernel_rfl
theorem ts62 : tsize E.P 62 = 17 := by kernel_rfl
theorem ts67 : tsize E.P 67 = 11 := by kernel_rfl
theorem ts73 : tsize E.P 73 = 5 := by kernel_rfl
theorem ts92 : tsize E.P 92 = 1 := by kernel_rfl
theorem ts95 : tsize E.P 95 = 1 := by kernel_rfl
theorem ts97 : tsize E.P 97 = 2 := by kernel_rfl
theorem ts100 : tsize E.P 100 = 1 := by kernel_rfl
theorem ts102 : tsize E.P 102 = 17 := by kernel_rfl
theorem ts109 : tsize E.P 109 = 5 := by kernel_rfl
theorem ts116 : tsize E.P 116 = 11 := by kernel_rfl
theorem ts139 : tsize E.P 139 = 3 := by kernel_rfl
theorem ts164 : tsize E.P 164 = 2 := by kernel_rfl
theorem ts184 : tsize E.P 184 = 2 := by kernel_rfl
theorem ts194 : tsize E.P 194 = 1 := by kernel_rfl
theorem tsM : tsize E.P 1099511627777 = 0 := by kernel_rfl
theorem mkm118_5 : ∀ n, E.mkm 118 n (some 5) = false := fun _ => by kernel_rfl
theorem tmp118 : tmap E.P 118 = some (9, 4) := by kernel_rfl
theorem tzv4 : zeroV E 4 = some (.bool false) := by kernel_rfl
theorem tg3 : tagg E.P 3 = some false := by kernel_rfl
theorem tg4 : tagg E.P 4 = some false := by kernel_rfl
theorem tg9 : tagg E.P 9 = some false := by kernel_rfl
theorem tg33 : tagg E.P 33 = some false := by kernel_rfl
theorem tg35 : tagg E.P 35 = some true := by kernel_rfl
theorem tg36 : tagg E.P 36 = some false := by kernel_rfl
theorem tg37 : tagg E.P 37 = some false := by kernel_rfl
theorem tg39 : tagg E.P 39 = some true := by kernel_rfl
theorem tg42 : tagg E.P 42 = some false := by kernel_rfl
theorem tg44 : tagg E.P 44 = some true := by kernel_rfl
theorem tg45 : tagg E.P 45 = some false := by kernel_rfl
theorem tg46 : tagg E.P 46 = some false := by kernel_rfl
theorem tg48 : tagg E.P 48 = some true := by kernel_rfl
theorem tg54 : tagg E.P 54 = some false := by kernel_rfl
theorem tg60 : tagg E.P 60 = some false := by kernel_rfl
theorem tg62 : tagg E.P 62 = some true := by kernel_rfl
theorem tg67 : tagg E.P 67 = some true := by kernel_rfl
theorem tg73 : tagg E.P 73 = some true := by kernel_rfl
theorem tg92 : tagg E.P 92 = some false := by kernel_rfl
theorem tg95 : tagg E.P 95 = some false := by kernel_rfl
theorem tg100 : tagg E.P 100 = some false := by kernel_rfl
theorem tg102 : tagg E.P 102 = some true := by kernel_rfl
theorem tg109 : tagg E.P 109 = some true := by kernel_rfl
theorem tg116 : tagg E.P 116 = some true := by kernel_rfl
theorem te1 : telem E.P 1 = none := by kernel_rfl
theorem te3 : telem E.P 3 = none := by kernel_rfl
theorem te4 : telem E.P 4 = none := by kernel_rfl
theorem te5 : telem E.P 5 = none := by kernel_rfl
theorem te9 : telem E.P 9 = none := by kernel_rfl
theorem te23 : telem E.P 23 = some 62 := by kernel_rfl
theorem te24 : telem E.P 24 = none := by kernel_rfl
theorem te25 : telem E.P 25 = none := by kernel_rfl
theorem te27 : telem E.P 27 = some 102 := by kernel_rfl
theorem te28 : telem E.P 28 = none := by kernel_rfl
theorem te33 : telem E.P 33 = some 35 := by kernel_rfl
theorem te35 : telem E.P 35 = none := by kernel_rfl
theorem te36 : telem E.P 36 = some 39 := by kernel_rfl
theorem te37 : telem E.P 37 = some 67 := by kernel_rfl
theorem te39 : telem E.P 39 = none := by kernel_rfl
theorem te40 : telem E.P 40 = none := by kernel_rfl
theorem te42 : telem E.P 42 = some 44 := by kernel_rfl
theorem te44 : telem E.P 44 = none := by kernel_rfl
theorem te45 : telem E.P 45 = some 48 := by kernel_rfl
theorem te46 : telem E.P 46 = some 116 := by kernel_rfl
theorem te48 : telem E.P 48 = none := by kernel_rfl
theorem te49 : telem E.P 49 = none := by kernel_rfl
theorem te54 : telem E.P 54 = some 9 := by kernel_rfl
theorem te60 : telem E.P 60 = some 73 := by kernel_rfl
theorem te62 : telem E.P 62 = none := by kernel_rfl
theorem te67 : telem E.P 67 = none := by kernel_rfl
theorem te69 : telem E.P 69 = none := by kernel_rfl
theorem te71 : telem E.P 71 = some 5 := by kernel_rfl
theorem te73 : telem E.P 73 = none := by kernel_rfl
theorem te89 : telem E.P 89 = none := by kernel_rfl
theorem te92 : telem E.P 92 = some 139 := by kernel_rfl
theorem te93 : telem E.P 93 = none := by kernel_rfl
theorem te95 : telem E.P 95 = none := by kernel_rfl
theorem te100 : telem E.P 100 = some 109 := by kernel_rfl
theorem te102 : telem E.P 102 = none := by kernel_rfl
theorem te103 : telem E.P 103 = none := by kernel_rfl
theorem te109 : telem E.P 109 = none := by kernel_rfl
theorem te116 : telem E.P 116 = none := by kernel_rfl
theorem te118 : telem E.P 118 = none := by kernel_rfl
theorem te129 : telem E.P 129 = none := by kernel_rfl
theorem te140 : telem E.P 140 = none := by kernel_rfl
theorem te156 : telem E.P 156 = none := by kernel_rfl
theorem te158 : telem E.P 158 = none := by kernel_rfl
theorem te162 : telem E.P 162 = none := by kernel_rfl
theorem te169 : telem E.P 169 = none := by kernel_rfl
theorem te172 : telem E.P 172 = none := by kernel_rfl
theorem te179 : telem E.P 179 = none := by kernel_rfl
theorem te180 : telem E.P 180 = none := by kernel_rfl
theorem te182 : telem E.P 182 = none := by kernel_rfl
theorem te185 : telem E.P 185 = some 3 := by kernel_rfl
theorem te192 : telem E.P 192 = none := by kernel_rfl
theorem te195 : telem E.P 195 = none := by kernel_rfl
theorem te197 : telem E.P 197 = none := by kernel_rfl
theorem te203 : telem E.P 203 = none := by kernel_rfl
theorem te212 : telem E.P 212 = none := by kernel_rfl
theorem te214 : telem E.P 214 = none := by kernel_rfl
theorem tf35_0 : tfield E.P 35 0 = some (0, 1) := by kernel_rfl
theorem tf35_1 : tfield E.P 35 1 = some (1, 1) := by kernel_rfl
theorem tf35_2 : tfield E.P 35 2 = some (2, 1) := by kernel_rfl
theorem tf35_3 : tfield E.P 35 3 = some (3, 1) := by kernel_rfl
theorem tf39_0 : tfield E.P 39 0 = some (0, 1) := by kernel_rfl
theorem tf39_1 : tfield E.P 39 1 = some (1, 1) := by kernel_rfl
theorem tf39_2 : tfield E.P 39 2 = some (2, 1) := by kernel_rfl
theorem tf39_3 : tfield E.P 39 3 = some (3, 4) := by kernel_rfl
theorem tf39_4 : tfield E.P 39 4 = some (7, 1) := by kernel_rfl
theorem tf39_5 : tfield E.P 39 5 = some (8, 1) := by kernel_rfl
theorem tf44_0 : tfield E.P 44 0 = some (0, 1) := by kernel_rfl
theorem tf44_1 : tfield E.P 44 1 = some (1, 1) := by kernel_rfl
theorem tf44_2 : tfield E.P 44 2 = some (2, 1) := by kernel_rfl
theorem tf44_3 : tfield E.P 44 3 = some (3, 1) := by kernel_rfl
theorem tf48_0 : tfield E.P 48 0 = some (0, 1) := by kernel_rfl
theorem tf48_1 : tfield E.P 48 1 = some (1, 1) := by kernel_rfl
theorem tf48_2 : tfield E.P 48 2 = some (2, 1) := by kernel_rfl
theorem tf48_3 : tfield E.P 48 3 = some (3, 4) := by kernel_rfl
theorem tf48_4 : tfield E.P 48 4 = some (7, 1) := by kernel_rfl
theorem tf48_5 : tfield E.P 48 5 = some (8, 1) := by kernel_rfl
theorem tf62_0 : tfield E.P 62 0 = some (0, 1) := by kernel_rfl
theorem tf62_1 : tfield E.P 62 1 = some (1, 1) := by kernel_rfl
theorem tf62_2 : tfield E.P 62 2 = some (2, 1) := by kernel_rfl
theorem tf62_3 : tfield E.P 62 3 = some (3, 1) := by kernel_rfl
theorem tf62_4 : tfield E.P 62 4 = some (4, 4) := by kernel_rfl
theorem tf62_5 : tfield E.P 62 5 = some (8, 9) := by kernel_rfl
theorem tf67_0 : tfield E.P 67 0 = some (0, 1) := by kernel_rfl
theorem tf67_1 : tfield E.P 67 1 = some (1, 1) := by kernel_rfl
theorem tf67_2 : tfield E.P 67 2 = some (2, 9) := by kernel_rfl
theorem tf73_0 : tfield E.P 73 0 = some (0, 1) := by kernel_rfl
theorem tf73_1 : tfield E.P 73 1 = some (1, 4) := by kernel_rfl
theorem tf97_0 : tfield E.P 97 0 = some (0, 1) := by kernel_rfl
theorem tf97_1 : tfield E.P 97 1 = some (1, 1) := by kernel_rfl
theorem tf102_0 : tfield E.P 102 0 = some (0, 1) := by kernel_rfl
theorem tf102_1 : tfield E.P 102 1 = some (1, 1) := by kernel_rfl
theorem tf102_2 : tfield E.P 102 2 = some (2, 1) := by kernel_rfl
theorem tf102_3 : tfield E.P 102 3 = some (3, 1) := by kernel_rfl
theorem tf102_4 : tfield E.P 102 4 = some (4, 4) := by kernel_rfl
theorem tf102_5 : tfield E.P 102 5 = some (8, 9) := by kernel_rfl
theorem tf109_0 : tfield E.P 109 0 = some (0, 1) := by kernel_rfl
theorem tf109_1 : tfield E.P 109 1 = some (1, 4) := by kernel_rfl
theorem tf116_0 : tfield E.P 116 0 = some (0, 1) := by kernel_rfl
theorem tf116_1 : tfield E.P 116 1 = some (1, 1) := by kernel_rfl
theorem tf116_2 : tfield E.P 116 2 = some (2, 9) := by kernel_rfl
theorem tf139_0 : tfield E.P 139 0 = some (0, 1) := by kernel_rfl
theorem tf139_1 : tfield E.P 139 1 = some (1, 1) := by kernel_rfl
theorem tf164_0 : tfield E.P 164 0 = some (0, 1) := by kernel_rfl
theorem tf164_1 : tfield E.P 164 1 = some (1, 1) := by kernel_rfl
theorem tf184_0 : tfield E.P 184 0 = some (0, 1) := by kernel_rfl
theorem tf184_1 : tfield E.P 184 1 = some (1, 1) := by kernel_rfl
theorem tf194_0 : tfield E.P 194 0 = some (0, 1) := by kernel_rfl
theorem tp35_0 : tplace E.P 35 0 = some (0, 1) := by kernel_rfl
theorem tp35_1 : tplace E.P 35 1 = some (1, 1) := by kernel_rfl
theorem tp35_2 : tplace E.P 35 2 = some (2, 1) := by kernel_rfl
theorem tp35_3 : tplace E.P 35 3 = some (3, 1) := by kernel_rfl
theorem tp39_0 : tplace E.P 39 0 = some (0, 1) := by kernel_rfl
theorem tp39_1 : tplace E.P 39 1 = some (1, 1) := by kernel_rfl
theorem tp39_3 : tplace E.P 39 3 = some (3, 4) := by kernel_rfl
theorem tp39_4 : tplace E.P 39 4 = some (7, 1) := by kernel_rfl
theorem tp39_5 : tplace E.P 39 5 = some (8, 1) := by kernel_rfl
theorem tp44_0 : tplace E.P 44 0 = some (0, 1) := by kernel_rfl
theorem tp44_1 : tplace E.P 44 1 = some (1, 1) := by kernel_rfl
theorem tp44_2 : tplace E.P 44 2 = some (2, 1) := by kernel_rfl
theorem tp44_3 : tplace E.P 44 3 = some (3, 1) := by kernel_rfl
theorem tp48_0 : tplace E.P 48 0 = some (0, 1) := by kernel_rfl
theorem tp48_1 : tplace E.P 48 1 = some (1, 1) := by kernel_rfl
theorem tp48_4 : tplace E.P 48 4 = some (7, 1) := by kernel_rfl
theorem tp62_0 : tplace E.P 62 0 = some (0, 1) := by kernel_rfl
theorem tp62_1 : tplace E.P 62 1 = some (1, 1) := by kernel_rfl
theorem tp62_2 : tplace E.P 62 2 = some (2, 1) := by kernel_rfl
theorem tp67_0 : tplace E.P 67 0 = some (0, 1) := by kernel_rfl
theorem tp67_1 : tplace E.P 67 1 = some (1, 1) := by kernel_rfl
theorem tp73_0 : tplace E.P 73 0 = some (0, 1) := by kernel_rfl
theorem tp97_0 : tplace E.P 97 0 = some (0, 1) := by kernel_rfl
theorem tp102_0 : tplace E.P 102 0 = some (0, 1) := by kernel_rfl
theorem tp102_1 : tplace E.P 102 1 = some (1, 1) := by kernel_rfl
theorem tp102_4 : tplace E.P 102 4 = some (4, 4) := by kernel_rfl
theorem tp102_5 : tplace E.P 102 5 = some (8, 9) := by kernel_rfl
theorem tp109_0 : tplace E.P 109 0 = some (0, 1) := by kernel_rfl
theorem tp116_0 : tplace E.P 116 0 = some (0, 1) := by kernel_rfl
theorem tp139_0 : tplace E.P 139 0 = some (0, 1) := by kernel_rfl
theorem tp139_1 : tplace E.P 139 1 = some (1, 1) := by kernel_rfl
theorem tp139_2 : tplace E.P 139 2 = some (2, 1) := by kernel_rfl
theorem tp164_0 : tplace E.P 164 0 = some (0, 1) := by kernel_rfl
theorem tp184_0 : tplace E.P 184 0 = some (0, 1) := by kernel_rfl
theorem tp194_0 : tplace E.P 194 0 = some (0, 1) := by kernel_rfl
theorem tz3 : zeroA E.P 3 = some [.int .i64 0] := by kernel_rfl
theorem tz35 : zeroA E.P 35 = some [.int .i64 0, .str [], .int .i64 0, .own 35 0 []] := by kernel_rfl
theorem tz39 : zeroA E.P 39 = some [.int .i64 0, .str [], .bool false, .int .i64 0, .str [], .int .i64 0, .own 35 0 [], .own 39 0 [], .own 67 0 []] := by kernel_rfl
theorem tz44 : zeroA E.P 44 = some [.int .i64 0, .str [], .int .i64 0, .own 44 0 []] := by kernel_rfl
theorem tz48 : zeroA E.P 48 = some [.int .i64 0, .str [], .bool false, .int .i64 0, .str [], .int .i64 0, .own 44 0 [], .own 48 0 [], .own 116 0 []] := by kernel_rfl
theorem tz54 : zeroA E.P 54 = some [.own 9 0 []] := by kernel_rfl
theorem tz62 : zeroA E.P 62 = some [.int .i64 0, .str [], .own 9 0 [], .own 73 0 [], .int .i64 0, .str [], .int .i64 0, .own 35 0 [], .int .i64 0, .str [], .bool false, .int .i64 0, .str [], .int .i64 0, .own 35 0 [], .own 39 0 [], .own 67 0 []] := by kernel_rfl
theorem tz67 : zeroA E.P 67 = some [.str [], .own 9 0 [], .int .i64 0, .str [], .bool false, .int .i64 0, .str [], .int .i64 0, .own 35 0 [], .own 39 0 [], .own 67 0 []] := by kernel_rfl
theorem tz73 : zeroA E.P 73 = some [.str [], .int .i64 0, .str [], .int .i64 0, .own 35 0 []] := by kernel_rfl
theorem tz97 : zeroA E.P 97 = some [.own 139 0 [], .bool false] := by kernel_rfl
theorem tz102 : zeroA E.P 102 = some [.int .i64 0, .str [], .own 9 0 [], .own 109 0 [], .int .i64 0, .str [], .int .i64 0, .own 44 0 [], .int .i64 0, .str [], .bool false, .int .i64 0, .str [], .int .i64 0, .own 44 0 [], .own 48 0 [], .own 116 0 []] := by kernel_rfl
theorem tz109 : zeroA E.P 109 = some [.str [], .int .i64 0, .str [], .int .i64 0, .own 44 0 []] := by kernel_rfl
theorem tz116 : zeroA E.P 116 = some [.str [], .own 9 0 [], .int .i64 0, .str [], .bool false, .int .i64 0, .str [], .int .i64 0, .own 44 0 [], .own 48 0 [], .own 116 0 []] := by kernel_rfl
theorem tz139 : zeroA E.P 139 = some [.int .i64 0, .str [], .int .i64 0] := by kernel_rfl
theorem tz164 : zeroA E.P 164 = some [.nilp, .own 73 0 []] := by kernel_rfl
theorem tz184 : zeroA E.P 184 = some [.nilp, .own 67 0 []] := by kernel_rfl
theorem tz194 : zeroA E.P 194 = some [.own 139 0 []] := by kernel_rfl
theorem ti3 : tint E.P 3 = some .i64 := by kernel_rfl
theorem ti5 : tint E.P 5 = some .u8 := by kernel_rfl
theorem ti9 : tint E.P 9 = none := by kernel_rfl
theorem ti35 : tint E.P 35 = none := by kernel_rfl
theorem ti39 : tint E.P 39 = none := by kernel_rfl
theorem ti44 : tint E.P 44 = none := by kernel_rfl
theorem ti48 : tint E.P 48 = none := by kernel_rfl
theorem ti62 : tint E.P 62 = none := by kernel_rfl
theorem ti67 : tint E.P 67 = none := by kernel_rfl
theorem ti71 : tint E.P 71 = none := by kernel_rfl
theorem ti73 : tint E.P 73 = none := by kernel_rfl
theorem ti102 : tint E.P 102 = none := by kernel_rfl
theorem ti109 : tint E.P 109 = none := by kernel_rfl
theorem ti116 : tint E.P 116 = none := by kernel_rfl
theorem ti139 : tint E.P 139 = none := by kernel_rfl
theorem tst3 : tstring E.P 3 = false := by kernel_rfl
theorem tst5 : tstring E.P 5 = false := by kernel_rfl
theorem tst9 : tstring E.P 9 = true := by kernel_rfl
theorem tst23 : tstring E.P 23 = false := by kernel_rfl
theorem tst27 : tstring E.P 27 = false := by kernel_rfl
theorem tst33 : tstring E.P 33 = false := by kernel_rfl
theorem tst36 : tstring E.P 36 = false := by kernel_rfl
theorem tst37 : tstring E.P 37 = false := by kernel_rfl
theorem tst42 : tstring E.P 42 = false := by kernel_rfl
theorem tst45 : tstring E.P 45 = false := by kernel_rfl
theorem tst46 : tstring E.P 46 = false := by kernel_rfl
theorem tst54 : tstring E.P 54 = false := by kernel_rfl
theorem tst60 : tstring E.P 60 = false := by kernel_rfl
theorem tst92 : tstring E.P 92 = false := by kernel_rfl
theorem tst100 : tstring E.P 100 = false := by kernel_rfl
theorem tst185 : tstring E.P 185 = false := by kernel_rfl
theorem tbo3 : tbool E.P 3 = false := by kernel_rfl
theorem tbo5 : tbool E.P 5 = false := by kernel_rfl
theorem tbo9 : tbool E.P 9 = false := by kernel_rfl
theorem tbo24 : tbool E.P 24 = false := by kernel_rfl
theorem tpt3 : tptr E.P 3 = false := by kernel_rfl
theorem tpt5 : tptr E.P 5 = false := by kernel_rfl
theorem tpt9 : tptr E.P 9 = false := by kernel_rfl
theorem tpt24 : tptr E.P 24 = false := by kernel_rfl
theorem tfo35 : fieldsOK E.P 35 = true := by kernel_rfl
theorem tfo39 : fieldsOK E.P 39 = true := by kernel_rfl
theorem tfo44 : fieldsOK E.P 44 = true := by kernel_rfl
theorem tfo48 : fieldsOK E.P 48 = true := by kernel_rfl
theorem tfo62 : fieldsOK E.P 62 = true := by kernel_rfl
theorem tfo67 : fieldsOK E.P 67 = true := by kernel_rfl
theorem tfo73 : fieldsOK E.P 73 = true := by kernel_rfl
theorem tfo97 : fieldsOK E.P 97 = true := by kernel_rfl
theorem tfo102 : fieldsOK E.P 102 = true := by kernel_rfl
theorem tfo109 : fieldsOK E.P 109 = true := by kernel_rfl
theorem tfo116 : fieldsOK E.P 116 = true := by kernel_rfl
theorem tfo139 : fieldsOK E.P 139 = true := by kernel_rfl
theorem tfo164 : fieldsOK E.P 164 = true := by kernel_rfl
theorem tfo184 : fieldsOK E.P 184 = true := by kernel_rfl
theorem tfo194 : fieldsOK E.P 194 = true := by kernel_rfl
theorem tze3 : tzero E.P 3 = some 1 := by kernel_rfl
theorem tze5 : tzero E.P 5 = some 1 := by kernel_rfl
theorem tze9 : tzero E.P 9 = some 1 := by kernel_rfl
theorem tze35 : tzero E.P 35 = some 4 := by kernel_rfl
theorem tze39 : tzero E.P 39 = some 9 := by kernel_rfl
theorem tze44 : tzero E.P 44 = some 4 := by kernel_rfl
theorem tze48 : tzero E.P 48 = some 9 := by kernel_rfl
theorem tze62 : tzero E.P 62 = some 17 := by kernel_rfl
theorem tze67 : tzero E.P 67 = some 11 := by kernel_rfl
theorem tze73 : tzero E.P 73 = some 5 := by kernel_rfl
theorem tze102 : tzero E.P 102 = some 17 := by kernel_rfl
theorem tze109 : tzero E.P 109 = some 5 := by kernel_rfl
theorem tze116 : tzero E.P 116 = some 11 := by kernel_rfl
theorem tze139 : tzero E.P 139 = some 3 := by kernel_rfl
theorem tu3 : (E.P.underlying 3).isSome = true := by kernel_rfl
theorem tu5 : (E.P.underlying 5).isSome = true := by kernel_rfl
theorem tu71 : (E.P.underlying 71).isSome = true := by kernel_rfl
theorem tby9 : (E.P.bytesOf 9 ≤ 32768) = True := by rw [show E.P.bytesOf 9 = 16 from by kernel_rfl]; simp
theorem tby35 : (E.P.bytesOf 35 ≤ 32768) = True := by rw [show E.P.bytesOf 35 = 56 from by kernel_rfl]; simp
theorem tby39 : (E.P.bytesOf 39 ≤ 32768) = True := by rw [show E.P.bytesOf 39 = 136 from by kernel_rfl]; simp
theorem tby44 : (E.P.bytesOf 44 ≤ 32768) = True := by rw [show E.P.bytesOf 44 = 56 from by kernel_rfl]; simp
theorem tby48 : (E.P.bytesOf 48 ≤ 32768) = True := by rw [show E.P.bytesOf 48 = 136 from by kernel_rfl]; simp
theorem tby62 : (E.P.bytesOf 62 ≤ 32768) = True := by rw [show E.P.bytesOf 62 = 264 from by kernel_rfl]; simp
theorem tby67 : (E.P.bytesOf 67 ≤ 32768) = True := by rw [show E.P.bytesOf 67 = 176 from by kernel_rfl]; simp
theorem tby73 : (E.P.bytesOf 73 ≤ 32768) = True := by rw [show E.P.bytesOf 73 = 72 from by kernel_rfl]; simp
theorem tby102 : (E.P.bytesOf 102 ≤ 32768) = True := by rw [show E.P.bytesOf 102 = 264 from by kernel_rfl]; simp
theorem tby109 : (E.P.bytesOf 109 ≤ 32768) = True := by rw [show E.P.bytesOf 109 = 72 from by kernel_rfl]; simp
theorem tby116 : (E.P.bytesOf 116 ≤ 32768) = True := by rw [show E.P.bytesOf 116 = 176 from by kernel_rfl]; simp
theorem tby139 : (E.P.bytesOf 139 ≤ 32768) = True := by rw [show E.P.bytesOf 139 = 32 from by kernel_rfl]; simp
attribute [go_sem] live_10_0 live_16_0 live_16_2 live_17_0 live_17_2 live_18_0 live_19_0 live_19_3 live_19_5 live_22_1 live_23_0 live_24_0 live_25_1 live_25_3 live_26_0 live_27_0 live_43_1 live_43_3 live_54_0 live_57_0 live_58_0 live_58_2 live_59_0 live_61_0 live_62_1 live_64_1 live_64_3 live_65_1 live_66_0 live_67_0 live_67_2 live_68_0 live_69_0 live_70_0 live_72_0 live_91_0 live_109_0 live_111_0 live_112_0 live_116_0
attribute [go_sem] live_116_2 live_118_0 live_122_0 live_140_0 live_143_0 live_149_0 live_158_0 live_159_0 live_159_2 live_164_0 live_164_2 live_165_0 live_167_0 live_169_0 live_174_0 live_180_0 live_194_0 drw_10_16 drw_10_17 drw_10_19 drw_19_23 drw_19_25 drw_19_20 drw_22_3 drw_22_5 drw_22_10 drw_22_16 drw_22_20 drw_25_6 drw_25_21 drw_25_23 drw_42_1 drw_43_9 drw_43_13 drw_54_9 drw_54_10 drw_54_6 drw_59_18 drw_59_23 drw_59_25
attribute [go_sem] drw_62_7 drw_62_11 drw_62_12 drw_64_18 drw_64_19 drw_65_14 drw_65_17 drw_67_5 drw_67_35 drw_90_5 drw_92_1 drw_113_3 drw_116_31 drw_126_3 drw_127_7 drw_128_0 drw_129_8 drw_130_16 drw_140_7 drw_140_9 drw_159_13 drw_164_12 drw_166_7 drw_166_8 drw_180_3 res_3 frz_3 lend_3 keep_3 res_4 frz_4 lend_4 keep_4 res_10 frz_10 lend_10 keep_10 res_15 frz_15 lend_15
attribute [go_sem] keep_15 res_16 frz_16 lend_16 keep_16 res_17 frz_17 lend_17 keep_17 res_18 frz_18 lend_18 keep_18 res_19 frz_19 lend_19 keep_19 res_20 frz_20 lend_20 keep_20 res_21 frz_21 lend_21 keep_21 res_22 frz_22 lend_22 keep_22 res_23 frz_23 lend_23 keep_23 res_24 frz_24 lend_24 keep_24 res_25 frz_25 lend_25
attribute [go_sem] keep_25 res_26 frz_26 lend_26 keep_26 res_27 frz_27 lend_27 keep_27 res_41 frz_41 lend_41 keep_41 res_42 frz_42 lend_42 keep_42 res_43 frz_43 lend_43 keep_43 res_53 frz_53 lend_53 keep_53 res_54 frz_54 lend_54 keep_54 res_55 frz_55 lend_55 keep_55 res_56 frz_56 lend_56 keep_56 res_57 frz_57 lend_57
attribute [go_sem] keep_57 res_58 frz_58 lend_58 keep_58 res_59 frz_59 lend_59 keep_59 res_60 frz_60 lend_60 keep_60 res_61 frz_61 lend_61 keep_61 res_62 frz_62 lend_62 keep_62 res_64 frz_64 lend_64 keep_64 res_65 frz_65 lend_65 keep_65 res_66 frz_66 lend_66 keep_66 res_67 frz_67 lend_67 keep_67 res_68 frz_68 lend_68
attribute [go_sem] keep_68 res_69 frz_69 lend_69 keep_69 res_70 frz_70 lend_70 keep_70 res_71 frz_71 lend_71 keep_71 res_72 frz_72 lend_72 keep_72 res_90 frz_90 lend_90 keep_90 res_91 frz_91 lend_91 keep_91 res_92 frz_92 lend_92 keep_92 res_94 frz_94 lend_94 keep_94 res_95 frz_95 lend_95 keep_95 res_99 frz_99 lend_99
attribute [go_sem] keep_99 res_107 frz_107 lend_107 keep_107 res_108 frz_108 lend_108 keep_108 res_109 frz_109 lend_109 keep_109 res_110 frz_110 lend_110 keep_110 res_111 frz_111 lend_111 keep_111 res_112 frz_112 lend_112 keep_112 res_113 frz_113 lend_113 keep_113 res_114 frz_114 lend_114 keep_114 res_115 frz_115 lend_115 keep_115 res_116 frz_116 lend_116
attribute [go_sem] keep_116 res_117 frz_117 lend_117 keep_117 res_118 frz_118 lend_118 keep_118 res_119 frz_119 lend_119 keep_119 res_120 frz_120 lend_120 keep_120 res_121 frz_121 lend_121 keep_121 res_122 frz_122 lend_122 keep_122 res_126 frz_126 lend_126 keep_126 res_127 frz_127 lend_127 keep_127 res_128 frz_128 lend_128 keep_128 res_129 frz_129 lend_129
attribute [go_sem] keep_129 res_130 frz_130 lend_130 keep_130 res_139 frz_139 lend_139 keep_139 res_140 frz_140 lend_140 keep_140 res_141 frz_141 lend_141 keep_141 res_143 frz_143 lend_143 keep_143 res_147 frz_147 lend_147 keep_147 res_148 frz_148 lend_148 keep_148 res_149 frz_149 lend_149 keep_149 res_150 frz_150 lend_150 keep_150 res_151 frz_151 lend_151
attribute [go_sem] keep_151 res_152 frz_152 lend_152 keep_152 res_153 frz_153 lend_153 keep_153 res_154 frz_154 lend_154 keep_154 res_156 frz_156 lend_156 keep_156 res_157 frz_157 lend_157 keep_157 res_158 frz_158 lend_158 keep_158 res_159 frz_159 lend_159 keep_159 res_163 frz_163 lend_163 keep_163 res_164 frz_164 lend_164 keep_164 res_165 frz_165 lend_165
attribute [go_sem] keep_165 res_166 frz_166 lend_166 keep_166 res_167 frz_167 lend_167 keep_167 res_168 frz_168 lend_168 keep_168 res_169 frz_169 lend_169 keep_169 res_170 frz_170 lend_170 keep_170 res_172 frz_172 lend_172 keep_172 res_174 frz_174 lend_174 keep_174 res_178 frz_178 lend_178 keep_178 res_179 frz_179 lend_179 keep_179 res_180 frz_180 lend_180
attribute [go_sem] keep_180 res_181 frz_181 lend_181 keep_181 res_187 frz_187 lend_187 keep_187 res_194 frz_194 lend_194 keep_194 drw_128_3 ts3 ts4 ts5 ts9 ts33 ts35 ts36 ts37 ts39 ts42 ts44 ts45 ts46 ts48 ts54 ts60 ts62 ts67 ts73 ts92 ts95 ts97 ts100 ts102 ts109 ts116
attribute [go_sem] ts139 ts164 ts184 ts194 tsM mkm118_5 tmp118 tzv4 tg3 tg4 tg9 tg33 tg35 tg36 tg37 tg39 tg42 tg44 tg45 tg46 tg48 tg54 tg60 tg62 tg67 tg73 tg92 tg95 tg100 tg102 tg109 tg116 te1 te3 te4 te5 te9 te23 te24 te25
attribute [go_sem] te27 te28 te33 te35 te36 te37 te39 te40 te42 te44 te45 te46 te48 te49 te54 te60 te62 te67 te69 te71 te73 te89 te92 te93 te95 te100 te102 te103 te109 te116 te118 te129 te140 te156 te158 te162 te169 te172 te179 te180
attribute [go_sem] te182 te185 te192 te195 te197 te203 te212 te214 tf35_0 tf35_1 tf35_2 tf35_3 tf39_0 tf39_1 tf39_2 tf39_3 tf39_4 tf39_5 tf44_0 tf44_1 tf44_2 tf44_3 tf48_0 tf48_1 tf48_2 tf48_3 tf48_4 tf48_5 tf62_0 tf62_1 tf62_2 tf62_3 tf62_4 tf62_5 tf67_0 tf67_1 tf67_2 tf73_0 tf73_1 tf97_0
attribute [go_sem] tf97_1 tf102_0 tf102_1 tf102_2 tf102_3 tf102_4 tf102_5 tf109_0 tf109_1 tf116_0 tf116_1 tf116_2 tf139_0 tf139_1 tf164_0 tf164_1 tf184_0 tf184_1 tf194_0 tp35_0 tp35_1 tp35_2 tp35_3 tp39_0 tp39_1 tp39_3 tp39_4 tp39_5 tp44_0 tp44_1 tp44_2 tp44_3 tp48_0 tp48_1 tp48_4 tp62_0 tp62_1 tp62_2 tp67_0 tp67_1
attribute [go_sem] tp73_0 tp97_0 tp102_0 tp102_1 tp102_4 tp102_5 tp109_0 tp116_0 tp139_0 tp139_1 tp139_2 tp164_0 tp184_0 tp194_0 tz3 tz35 tz39 tz44 tz48 tz54 tz62 tz67 tz73 tz97 tz102 tz109 tz116 tz139 tz164 tz184 tz194 ti3 ti5 ti9 ti35 ti39 ti44 ti48 ti62 ti67
attribute [go_sem] ti71 ti73 ti102 ti109 ti116 ti139 tst3 tst5 tst9 tst23 tst27 tst33 tst36 tst37 tst42 tst45 tst46 tst54 tst60 tst92 tst100 tst185 tbo3 tbo5 tbo9 tbo24 tpt3 tpt5 tpt9 tpt24 tfo35 tfo39 tfo44 tfo48 tfo62 tfo67 tfo73 tfo97 tfo102 tfo109
attribute [go_sem] tfo116 tfo139 tfo164 tfo184 tfo194 tze3 tze5 tze9 tze35 tze39 tze44 tze48 tze62 tze67 tze73 tze102 tze109 tze116 tze139 tu3 tu5 tu71 tby9 tby35 tby39 tby44 tby48 tby62 tby67 tby73 tby102 tby109 tby116 tby139
end Go.Proofs
