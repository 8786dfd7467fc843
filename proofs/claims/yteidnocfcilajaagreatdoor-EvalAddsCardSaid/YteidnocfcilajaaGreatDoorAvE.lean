/- The program as the abstract machine sees it: what is alive at each loop, which operations may be drawn, sizes of types. -/
import Derived.Test.YteidnocfcilajaaGreatDoorAvD
import Derived.Test.YteidnocfcilajaaGreatDoorProg
import Derived.KernelRfl
namespace Go.Proofs
open Go.Av
def liveT : List (Nat × (List Nat × List Nat)) := [(13000, ([0, 1, 5, 8, 10, 11, 12], [8])),
  (16000, ([7, 8], [22])),
  (16002, ([8, 50, 51, 52], [])),
  (17000, ([4, 7, 8, 9], [])),
  (17002, ([7, 12], [])),
  (18000, ([3, 6, 7, 8], [])),
  (19000, ([0, 3, 4], [])),
  (19003, ([0, 3, 4, 5, 6], [5])),
  (19005, ([0, 3, 4, 5, 7], [5])),
  (22001, ([1, 4, 68, 69, 70], [1])),
  (23000, ([3, 7, 8, 9], [])),
  (24000, ([3, 7, 8, 9], [])),
  (25001, ([1, 8, 9], [1])),
  (25003, ([1, 8, 9, 10], [1])),
  (26000, ([3, 4, 5], [])),
  (27000, ([3, 4, 5], [])),
  (38000, ([0, 1, 5], [])),
  (43001, ([3, 22, 23, 24], [])),
  (43003, ([6, 7], [7])),
  (45001, ([1, 3, 5, 6, 7, 43, 44, 45], [3, 5, 6, 42, 73])),
  (45003, ([1, 3, 5, 6, 7, 10, 74, 75, 76], [3, 5, 6, 42, 73])),
  (46000, ([1, 3, 5, 6, 7, 8], [3, 5, 6, 7])),
  (46002, ([1, 3, 5, 6, 7, 10], [3, 5, 6, 7])),
  (49000, ([0, 3, 4], [])),
  (50000, ([0, 2, 4, 6, 8, 9], [4, 6])),
  (51000, ([5, 7, 9, 11, 13, 15, 17, 18, 19], [5, 7, 13, 15])),
  (54000, ([1, 2, 3, 5], [1, 3])),
  (57000, ([1, 6, 7, 8], [1])),
  (58000, ([0, 5, 6], [])),
  (58002, ([0, 5, 6], [])),
  (59000, ([0, 4, 7, 9, 11], [4, 7])),
  (61000, ([1, 3], [1])),
  (62001, ([1, 3, 11, 12, 13], [1])),
  (64001, ([1, 3, 4], [1])),
  (64003, ([6, 7], [7])),
  (65001, ([0, 2, 6], [2, 6])),
  (66000, ([3, 17, 18, 19], [])),
  (67000, ([0, 4, 19, 20, 22], [4, 20])),
  (67002, ([0, 4, 26, 27], [4, 26])),
  (68000, ([3, 4], [])),
  (69000, ([2, 7, 8, 9], [2])),
  (70000, ([3, 16, 17, 18], [])),
  (72000, ([1, 3, 4], [1])),
  (91000, ([3, 7, 8, 9], [])),
  (100000, ([1, 3], [1])),
  (102000, ([0, 1, 7, 8], [])),
  (104001, ([2, 5, 8, 66, 67, 68], [2, 8])),
  (109000, ([0, 3, 4], [])),
  (111000, ([0, 3], [])),
  (112000, ([0, 1], [])),
  (116000, ([0, 1, 7], [])),
  (116002, ([0, 1, 11, 12], [])),
  (118000, ([0, 1, 6, 7], [])),
  (122000, ([1, 3, 4], [1])),
  (143000, ([0, 1, 7, 8], [])),
  (145000, ([0, 1, 7, 8], [])),
  (149000, ([0, 1, 5], [])),
  (158000, ([0, 1, 5], [])),
  (159000, ([0, 1, 4, 7], [4])),
  (159002, ([0, 1, 4, 9, 10, 11], [4, 9])),
  (164000, ([0, 2, 4], [2])),
  (164002, ([2, 4, 9, 10, 11], [2, 9])),
  (165000, ([0, 2, 6], [2, 6])),
  (174000, ([0, 4, 7, 8], [4, 7])),
  (194000, ([0, 3, 4], []))]
def drwT : List (Nat × List (Nat × Nat)) := [(19023, [(2, 7)]),
  (19025, [(2, 7)]),
  (19020, [(2, 15), (6, 15)]),
  (22003, [(1, 8)]),
  (22005, [(8, 5), (10, 5)]),
  (22010, [(10, 6), (12, 6)]),
  (22016, [(10, 6), (10, 7)]),
  (22020, [(8, 4)]),
  (25006, [(1, 8)]),
  (25021, [(1, 10), (1, 17), (14, 10), (16, 10)]),
  (25023, [(8, 4)]),
  (43009, [(1, 3)]),
  (43013, [(13, 10), (15, 10)]),
  (46011, []),
  (46012, [(1, 9)]),
  (48014, []),
  (48018, []),
  (51006, [(1, 3)]),
  (51013, []),
  (51014, []),
  (51015, [(3, 5)]),
  (54009, []),
  (54010, []),
  (54006, [(0, 4)]),
  (59018, [(0, 3)]),
  (59023, [(3, 2)]),
  (59025, [(3, 2)]),
  (62007, [(2, 6)]),
  (62011, [(1, 5)]),
  (62012, [(1, 5)]),
  (64018, [(8, 4), (10, 4)]),
  (64019, [(7, 4), (9, 4)]),
  (65014, []),
  (65017, [(0, 2)]),
  (67005, [(4, 3)]),
  (67035, [(0, 3)]),
  (90005, [(4, 5)]),
  (96005, [(4, 2)]),
  (100005, []),
  (101001, []),
  (104017, []),
  (113003, []),
  (116031, []),
  (126003, []),
  (127007, [(0, 2)]),
  (128000, [(8, 4)]),
  (129008, [(2, 1)]),
  (130016, [(0, 3)]),
  (159013, []),
  (164012, [])]
def keepT : List Nat := [105]
def primT : List (Nat × (List AVal → Heap → Option (AVal × Heap))) := [(63, joinP), (93, itoaP), (188, atoiQ), (155, indexByteP), (162, cloneP)]
def frzT : List (Nat × List (Nat × List (Nat × Nat))) := [(45, [(19, [(7, 36), (10, 37)])]), (100, [(5, [(3, 36)])]), (101, [(6, [(6, 36)])])]
def mkmT : List (Nat × Nat) := []
def lendT : List (Nat × List (Nat × Nat)) := []
def clnT : List (Nat × Nat) := [(97, 39), (98, 67)]
def rvsT : List (Nat × Nat) := [(144, 39)]
def xopT : List (Nat × List (Nat × Nat)) := [(45, [(5, 2), (12, 2)]), (100, [(3, 6), (4, 1)]), (101, [(4, 2)])]
noncomputable def E : Env := { P := Tryz.prog, cln := fun f => alGet clnT f, rvs := fun f => alGet rvsT f, xop := fun f => (alGet xopT f).getD [], mkm := fun T _ d => mkmT.contains (T, d.getD 0), lend := fun f => (alGet lendT f).getD [], frz := fun f => (alGet frzT f).getD [], live := fun f id => alGet liveT (f * 1000 + id), drw := fun f id => alGet drwT (f * 1000 + id), keep := fun f => keepT.contains f, prim := fun f => alGet primT f }
theorem live_13_0 : E.live 13 0 = some ([0, 1, 5, 8, 10, 11, 12], [8]) := by kernel_rfl
theorem live_16_0 : E.live 16 0 = some ([7, 8], [22]) := by kernel_rfl
theorem live_16_2 : E.live 16 2 = some ([8, 50, 51, 52], []) := by kernel_rfl
theorem live_17_0 : E.live 17 0 = some ([4, 7, 8, 9], []) := by kernel_rfl
theorem live_17_2 : E.live 17 2 = some ([7, 12], []) := by kernel_rfl
theorem live_18_0 : E.live 18 0 = some ([3, 6, 7, 8], []) := by kernel_rfl
theorem live_19_0 : E.live 19 0 = some ([0, 3, 4], []) := by kernel_rfl
theorem live_19_3 : E.live 19 3 = some ([0, 3, 4, 5, 6], [5]) := by kernel_rfl
theorem live_19_5 : E.live 19 5 = some ([0, 3, 4, 5, 7], [5]) := by kernel_rfl
theorem live_22_1 : E.live 22 1 = some ([1, 4, 68, 69, 70], [1]) := by kernel_rfl
theorem live_23_0 : E.live 23 0 = some ([3, 7, 8, 9], []) := by kernel_rfl
theorem live_24_0 : E.live 24 0 = some ([3, 7, 8, 9], []) := by kernel_rfl
theorem live_25_1 : E.live 25 1 = some ([1, 8, 9], [1]) := by kernel_rfl
theorem live_25_3 : E.live 25 3 = some ([1, 8, 9, 10], [1]) := by kernel_rfl
theorem live_26_0 : E.live 26 0 = some ([3, 4, 5], []) := by kernel_rfl
theorem live_27_0 : E.live 27 0 = some ([3, 4, 5], []) := by kernel_rfl
theorem live_38_0 : E.live 38 0 = some ([0, 1, 5], []) := by kernel_rfl
theorem live_43_1 : E.live 43 1 = some ([3, 22, 23, 24], []) := by kernel_rfl
theorem live_43_3 : E.live 43 3 = some ([6, 7], [7]) := by kernel_rfl
theorem live_45_1 : E.live 45 1 = some ([1, 3, 5, 6, 7, 43, 44, 45], [3, 5, 6, 42, 73]) := by kernel_rfl
theorem live_45_3 : E.live 45 3 = some ([1, 3, 5, 6, 7, 10, 74, 75, 76], [3, 5, 6, 42, 73]) := by kernel_rfl
theorem live_46_0 : E.live 46 0 = some ([1, 3, 5, 6, 7, 8], [3, 5, 6, 7]) := by kernel_rfl
theorem live_46_2 : E.live 46 2 = some ([1, 3, 5, 6, 7, 10], [3, 5, 6, 7]) := by kernel_rfl
theorem live_49_0 : E.live 49 0 = some ([0, 3, 4], []) := by kernel_rfl
theorem live_50_0 : E.live 50 0 = some ([0, 2, 4, 6, 8, 9], [4, 6]) := by kernel_rfl
theorem live_51_0 : E.live 51 0 = some ([5, 7, 9, 11, 13, 15, 17, 18, 19], [5, 7, 13, 15]) := by kernel_rfl
theorem live_54_0 : E.live 54 0 = some ([1, 2, 3, 5], [1, 3]) := by kernel_rfl
theorem live_57_0 : E.live 57 0 = some ([1, 6, 7, 8], [1]) := by kernel_rfl
theorem live_58_0 : E.live 58 0 = some ([0, 5, 6], []) := by kernel_rfl
theorem live_58_2 : E.live 58 2 = some ([0, 5, 6], []) := by kernel_rfl
theorem live_59_0 : E.live 59 0 = some ([0, 4, 7, 9, 11], [4, 7]) := by kernel_rfl
theorem live_61_0 : E.live 61 0 = some ([1, 3], [1]) := by kernel_rfl
theorem live_62_1 : E.live 62 1 = some ([1, 3, 11, 12, 13], [1]) := by kernel_rfl
theorem live_64_1 : E.live 64 1 = some ([1, 3, 4], [1]) := by kernel_rfl
theorem live_64_3 : E.live 64 3 = some ([6, 7], [7]) := by kernel_rfl
theorem live_65_1 : E.live 65 1 = some ([0, 2, 6], [2, 6]) := by kernel_rfl
theorem live_66_0 : E.live 66 0 = some ([3, 17, 18, 19], []) := by kernel_rfl
theorem live_67_0 : E.live 67 0 = some ([0, 4, 19, 20, 22], [4, 20]) := by kernel_rfl
theorem live_67_2 : E.live 67 2 = some ([0, 4, 26, 27], [4, 26]) := by kernel_rfl
theorem live_68_0 : E.live 68 0 = some ([3, 4], []) := by kernel_rfl
theorem live_69_0 : E.live 69 0 = some ([2, 7, 8, 9], [2]) := by kernel_rfl
theorem live_70_0 : E.live 70 0 = some ([3, 16, 17, 18], []) := by kernel_rfl
theorem live_72_0 : E.live 72 0 = some ([1, 3, 4], [1]) := by kernel_rfl
theorem live_91_0 : E.live 91 0 = some ([3, 7, 8, 9], []) := by kernel_rfl
theorem live_100_0 : E.live 100 0 = some ([1, 3], [1]) := by kernel_rfl
theorem live_102_0 : E.live 102 0 = some ([0, 1, 7, 8], []) := by kernel_rfl
theorem live_104_1 : E.live 104 1 = some ([2, 5, 8, 66, 67, 68], [2, 8]) := by kernel_rfl
theorem live_109_0 : E.live 109 0 = some ([0, 3, 4], []) := by kernel_rfl
theorem live_111_0 : E.live 111 0 = some ([0, 3], []) := by kernel_rfl
theorem live_112_0 : E.live 112 0 = some ([0, 1], []) := by kernel_rfl
theorem live_116_0 : E.live 116 0 = some ([0, 1, 7], []) := by kernel_rfl
theorem live_116_2 : E.live 116 2 = some ([0, 1, 11, 12], []) := by kernel_rfl
theorem live_118_0 : E.live 118 0 = some ([0, 1, 6, 7], []) := by kernel_rfl
theorem live_122_0 : E.live 122 0 = some ([1, 3, 4], [1]) := by kernel_rfl
theorem live_143_0 : E.live 143 0 = some ([0, 1, 7, 8], []) := by kernel_rfl
theorem live_145_0 : E.live 145 0 = some ([0, 1, 7, 8], []) := by kernel_rfl
theorem live_149_0 : E.live 149 0 = some ([0, 1, 5], []) := by kernel_rfl
theorem live_158_0 : E.live 158 0 = some ([0, 1, 5], []) := by kernel_rfl
theorem live_159_0 : E.live 159 0 = some ([0, 1, 4, 7], [4]) := by kernel_rfl
theorem live_159_2 : E.live 159 2 = some ([0, 1, 4, 9, 10, 11], [4, 9]) := by kernel_rfl
theorem live_164_0 : E.live 164 0 = some ([0, 2, 4], [2]) := by kernel_rfl
theorem live_164_2 : E.live 164 2 = some ([2, 4, 9, 10, 11], [2, 9]) := by kernel_rfl
theorem live_165_0 : E.live 165 0 = some ([0, 2, 6], [2, 6]) := by kernel_rfl
theorem live_174_0 : E.live 174 0 = some ([0, 4, 7, 8], [4, 7]) := by kernel_rfl
theorem live_194_0 : E.live 194 0 = some ([0, 3, 4], []) := by kernel_rfl
theorem drw_19_23 : E.drw 19 23 = some [(2, 7)] := by kernel_rfl
theorem drw_19_25 : E.drw 19 25 = some [(2, 7)] := by kernel_rfl
theorem drw_19_20 : E.drw 19 20 = some [(2, 15), (6, 15)] := by kernel_rfl
theorem drw_22_3 : E.drw 22 3 = some [(1, 8)] := by kernel_rfl
theorem drw_22_5 : E.drw 22 5 = some [(8, 5), (10, 5)] := by kernel_rfl
theorem drw_22_10 : E.drw 22 10 = some [(10, 6), (12, 6)] := by kernel_rfl
theorem drw_22_16 : E.drw 22 16 = some [(10, 6), (10, 7)] := by kernel_rfl
theorem drw_22_20 : E.drw 22 20 = some [(8, 4)] := by kernel_rfl
theorem drw_25_6 : E.drw 25 6 = some [(1, 8)] := by kernel_rfl
theorem drw_25_21 : E.drw 25 21 = some [(1, 10), (1, 17), (14, 10), (16, 10)] := by kernel_rfl
theorem drw_25_23 : E.drw 25 23 = some [(8, 4)] := by kernel_rfl
theorem drw_43_9 : E.drw 43 9 = some [(1, 3)] := by kernel_rfl
theorem drw_43_13 : E.drw 43 13 = some [(13, 10), (15, 10)] := by kernel_rfl
theorem drw_46_11 : E.drw 46 11 = some [] := by kernel_rfl
theorem drw_46_12 : E.drw 46 12 = some [(1, 9)] := by kernel_rfl
theorem drw_48_14 : E.drw 48 14 = some [] := by kernel_rfl
theorem drw_48_18 : E.drw 48 18 = some [] := by kernel_rfl
theorem drw_51_6 : E.drw 51 6 = some [(1, 3)] := by kernel_rfl
theorem drw_51_13 : E.drw 51 13 = some [] := by kernel_rfl
theorem drw_51_14 : E.drw 51 14 = some [] := by kernel_rfl
theorem drw_51_15 : E.drw 51 15 = some [(3, 5)] := by kernel_rfl
theorem drw_54_9 : E.drw 54 9 = some [] := by kernel_rfl
theorem drw_54_10 : E.drw 54 10 = some [] := by kernel_rfl
theorem drw_54_6 : E.drw 54 6 = some [(0, 4)] := by kernel_rfl
theorem drw_59_18 : E.drw 59 18 = some [(0, 3)] := by kernel_rfl
theorem drw_59_23 : E.drw 59 23 = some [(3, 2)] := by kernel_rfl
theorem drw_59_25 : E.drw 59 25 = some [(3, 2)] := by kernel_rfl
theorem drw_62_7 : E.drw 62 7 = some [(2, 6)] := by kernel_rfl
theorem drw_62_11 : E.drw 62 11 = some [(1, 5)] := by kernel_rfl
theorem drw_62_12 : E.drw 62 12 = some [(1, 5)] := by kernel_rfl
theorem drw_64_18 : E.drw 64 18 = some [(8, 4), (10, 4)] := by kernel_rfl
theorem drw_64_19 : E.drw 64 19 = some [(7, 4), (9, 4)] := by kernel_rfl
theorem drw_65_14 : E.drw 65 14 = some [] := by kernel_rfl
theorem drw_65_17 : E.drw 65 17 = some [(0, 2)] := by kernel_rfl
theorem drw_67_5 : E.drw 67 5 = some [(4, 3)] := by kernel_rfl
theorem drw_67_35 : E.drw 67 35 = some [(0, 3)] := by kernel_rfl
theorem drw_90_5 : E.drw 90 5 = some [(4, 5)] := by kernel_rfl
theorem drw_96_5 : E.drw 96 5 = some [(4, 2)] := by kernel_rfl
theorem drw_100_5 : E.drw 100 5 = some [] := by kernel_rfl
theorem drw_101_1 : E.drw 101 1 = some [] := by kernel_rfl
theorem drw_104_17 : E.drw 104 17 = some [] := by kernel_rfl
theorem drw_113_3 : E.drw 113 3 = some [] := by kernel_rfl
theorem drw_116_31 : E.drw 116 31 = some [] := by kernel_rfl
theorem drw_126_3 : E.drw 126 3 = some [] := by kernel_rfl
theorem drw_127_7 : E.drw 127 7 = some [(0, 2)] := by kernel_rfl
theorem drw_128_0 : E.drw 128 0 = some [(8, 4)] := by kernel_rfl
theorem drw_129_8 : E.drw 129 8 = some [(2, 1)] := by kernel_rfl
theorem drw_130_16 : E.drw 130 16 = some [(0, 3)] := by kernel_rfl
theorem drw_159_13 : E.drw 159 13 = some [] := by kernel_rfl
theorem drw_164_12 : E.drw 164 12 = some [] := by kernel_rfl
theorem res_3 : resOf E 3 = some [.tmp 2] := by kernel_rfl
theorem frz_3 : E.frz 3 = [] := by kernel_rfl
theorem lend_3 : E.lend 3 = [] := by kernel_rfl
theorem xop_3 : E.xop 3 = [] := by kernel_rfl
theorem keep_3 : E.keep 3 = false := by kernel_rfl
theorem res_4 : resOf E 4 = some [.tmp 2] := by kernel_rfl
theorem frz_4 : E.frz 4 = [] := by kernel_rfl
theorem lend_4 : E.lend 4 = [] := by kernel_rfl
theorem xop_4 : E.xop 4 = [] := by kernel_rfl
theorem keep_4 : E.keep 4 = false := by kernel_rfl
theorem body_11 : bodyOf E 11 = Tryz.f11.body := by kernel_rfl
theorem prim_11 : E.prim 11 = none := by kernel_rfl
theorem res_11 : resOf E 11 = some [.tmp 6] := by kernel_rfl
theorem frz_11 : E.frz 11 = [] := by kernel_rfl
theorem lend_11 : E.lend 11 = [] := by kernel_rfl
theorem xop_11 : E.xop 11 = [] := by kernel_rfl
theorem keep_11 : E.keep 11 = false := by kernel_rfl
theorem body_12 : bodyOf E 12 = Tryz.f12.body := by kernel_rfl
theorem prim_12 : E.prim 12 = none := by kernel_rfl
theorem res_12 : resOf E 12 = some [.tmp 6] := by kernel_rfl
theorem frz_12 : E.frz 12 = [] := by kernel_rfl
theorem lend_12 : E.lend 12 = [] := by kernel_rfl
theorem xop_12 : E.xop 12 = [] := by kernel_rfl
theorem keep_12 : E.keep 12 = false := by kernel_rfl
theorem body_13 : bodyOf E 13 = Tryz.f13.body := by kernel_rfl
theorem prim_13 : E.prim 13 = none := by kernel_rfl
theorem res_13 : resOf E 13 = some [.tmp 4] := by kernel_rfl
theorem frz_13 : E.frz 13 = [] := by kernel_rfl
theorem lend_13 : E.lend 13 = [] := by kernel_rfl
theorem xop_13 : E.xop 13 = [] := by kernel_rfl
theorem keep_13 : E.keep 13 = false := by kernel_rfl
theorem res_15 : resOf E 15 = some [.tmp 0] := by kernel_rfl
theorem frz_15 : E.frz 15 = [] := by kernel_rfl
theorem lend_15 : E.lend 15 = [] := by kernel_rfl
theorem xop_15 : E.xop 15 = [] := by kernel_rfl
theorem keep_15 : E.keep 15 = false := by kernel_rfl
theorem body_16 : bodyOf E 16 = Tryz.f16.body := by kernel_rfl
theorem prim_16 : E.prim 16 = none := by kernel_rfl
theorem res_16 : resOf E 16 = some [.tmp 2, .tmp 3] := by kernel_rfl
theorem frz_16 : E.frz 16 = [] := by kernel_rfl
theorem lend_16 : E.lend 16 = [] := by kernel_rfl
theorem xop_16 : E.xop 16 = [] := by kernel_rfl
theorem keep_16 : E.keep 16 = false := by kernel_rfl
theorem body_17 : bodyOf E 17 = Tryz.f17.body := by kernel_rfl
theorem prim_17 : E.prim 17 = none := by kernel_rfl
theorem res_17 : resOf E 17 = some [.tmp 2, .tmp 3] := by kernel_rfl
theorem frz_17 : E.frz 17 = [] := by kernel_rfl
theorem lend_17 : E.lend 17 = [] := by kernel_rfl
theorem xop_17 : E.xop 17 = [] := by kernel_rfl
theorem keep_17 : E.keep 17 = false := by kernel_rfl
theorem res_18 : resOf E 18 = some [.tmp 2] := by kernel_rfl
theorem frz_18 : E.frz 18 = [] := by kernel_rfl
theorem lend_18 : E.lend 18 = [] := by kernel_rfl
theorem xop_18 : E.xop 18 = [] := by kernel_rfl
theorem keep_18 : E.keep 18 = false := by kernel_rfl
theorem res_19 : resOf E 19 = some [.tmp 2] := by kernel_rfl
theorem frz_19 : E.frz 19 = [] := by kernel_rfl
theorem lend_19 : E.lend 19 = [] := by kernel_rfl
theorem xop_19 : E.xop 19 = [] := by kernel_rfl
theorem keep_19 : E.keep 19 = false := by kernel_rfl
theorem body_20 : bodyOf E 20 = Tryz.f20.body := by kernel_rfl
theorem prim_20 : E.prim 20 = none := by kernel_rfl
theorem res_20 : resOf E 20 = some [.cell 2 39, .tmp 3] := by kernel_rfl
theorem frz_20 : E.frz 20 = [] := by kernel_rfl
theorem lend_20 : E.lend 20 = [] := by kernel_rfl
theorem xop_20 : E.xop 20 = [] := by kernel_rfl
theorem keep_20 : E.keep 20 = false := by kernel_rfl
theorem body_21 : bodyOf E 21 = Tryz.f21.body := by kernel_rfl
theorem prim_21 : E.prim 21 = none := by kernel_rfl
theorem res_21 : resOf E 21 = some [.cell 2 48, .tmp 3] := by kernel_rfl
theorem frz_21 : E.frz 21 = [] := by kernel_rfl
theorem lend_21 : E.lend 21 = [] := by kernel_rfl
theorem xop_21 : E.xop 21 = [] := by kernel_rfl
theorem keep_21 : E.keep 21 = false := by kernel_rfl
theorem body_22 : bodyOf E 22 = Tryz.f22.body := by kernel_rfl
theorem prim_22 : E.prim 22 = none := by kernel_rfl
theorem res_22 : resOf E 22 = some [.tmp 2] := by kernel_rfl
theorem frz_22 : E.frz 22 = [] := by kernel_rfl
theorem lend_22 : E.lend 22 = [] := by kernel_rfl
theorem xop_22 : E.xop 22 = [] := by kernel_rfl
theorem keep_22 : E.keep 22 = false := by kernel_rfl
theorem res_23 : resOf E 23 = some [.tmp 2] := by kernel_rfl
theorem frz_23 : E.frz 23 = [] := by kernel_rfl
theorem lend_23 : E.lend 23 = [] := by kernel_rfl
theorem xop_23 : E.xop 23 = [] := by kernel_rfl
theorem keep_23 : E.keep 23 = false := by kernel_rfl
theorem body_24 : bodyOf E 24 = Tryz.f24.body := by kernel_rfl
theorem prim_24 : E.prim 24 = none := by kernel_rfl
theorem res_24 : resOf E 24 = some [.tmp 2] := by kernel_rfl
theorem frz_24 : E.frz 24 = [] := by kernel_rfl
theorem lend_24 : E.lend 24 = [] := by kernel_rfl
theorem xop_24 : E.xop 24 = [] := by kernel_rfl
theorem keep_24 : E.keep 24 = false := by kernel_rfl
theorem body_25 : bodyOf E 25 = Tryz.f25.body := by kernel_rfl
theorem prim_25 : E.prim 25 = none := by kernel_rfl
theorem res_25 : resOf E 25 = some [.tmp 2] := by kernel_rfl
theorem frz_25 : E.frz 25 = [] := by kernel_rfl
theorem lend_25 : E.lend 25 = [] := by kernel_rfl
theorem xop_25 : E.xop 25 = [] := by kernel_rfl
theorem keep_25 : E.keep 25 = false := by kernel_rfl
theorem res_26 : resOf E 26 = some [.tmp 2] := by kernel_rfl
theorem frz_26 : E.frz 26 = [] := by kernel_rfl
theorem lend_26 : E.lend 26 = [] := by kernel_rfl
theorem xop_26 : E.xop 26 = [] := by kernel_rfl
theorem keep_26 : E.keep 26 = false := by kernel_rfl
theorem body_27 : bodyOf E 27 = Tryz.f27.body := by kernel_rfl
theorem prim_27 : E.prim 27 = none := by kernel_rfl
theorem res_27 : resOf E 27 = some [.tmp 2] := by kernel_rfl
theorem frz_27 : E.frz 27 = [] := by kernel_rfl
theorem lend_27 : E.lend 27 = [] := by kernel_rfl
theorem xop_27 : E.xop 27 = [] := by kernel_rfl
theorem keep_27 : E.keep 27 = false := by kernel_rfl
theorem body_38 : bodyOf E 38 = Tryz.f38.body := by kernel_rfl
theorem prim_38 : E.prim 38 = none := by kernel_rfl
theorem res_38 : resOf E 38 = some [.tmp 4] := by kernel_rfl
theorem frz_38 : E.frz 38 = [] := by kernel_rfl
theorem lend_38 : E.lend 38 = [] := by kernel_rfl
theorem xop_38 : E.xop 38 = [] := by kernel_rfl
theorem keep_38 : E.keep 38 = false := by kernel_rfl
theorem body_43 : bodyOf E 43 = Tryz.f43.body := by kernel_rfl
theorem prim_43 : E.prim 43 = none := by kernel_rfl
theorem res_43 : resOf E 43 = some [.tmp 2] := by kernel_rfl
theorem frz_43 : E.frz 43 = [] := by kernel_rfl
theorem lend_43 : E.lend 43 = [] := by kernel_rfl
theorem xop_43 : E.xop 43 = [] := by kernel_rfl
theorem keep_43 : E.keep 43 = false := by kernel_rfl
theorem body_44 : bodyOf E 44 = Tryz.f44.body := by kernel_rfl
theorem prim_44 : E.prim 44 = none := by kernel_rfl
theorem res_44 : resOf E 44 = some [.tmp 0] := by kernel_rfl
theorem frz_44 : E.frz 44 = [] := by kernel_rfl
theorem lend_44 : E.lend 44 = [] := by kernel_rfl
theorem xop_44 : E.xop 44 = [] := by kernel_rfl
theorem keep_44 : E.keep 44 = false := by kernel_rfl
theorem body_45 : bodyOf E 45 = Tryz.f45.body := by kernel_rfl
theorem prim_45 : E.prim 45 = none := by kernel_rfl
theorem res_45 : resOf E 45 = some [.cell 6 39] := by kernel_rfl
theorem frz_45 : E.frz 45 = [(19, [(7, 36), (10, 37)])] := by kernel_rfl
theorem lend_45 : E.lend 45 = [] := by kernel_rfl
theorem xop_45 : E.xop 45 = [(5, 2), (12, 2)] := by kernel_rfl
theorem keep_45 : E.keep 45 = false := by kernel_rfl
theorem body_46 : bodyOf E 46 = Tryz.f46.body := by kernel_rfl
theorem prim_46 : E.prim 46 = none := by kernel_rfl
theorem res_46 : resOf E 46 = some [.cell 6 48] := by kernel_rfl
theorem frz_46 : E.frz 46 = [] := by kernel_rfl
theorem lend_46 : E.lend 46 = [] := by kernel_rfl
theorem xop_46 : E.xop 46 = [] := by kernel_rfl
theorem keep_46 : E.keep 46 = false := by kernel_rfl
theorem body_47 : bodyOf E 47 = Tryz.f47.body := by kernel_rfl
theorem prim_47 : E.prim 47 = none := by kernel_rfl
theorem res_47 : resOf E 47 = some [.tmp 2] := by kernel_rfl
theorem frz_47 : E.frz 47 = [] := by kernel_rfl
theorem lend_47 : E.lend 47 = [] := by kernel_rfl
theorem xop_47 : E.xop 47 = [] := by kernel_rfl
theorem keep_47 : E.keep 47 = false := by kernel_rfl
theorem body_48 : bodyOf E 48 = Tryz.f48.body := by kernel_rfl
theorem prim_48 : E.prim 48 = none := by kernel_rfl
theorem res_48 : resOf E 48 = some [.cell 4 39, .tmp 5] := by kernel_rfl
theorem frz_48 : E.frz 48 = [] := by kernel_rfl
theorem lend_48 : E.lend 48 = [] := by kernel_rfl
theorem xop_48 : E.xop 48 = [] := by kernel_rfl
theorem keep_48 : E.keep 48 = false := by kernel_rfl
theorem body_49 : bodyOf E 49 = Tryz.f49.body := by kernel_rfl
theorem prim_49 : E.prim 49 = none := by kernel_rfl
theorem res_49 : resOf E 49 = some [.tmp 2] := by kernel_rfl
theorem frz_49 : E.frz 49 = [] := by kernel_rfl
theorem lend_49 : E.lend 49 = [] := by kernel_rfl
theorem xop_49 : E.xop 49 = [] := by kernel_rfl
theorem keep_49 : E.keep 49 = false := by kernel_rfl
theorem body_50 : bodyOf E 50 = Tryz.f50.body := by kernel_rfl
theorem prim_50 : E.prim 50 = none := by kernel_rfl
theorem res_50 : resOf E 50 = some [.cell 6 39, .tmp 7] := by kernel_rfl
theorem frz_50 : E.frz 50 = [] := by kernel_rfl
theorem lend_50 : E.lend 50 = [] := by kernel_rfl
theorem xop_50 : E.xop 50 = [] := by kernel_rfl
theorem keep_50 : E.keep 50 = false := by kernel_rfl
theorem body_51 : bodyOf E 51 = Tryz.f51.body := by kernel_rfl
theorem prim_51 : E.prim 51 = none := by kernel_rfl
theorem res_51 : resOf E 51 = some [.tmp 4, .cell 5 39, .tmp 6, .cell 7 48, .tmp 8] := by kernel_rfl
theorem frz_51 : E.frz 51 = [] := by kernel_rfl
theorem lend_51 : E.lend 51 = [] := by kernel_rfl
theorem xop_51 : E.xop 51 = [] := by kernel_rfl
theorem keep_51 : E.keep 51 = false := by kernel_rfl
theorem res_53 : resOf E 53 = some [.tmp 2] := by kernel_rfl
theorem frz_53 : E.frz 53 = [] := by kernel_rfl
theorem lend_53 : E.lend 53 = [] := by kernel_rfl
theorem xop_53 : E.xop 53 = [] := by kernel_rfl
theorem keep_53 : E.keep 53 = false := by kernel_rfl
theorem body_54 : bodyOf E 54 = Tryz.f54.body := by kernel_rfl
theorem prim_54 : E.prim 54 = none := by kernel_rfl
theorem res_54 : resOf E 54 = some [.tmp 2, .cell 3 3, .tmp 4] := by kernel_rfl
theorem frz_54 : E.frz 54 = [] := by kernel_rfl
theorem lend_54 : E.lend 54 = [] := by kernel_rfl
theorem xop_54 : E.xop 54 = [] := by kernel_rfl
theorem keep_54 : E.keep 54 = false := by kernel_rfl
theorem body_55 : bodyOf E 55 = Tryz.f55.body := by kernel_rfl
theorem prim_55 : E.prim 55 = none := by kernel_rfl
theorem res_55 : resOf E 55 = some [.cell 2 62] := by kernel_rfl
theorem frz_55 : E.frz 55 = [] := by kernel_rfl
theorem lend_55 : E.lend 55 = [] := by kernel_rfl
theorem xop_55 : E.xop 55 = [] := by kernel_rfl
theorem keep_55 : E.keep 55 = false := by kernel_rfl
theorem body_56 : bodyOf E 56 = Tryz.f56.body := by kernel_rfl
theorem prim_56 : E.prim 56 = none := by kernel_rfl
theorem res_56 : resOf E 56 = some [.tmp 6] := by kernel_rfl
theorem frz_56 : E.frz 56 = [] := by kernel_rfl
theorem lend_56 : E.lend 56 = [] := by kernel_rfl
theorem xop_56 : E.xop 56 = [] := by kernel_rfl
theorem keep_56 : E.keep 56 = false := by kernel_rfl
theorem body_57 : bodyOf E 57 = Tryz.f57.body := by kernel_rfl
theorem prim_57 : E.prim 57 = none := by kernel_rfl
theorem res_57 : resOf E 57 = some [.tmp 2] := by kernel_rfl
theorem frz_57 : E.frz 57 = [] := by kernel_rfl
theorem lend_57 : E.lend 57 = [] := by kernel_rfl
theorem xop_57 : E.xop 57 = [] := by kernel_rfl
theorem keep_57 : E.keep 57 = false := by kernel_rfl
theorem body_58 : bodyOf E 58 = Tryz.f58.body := by kernel_rfl
theorem prim_58 : E.prim 58 = none := by kernel_rfl
theorem res_58 : resOf E 58 = some [.tmp 2, .tmp 3, .tmp 4] := by kernel_rfl
theorem frz_58 : E.frz 58 = [] := by kernel_rfl
theorem lend_58 : E.lend 58 = [] := by kernel_rfl
theorem xop_58 : E.xop 58 = [] := by kernel_rfl
theorem keep_58 : E.keep 58 = false := by kernel_rfl
theorem body_59 : bodyOf E 59 = Tryz.f59.body := by kernel_rfl
theorem prim_59 : E.prim 59 = none := by kernel_rfl
theorem res_59 : resOf E 59 = some [.cell 4 102, .tmp 5] := by kernel_rfl
theorem frz_59 : E.frz 59 = [] := by kernel_rfl
theorem lend_59 : E.lend 59 = [] := by kernel_rfl
theorem xop_59 : E.xop 59 = [] := by kernel_rfl
theorem keep_59 : E.keep 59 = false := by kernel_rfl
theorem body_60 : bodyOf E 60 = Tryz.f60.body := by kernel_rfl
theorem prim_60 : E.prim 60 = none := by kernel_rfl
theorem res_60 : resOf E 60 = some [.tmp 8] := by kernel_rfl
theorem frz_60 : E.frz 60 = [] := by kernel_rfl
theorem lend_60 : E.lend 60 = [] := by kernel_rfl
theorem xop_60 : E.xop 60 = [] := by kernel_rfl
theorem keep_60 : E.keep 60 = false := by kernel_rfl
theorem body_61 : bodyOf E 61 = Tryz.f61.body := by kernel_rfl
theorem prim_61 : E.prim 61 = none := by kernel_rfl
theorem res_61 : resOf E 61 = some [.tmp 2] := by kernel_rfl
theorem frz_61 : E.frz 61 = [] := by kernel_rfl
theorem lend_61 : E.lend 61 = [] := by kernel_rfl
theorem xop_61 : E.xop 61 = [] := by kernel_rfl
theorem keep_61 : E.keep 61 = false := by kernel_rfl
theorem res_62 : resOf E 62 = some [.tmp 2] := by kernel_rfl
theorem frz_62 : E.frz 62 = [] := by kernel_rfl
theorem lend_62 : E.lend 62 = [] := by kernel_rfl
theorem xop_62 : E.xop 62 = [] := by kernel_rfl
theorem keep_62 : E.keep 62 = false := by kernel_rfl
theorem body_64 : bodyOf E 64 = Tryz.f64.body := by kernel_rfl
theorem prim_64 : E.prim 64 = none := by kernel_rfl
theorem res_64 : resOf E 64 = some [.tmp 2] := by kernel_rfl
theorem frz_64 : E.frz 64 = [] := by kernel_rfl
theorem lend_64 : E.lend 64 = [] := by kernel_rfl
theorem xop_64 : E.xop 64 = [] := by kernel_rfl
theorem keep_64 : E.keep 64 = false := by kernel_rfl
theorem body_65 : bodyOf E 65 = Tryz.f65.body := by kernel_rfl
theorem prim_65 : E.prim 65 = none := by kernel_rfl
theorem res_65 : resOf E 65 = some [.cell 2 39] := by kernel_rfl
theorem frz_65 : E.frz 65 = [] := by kernel_rfl
theorem lend_65 : E.lend 65 = [] := by kernel_rfl
theorem xop_65 : E.xop 65 = [] := by kernel_rfl
theorem keep_65 : E.keep 65 = false := by kernel_rfl
theorem body_66 : bodyOf E 66 = Tryz.f66.body := by kernel_rfl
theorem prim_66 : E.prim 66 = none := by kernel_rfl
theorem res_66 : resOf E 66 = some [.tmp 2] := by kernel_rfl
theorem frz_66 : E.frz 66 = [] := by kernel_rfl
theorem lend_66 : E.lend 66 = [] := by kernel_rfl
theorem xop_66 : E.xop 66 = [] := by kernel_rfl
theorem keep_66 : E.keep 66 = false := by kernel_rfl
theorem body_67 : bodyOf E 67 = Tryz.f67.body := by kernel_rfl
theorem prim_67 : E.prim 67 = none := by kernel_rfl
theorem res_67 : resOf E 67 = some [.cell 4 48, .tmp 5] := by kernel_rfl
theorem frz_67 : E.frz 67 = [] := by kernel_rfl
theorem lend_67 : E.lend 67 = [] := by kernel_rfl
theorem xop_67 : E.xop 67 = [] := by kernel_rfl
theorem keep_67 : E.keep 67 = false := by kernel_rfl
theorem body_68 : bodyOf E 68 = Tryz.f68.body := by kernel_rfl
theorem prim_68 : E.prim 68 = none := by kernel_rfl
theorem res_68 : resOf E 68 = some [.tmp 2] := by kernel_rfl
theorem frz_68 : E.frz 68 = [] := by kernel_rfl
theorem lend_68 : E.lend 68 = [] := by kernel_rfl
theorem xop_68 : E.xop 68 = [] := by kernel_rfl
theorem keep_68 : E.keep 68 = false := by kernel_rfl
theorem body_69 : bodyOf E 69 = Tryz.f69.body := by kernel_rfl
theorem prim_69 : E.prim 69 = none := by kernel_rfl
theorem res_69 : resOf E 69 = some [.tmp 4] := by kernel_rfl
theorem frz_69 : E.frz 69 = [] := by kernel_rfl
theorem lend_69 : E.lend 69 = [] := by kernel_rfl
theorem xop_69 : E.xop 69 = [] := by kernel_rfl
theorem keep_69 : E.keep 69 = false := by kernel_rfl
theorem body_70 : bodyOf E 70 = Tryz.f70.body := by kernel_rfl
theorem prim_70 : E.prim 70 = none := by kernel_rfl
theorem res_70 : resOf E 70 = some [.tmp 2] := by kernel_rfl
theorem frz_70 : E.frz 70 = [] := by kernel_rfl
theorem lend_70 : E.lend 70 = [] := by kernel_rfl
theorem xop_70 : E.xop 70 = [] := by kernel_rfl
theorem keep_70 : E.keep 70 = false := by kernel_rfl
theorem body_71 : bodyOf E 71 = Tryz.f71.body := by kernel_rfl
theorem prim_71 : E.prim 71 = none := by kernel_rfl
theorem res_71 : resOf E 71 = some [.tmp 2] := by kernel_rfl
theorem frz_71 : E.frz 71 = [] := by kernel_rfl
theorem lend_71 : E.lend 71 = [] := by kernel_rfl
theorem xop_71 : E.xop 71 = [] := by kernel_rfl
theorem keep_71 : E.keep 71 = false := by kernel_rfl
theorem body_72 : bodyOf E 72 = Tryz.f72.body := by kernel_rfl
theorem prim_72 : E.prim 72 = none := by kernel_rfl
theorem res_72 : resOf E 72 = some [.tmp 2] := by kernel_rfl
theorem frz_72 : E.frz 72 = [] := by kernel_rfl
theorem lend_72 : E.lend 72 = [] := by kernel_rfl
theorem xop_72 : E.xop 72 = [] := by kernel_rfl
theorem keep_72 : E.keep 72 = false := by kernel_rfl
theorem body_90 : bodyOf E 90 = Tryz.f90.body := by kernel_rfl
theorem prim_90 : E.prim 90 = none := by kernel_rfl
theorem res_90 : resOf E 90 = some [.cell 2 35, .tmp 3, .tmp 4] := by kernel_rfl
theorem frz_90 : E.frz 90 = [] := by kernel_rfl
theorem lend_90 : E.lend 90 = [] := by kernel_rfl
theorem xop_90 : E.xop 90 = [] := by kernel_rfl
theorem keep_90 : E.keep 90 = false := by kernel_rfl
theorem body_91 : bodyOf E 91 = Tryz.f91.body := by kernel_rfl
theorem prim_91 : E.prim 91 = none := by kernel_rfl
theorem res_91 : resOf E 91 = some [.tmp 2] := by kernel_rfl
theorem frz_91 : E.frz 91 = [] := by kernel_rfl
theorem lend_91 : E.lend 91 = [] := by kernel_rfl
theorem xop_91 : E.xop 91 = [] := by kernel_rfl
theorem keep_91 : E.keep 91 = false := by kernel_rfl
theorem body_94 : bodyOf E 94 = Tryz.f94.body := by kernel_rfl
theorem prim_94 : E.prim 94 = none := by kernel_rfl
theorem res_94 : resOf E 94 = some [.tmp 4] := by kernel_rfl
theorem frz_94 : E.frz 94 = [] := by kernel_rfl
theorem lend_94 : E.lend 94 = [] := by kernel_rfl
theorem xop_94 : E.xop 94 = [] := by kernel_rfl
theorem keep_94 : E.keep 94 = false := by kernel_rfl
theorem body_95 : bodyOf E 95 = Tryz.f95.body := by kernel_rfl
theorem prim_95 : E.prim 95 = none := by kernel_rfl
theorem res_95 : resOf E 95 = some [.tmp 2] := by kernel_rfl
theorem frz_95 : E.frz 95 = [] := by kernel_rfl
theorem lend_95 : E.lend 95 = [] := by kernel_rfl
theorem xop_95 : E.xop 95 = [] := by kernel_rfl
theorem keep_95 : E.keep 95 = false := by kernel_rfl
theorem body_96 : bodyOf E 96 = Tryz.f96.body := by kernel_rfl
theorem prim_96 : E.prim 96 = none := by kernel_rfl
theorem res_96 : resOf E 96 = some [.tmp 6] := by kernel_rfl
theorem frz_96 : E.frz 96 = [] := by kernel_rfl
theorem lend_96 : E.lend 96 = [] := by kernel_rfl
theorem xop_96 : E.xop 96 = [] := by kernel_rfl
theorem keep_96 : E.keep 96 = false := by kernel_rfl
theorem body_99 : bodyOf E 99 = Tryz.f99.body := by kernel_rfl
theorem prim_99 : E.prim 99 = none := by kernel_rfl
theorem res_99 : resOf E 99 = some [.tmp 4] := by kernel_rfl
theorem frz_99 : E.frz 99 = [] := by kernel_rfl
theorem lend_99 : E.lend 99 = [] := by kernel_rfl
theorem xop_99 : E.xop 99 = [] := by kernel_rfl
theorem keep_99 : E.keep 99 = false := by kernel_rfl
theorem body_100 : bodyOf E 100 = Tryz.f100.body := by kernel_rfl
theorem prim_100 : E.prim 100 = none := by kernel_rfl
theorem res_100 : resOf E 100 = some [.tmp 2, .tmp 3, .tmp 4] := by kernel_rfl
theorem frz_100 : E.frz 100 = [(5, [(3, 36)])] := by kernel_rfl
theorem lend_100 : E.lend 100 = [] := by kernel_rfl
theorem xop_100 : E.xop 100 = [(3, 6), (4, 1)] := by kernel_rfl
theorem keep_100 : E.keep 100 = false := by kernel_rfl
theorem body_101 : bodyOf E 101 = Tryz.f101.body := by kernel_rfl
theorem prim_101 : E.prim 101 = none := by kernel_rfl
theorem res_101 : resOf E 101 = some [.cell 2 39, .tmp 3] := by kernel_rfl
theorem frz_101 : E.frz 101 = [(6, [(6, 36)])] := by kernel_rfl
theorem lend_101 : E.lend 101 = [] := by kernel_rfl
theorem xop_101 : E.xop 101 = [(4, 2)] := by kernel_rfl
theorem keep_101 : E.keep 101 = false := by kernel_rfl
theorem body_102 : bodyOf E 102 = Tryz.f102.body := by kernel_rfl
theorem prim_102 : E.prim 102 = none := by kernel_rfl
theorem res_102 : resOf E 102 = some [.tmp 4] := by kernel_rfl
theorem frz_102 : E.frz 102 = [] := by kernel_rfl
theorem lend_102 : E.lend 102 = [] := by kernel_rfl
theorem xop_102 : E.xop 102 = [] := by kernel_rfl
theorem keep_102 : E.keep 102 = false := by kernel_rfl
theorem body_103 : bodyOf E 103 = Tryz.f103.body := by kernel_rfl
theorem prim_103 : E.prim 103 = none := by kernel_rfl
theorem res_103 : resOf E 103 = some [.tmp 3] := by kernel_rfl
theorem frz_103 : E.frz 103 = [] := by kernel_rfl
theorem lend_103 : E.lend 103 = [] := by kernel_rfl
theorem xop_103 : E.xop 103 = [] := by kernel_rfl
theorem keep_103 : E.keep 103 = false := by kernel_rfl
theorem body_104 : bodyOf E 104 = Tryz.f104.body := by kernel_rfl
theorem prim_104 : E.prim 104 = none := by kernel_rfl
theorem res_104 : resOf E 104 = some [.cell 2 39, .tmp 3] := by kernel_rfl
theorem frz_104 : E.frz 104 = [] := by kernel_rfl
theorem lend_104 : E.lend 104 = [] := by kernel_rfl
theorem xop_104 : E.xop 104 = [] := by kernel_rfl
theorem keep_104 : E.keep 104 = false := by kernel_rfl
theorem body_107 : bodyOf E 107 = Tryz.f107.body := by kernel_rfl
theorem prim_107 : E.prim 107 = none := by kernel_rfl
theorem res_107 : resOf E 107 = some [.tmp 2, .tmp 3] := by kernel_rfl
theorem frz_107 : E.frz 107 = [] := by kernel_rfl
theorem lend_107 : E.lend 107 = [] := by kernel_rfl
theorem xop_107 : E.xop 107 = [] := by kernel_rfl
theorem keep_107 : E.keep 107 = false := by kernel_rfl
theorem body_108 : bodyOf E 108 = Tryz.f108.body := by kernel_rfl
theorem prim_108 : E.prim 108 = none := by kernel_rfl
theorem res_108 : resOf E 108 = some [.tmp 2, .tmp 3] := by kernel_rfl
theorem frz_108 : E.frz 108 = [] := by kernel_rfl
theorem lend_108 : E.lend 108 = [] := by kernel_rfl
theorem xop_108 : E.xop 108 = [] := by kernel_rfl
theorem keep_108 : E.keep 108 = false := by kernel_rfl
theorem body_109 : bodyOf E 109 = Tryz.f109.body := by kernel_rfl
theorem prim_109 : E.prim 109 = none := by kernel_rfl
theorem res_109 : resOf E 109 = some [.tmp 2] := by kernel_rfl
theorem frz_109 : E.frz 109 = [] := by kernel_rfl
theorem lend_109 : E.lend 109 = [] := by kernel_rfl
theorem xop_109 : E.xop 109 = [] := by kernel_rfl
theorem keep_109 : E.keep 109 = false := by kernel_rfl
theorem body_110 : bodyOf E 110 = Tryz.f110.body := by kernel_rfl
theorem prim_110 : E.prim 110 = none := by kernel_rfl
theorem res_110 : resOf E 110 = some [.tmp 6] := by kernel_rfl
theorem frz_110 : E.frz 110 = [] := by kernel_rfl
theorem lend_110 : E.lend 110 = [] := by kernel_rfl
theorem xop_110 : E.xop 110 = [] := by kernel_rfl
theorem keep_110 : E.keep 110 = false := by kernel_rfl
theorem body_111 : bodyOf E 111 = Tryz.f111.body := by kernel_rfl
theorem prim_111 : E.prim 111 = none := by kernel_rfl
theorem res_111 : resOf E 111 = some [.tmp 2] := by kernel_rfl
theorem frz_111 : E.frz 111 = [] := by kernel_rfl
theorem lend_111 : E.lend 111 = [] := by kernel_rfl
theorem xop_111 : E.xop 111 = [] := by kernel_rfl
theorem keep_111 : E.keep 111 = false := by kernel_rfl
theorem body_112 : bodyOf E 112 = Tryz.f112.body := by kernel_rfl
theorem prim_112 : E.prim 112 = none := by kernel_rfl
theorem res_112 : resOf E 112 = some [] := by kernel_rfl
theorem frz_112 : E.frz 112 = [] := by kernel_rfl
theorem lend_112 : E.lend 112 = [] := by kernel_rfl
theorem xop_112 : E.xop 112 = [] := by kernel_rfl
theorem keep_112 : E.keep 112 = false := by kernel_rfl
theorem body_113 : bodyOf E 113 = Tryz.f113.body := by kernel_rfl
theorem prim_113 : E.prim 113 = none := by kernel_rfl
theorem res_113 : resOf E 113 = some [] := by kernel_rfl
theorem frz_113 : E.frz 113 = [] := by kernel_rfl
theorem lend_113 : E.lend 113 = [] := by kernel_rfl
theorem xop_113 : E.xop 113 = [] := by kernel_rfl
theorem keep_113 : E.keep 113 = false := by kernel_rfl
theorem body_114 : bodyOf E 114 = Tryz.f114.body := by kernel_rfl
theorem prim_114 : E.prim 114 = none := by kernel_rfl
theorem res_114 : resOf E 114 = some [.cell 2 35] := by kernel_rfl
theorem frz_114 : E.frz 114 = [] := by kernel_rfl
theorem lend_114 : E.lend 114 = [] := by kernel_rfl
theorem xop_114 : E.xop 114 = [] := by kernel_rfl
theorem keep_114 : E.keep 114 = false := by kernel_rfl
theorem body_115 : bodyOf E 115 = Tryz.f115.body := by kernel_rfl
theorem prim_115 : E.prim 115 = none := by kernel_rfl
theorem res_115 : resOf E 115 = some [.tmp 6] := by kernel_rfl
theorem frz_115 : E.frz 115 = [] := by kernel_rfl
theorem lend_115 : E.lend 115 = [] := by kernel_rfl
theorem xop_115 : E.xop 115 = [] := by kernel_rfl
theorem keep_115 : E.keep 115 = false := by kernel_rfl
theorem body_116 : bodyOf E 116 = Tryz.f116.body := by kernel_rfl
theorem prim_116 : E.prim 116 = none := by kernel_rfl
theorem res_116 : resOf E 116 = some [.tmp 4, .tmp 5] := by kernel_rfl
theorem frz_116 : E.frz 116 = [] := by kernel_rfl
theorem lend_116 : E.lend 116 = [] := by kernel_rfl
theorem xop_116 : E.xop 116 = [] := by kernel_rfl
theorem keep_116 : E.keep 116 = false := by kernel_rfl
theorem body_117 : bodyOf E 117 = Tryz.f117.body := by kernel_rfl
theorem prim_117 : E.prim 117 = none := by kernel_rfl
theorem res_117 : resOf E 117 = some [.tmp 4] := by kernel_rfl
theorem frz_117 : E.frz 117 = [] := by kernel_rfl
theorem lend_117 : E.lend 117 = [] := by kernel_rfl
theorem xop_117 : E.xop 117 = [] := by kernel_rfl
theorem keep_117 : E.keep 117 = false := by kernel_rfl
theorem body_118 : bodyOf E 118 = Tryz.f118.body := by kernel_rfl
theorem prim_118 : E.prim 118 = none := by kernel_rfl
theorem res_118 : resOf E 118 = some [.tmp 4, .tmp 5] := by kernel_rfl
theorem frz_118 : E.frz 118 = [] := by kernel_rfl
theorem lend_118 : E.lend 118 = [] := by kernel_rfl
theorem xop_118 : E.xop 118 = [] := by kernel_rfl
theorem keep_118 : E.keep 118 = false := by kernel_rfl
theorem body_119 : bodyOf E 119 = Tryz.f119.body := by kernel_rfl
theorem prim_119 : E.prim 119 = none := by kernel_rfl
theorem res_119 : resOf E 119 = some [.tmp 8] := by kernel_rfl
theorem frz_119 : E.frz 119 = [] := by kernel_rfl
theorem lend_119 : E.lend 119 = [] := by kernel_rfl
theorem xop_119 : E.xop 119 = [] := by kernel_rfl
theorem keep_119 : E.keep 119 = false := by kernel_rfl
theorem body_120 : bodyOf E 120 = Tryz.f120.body := by kernel_rfl
theorem prim_120 : E.prim 120 = none := by kernel_rfl
theorem res_120 : resOf E 120 = some [.cell 4 44, .tmp 5] := by kernel_rfl
theorem frz_120 : E.frz 120 = [] := by kernel_rfl
theorem lend_120 : E.lend 120 = [] := by kernel_rfl
theorem xop_120 : E.xop 120 = [] := by kernel_rfl
theorem keep_120 : E.keep 120 = false := by kernel_rfl
theorem body_121 : bodyOf E 121 = Tryz.f121.body := by kernel_rfl
theorem prim_121 : E.prim 121 = none := by kernel_rfl
theorem res_121 : resOf E 121 = some [.tmp 8] := by kernel_rfl
theorem frz_121 : E.frz 121 = [] := by kernel_rfl
theorem lend_121 : E.lend 121 = [] := by kernel_rfl
theorem xop_121 : E.xop 121 = [] := by kernel_rfl
theorem keep_121 : E.keep 121 = false := by kernel_rfl
theorem body_122 : bodyOf E 122 = Tryz.f122.body := by kernel_rfl
theorem prim_122 : E.prim 122 = none := by kernel_rfl
theorem res_122 : resOf E 122 = some [.tmp 2] := by kernel_rfl
theorem frz_122 : E.frz 122 = [] := by kernel_rfl
theorem lend_122 : E.lend 122 = [] := by kernel_rfl
theorem xop_122 : E.xop 122 = [] := by kernel_rfl
theorem keep_122 : E.keep 122 = false := by kernel_rfl
theorem body_126 : bodyOf E 126 = Tryz.f126.body := by kernel_rfl
theorem prim_126 : E.prim 126 = none := by kernel_rfl
theorem res_126 : resOf E 126 = some [.tmp 2] := by kernel_rfl
theorem frz_126 : E.frz 126 = [] := by kernel_rfl
theorem lend_126 : E.lend 126 = [] := by kernel_rfl
theorem xop_126 : E.xop 126 = [] := by kernel_rfl
theorem keep_126 : E.keep 126 = false := by kernel_rfl
theorem body_127 : bodyOf E 127 = Tryz.f127.body := by kernel_rfl
theorem prim_127 : E.prim 127 = none := by kernel_rfl
theorem res_127 : resOf E 127 = some [.cell 2 39] := by kernel_rfl
theorem frz_127 : E.frz 127 = [] := by kernel_rfl
theorem lend_127 : E.lend 127 = [] := by kernel_rfl
theorem xop_127 : E.xop 127 = [] := by kernel_rfl
theorem keep_127 : E.keep 127 = false := by kernel_rfl
theorem body_128 : bodyOf E 128 = Tryz.f128.body := by kernel_rfl
theorem prim_128 : E.prim 128 = none := by kernel_rfl
theorem res_128 : resOf E 128 = some [] := by kernel_rfl
theorem frz_128 : E.frz 128 = [] := by kernel_rfl
theorem lend_128 : E.lend 128 = [] := by kernel_rfl
theorem xop_128 : E.xop 128 = [] := by kernel_rfl
theorem keep_128 : E.keep 128 = false := by kernel_rfl
theorem body_129 : bodyOf E 129 = Tryz.f129.body := by kernel_rfl
theorem prim_129 : E.prim 129 = none := by kernel_rfl
theorem res_129 : resOf E 129 = some [.cell 2 39] := by kernel_rfl
theorem frz_129 : E.frz 129 = [] := by kernel_rfl
theorem lend_129 : E.lend 129 = [] := by kernel_rfl
theorem xop_129 : E.xop 129 = [] := by kernel_rfl
theorem keep_129 : E.keep 129 = false := by kernel_rfl
theorem body_130 : bodyOf E 130 = Tryz.f130.body := by kernel_rfl
theorem prim_130 : E.prim 130 = none := by kernel_rfl
theorem res_130 : resOf E 130 = some [.cell 4 48, .tmp 5] := by kernel_rfl
theorem frz_130 : E.frz 130 = [] := by kernel_rfl
theorem lend_130 : E.lend 130 = [] := by kernel_rfl
theorem xop_130 : E.xop 130 = [] := by kernel_rfl
theorem keep_130 : E.keep 130 = false := by kernel_rfl
theorem body_139 : bodyOf E 139 = Tryz.f139.body := by kernel_rfl
theorem prim_139 : E.prim 139 = none := by kernel_rfl
theorem res_139 : resOf E 139 = some [.cell 2 35, .tmp 3] := by kernel_rfl
theorem frz_139 : E.frz 139 = [] := by kernel_rfl
theorem lend_139 : E.lend 139 = [] := by kernel_rfl
theorem xop_139 : E.xop 139 = [] := by kernel_rfl
theorem keep_139 : E.keep 139 = false := by kernel_rfl
theorem body_143 : bodyOf E 143 = Tryz.f143.body := by kernel_rfl
theorem prim_143 : E.prim 143 = none := by kernel_rfl
theorem res_143 : resOf E 143 = some [.tmp 4] := by kernel_rfl
theorem frz_143 : E.frz 143 = [] := by kernel_rfl
theorem lend_143 : E.lend 143 = [] := by kernel_rfl
theorem xop_143 : E.xop 143 = [] := by kernel_rfl
theorem keep_143 : E.keep 143 = false := by kernel_rfl
theorem body_145 : bodyOf E 145 = Tryz.f145.body := by kernel_rfl
theorem prim_145 : E.prim 145 = none := by kernel_rfl
theorem res_145 : resOf E 145 = some [.tmp 4] := by kernel_rfl
theorem frz_145 : E.frz 145 = [] := by kernel_rfl
theorem lend_145 : E.lend 145 = [] := by kernel_rfl
theorem xop_145 : E.xop 145 = [] := by kernel_rfl
theorem keep_145 : E.keep 145 = false := by kernel_rfl
theorem body_146 : bodyOf E 146 = Tryz.f146.body := by kernel_rfl
theorem prim_146 : E.prim 146 = none := by kernel_rfl
theorem res_146 : resOf E 146 = some [.tmp 3] := by kernel_rfl
theorem frz_146 : E.frz 146 = [] := by kernel_rfl
theorem lend_146 : E.lend 146 = [] := by kernel_rfl
theorem xop_146 : E.xop 146 = [] := by kernel_rfl
theorem keep_146 : E.keep 146 = false := by kernel_rfl
theorem body_147 : bodyOf E 147 = Tryz.f147.body := by kernel_rfl
theorem prim_147 : E.prim 147 = none := by kernel_rfl
theorem res_147 : resOf E 147 = some [.tmp 2] := by kernel_rfl
theorem frz_147 : E.frz 147 = [] := by kernel_rfl
theorem lend_147 : E.lend 147 = [] := by kernel_rfl
theorem xop_147 : E.xop 147 = [] := by kernel_rfl
theorem keep_147 : E.keep 147 = false := by kernel_rfl
theorem body_148 : bodyOf E 148 = Tryz.f148.body := by kernel_rfl
theorem prim_148 : E.prim 148 = none := by kernel_rfl
theorem res_148 : resOf E 148 = some [.tmp 2] := by kernel_rfl
theorem frz_148 : E.frz 148 = [] := by kernel_rfl
theorem lend_148 : E.lend 148 = [] := by kernel_rfl
theorem xop_148 : E.xop 148 = [] := by kernel_rfl
theorem keep_148 : E.keep 148 = false := by kernel_rfl
theorem body_149 : bodyOf E 149 = Tryz.f149.body := by kernel_rfl
theorem prim_149 : E.prim 149 = none := by kernel_rfl
theorem res_149 : resOf E 149 = some [.tmp 4] := by kernel_rfl
theorem frz_149 : E.frz 149 = [] := by kernel_rfl
theorem lend_149 : E.lend 149 = [] := by kernel_rfl
theorem xop_149 : E.xop 149 = [] := by kernel_rfl
theorem keep_149 : E.keep 149 = false := by kernel_rfl
theorem body_150 : bodyOf E 150 = Tryz.f150.body := by kernel_rfl
theorem prim_150 : E.prim 150 = none := by kernel_rfl
theorem res_150 : resOf E 150 = some [.tmp 2] := by kernel_rfl
theorem frz_150 : E.frz 150 = [] := by kernel_rfl
theorem lend_150 : E.lend 150 = [] := by kernel_rfl
theorem xop_150 : E.xop 150 = [] := by kernel_rfl
theorem keep_150 : E.keep 150 = false := by kernel_rfl
theorem body_151 : bodyOf E 151 = Tryz.f151.body := by kernel_rfl
theorem prim_151 : E.prim 151 = none := by kernel_rfl
theorem res_151 : resOf E 151 = some [.tmp 2] := by kernel_rfl
theorem frz_151 : E.frz 151 = [] := by kernel_rfl
theorem lend_151 : E.lend 151 = [] := by kernel_rfl
theorem xop_151 : E.xop 151 = [] := by kernel_rfl
theorem keep_151 : E.keep 151 = false := by kernel_rfl
theorem body_152 : bodyOf E 152 = Tryz.f152.body := by kernel_rfl
theorem prim_152 : E.prim 152 = none := by kernel_rfl
theorem res_152 : resOf E 152 = some [.tmp 2] := by kernel_rfl
theorem frz_152 : E.frz 152 = [] := by kernel_rfl
theorem lend_152 : E.lend 152 = [] := by kernel_rfl
theorem xop_152 : E.xop 152 = [] := by kernel_rfl
theorem keep_152 : E.keep 152 = false := by kernel_rfl
theorem body_153 : bodyOf E 153 = Tryz.f153.body := by kernel_rfl
theorem prim_153 : E.prim 153 = none := by kernel_rfl
theorem res_153 : resOf E 153 = some [.tmp 2] := by kernel_rfl
theorem frz_153 : E.frz 153 = [] := by kernel_rfl
theorem lend_153 : E.lend 153 = [] := by kernel_rfl
theorem xop_153 : E.xop 153 = [] := by kernel_rfl
theorem keep_153 : E.keep 153 = false := by kernel_rfl
theorem body_154 : bodyOf E 154 = Tryz.f154.body := by kernel_rfl
theorem prim_154 : E.prim 154 = none := by kernel_rfl
theorem res_154 : resOf E 154 = some [.tmp 4] := by kernel_rfl
theorem frz_154 : E.frz 154 = [] := by kernel_rfl
theorem lend_154 : E.lend 154 = [] := by kernel_rfl
theorem xop_154 : E.xop 154 = [] := by kernel_rfl
theorem keep_154 : E.keep 154 = false := by kernel_rfl
theorem body_156 : bodyOf E 156 = Tryz.f156.body := by kernel_rfl
theorem prim_156 : E.prim 156 = none := by kernel_rfl
theorem res_156 : resOf E 156 = some [.tmp 2] := by kernel_rfl
theorem frz_156 : E.frz 156 = [] := by kernel_rfl
theorem lend_156 : E.lend 156 = [] := by kernel_rfl
theorem xop_156 : E.xop 156 = [] := by kernel_rfl
theorem keep_156 : E.keep 156 = false := by kernel_rfl
theorem body_157 : bodyOf E 157 = Tryz.f157.body := by kernel_rfl
theorem prim_157 : E.prim 157 = none := by kernel_rfl
theorem res_157 : resOf E 157 = some [.tmp 2] := by kernel_rfl
theorem frz_157 : E.frz 157 = [] := by kernel_rfl
theorem lend_157 : E.lend 157 = [] := by kernel_rfl
theorem xop_157 : E.xop 157 = [] := by kernel_rfl
theorem keep_157 : E.keep 157 = false := by kernel_rfl
theorem body_158 : bodyOf E 158 = Tryz.f158.body := by kernel_rfl
theorem prim_158 : E.prim 158 = none := by kernel_rfl
theorem res_158 : resOf E 158 = some [.tmp 4] := by kernel_rfl
theorem frz_158 : E.frz 158 = [] := by kernel_rfl
theorem lend_158 : E.lend 158 = [] := by kernel_rfl
theorem xop_158 : E.xop 158 = [] := by kernel_rfl
theorem keep_158 : E.keep 158 = false := by kernel_rfl
theorem body_159 : bodyOf E 159 = Tryz.f159.body := by kernel_rfl
theorem prim_159 : E.prim 159 = none := by kernel_rfl
theorem res_159 : resOf E 159 = some [.cell 4 44, .tmp 5] := by kernel_rfl
theorem frz_159 : E.frz 159 = [] := by kernel_rfl
theorem lend_159 : E.lend 159 = [] := by kernel_rfl
theorem xop_159 : E.xop 159 = [] := by kernel_rfl
theorem keep_159 : E.keep 159 = false := by kernel_rfl
theorem body_163 : bodyOf E 163 = Tryz.f163.body := by kernel_rfl
theorem prim_163 : E.prim 163 = none := by kernel_rfl
theorem res_163 : resOf E 163 = some [.tmp 6, .tmp 7] := by kernel_rfl
theorem frz_163 : E.frz 163 = [] := by kernel_rfl
theorem lend_163 : E.lend 163 = [] := by kernel_rfl
theorem xop_163 : E.xop 163 = [] := by kernel_rfl
theorem keep_163 : E.keep 163 = false := by kernel_rfl
theorem body_164 : bodyOf E 164 = Tryz.f164.body := by kernel_rfl
theorem prim_164 : E.prim 164 = none := by kernel_rfl
theorem res_164 : resOf E 164 = some [.cell 2 35, .tmp 3] := by kernel_rfl
theorem frz_164 : E.frz 164 = [] := by kernel_rfl
theorem lend_164 : E.lend 164 = [] := by kernel_rfl
theorem xop_164 : E.xop 164 = [] := by kernel_rfl
theorem keep_164 : E.keep 164 = false := by kernel_rfl
theorem body_165 : bodyOf E 165 = Tryz.f165.body := by kernel_rfl
theorem prim_165 : E.prim 165 = none := by kernel_rfl
theorem res_165 : resOf E 165 = some [.cell 2 35, .tmp 3] := by kernel_rfl
theorem frz_165 : E.frz 165 = [] := by kernel_rfl
theorem lend_165 : E.lend 165 = [] := by kernel_rfl
theorem xop_165 : E.xop 165 = [] := by kernel_rfl
theorem keep_165 : E.keep 165 = false := by kernel_rfl
theorem body_172 : bodyOf E 172 = Tryz.f172.body := by kernel_rfl
theorem prim_172 : E.prim 172 = none := by kernel_rfl
theorem res_172 : resOf E 172 = some [.tmp 4] := by kernel_rfl
theorem frz_172 : E.frz 172 = [] := by kernel_rfl
theorem lend_172 : E.lend 172 = [] := by kernel_rfl
theorem xop_172 : E.xop 172 = [] := by kernel_rfl
theorem keep_172 : E.keep 172 = false := by kernel_rfl
theorem body_174 : bodyOf E 174 = Tryz.f174.body := by kernel_rfl
theorem prim_174 : E.prim 174 = none := by kernel_rfl
theorem res_174 : resOf E 174 = some [.cell 4 44, .tmp 5] := by kernel_rfl
theorem frz_174 : E.frz 174 = [] := by kernel_rfl
theorem lend_174 : E.lend 174 = [] := by kernel_rfl
theorem xop_174 : E.xop 174 = [] := by kernel_rfl
theorem keep_174 : E.keep 174 = false := by kernel_rfl
theorem body_178 : bodyOf E 178 = Tryz.f178.body := by kernel_rfl
theorem prim_178 : E.prim 178 = none := by kernel_rfl
theorem res_178 : resOf E 178 = some [.tmp 6] := by kernel_rfl
theorem frz_178 : E.frz 178 = [] := by kernel_rfl
theorem lend_178 : E.lend 178 = [] := by kernel_rfl
theorem xop_178 : E.xop 178 = [] := by kernel_rfl
theorem keep_178 : E.keep 178 = false := by kernel_rfl
theorem body_179 : bodyOf E 179 = Tryz.f179.body := by kernel_rfl
theorem prim_179 : E.prim 179 = none := by kernel_rfl
theorem res_179 : resOf E 179 = some [.cell 2 35, .tmp 3] := by kernel_rfl
theorem frz_179 : E.frz 179 = [] := by kernel_rfl
theorem lend_179 : E.lend 179 = [] := by kernel_rfl
theorem xop_179 : E.xop 179 = [] := by kernel_rfl
theorem keep_179 : E.keep 179 = false := by kernel_rfl
theorem body_187 : bodyOf E 187 = Tryz.f187.body := by kernel_rfl
theorem prim_187 : E.prim 187 = none := by kernel_rfl
theorem res_187 : resOf E 187 = some [.cell 4 44, .tmp 5] := by kernel_rfl
theorem frz_187 : E.frz 187 = [] := by kernel_rfl
theorem lend_187 : E.lend 187 = [] := by kernel_rfl
theorem xop_187 : E.xop 187 = [] := by kernel_rfl
theorem keep_187 : E.keep 187 = false := by kernel_rfl
theorem body_194 : bodyOf E 194 = Tryz.f194.body := by kernel_rfl
theorem prim_194 : E.prim 194 = none := by kernel_rfl
theorem res_194 : resOf E 194 = some [.tmp 2] := by kernel_rfl
theorem frz_194 : E.frz 194 = [] := by kernel_rfl
theorem lend_194 : E.lend 194 = [] := by kernel_rfl
theorem xop_194 : E.xop 194 = [] := by kernel_rfl
theorem keep_194 : E.keep 194 = false := by kernel_rfl
theorem prim_63 : E.prim 63 = some joinP := by kernel_rfl
theorem prim_93 : E.prim 93 = some itoaP := by kernel_rfl
theorem prim_188 : E.prim 188 = some atoiQ := by kernel_rfl
theorem prim_155 : E.prim 155 = some indexByteP := by kernel_rfl
theorem drw_128_3 : E.drw 128 3 = none := by kernel_rfl
theorem ts3 : tsize E.P 3 = 1 := by kernel_rfl
theorem ts4 : tsize E.P 4 = 1 := by kernel_rfl
theorem ts5 : tsize E.P 5 = 1 := by kernel_rfl
theorem ts9 : tsize E.P 9 = 1 := by kernel_rfl
theorem ts33 : tsize E.P 33 = 1 := by kernel_rfl
theorem ts35 : tsize E.P 35 = 4 := by kernel_rfl
theorem ts36 : tsize E.P 36 = 1 := by kernel_rfl
theorem ts37 : tsize E.P 37 = 1 := by kernel_rfl
theorem ts39 : tsize E.P 39 = 9 := by kernel_rfl
theorem ts42 : tsize E.P 42 = 1 := by kernel_rfl
theorem ts44 : tsize E.P 44 = 4 := by kernel_rfl
theorem ts45 : tsize E.P 45 = 1 := by kernel_rfl
theorem ts46 : tsize E.P 46 = 1 := by kernel_rfl
theorem ts48 : tsize E.P 48 = 9 := by kernel_rfl
theorem ts54 : tsize E.P 54 = 1 := by kernel_rfl
theorem ts60 : tsize E.P 60 = 1 := by kernel_rfl
theorem ts62 : tsize E.P 62 = 17 := by kernel_rfl
theorem ts67 : tsize E.P 67 = 11 := by kernel_rfl
theorem ts73 : tsize E.P 73 = 5 := by kernel_rfl
theorem ts82 : tsize E.P 82 = 10 := by kernel_rfl
theorem ts83 : tsize E.P 83 = 1 := by kernel_rfl
theorem ts92 : tsize E.P 92 = 1 := by kernel_rfl
theorem ts95 : tsize E.P 95 = 1 := by kernel_rfl
theorem ts97 : tsize E.P 97 = 2 := by kernel_rfl
theorem ts100 : tsize E.P 100 = 1 := by kernel_rfl
theorem ts102 : tsize E.P 102 = 17 := by kernel_rfl
theorem ts109 : tsize E.P 109 = 5 := by kernel_rfl
theorem ts116 : tsize E.P 116 = 11 := by kernel_rfl
theorem ts139 : tsize E.P 139 = 3 := by kernel_rfl
theorem ts153 : tsize E.P 153 = 10 := by kernel_rfl
theorem ts164 : tsize E.P 164 = 2 := by kernel_rfl
theorem ts184 : tsize E.P 184 = 2 := by kernel_rfl
theorem ts194 : tsize E.P 194 = 1 := by kernel_rfl
theorem cln_97 : E.cln 97 = some 39 := by kernel_rfl
theorem cln_98 : E.cln 98 = some 67 := by kernel_rfl
theorem cln_144 : E.cln 144 = none := by kernel_rfl
theorem rvs_144 : E.rvs 144 = some 39 := by kernel_rfl
theorem tsM : tsize E.P 1099511627777 = 0 := by kernel_rfl
theorem tg3 : tagg E.P 3 = some false := by kernel_rfl
theorem tg4 : tagg E.P 4 = some false := by kernel_rfl
theorem tg9 : tagg E.P 9 = some false := by kernel_rfl
theorem tg33 : tagg E.P 33 = some false := by kernel_rfl
theorem tg35 : tagg E.P 35 = some true := by kernel_rfl
theorem tg36 : tagg E.P 36 = some false := by kernel_rfl
theorem tg37 : tagg E.P 37 = some false := by kernel_rfl
theorem tg39 : tagg E.P 39 = some true := by kernel_rfl
theorem tg42 : tagg E.P 42 = some false := by kernel_rfl
theorem tg44 : tagg E.P 44 = some true := by kernel_rfl
theorem tg45 : tagg E.P 45 = some false := by kernel_rfl
theorem tg46 : tagg E.P 46 = some false := by kernel_rfl
theorem tg48 : tagg E.P 48 = some true := by kernel_rfl
theorem tg54 : tagg E.P 54 = some false := by kernel_rfl
theorem tg60 : tagg E.P 60 = some false := by kernel_rfl
theorem tg62 : tagg E.P 62 = some true := by kernel_rfl
theorem tg67 : tagg E.P 67 = some true := by kernel_rfl
theorem tg73 : tagg E.P 73 = some true := by kernel_rfl
theorem tg82 : tagg E.P 82 = some true := by kernel_rfl
theorem tg83 : tagg E.P 83 = some false := by kernel_rfl
theorem tg92 : tagg E.P 92 = some false := by kernel_rfl
theorem tg95 : tagg E.P 95 = some false := by kernel_rfl
theorem tg100 : tagg E.P 100 = some false := by kernel_rfl
theorem tg102 : tagg E.P 102 = some true := by kernel_rfl
theorem tg109 : tagg E.P 109 = some true := by kernel_rfl
theorem tg116 : tagg E.P 116 = some true := by kernel_rfl
theorem te1 : telem E.P 1 = none := by kernel_rfl
theorem te3 : telem E.P 3 = none := by kernel_rfl
theorem te4 : telem E.P 4 = none := by kernel_rfl
theorem te5 : telem E.P 5 = none := by kernel_rfl
theorem te9 : telem E.P 9 = none := by kernel_rfl
theorem te23 : telem E.P 23 = some 62 := by kernel_rfl
theorem te24 : telem E.P 24 = none := by kernel_rfl
theorem te25 : telem E.P 25 = none := by kernel_rfl
theorem te27 : telem E.P 27 = some 102 := by kernel_rfl
theorem te28 : telem E.P 28 = none := by kernel_rfl
theorem te33 : telem E.P 33 = some 35 := by kernel_rfl
theorem te35 : telem E.P 35 = none := by kernel_rfl
theorem te36 : telem E.P 36 = some 39 := by kernel_rfl
theorem te37 : telem E.P 37 = some 67 := by kernel_rfl
theorem te39 : telem E.P 39 = none := by kernel_rfl
theorem te40 : telem E.P 40 = none := by kernel_rfl
theorem te42 : telem E.P 42 = some 44 := by kernel_rfl
theorem te44 : telem E.P 44 = none := by kernel_rfl
theorem te45 : telem E.P 45 = some 48 := by kernel_rfl
theorem te46 : telem E.P 46 = some 116 := by kernel_rfl
theorem te48 : telem E.P 48 = none := by kernel_rfl
theorem te49 : telem E.P 49 = none := by kernel_rfl
theorem te54 : telem E.P 54 = some 9 := by kernel_rfl
theorem te60 : telem E.P 60 = some 73 := by kernel_rfl
theorem te62 : telem E.P 62 = none := by kernel_rfl
theorem te67 : telem E.P 67 = none := by kernel_rfl
theorem te71 : telem E.P 71 = some 5 := by kernel_rfl
theorem te73 : telem E.P 73 = none := by kernel_rfl
theorem te78 : telem E.P 78 = none := by kernel_rfl
theorem te83 : telem E.P 83 = some 82 := by kernel_rfl
theorem te86 : telem E.P 86 = some 153 := by kernel_rfl
theorem te87 : telem E.P 87 = none := by kernel_rfl
theorem te89 : telem E.P 89 = none := by kernel_rfl
theorem te92 : telem E.P 92 = some 139 := by kernel_rfl
theorem te93 : telem E.P 93 = none := by kernel_rfl
theorem te95 : telem E.P 95 = none := by kernel_rfl
theorem te100 : telem E.P 100 = some 109 := by kernel_rfl
theorem te102 : telem E.P 102 = none := by kernel_rfl
theorem te103 : telem E.P 103 = none := by kernel_rfl
theorem te109 : telem E.P 109 = none := by kernel_rfl
theorem te116 : telem E.P 116 = none := by kernel_rfl
theorem te129 : telem E.P 129 = none := by kernel_rfl
theorem te140 : telem E.P 140 = none := by kernel_rfl
theorem te146 : telem E.P 146 = none := by kernel_rfl
theorem te148 : telem E.P 148 = none := by kernel_rfl
theorem te150 : telem E.P 150 = none := by kernel_rfl
theorem te156 : telem E.P 156 = none := by kernel_rfl
theorem te158 : telem E.P 158 = none := by kernel_rfl
theorem te162 : telem E.P 162 = none := by kernel_rfl
theorem te169 : telem E.P 169 = none := by kernel_rfl
theorem te172 : telem E.P 172 = none := by kernel_rfl
theorem te179 : telem E.P 179 = none := by kernel_rfl
theorem te180 : telem E.P 180 = none := by kernel_rfl
theorem te182 : telem E.P 182 = none := by kernel_rfl
theorem te185 : telem E.P 185 = some 3 := by kernel_rfl
theorem te192 : telem E.P 192 = none := by kernel_rfl
theorem te195 : telem E.P 195 = none := by kernel_rfl
theorem te202 : telem E.P 202 = none := by kernel_rfl
theorem te203 : telem E.P 203 = none := by kernel_rfl
theorem tf35_0 : tfield E.P 35 0 = some (0, 1) := by kernel_rfl
theorem tf35_1 : tfield E.P 35 1 = some (1, 1) := by kernel_rfl
theorem tf35_2 : tfield E.P 35 2 = some (2, 1) := by kernel_rfl
theorem tf35_3 : tfield E.P 35 3 = some (3, 1) := by kernel_rfl
theorem tf39_0 : tfield E.P 39 0 = some (0, 1) := by kernel_rfl
theorem tf39_1 : tfield E.P 39 1 = some (1, 1) := by kernel_rfl
theorem tf39_2 : tfield E.P 39 2 = some (2, 1) := by kernel_rfl
theorem tf39_3 : tfield E.P 39 3 = some (3, 4) := by kernel_rfl
theorem tf39_4 : tfield E.P 39 4 = some (7, 1) := by kernel_rfl
theorem tf39_5 : tfield E.P 39 5 = some (8, 1) := by kernel_rfl
theorem tf44_0 : tfield E.P 44 0 = some (0, 1) := by kernel_rfl
theorem tf44_1 : tfield E.P 44 1 = some (1, 1) := by kernel_rfl
theorem tf44_2 : tfield E.P 44 2 = some (2, 1) := by kernel_rfl
theorem tf44_3 : tfield E.P 44 3 = some (3, 1) := by kernel_rfl
theorem tf48_0 : tfield E.P 48 0 = some (0, 1) := by kernel_rfl
theorem tf48_1 : tfield E.P 48 1 = some (1, 1) := by kernel_rfl
theorem tf48_2 : tfield E.P 48 2 = some (2, 1) := by kernel_rfl
theorem tf48_3 : tfield E.P 48 3 = some (3, 4) := by kernel_rfl
theorem tf48_4 : tfield E.P 48 4 = some (7, 1) := by kernel_rfl
theorem tf48_5 : tfield E.P 48 5 = some (8, 1) := by kernel_rfl
theorem tf62_0 : tfield E.P 62 0 = some (0, 1) := by kernel_rfl
theorem tf62_1 : tfield E.P 62 1 = some (1, 1) := by kernel_rfl
theorem tf62_2 : tfield E.P 62 2 = some (2, 1) := by kernel_rfl
theorem tf62_3 : tfield E.P 62 3 = some (3, 1) := by kernel_rfl
theorem tf62_4 : tfield E.P 62 4 = some (4, 4) := by kernel_rfl
theorem tf62_5 : tfield E.P 62 5 = some (8, 9) := by kernel_rfl
theorem tf67_0 : tfield E.P 67 0 = some (0, 1) := by kernel_rfl
theorem tf67_1 : tfield E.P 67 1 = some (1, 1) := by kernel_rfl
theorem tf67_2 : tfield E.P 67 2 = some (2, 9) := by kernel_rfl
theorem tf73_0 : tfield E.P 73 0 = some (0, 1) := by kernel_rfl
theorem tf73_1 : tfield E.P 73 1 = some (1, 4) := by kernel_rfl
theorem tf82_0 : tfield E.P 82 0 = some (0, 1) := by kernel_rfl
theorem tf82_1 : tfield E.P 82 1 = some (1, 9) := by kernel_rfl
theorem tf97_0 : tfield E.P 97 0 = some (0, 1) := by kernel_rfl
theorem tf97_1 : tfield E.P 97 1 = some (1, 1) := by kernel_rfl
theorem tf102_0 : tfield E.P 102 0 = some (0, 1) := by kernel_rfl
theorem tf102_1 : tfield E.P 102 1 = some (1, 1) := by kernel_rfl
theorem tf102_2 : tfield E.P 102 2 = some (2, 1) := by kernel_rfl
theorem tf102_3 : tfield E.P 102 3 = some (3, 1) := by kernel_rfl
theorem tf102_4 : tfield E.P 102 4 = some (4, 4) := by kernel_rfl
theorem tf102_5 : tfield E.P 102 5 = some (8, 9) := by kernel_rfl
theorem tf109_0 : tfield E.P 109 0 = some (0, 1) := by kernel_rfl
theorem tf109_1 : tfield E.P 109 1 = some (1, 4) := by kernel_rfl
theorem tf116_0 : tfield E.P 116 0 = some (0, 1) := by kernel_rfl
theorem tf116_1 : tfield E.P 116 1 = some (1, 1) := by kernel_rfl
theorem tf116_2 : tfield E.P 116 2 = some (2, 9) := by kernel_rfl
theorem tf139_0 : tfield E.P 139 0 = some (0, 1) := by kernel_rfl
theorem tf139_1 : tfield E.P 139 1 = some (1, 1) := by kernel_rfl
theorem tf164_0 : tfield E.P 164 0 = some (0, 1) := by kernel_rfl
theorem tf164_1 : tfield E.P 164 1 = some (1, 1) := by kernel_rfl
theorem tf184_0 : tfield E.P 184 0 = some (0, 1) := by kernel_rfl
theorem tf184_1 : tfield E.P 184 1 = some (1, 1) := by kernel_rfl
theorem tf194_0 : tfield E.P 194 0 = some (0, 1) := by kernel_rfl
theorem tp35_0 : tplace E.P 35 0 = some (0, 1) := by kernel_rfl
theorem tp35_1 : tplace E.P 35 1 = some (1, 1) := by kernel_rfl
theorem tp35_2 : tplace E.P 35 2 = some (2, 1) := by kernel_rfl
theorem tp35_3 : tplace E.P 35 3 = some (3, 1) := by kernel_rfl
theorem tp39_0 : tplace E.P 39 0 = some (0, 1) := by kernel_rfl
theorem tp39_1 : tplace E.P 39 1 = some (1, 1) := by kernel_rfl
theorem tp39_3 : tplace E.P 39 3 = some (3, 4) := by kernel_rfl
theorem tp39_4 : tplace E.P 39 4 = some (7, 1) := by kernel_rfl
theorem tp39_5 : tplace E.P 39 5 = some (8, 1) := by kernel_rfl
theorem tp44_0 : tplace E.P 44 0 = some (0, 1) := by kernel_rfl
theorem tp44_1 : tplace E.P 44 1 = some (1, 1) := by kernel_rfl
theorem tp44_2 : tplace E.P 44 2 = some (2, 1) := by kernel_rfl
theorem tp44_3 : tplace E.P 44 3 = some (3, 1) := by kernel_rfl
theorem tp48_0 : tplace E.P 48 0 = some (0, 1) := by kernel_rfl
theorem tp48_1 : tplace E.P 48 1 = some (1, 1) := by kernel_rfl
theorem tp48_2 : tplace E.P 48 2 = some (2, 1) := by kernel_rfl
theorem tp48_3 : tplace E.P 48 3 = some (3, 4) := by kernel_rfl
theorem tp48_4 : tplace E.P 48 4 = some (7, 1) := by kernel_rfl
theorem tp62_0 : tplace E.P 62 0 = some (0, 1) := by kernel_rfl
theorem tp62_1 : tplace E.P 62 1 = some (1, 1) := by kernel_rfl
theorem tp62_2 : tplace E.P 62 2 = some (2, 1) := by kernel_rfl
theorem tp67_0 : tplace E.P 67 0 = some (0, 1) := by kernel_rfl
theorem tp67_1 : tplace E.P 67 1 = some (1, 1) := by kernel_rfl
theorem tp67_2 : tplace E.P 67 2 = some (2, 9) := by kernel_rfl
theorem tp73_0 : tplace E.P 73 0 = some (0, 1) := by kernel_rfl
theorem tp82_0 : tplace E.P 82 0 = some (0, 1) := by kernel_rfl
theorem tp82_1 : tplace E.P 82 1 = some (1, 9) := by kernel_rfl
theorem tp97_0 : tplace E.P 97 0 = some (0, 1) := by kernel_rfl
theorem tp102_0 : tplace E.P 102 0 = some (0, 1) := by kernel_rfl
theorem tp102_1 : tplace E.P 102 1 = some (1, 1) := by kernel_rfl
theorem tp102_4 : tplace E.P 102 4 = some (4, 4) := by kernel_rfl
theorem tp102_5 : tplace E.P 102 5 = some (8, 9) := by kernel_rfl
theorem tp109_0 : tplace E.P 109 0 = some (0, 1) := by kernel_rfl
theorem tp116_0 : tplace E.P 116 0 = some (0, 1) := by kernel_rfl
theorem tp139_0 : tplace E.P 139 0 = some (0, 1) := by kernel_rfl
theorem tp139_1 : tplace E.P 139 1 = some (1, 1) := by kernel_rfl
theorem tp139_2 : tplace E.P 139 2 = some (2, 1) := by kernel_rfl
theorem tp153_0 : tplace E.P 153 0 = some (0, 1) := by kernel_rfl
theorem tp153_1 : tplace E.P 153 1 = some (1, 9) := by kernel_rfl
theorem tp164_0 : tplace E.P 164 0 = some (0, 1) := by kernel_rfl
theorem tp184_0 : tplace E.P 184 0 = some (0, 1) := by kernel_rfl
theorem tp194_0 : tplace E.P 194 0 = some (0, 1) := by kernel_rfl
theorem tz3 : zeroA E.P 3 = some [.int .i64 0] := by kernel_rfl
theorem tz9 : zeroA E.P 9 = some [.str []] := by kernel_rfl
theorem tz35 : zeroA E.P 35 = some [.int .i64 0, .str [], .int .i64 0, .own 35 0 []] := by kernel_rfl
theorem tz39 : zeroA E.P 39 = some [.int .i64 0, .str [], .bool false, .int .i64 0, .str [], .int .i64 0, .own 35 0 [], .own 39 0 [], .own 67 0 []] := by kernel_rfl
theorem tz44 : zeroA E.P 44 = some [.int .i64 0, .str [], .int .i64 0, .own 44 0 []] := by kernel_rfl
theorem tz48 : zeroA E.P 48 = some [.int .i64 0, .str [], .bool false, .int .i64 0, .str [], .int .i64 0, .own 44 0 [], .own 48 0 [], .own 116 0 []] := by kernel_rfl
theorem tz62 : zeroA E.P 62 = some [.int .i64 0, .str [], .own 9 0 [], .own 73 0 [], .int .i64 0, .str [], .int .i64 0, .own 35 0 [], .int .i64 0, .str [], .bool false, .int .i64 0, .str [], .int .i64 0, .own 35 0 [], .own 39 0 [], .own 67 0 []] := by kernel_rfl
theorem tz67 : zeroA E.P 67 = some [.str [], .own 9 0 [], .int .i64 0, .str [], .bool false, .int .i64 0, .str [], .int .i64 0, .own 35 0 [], .own 39 0 [], .own 67 0 []] := by kernel_rfl
theorem tz73 : zeroA E.P 73 = some [.str [], .int .i64 0, .str [], .int .i64 0, .own 35 0 []] := by kernel_rfl
theorem tz82 : zeroA E.P 82 = some [.str [], .int .i64 0, .str [], .bool false, .int .i64 0, .str [], .int .i64 0, .own 35 0 [], .own 39 0 [], .own 67 0 []] := by kernel_rfl
theorem tz97 : zeroA E.P 97 = some [.own 139 0 [], .bool false] := by kernel_rfl
theorem tz102 : zeroA E.P 102 = some [.int .i64 0, .str [], .own 9 0 [], .own 109 0 [], .int .i64 0, .str [], .int .i64 0, .own 44 0 [], .int .i64 0, .str [], .bool false, .int .i64 0, .str [], .int .i64 0, .own 44 0 [], .own 48 0 [], .own 116 0 []] := by kernel_rfl
theorem tz109 : zeroA E.P 109 = some [.str [], .int .i64 0, .str [], .int .i64 0, .own 44 0 []] := by kernel_rfl
theorem tz116 : zeroA E.P 116 = some [.str [], .own 9 0 [], .int .i64 0, .str [], .bool false, .int .i64 0, .str [], .int .i64 0, .own 44 0 [], .own 48 0 [], .own 116 0 []] := by kernel_rfl
theorem tz139 : zeroA E.P 139 = some [.int .i64 0, .str [], .int .i64 0] := by kernel_rfl
theorem tz153 : zeroA E.P 153 = some [.str [], .int .i64 0, .str [], .bool false, .int .i64 0, .str [], .int .i64 0, .own 44 0 [], .own 48 0 [], .own 116 0 []] := by kernel_rfl
theorem tz164 : zeroA E.P 164 = some [.nilp, .own 73 0 []] := by kernel_rfl
theorem tz184 : zeroA E.P 184 = some [.nilp, .own 67 0 []] := by kernel_rfl
theorem tz194 : zeroA E.P 194 = some [.own 139 0 []] := by kernel_rfl
theorem ti3 : tint E.P 3 = some .i64 := by kernel_rfl
theorem ti5 : tint E.P 5 = some .u8 := by kernel_rfl
theorem ti9 : tint E.P 9 = none := by kernel_rfl
theorem ti35 : tint E.P 35 = none := by kernel_rfl
theorem ti39 : tint E.P 39 = none := by kernel_rfl
theorem ti44 : tint E.P 44 = none := by kernel_rfl
theorem ti48 : tint E.P 48 = none := by kernel_rfl
theorem ti62 : tint E.P 62 = none := by kernel_rfl
theorem ti67 : tint E.P 67 = none := by kernel_rfl
theorem ti71 : tint E.P 71 = none := by kernel_rfl
theorem ti73 : tint E.P 73 = none := by kernel_rfl
theorem ti82 : tint E.P 82 = none := by kernel_rfl
theorem ti102 : tint E.P 102 = none := by kernel_rfl
theorem ti109 : tint E.P 109 = none := by kernel_rfl
theorem ti116 : tint E.P 116 = none := by kernel_rfl
theorem ti139 : tint E.P 139 = none := by kernel_rfl
theorem ti153 : tint E.P 153 = none := by kernel_rfl
theorem tst3 : tstring E.P 3 = false := by kernel_rfl
theorem tst5 : tstring E.P 5 = false := by kernel_rfl
theorem tst9 : tstring E.P 9 = true := by kernel_rfl
theorem tst23 : tstring E.P 23 = false := by kernel_rfl
theorem tst27 : tstring E.P 27 = false := by kernel_rfl
theorem tst33 : tstring E.P 33 = false := by kernel_rfl
theorem tst36 : tstring E.P 36 = false := by kernel_rfl
theorem tst37 : tstring E.P 37 = false := by kernel_rfl
theorem tst42 : tstring E.P 42 = false := by kernel_rfl
theorem tst45 : tstring E.P 45 = false := by kernel_rfl
theorem tst46 : tstring E.P 46 = false := by kernel_rfl
theorem tst54 : tstring E.P 54 = false := by kernel_rfl
theorem tst60 : tstring E.P 60 = false := by kernel_rfl
theorem tst83 : tstring E.P 83 = false := by kernel_rfl
theorem tst86 : tstring E.P 86 = false := by kernel_rfl
theorem tst92 : tstring E.P 92 = false := by kernel_rfl
theorem tst100 : tstring E.P 100 = false := by kernel_rfl
theorem tst185 : tstring E.P 185 = false := by kernel_rfl
theorem tbo3 : tbool E.P 3 = false := by kernel_rfl
theorem tbo5 : tbool E.P 5 = false := by kernel_rfl
theorem tbo9 : tbool E.P 9 = false := by kernel_rfl
theorem tbo24 : tbool E.P 24 = false := by kernel_rfl
theorem tpt3 : tptr E.P 3 = false := by kernel_rfl
theorem tpt5 : tptr E.P 5 = false := by kernel_rfl
theorem tpt9 : tptr E.P 9 = false := by kernel_rfl
theorem tpt24 : tptr E.P 24 = false := by kernel_rfl
theorem tfo35 : fieldsOK E.P 35 = true := by kernel_rfl
theorem tfo39 : fieldsOK E.P 39 = true := by kernel_rfl
theorem tfo44 : fieldsOK E.P 44 = true := by kernel_rfl
theorem tfo48 : fieldsOK E.P 48 = true := by kernel_rfl
theorem tfo62 : fieldsOK E.P 62 = true := by kernel_rfl
theorem tfo67 : fieldsOK E.P 67 = true := by kernel_rfl
theorem tfo73 : fieldsOK E.P 73 = true := by kernel_rfl
theorem tfo82 : fieldsOK E.P 82 = true := by kernel_rfl
theorem tfo97 : fieldsOK E.P 97 = true := by kernel_rfl
theorem tfo102 : fieldsOK E.P 102 = true := by kernel_rfl
theorem tfo109 : fieldsOK E.P 109 = true := by kernel_rfl
theorem tfo116 : fieldsOK E.P 116 = true := by kernel_rfl
theorem tfo139 : fieldsOK E.P 139 = true := by kernel_rfl
theorem tfo153 : fieldsOK E.P 153 = true := by kernel_rfl
theorem tfo164 : fieldsOK E.P 164 = true := by kernel_rfl
theorem tfo184 : fieldsOK E.P 184 = true := by kernel_rfl
theorem tfo194 : fieldsOK E.P 194 = true := by kernel_rfl
theorem tze3 : tzero E.P 3 = some 1 := by kernel_rfl
theorem tze5 : tzero E.P 5 = some 1 := by kernel_rfl
theorem tze9 : tzero E.P 9 = some 1 := by kernel_rfl
theorem tze35 : tzero E.P 35 = some 4 := by kernel_rfl
theorem tze39 : tzero E.P 39 = some 9 := by kernel_rfl
theorem tze44 : tzero E.P 44 = some 4 := by kernel_rfl
theorem tze48 : tzero E.P 48 = some 9 := by kernel_rfl
theorem tze62 : tzero E.P 62 = some 17 := by kernel_rfl
theorem tze67 : tzero E.P 67 = some 11 := by kernel_rfl
theorem tze73 : tzero E.P 73 = some 5 := by kernel_rfl
theorem tze82 : tzero E.P 82 = some 10 := by kernel_rfl
theorem tze102 : tzero E.P 102 = some 17 := by kernel_rfl
theorem tze109 : tzero E.P 109 = some 5 := by kernel_rfl
theorem tze116 : tzero E.P 116 = some 11 := by kernel_rfl
theorem tze139 : tzero E.P 139 = some 3 := by kernel_rfl
theorem tze153 : tzero E.P 153 = some 10 := by kernel_rfl
theorem tu3 : (E.P.underlying 3).isSome = true := by kernel_rfl
theorem tu5 : (E.P.underlying 5).isSome = true := by kernel_rfl
theorem tu71 : (E.P.underlying 71).isSome = true := by kernel_rfl
theorem tby9 : (E.P.bytesOf 9 ≤ 32768) = True := by rw [show E.P.bytesOf 9 = 16 from by kernel_rfl]; simp
theorem tby35 : (E.P.bytesOf 35 ≤ 32768) = True := by rw [show E.P.bytesOf 35 = 56 from by kernel_rfl]; simp
theorem tby39 : (E.P.bytesOf 39 ≤ 32768) = True := by rw [show E.P.bytesOf 39 = 136 from by kernel_rfl]; simp
theorem tby44 : (E.P.bytesOf 44 ≤ 32768) = True := by rw [show E.P.bytesOf 44 = 56 from by kernel_rfl]; simp
theorem tby48 : (E.P.bytesOf 48 ≤ 32768) = True := by rw [show E.P.bytesOf 48 = 136 from by kernel_rfl]; simp
theorem tby62 : (E.P.bytesOf 62 ≤ 32768) = True := by rw [show E.P.bytesOf 62 = 264 from by kernel_rfl]; simp
theorem tby67 : (E.P.bytesOf 67 ≤ 32768) = True := by rw [show E.P.bytesOf 67 = 176 from by kernel_rfl]; simp
theorem tby73 : (E.P.bytesOf 73 ≤ 32768) = True := by rw [show E.P.bytesOf 73 = 72 from by kernel_rfl]; simp
theorem tby82 : (E.P.bytesOf 82 ≤ 32768) = True := by rw [show E.P.bytesOf 82 = 152 from by kernel_rfl]; simp
theorem tby102 : (E.P.bytesOf 102 ≤ 32768) = True := by rw [show E.P.bytesOf 102 = 264 from by kernel_rfl]; simp
theorem tby109 : (E.P.bytesOf 109 ≤ 32768) = True := by rw [show E.P.bytesOf 109 = 72 from by kernel_rfl]; simp
theorem tby116 : (E.P.bytesOf 116 ≤ 32768) = True := by rw [show E.P.bytesOf 116 = 176 from by kernel_rfl]; simp
theorem tby139 : (E.P.bytesOf 139 ≤ 32768) = True := by rw [show E.P.bytesOf 139 = 32 from by kernel_rfl]; simp
theorem tby153 : (E.P.bytesOf 153 ≤ 32768) = True := by rw [show E.P.bytesOf 153 = 152 from by kernel_rfl]; simp
attribute [go_sem] live_13_0 live_16_0 live_16_2 live_17_0 live_17_2 live_18_0 live_19_0 live_19_3 live_19_5 live_22_1 live_23_0 live_24_0 live_25_1 live_25_3 live_26_0 live_27_0 live_38_0 live_43_1 live_43_3 live_45_1 live_45_3 live_46_0 live_46_2 live_49_0 live_50_0 live_51_0 live_54_0 live_57_0 live_58_0 live_58_2 live_59_0 live_61_0 live_62_1 live_64_1 live_64_3 live_65_1 live_66_0 live_67_0 live_67_2 live_68_0
attribute [go_sem] live_69_0 live_70_0 live_72_0 live_91_0 live_100_0 live_102_0 live_104_1 live_109_0 live_111_0 live_112_0 live_116_0 live_116_2 live_118_0 live_122_0 live_143_0 live_145_0 live_149_0 live_158_0 live_159_0 live_159_2 live_164_0 live_164_2 live_165_0 live_174_0 live_194_0 drw_19_23 drw_19_25 drw_19_20 drw_22_3 drw_22_5 drw_22_10 drw_22_16 drw_22_20 drw_25_6 drw_25_21 drw_25_23 drw_43_9 drw_43_13 drw_46_11 drw_46_12
attribute [go_sem] drw_48_14 drw_48_18 drw_51_6 drw_51_13 drw_51_14 drw_51_15 drw_54_9 drw_54_10 drw_54_6 drw_59_18 drw_59_23 drw_59_25 drw_62_7 drw_62_11 drw_62_12 drw_64_18 drw_64_19 drw_65_14 drw_65_17 drw_67_5 drw_67_35 drw_90_5 drw_96_5 drw_100_5 drw_101_1 drw_104_17 drw_113_3 drw_116_31 drw_126_3 drw_127_7 drw_128_0 drw_129_8 drw_130_16 drw_159_13 drw_164_12 res_3 frz_3 lend_3 xop_3 keep_3
attribute [go_sem] res_4 frz_4 lend_4 xop_4 keep_4 res_11 frz_11 lend_11 xop_11 keep_11 res_12 frz_12 lend_12 xop_12 keep_12 res_13 frz_13 lend_13 xop_13 keep_13 res_15 frz_15 lend_15 xop_15 keep_15 res_16 frz_16 lend_16 xop_16 keep_16 res_17 frz_17 lend_17 xop_17 keep_17 res_18 frz_18 lend_18 xop_18 keep_18
attribute [go_sem] res_19 frz_19 lend_19 xop_19 keep_19 res_20 frz_20 lend_20 xop_20 keep_20 res_21 frz_21 lend_21 xop_21 keep_21 res_22 frz_22 lend_22 xop_22 keep_22 res_23 frz_23 lend_23 xop_23 keep_23 res_24 frz_24 lend_24 xop_24 keep_24 res_25 frz_25 lend_25 xop_25 keep_25 res_26 frz_26 lend_26 xop_26 keep_26
attribute [go_sem] res_27 frz_27 lend_27 xop_27 keep_27 res_38 frz_38 lend_38 xop_38 keep_38 res_43 frz_43 lend_43 xop_43 keep_43 res_44 frz_44 lend_44 xop_44 keep_44 res_45 frz_45 lend_45 xop_45 keep_45 res_46 frz_46 lend_46 xop_46 keep_46 res_47 frz_47 lend_47 xop_47 keep_47 res_48 frz_48 lend_48 xop_48 keep_48
attribute [go_sem] res_49 frz_49 lend_49 xop_49 keep_49 res_50 frz_50 lend_50 xop_50 keep_50 res_51 frz_51 lend_51 xop_51 keep_51 res_53 frz_53 lend_53 xop_53 keep_53 res_54 frz_54 lend_54 xop_54 keep_54 res_55 frz_55 lend_55 xop_55 keep_55 res_56 frz_56 lend_56 xop_56 keep_56 res_57 frz_57 lend_57 xop_57 keep_57
attribute [go_sem] res_58 frz_58 lend_58 xop_58 keep_58 res_59 frz_59 lend_59 xop_59 keep_59 res_60 frz_60 lend_60 xop_60 keep_60 res_61 frz_61 lend_61 xop_61 keep_61 res_62 frz_62 lend_62 xop_62 keep_62 res_64 frz_64 lend_64 xop_64 keep_64 res_65 frz_65 lend_65 xop_65 keep_65 res_66 frz_66 lend_66 xop_66 keep_66
attribute [go_sem] res_67 frz_67 lend_67 xop_67 keep_67 res_68 frz_68 lend_68 xop_68 keep_68 res_69 frz_69 lend_69 xop_69 keep_69 res_70 frz_70 lend_70 xop_70 keep_70 res_71 frz_71 lend_71 xop_71 keep_71 res_72 frz_72 lend_72 xop_72 keep_72 res_90 frz_90 lend_90 xop_90 keep_90 res_91 frz_91 lend_91 xop_91 keep_91
attribute [go_sem] res_94 frz_94 lend_94 xop_94 keep_94 res_95 frz_95 lend_95 xop_95 keep_95 res_96 frz_96 lend_96 xop_96 keep_96 res_99 frz_99 lend_99 xop_99 keep_99 res_100 frz_100 lend_100 xop_100 keep_100 res_101 frz_101 lend_101 xop_101 keep_101 res_102 frz_102 lend_102 xop_102 keep_102 res_103 frz_103 lend_103 xop_103 keep_103
attribute [go_sem] res_104 frz_104 lend_104 xop_104 keep_104 res_107 frz_107 lend_107 xop_107 keep_107 res_108 frz_108 lend_108 xop_108 keep_108 res_109 frz_109 lend_109 xop_109 keep_109 res_110 frz_110 lend_110 xop_110 keep_110 res_111 frz_111 lend_111 xop_111 keep_111 res_112 frz_112 lend_112 xop_112 keep_112 res_113 frz_113 lend_113 xop_113 keep_113
attribute [go_sem] res_114 frz_114 lend_114 xop_114 keep_114 res_115 frz_115 lend_115 xop_115 keep_115 res_116 frz_116 lend_116 xop_116 keep_116 res_117 frz_117 lend_117 xop_117 keep_117 res_118 frz_118 lend_118 xop_118 keep_118 res_119 frz_119 lend_119 xop_119 keep_119 res_120 frz_120 lend_120 xop_120 keep_120 res_121 frz_121 lend_121 xop_121 keep_121
attribute [go_sem] res_122 frz_122 lend_122 xop_122 keep_122 res_126 frz_126 lend_126 xop_126 keep_126 res_127 frz_127 lend_127 xop_127 keep_127 res_128 frz_128 lend_128 xop_128 keep_128 res_129 frz_129 lend_129 xop_129 keep_129 res_130 frz_130 lend_130 xop_130 keep_130 res_139 frz_139 lend_139 xop_139 keep_139 res_143 frz_143 lend_143 xop_143 keep_143
attribute [go_sem] res_145 frz_145 lend_145 xop_145 keep_145 res_146 frz_146 lend_146 xop_146 keep_146 res_147 frz_147 lend_147 xop_147 keep_147 res_148 frz_148 lend_148 xop_148 keep_148 res_149 frz_149 lend_149 xop_149 keep_149 res_150 frz_150 lend_150 xop_150 keep_150 res_151 frz_151 lend_151 xop_151 keep_151 res_152 frz_152 lend_152 xop_152 keep_152
attribute [go_sem] res_153 frz_153 lend_153 xop_153 keep_153 res_154 frz_154 lend_154 xop_154 keep_154 res_156 frz_156 lend_156 xop_156 keep_156 res_157 frz_157 lend_157 xop_157 keep_157 res_158 frz_158 lend_158 xop_158 keep_158 res_159 frz_159 lend_159 xop_159 keep_159 res_163 frz_163 lend_163 xop_163 keep_163 res_164 frz_164 lend_164 xop_164 keep_164
attribute [go_sem] res_165 frz_165 lend_165 xop_165 keep_165 res_172 frz_172 lend_172 xop_172 keep_172 res_174 frz_174 lend_174 xop_174 keep_174 res_178 frz_178 lend_178 xop_178 keep_178 res_179 frz_179 lend_179 xop_179 keep_179 res_187 frz_187 lend_187 xop_187 keep_187 res_194 frz_194 lend_194 xop_194 keep_194 drw_128_3 ts3 ts4 ts5 ts9
attribute [go_sem] ts33 ts35 ts36 ts37 ts39 ts42 ts44 ts45 ts46 ts48 ts54 ts60 ts62 ts67 ts73 ts82 ts83 ts92 ts95 ts97 ts100 ts102 ts109 ts116 ts139 ts153 ts164 ts184 ts194 cln_97 cln_98 cln_144 rvs_144 tsM tg3 tg4 tg9 tg33 tg35 tg36
attribute [go_sem] tg37 tg39 tg42 tg44 tg45 tg46 tg48 tg54 tg60 tg62 tg67 tg73 tg82 tg83 tg92 tg95 tg100 tg102 tg109 tg116 te1 te3 te4 te5 te9 te23 te24 te25 te27 te28 te33 te35 te36 te37 te39 te40 te42 te44 te45 te46
attribute [go_sem] te48 te49 te54 te60 te62 te67 te71 te73 te78 te83 te86 te87 te89 te92 te93 te95 te100 te102 te103 te109 te116 te129 te140 te146 te148 te150 te156 te158 te162 te169 te172 te179 te180 te182 te185 te192 te195 te202 te203 tf35_0
attribute [go_sem] tf35_1 tf35_2 tf35_3 tf39_0 tf39_1 tf39_2 tf39_3 tf39_4 tf39_5 tf44_0 tf44_1 tf44_2 tf44_3 tf48_0 tf48_1 tf48_2 tf48_3 tf48_4 tf48_5 tf62_0 tf62_1 tf62_2 tf62_3 tf62_4 tf62_5 tf67_0 tf67_1 tf67_2 tf73_0 tf73_1 tf82_0 tf82_1 tf97_0 tf97_1 tf102_0 tf102_1 tf102_2 tf102_3 tf102_4 tf102_5
attribute [go_sem] tf109_0 tf109_1 tf116_0 tf116_1 tf116_2 tf139_0 tf139_1 tf164_0 tf164_1 tf184_0 tf184_1 tf194_0 tp35_0 tp35_1 tp35_2 tp35_3 tp39_0 tp39_1 tp39_3 tp39_4 tp39_5 tp44_0 tp44_1 tp44_2 tp44_3 tp48_0 tp48_1 tp48_2 tp48_3 tp48_4 tp62_0 tp62_1 tp62_2 tp67_0 tp67_1 tp67_2 tp73_0 tp82_0 tp82_1 tp97_0
attribute [go_sem] tp102_0 tp102_1 tp102_4 tp102_5 tp109_0 tp116_0 tp139_0 tp139_1 tp139_2 tp153_0 tp153_1 tp164_0 tp184_0 tp194_0 tz3 tz9 tz35 tz39 tz44 tz48 tz62 tz67 tz73 tz82 tz97 tz102 tz109 tz116 tz139 tz153 tz164 tz184 tz194 ti3 ti5 ti9 ti35 ti39 ti44 ti48
attribute [go_sem] ti62 ti67 ti71 ti73 ti82 ti102 ti109 ti116 ti139 ti153 tst3 tst5 tst9 tst23 tst27 tst33 tst36 tst37 tst42 tst45 tst46 tst54 tst60 tst83 tst86 tst92 tst100 tst185 tbo3 tbo5 tbo9 tbo24 tpt3 tpt5 tpt9 tpt24 tfo35 tfo39 tfo44 tfo48
attribute [go_sem] tfo62 tfo67 tfo73 tfo82 tfo97 tfo102 tfo109 tfo116 tfo139 tfo153 tfo164 tfo184 tfo194 tze3 tze5 tze9 tze35 tze39 tze44 tze48 tze62 tze67 tze73 tze82 tze102 tze109 tze116 tze139 tze153 tu3 tu5 tu71 tby9 tby35 tby39 tby44 tby48 tby62 tby67 tby73
attribute [go_sem] tby82 tby102 tby109 tby116 tby139 tby153
end Go.Proofs
