/- The program as the abstract machine sees it: what is alive at each loop, which operations may be drawn, sizes of types. -/
import Derived.Test.YtofblkofhgbefaaGreatDoorAvC
import Derived.Test.YtofblkofhgbefaaGreatDoorProg
import Derived.KernelRfl
namespace Go.Proofs
open Go.Av
def liveT : List (Nat × (List Nat × List Nat)) := [(21000, ([1, 2, 3, 4, 5], [1, 2, 3])),
  (21002, ([1, 2, 3, 6], [1, 2, 3])),
  (21004, ([1, 2, 3, 7], [1, 2, 3])),
  (22001, ([1, 4, 68, 69, 70], [1])),
  (23000, ([3, 7, 8, 9], [])),
  (24001, ([1, 8, 9], [1])),
  (24003, ([1, 8, 9, 10], [1])),
  (25000, ([3, 4, 5], [])),
  (41000, ([1, 2, 3, 5], [1, 3])),
  (46000, ([3, 7, 8, 9], [])),
  (47000, ([1, 2, 34, 35, 36], [2])),
  (47002, ([1, 46, 47, 48], [])),
  (48000, ([0, 5, 6], [])),
  (48002, ([0, 5, 6], [])),
  (54000, ([1, 2, 6], [2])),
  (54002, ([1, 2, 8], [2])),
  (55000, ([1, 3, 4], [1])),
  (56001, ([3, 22, 23, 24], [])),
  (56003, ([6, 7], [7])),
  (58001, ([1, 3, 4], [1])),
  (58003, ([6, 7], [7])),
  (64000, ([1, 5, 8, 9, 10], [])),
  (65000, ([1, 5, 8, 9, 10], [])),
  (66000, ([2, 7, 8, 9], [2])),
  (67000, ([3, 16, 17, 18], [])),
  (69000, ([1, 3, 4], [1])),
  (70001, ([0, 2, 6], [2, 6])),
  (71000, ([3, 7, 8, 9], [])),
  (72000, ([3, 17, 18, 19], [])),
  (76000, ([1, 5, 8, 9, 10], [])),
  (77000, ([1, 5, 8, 9, 10], [])),
  (89000, ([2, 3, 20, 21, 22], [])),
  (90000, ([0, 4, 12, 13, 14], [4, 12])),
  (101000, ([0, 3, 4], [])),
  (105000, ([0, 1, 7], [])),
  (105002, ([0, 1, 11, 12], [])),
  (106000, ([0, 1, 4, 7], [4])),
  (106002, ([0, 1, 4, 9, 10, 11], [4, 9])),
  (109000, ([1, 2, 5], [2])),
  (121000, ([0, 1], [])),
  (137000, ([0, 3, 4], [])),
  (138000, ([0, 3, 4], [])),
  (141000, ([0, 1, 5], [])),
  (149000, ([0, 2, 3], [2, 3])),
  (153000, ([0, 1, 5], [])),
  (154000, ([0, 4, 7, 8], [4, 7])),
  (155000, ([0, 4, 7, 8, 10], [4, 8])),
  (161000, ([0, 3], [])),
  (166000, ([0, 2, 3, 4, 5], [2, 3])),
  (166003, ([0, 2, 3, 6], [2, 3])),
  (166005, ([0, 2, 3, 6, 7], [2, 3])),
  (170000, ([0, 2, 3], [2, 3])),
  (170002, ([0, 2, 3], [2, 3])),
  (170004, ([0, 2, 3], [2, 3])),
  (172000, ([0, 1, 2, 8, 9], [])),
  (179000, ([0, 2, 4], [2])),
  (179002, ([2, 4, 9, 10, 11], [2, 9])),
  (180000, ([0, 2, 6], [2, 6])),
  (181000, ([0, 3, 4], []))]
def drwT : List (Nat × List (Nat × Nat)) := [(20021, [(2, 5), (2, 9), (7, 5)]),
  (21008, []),
  (21013, [(1, 7)]),
  (21017, [(1, 20), (3, 20), (7, 20), (9, 20), (13, 20)]),
  (22003, [(1, 8)]),
  (22005, [(8, 5), (10, 5)]),
  (22010, [(10, 6), (12, 6)]),
  (22016, [(10, 6), (10, 7)]),
  (22020, [(8, 4)]),
  (24006, [(1, 8)]),
  (24021, [(1, 10), (1, 17), (14, 10), (16, 10)]),
  (24023, [(8, 4)]),
  (41009, []),
  (41010, []),
  (41006, [(0, 4)]),
  (52011, [(0, 3)]),
  (56009, [(1, 3)]),
  (56013, [(13, 10), (15, 10)]),
  (58018, [(8, 4), (10, 4)]),
  (58019, [(7, 4), (9, 4)]),
  (63001, [(1, 6), (3, 6)]),
  (70014, []),
  (70017, [(0, 2)]),
  (88005, [(4, 5)]),
  (104004, [(1, 3)]),
  (104015, [(1, 4), (2, 4)]),
  (104020, [(2, 1)]),
  (104022, [(2, 1)]),
  (104024, [(2, 1)]),
  (104025, [(0, 2)]),
  (105031, []),
  (106013, []),
  (107012, [(4, 3)]),
  (107018, [(4, 3), (5, 3), (6, 3)]),
  (116003, []),
  (120007, [(0, 2)]),
  (122000, [(8, 4)]),
  (123008, [(2, 1)]),
  (148005, [(4, 5)]),
  (149009, [(1, 3)]),
  (149011, [(1, 3)]),
  (155020, [(0, 3)]),
  (166018, [(1, 3)]),
  (166026, [(1, 3)]),
  (170003, [(1, 3)]),
  (170005, [(1, 3)]),
  (170007, [(1, 3)]),
  (179012, [])]
def keepT : List Nat := []
def primT : List (Nat × (List AVal → Heap → Option (AVal × Heap))) := [(57, joinP), (110, itoaP), (176, atoiP), (147, indexByteP)]
noncomputable def E : Env := { P := Tryz.prog, live := fun f id => alGet liveT (f * 1000 + id), drw := fun f id => alGet drwT (f * 1000 + id), keep := fun f => keepT.contains f, prim := fun f => alGet primT f }
theorem live_21_0 : E.live 21 0 = some ([1, 2, 3, 4, 5], [1, 2, 3]) := by kernel_rfl
theorem live_21_2 : E.live 21 2 = some ([1, 2, 3, 6], [1, 2, 3]) := by kernel_rfl
theorem live_21_4 : E.live 21 4 = some ([1, 2, 3, 7], [1, 2, 3]) := by kernel_rfl
theorem live_22_1 : E.live 22 1 = some ([1, 4, 68, 69, 70], [1]) := by kernel_rfl
theorem live_23_0 : E.live 23 0 = some ([3, 7, 8, 9], []) := by kernel_rfl
theorem live_24_1 : E.live 24 1 = some ([1, 8, 9], [1]) := by kernel_rfl
theorem live_24_3 : E.live 24 3 = some ([1, 8, 9, 10], [1]) := by kernel_rfl
theorem live_25_0 : E.live 25 0 = some ([3, 4, 5], []) := by kernel_rfl
theorem live_41_0 : E.live 41 0 = some ([1, 2, 3, 5], [1, 3]) := by kernel_rfl
theorem live_46_0 : E.live 46 0 = some ([3, 7, 8, 9], []) := by kernel_rfl
theorem live_47_0 : E.live 47 0 = some ([1, 2, 34, 35, 36], [2]) := by kernel_rfl
theorem live_47_2 : E.live 47 2 = some ([1, 46, 47, 48], []) := by kernel_rfl
theorem live_48_0 : E.live 48 0 = some ([0, 5, 6], []) := by kernel_rfl
theorem live_48_2 : E.live 48 2 = some ([0, 5, 6], []) := by kernel_rfl
theorem live_54_0 : E.live 54 0 = some ([1, 2, 6], [2]) := by kernel_rfl
theorem live_54_2 : E.live 54 2 = some ([1, 2, 8], [2]) := by kernel_rfl
theorem live_55_0 : E.live 55 0 = some ([1, 3, 4], [1]) := by kernel_rfl
theorem live_56_1 : E.live 56 1 = some ([3, 22, 23, 24], []) := by kernel_rfl
theorem live_56_3 : E.live 56 3 = some ([6, 7], [7]) := by kernel_rfl
theorem live_58_1 : E.live 58 1 = some ([1, 3, 4], [1]) := by kernel_rfl
theorem live_58_3 : E.live 58 3 = some ([6, 7], [7]) := by kernel_rfl
theorem live_64_0 : E.live 64 0 = some ([1, 5, 8, 9, 10], []) := by kernel_rfl
theorem live_65_0 : E.live 65 0 = some ([1, 5, 8, 9, 10], []) := by kernel_rfl
theorem live_66_0 : E.live 66 0 = some ([2, 7, 8, 9], [2]) := by kernel_rfl
theorem live_67_0 : E.live 67 0 = some ([3, 16, 17, 18], []) := by kernel_rfl
theorem live_69_0 : E.live 69 0 = some ([1, 3, 4], [1]) := by kernel_rfl
theorem live_70_1 : E.live 70 1 = some ([0, 2, 6], [2, 6]) := by kernel_rfl
theorem live_71_0 : E.live 71 0 = some ([3, 7, 8, 9], []) := by kernel_rfl
theorem live_72_0 : E.live 72 0 = some ([3, 17, 18, 19], []) := by kernel_rfl
theorem live_76_0 : E.live 76 0 = some ([1, 5, 8, 9, 10], []) := by kernel_rfl
theorem live_77_0 : E.live 77 0 = some ([1, 5, 8, 9, 10], []) := by kernel_rfl
theorem live_89_0 : E.live 89 0 = some ([2, 3, 20, 21, 22], []) := by kernel_rfl
theorem live_90_0 : E.live 90 0 = some ([0, 4, 12, 13, 14], [4, 12]) := by kernel_rfl
theorem live_101_0 : E.live 101 0 = some ([0, 3, 4], []) := by kernel_rfl
theorem live_105_0 : E.live 105 0 = some ([0, 1, 7], []) := by kernel_rfl
theorem live_105_2 : E.live 105 2 = some ([0, 1, 11, 12], []) := by kernel_rfl
theorem live_106_0 : E.live 106 0 = some ([0, 1, 4, 7], [4]) := by kernel_rfl
theorem live_106_2 : E.live 106 2 = some ([0, 1, 4, 9, 10, 11], [4, 9]) := by kernel_rfl
theorem live_109_0 : E.live 109 0 = some ([1, 2, 5], [2]) := by kernel_rfl
theorem live_121_0 : E.live 121 0 = some ([0, 1], []) := by kernel_rfl
theorem live_137_0 : E.live 137 0 = some ([0, 3, 4], []) := by kernel_rfl
theorem live_138_0 : E.live 138 0 = some ([0, 3, 4], []) := by kernel_rfl
theorem live_141_0 : E.live 141 0 = some ([0, 1, 5], []) := by kernel_rfl
theorem live_149_0 : E.live 149 0 = some ([0, 2, 3], [2, 3]) := by kernel_rfl
theorem live_153_0 : E.live 153 0 = some ([0, 1, 5], []) := by kernel_rfl
theorem live_154_0 : E.live 154 0 = some ([0, 4, 7, 8], [4, 7]) := by kernel_rfl
theorem live_155_0 : E.live 155 0 = some ([0, 4, 7, 8, 10], [4, 8]) := by kernel_rfl
theorem live_161_0 : E.live 161 0 = some ([0, 3], []) := by kernel_rfl
theorem live_166_0 : E.live 166 0 = some ([0, 2, 3, 4, 5], [2, 3]) := by kernel_rfl
theorem live_166_3 : E.live 166 3 = some ([0, 2, 3, 6], [2, 3]) := by kernel_rfl
theorem live_166_5 : E.live 166 5 = some ([0, 2, 3, 6, 7], [2, 3]) := by kernel_rfl
theorem live_170_0 : E.live 170 0 = some ([0, 2, 3], [2, 3]) := by kernel_rfl
theorem live_170_2 : E.live 170 2 = some ([0, 2, 3], [2, 3]) := by kernel_rfl
theorem live_170_4 : E.live 170 4 = some ([0, 2, 3], [2, 3]) := by kernel_rfl
theorem live_172_0 : E.live 172 0 = some ([0, 1, 2, 8, 9], []) := by kernel_rfl
theorem live_179_0 : E.live 179 0 = some ([0, 2, 4], [2]) := by kernel_rfl
theorem live_179_2 : E.live 179 2 = some ([2, 4, 9, 10, 11], [2, 9]) := by kernel_rfl
theorem live_180_0 : E.live 180 0 = some ([0, 2, 6], [2, 6]) := by kernel_rfl
theorem live_181_0 : E.live 181 0 = some ([0, 3, 4], []) := by kernel_rfl
theorem drw_20_21 : E.drw 20 21 = some [(2, 5), (2, 9), (7, 5)] := by kernel_rfl
theorem drw_21_8 : E.drw 21 8 = some [] := by kernel_rfl
theorem drw_21_13 : E.drw 21 13 = some [(1, 7)] := by kernel_rfl
theorem drw_21_17 : E.drw 21 17 = some [(1, 20), (3, 20), (7, 20), (9, 20), (13, 20)] := by kernel_rfl
theorem drw_22_3 : E.drw 22 3 = some [(1, 8)] := by kernel_rfl
theorem drw_22_5 : E.drw 22 5 = some [(8, 5), (10, 5)] := by kernel_rfl
theorem drw_22_10 : E.drw 22 10 = some [(10, 6), (12, 6)] := by kernel_rfl
theorem drw_22_16 : E.drw 22 16 = some [(10, 6), (10, 7)] := by kernel_rfl
theorem drw_22_20 : E.drw 22 20 = some [(8, 4)] := by kernel_rfl
theorem drw_24_6 : E.drw 24 6 = some [(1, 8)] := by kernel_rfl
theorem drw_24_21 : E.drw 24 21 = some [(1, 10), (1, 17), (14, 10), (16, 10)] := by kernel_rfl
theorem drw_24_23 : E.drw 24 23 = some [(8, 4)] := by kernel_rfl
theorem drw_41_9 : E.drw 41 9 = some [] := by kernel_rfl
theorem drw_41_10 : E.drw 41 10 = some [] := by kernel_rfl
theorem drw_41_6 : E.drw 41 6 = some [(0, 4)] := by kernel_rfl
theorem drw_52_11 : E.drw 52 11 = some [(0, 3)] := by kernel_rfl
theorem drw_56_9 : E.drw 56 9 = some [(1, 3)] := by kernel_rfl
theorem drw_56_13 : E.drw 56 13 = some [(13, 10), (15, 10)] := by kernel_rfl
theorem drw_58_18 : E.drw 58 18 = some [(8, 4), (10, 4)] := by kernel_rfl
theorem drw_58_19 : E.drw 58 19 = some [(7, 4), (9, 4)] := by kernel_rfl
theorem drw_63_1 : E.drw 63 1 = some [(1, 6), (3, 6)] := by kernel_rfl
theorem drw_70_14 : E.drw 70 14 = some [] := by kernel_rfl
theorem drw_70_17 : E.drw 70 17 = some [(0, 2)] := by kernel_rfl
theorem drw_88_5 : E.drw 88 5 = some [(4, 5)] := by kernel_rfl
theorem drw_104_4 : E.drw 104 4 = some [(1, 3)] := by kernel_rfl
theorem drw_104_15 : E.drw 104 15 = some [(1, 4), (2, 4)] := by kernel_rfl
theorem drw_104_20 : E.drw 104 20 = some [(2, 1)] := by kernel_rfl
theorem drw_104_22 : E.drw 104 22 = some [(2, 1)] := by kernel_rfl
theorem drw_104_24 : E.drw 104 24 = some [(2, 1)] := by kernel_rfl
theorem drw_104_25 : E.drw 104 25 = some [(0, 2)] := by kernel_rfl
theorem drw_105_31 : E.drw 105 31 = some [] := by kernel_rfl
theorem drw_106_13 : E.drw 106 13 = some [] := by kernel_rfl
theorem drw_107_12 : E.drw 107 12 = some [(4, 3)] := by kernel_rfl
theorem drw_107_18 : E.drw 107 18 = some [(4, 3), (5, 3), (6, 3)] := by kernel_rfl
theorem drw_116_3 : E.drw 116 3 = some [] := by kernel_rfl
theorem drw_120_7 : E.drw 120 7 = some [(0, 2)] := by kernel_rfl
theorem drw_122_0 : E.drw 122 0 = some [(8, 4)] := by kernel_rfl
theorem drw_123_8 : E.drw 123 8 = some [(2, 1)] := by kernel_rfl
theorem drw_148_5 : E.drw 148 5 = some [(4, 5)] := by kernel_rfl
theorem drw_149_9 : E.drw 149 9 = some [(1, 3)] := by kernel_rfl
theorem drw_149_11 : E.drw 149 11 = some [(1, 3)] := by kernel_rfl
theorem drw_155_20 : E.drw 155 20 = some [(0, 3)] := by kernel_rfl
theorem drw_166_18 : E.drw 166 18 = some [(1, 3)] := by kernel_rfl
theorem drw_166_26 : E.drw 166 26 = some [(1, 3)] := by kernel_rfl
theorem drw_170_3 : E.drw 170 3 = some [(1, 3)] := by kernel_rfl
theorem drw_170_5 : E.drw 170 5 = some [(1, 3)] := by kernel_rfl
theorem drw_170_7 : E.drw 170 7 = some [(1, 3)] := by kernel_rfl
theorem drw_179_12 : E.drw 179 12 = some [] := by kernel_rfl
theorem body_5 : bodyOf E 5 = Tryz.f5.body := by kernel_rfl
theorem prim_5 : E.prim 5 = none := by kernel_rfl
theorem res_5 : resOf E 5 = some [.tmp 2] := by kernel_rfl
theorem keep_5 : E.keep 5 = false := by kernel_rfl
theorem body_15 : bodyOf E 15 = Tryz.f15.body := by kernel_rfl
theorem prim_15 : E.prim 15 = none := by kernel_rfl
theorem res_15 : resOf E 15 = some [.cell 2 42, .tmp 3] := by kernel_rfl
theorem keep_15 : E.keep 15 = false := by kernel_rfl
theorem body_16 : bodyOf E 16 = Tryz.f16.body := by kernel_rfl
theorem prim_16 : E.prim 16 = none := by kernel_rfl
theorem res_16 : resOf E 16 = some [.cell 2 54, .tmp 3] := by kernel_rfl
theorem keep_16 : E.keep 16 = false := by kernel_rfl
theorem body_19 : bodyOf E 19 = Tryz.f19.body := by kernel_rfl
theorem prim_19 : E.prim 19 = none := by kernel_rfl
theorem res_19 : resOf E 19 = some [.tmp 0] := by kernel_rfl
theorem keep_19 : E.keep 19 = false := by kernel_rfl
theorem body_20 : bodyOf E 20 = Tryz.f20.body := by kernel_rfl
theorem prim_20 : E.prim 20 = none := by kernel_rfl
theorem res_20 : resOf E 20 = some [.cell 2 61] := by kernel_rfl
theorem keep_20 : E.keep 20 = false := by kernel_rfl
theorem body_21 : bodyOf E 21 = Tryz.f21.body := by kernel_rfl
theorem prim_21 : E.prim 21 = none := by kernel_rfl
theorem res_21 : resOf E 21 = some [.cell 2 66] := by kernel_rfl
theorem keep_21 : E.keep 21 = false := by kernel_rfl
theorem body_22 : bodyOf E 22 = Tryz.f22.body := by kernel_rfl
theorem prim_22 : E.prim 22 = none := by kernel_rfl
theorem res_22 : resOf E 22 = some [.tmp 2] := by kernel_rfl
theorem keep_22 : E.keep 22 = false := by kernel_rfl
theorem body_23 : bodyOf E 23 = Tryz.f23.body := by kernel_rfl
theorem prim_23 : E.prim 23 = none := by kernel_rfl
theorem res_23 : resOf E 23 = some [.tmp 2] := by kernel_rfl
theorem keep_23 : E.keep 23 = false := by kernel_rfl
theorem body_24 : bodyOf E 24 = Tryz.f24.body := by kernel_rfl
theorem prim_24 : E.prim 24 = none := by kernel_rfl
theorem res_24 : resOf E 24 = some [.tmp 2] := by kernel_rfl
theorem keep_24 : E.keep 24 = false := by kernel_rfl
theorem body_25 : bodyOf E 25 = Tryz.f25.body := by kernel_rfl
theorem prim_25 : E.prim 25 = none := by kernel_rfl
theorem res_25 : resOf E 25 = some [.tmp 2] := by kernel_rfl
theorem keep_25 : E.keep 25 = false := by kernel_rfl
theorem body_26 : bodyOf E 26 = Tryz.f26.body := by kernel_rfl
theorem prim_26 : E.prim 26 = none := by kernel_rfl
theorem res_26 : resOf E 26 = some [.cell 2 61, .tmp 3] := by kernel_rfl
theorem keep_26 : E.keep 26 = false := by kernel_rfl
theorem body_28 : bodyOf E 28 = Tryz.f28.body := by kernel_rfl
theorem prim_28 : E.prim 28 = none := by kernel_rfl
theorem res_28 : resOf E 28 = some [.cell 2 61] := by kernel_rfl
theorem keep_28 : E.keep 28 = false := by kernel_rfl
theorem body_41 : bodyOf E 41 = Tryz.f41.body := by kernel_rfl
theorem prim_41 : E.prim 41 = none := by kernel_rfl
theorem res_41 : resOf E 41 = some [.tmp 2, .cell 3 3, .tmp 4] := by kernel_rfl
theorem keep_41 : E.keep 41 = false := by kernel_rfl
theorem body_42 : bodyOf E 42 = Tryz.f42.body := by kernel_rfl
theorem prim_42 : E.prim 42 = none := by kernel_rfl
theorem res_42 : resOf E 42 = some [.tmp 4] := by kernel_rfl
theorem keep_42 : E.keep 42 = false := by kernel_rfl
theorem body_43 : bodyOf E 43 = Tryz.f43.body := by kernel_rfl
theorem prim_43 : E.prim 43 = none := by kernel_rfl
theorem res_43 : resOf E 43 = some [.tmp 2, .cell 3 35] := by kernel_rfl
theorem keep_43 : E.keep 43 = false := by kernel_rfl
theorem body_44 : bodyOf E 44 = Tryz.f44.body := by kernel_rfl
theorem prim_44 : E.prim 44 = none := by kernel_rfl
theorem res_44 : resOf E 44 = some [.tmp 6] := by kernel_rfl
theorem keep_44 : E.keep 44 = false := by kernel_rfl
theorem body_45 : bodyOf E 45 = Tryz.f45.body := by kernel_rfl
theorem prim_45 : E.prim 45 = none := by kernel_rfl
theorem res_45 : resOf E 45 = some [.cell 2 42] := by kernel_rfl
theorem keep_45 : E.keep 45 = false := by kernel_rfl
theorem body_46 : bodyOf E 46 = Tryz.f46.body := by kernel_rfl
theorem prim_46 : E.prim 46 = none := by kernel_rfl
theorem res_46 : resOf E 46 = some [.tmp 2] := by kernel_rfl
theorem keep_46 : E.keep 46 = false := by kernel_rfl
theorem body_47 : bodyOf E 47 = Tryz.f47.body := by kernel_rfl
theorem prim_47 : E.prim 47 = none := by kernel_rfl
theorem res_47 : resOf E 47 = some [.tmp 4] := by kernel_rfl
theorem keep_47 : E.keep 47 = false := by kernel_rfl
theorem body_48 : bodyOf E 48 = Tryz.f48.body := by kernel_rfl
theorem prim_48 : E.prim 48 = none := by kernel_rfl
theorem res_48 : resOf E 48 = some [.tmp 2, .tmp 3, .tmp 4] := by kernel_rfl
theorem keep_48 : E.keep 48 = false := by kernel_rfl
theorem body_49 : bodyOf E 49 = Tryz.f49.body := by kernel_rfl
theorem prim_49 : E.prim 49 = none := by kernel_rfl
theorem res_49 : resOf E 49 = some [.tmp 4] := by kernel_rfl
theorem keep_49 : E.keep 49 = false := by kernel_rfl
theorem body_50 : bodyOf E 50 = Tryz.f50.body := by kernel_rfl
theorem prim_50 : E.prim 50 = none := by kernel_rfl
theorem res_50 : resOf E 50 = some [.cell 4 47, .tmp 5] := by kernel_rfl
theorem keep_50 : E.keep 50 = false := by kernel_rfl
theorem body_51 : bodyOf E 51 = Tryz.f51.body := by kernel_rfl
theorem prim_51 : E.prim 51 = none := by kernel_rfl
theorem res_51 : resOf E 51 = some [.tmp 8] := by kernel_rfl
theorem keep_51 : E.keep 51 = false := by kernel_rfl
theorem body_52 : bodyOf E 52 = Tryz.f52.body := by kernel_rfl
theorem prim_52 : E.prim 52 = none := by kernel_rfl
theorem res_52 : resOf E 52 = some [.cell 4 54, .tmp 5] := by kernel_rfl
theorem keep_52 : E.keep 52 = false := by kernel_rfl
theorem body_53 : bodyOf E 53 = Tryz.f53.body := by kernel_rfl
theorem prim_53 : E.prim 53 = none := by kernel_rfl
theorem res_53 : resOf E 53 = some [.tmp 8] := by kernel_rfl
theorem keep_53 : E.keep 53 = false := by kernel_rfl
theorem body_54 : bodyOf E 54 = Tryz.f54.body := by kernel_rfl
theorem prim_54 : E.prim 54 = none := by kernel_rfl
theorem res_54 : resOf E 54 = some [.tmp 4] := by kernel_rfl
theorem keep_54 : E.keep 54 = false := by kernel_rfl
theorem body_55 : bodyOf E 55 = Tryz.f55.body := by kernel_rfl
theorem prim_55 : E.prim 55 = none := by kernel_rfl
theorem res_55 : resOf E 55 = some [.tmp 2] := by kernel_rfl
theorem keep_55 : E.keep 55 = false := by kernel_rfl
theorem body_56 : bodyOf E 56 = Tryz.f56.body := by kernel_rfl
theorem prim_56 : E.prim 56 = none := by kernel_rfl
theorem res_56 : resOf E 56 = some [.tmp 2] := by kernel_rfl
theorem keep_56 : E.keep 56 = false := by kernel_rfl
theorem body_58 : bodyOf E 58 = Tryz.f58.body := by kernel_rfl
theorem prim_58 : E.prim 58 = none := by kernel_rfl
theorem res_58 : resOf E 58 = some [.tmp 2] := by kernel_rfl
theorem keep_58 : E.keep 58 = false := by kernel_rfl
theorem body_62 : bodyOf E 62 = Tryz.f62.body := by kernel_rfl
theorem prim_62 : E.prim 62 = none := by kernel_rfl
theorem res_62 : resOf E 62 = some [.tmp 2] := by kernel_rfl
theorem keep_62 : E.keep 62 = false := by kernel_rfl
theorem body_63 : bodyOf E 63 = Tryz.f63.body := by kernel_rfl
theorem prim_63 : E.prim 63 = none := by kernel_rfl
theorem res_63 : resOf E 63 = some [.cell 2 121] := by kernel_rfl
theorem keep_63 : E.keep 63 = false := by kernel_rfl
theorem body_64 : bodyOf E 64 = Tryz.f64.body := by kernel_rfl
theorem prim_64 : E.prim 64 = none := by kernel_rfl
theorem res_64 : resOf E 64 = some [.tmp 4] := by kernel_rfl
theorem keep_64 : E.keep 64 = false := by kernel_rfl
theorem body_65 : bodyOf E 65 = Tryz.f65.body := by kernel_rfl
theorem prim_65 : E.prim 65 = none := by kernel_rfl
theorem res_65 : resOf E 65 = some [.tmp 4] := by kernel_rfl
theorem keep_65 : E.keep 65 = false := by kernel_rfl
theorem body_66 : bodyOf E 66 = Tryz.f66.body := by kernel_rfl
theorem prim_66 : E.prim 66 = none := by kernel_rfl
theorem res_66 : resOf E 66 = some [.tmp 4] := by kernel_rfl
theorem keep_66 : E.keep 66 = false := by kernel_rfl
theorem body_67 : bodyOf E 67 = Tryz.f67.body := by kernel_rfl
theorem prim_67 : E.prim 67 = none := by kernel_rfl
theorem res_67 : resOf E 67 = some [.tmp 2] := by kernel_rfl
theorem keep_67 : E.keep 67 = false := by kernel_rfl
theorem body_68 : bodyOf E 68 = Tryz.f68.body := by kernel_rfl
theorem prim_68 : E.prim 68 = none := by kernel_rfl
theorem res_68 : resOf E 68 = some [.tmp 2] := by kernel_rfl
theorem keep_68 : E.keep 68 = false := by kernel_rfl
theorem body_69 : bodyOf E 69 = Tryz.f69.body := by kernel_rfl
theorem prim_69 : E.prim 69 = none := by kernel_rfl
theorem res_69 : resOf E 69 = some [.tmp 2] := by kernel_rfl
theorem keep_69 : E.keep 69 = false := by kernel_rfl
theorem body_70 : bodyOf E 70 = Tryz.f70.body := by kernel_rfl
theorem prim_70 : E.prim 70 = none := by kernel_rfl
theorem res_70 : resOf E 70 = some [.cell 2 61] := by kernel_rfl
theorem keep_70 : E.keep 70 = false := by kernel_rfl
theorem body_71 : bodyOf E 71 = Tryz.f71.body := by kernel_rfl
theorem prim_71 : E.prim 71 = none := by kernel_rfl
theorem res_71 : resOf E 71 = some [.tmp 2] := by kernel_rfl
theorem keep_71 : E.keep 71 = false := by kernel_rfl
theorem body_72 : bodyOf E 72 = Tryz.f72.body := by kernel_rfl
theorem prim_72 : E.prim 72 = none := by kernel_rfl
theorem res_72 : resOf E 72 = some [.tmp 2] := by kernel_rfl
theorem keep_72 : E.keep 72 = false := by kernel_rfl
theorem body_76 : bodyOf E 76 = Tryz.f76.body := by kernel_rfl
theorem prim_76 : E.prim 76 = none := by kernel_rfl
theorem res_76 : resOf E 76 = some [.tmp 4] := by kernel_rfl
theorem keep_76 : E.keep 76 = false := by kernel_rfl
theorem body_77 : bodyOf E 77 = Tryz.f77.body := by kernel_rfl
theorem prim_77 : E.prim 77 = none := by kernel_rfl
theorem res_77 : resOf E 77 = some [.tmp 4] := by kernel_rfl
theorem keep_77 : E.keep 77 = false := by kernel_rfl
theorem body_78 : bodyOf E 78 = Tryz.f78.body := by kernel_rfl
theorem prim_78 : E.prim 78 = none := by kernel_rfl
theorem res_78 : resOf E 78 = some [.cell 2 121] := by kernel_rfl
theorem keep_78 : E.keep 78 = false := by kernel_rfl
theorem body_88 : bodyOf E 88 = Tryz.f88.body := by kernel_rfl
theorem prim_88 : E.prim 88 = none := by kernel_rfl
theorem res_88 : resOf E 88 = some [.cell 2 38, .tmp 3, .tmp 4] := by kernel_rfl
theorem keep_88 : E.keep 88 = false := by kernel_rfl
theorem body_89 : bodyOf E 89 = Tryz.f89.body := by kernel_rfl
theorem prim_89 : E.prim 89 = none := by kernel_rfl
theorem res_89 : resOf E 89 = some [.tmp 2, .tmp 3] := by kernel_rfl
theorem keep_89 : E.keep 89 = false := by kernel_rfl
theorem body_90 : bodyOf E 90 = Tryz.f90.body := by kernel_rfl
theorem prim_90 : E.prim 90 = none := by kernel_rfl
theorem res_90 : resOf E 90 = some [.cell 4 50, .tmp 5] := by kernel_rfl
theorem keep_90 : E.keep 90 = false := by kernel_rfl
theorem body_99 : bodyOf E 99 = Tryz.f99.body := by kernel_rfl
theorem prim_99 : E.prim 99 = none := by kernel_rfl
theorem res_99 : resOf E 99 = some [.tmp 2, .tmp 3] := by kernel_rfl
theorem keep_99 : E.keep 99 = false := by kernel_rfl
theorem body_100 : bodyOf E 100 = Tryz.f100.body := by kernel_rfl
theorem prim_100 : E.prim 100 = none := by kernel_rfl
theorem res_100 : resOf E 100 = some [.tmp 2, .tmp 3] := by kernel_rfl
theorem keep_100 : E.keep 100 = false := by kernel_rfl
theorem body_101 : bodyOf E 101 = Tryz.f101.body := by kernel_rfl
theorem prim_101 : E.prim 101 = none := by kernel_rfl
theorem res_101 : resOf E 101 = some [.tmp 2] := by kernel_rfl
theorem keep_101 : E.keep 101 = false := by kernel_rfl
theorem body_102 : bodyOf E 102 = Tryz.f102.body := by kernel_rfl
theorem prim_102 : E.prim 102 = none := by kernel_rfl
theorem res_102 : resOf E 102 = some [.tmp 6] := by kernel_rfl
theorem keep_102 : E.keep 102 = false := by kernel_rfl
theorem body_103 : bodyOf E 103 = Tryz.f103.body := by kernel_rfl
theorem prim_103 : E.prim 103 = none := by kernel_rfl
theorem res_103 : resOf E 103 = some [.cell 2 35] := by kernel_rfl
theorem keep_103 : E.keep 103 = false := by kernel_rfl
theorem body_104 : bodyOf E 104 = Tryz.f104.body := by kernel_rfl
theorem prim_104 : E.prim 104 = none := by kernel_rfl
theorem res_104 : resOf E 104 = some [.cell 2 42] := by kernel_rfl
theorem keep_104 : E.keep 104 = false := by kernel_rfl
theorem body_105 : bodyOf E 105 = Tryz.f105.body := by kernel_rfl
theorem prim_105 : E.prim 105 = none := by kernel_rfl
theorem res_105 : resOf E 105 = some [.tmp 4, .tmp 5] := by kernel_rfl
theorem keep_105 : E.keep 105 = false := by kernel_rfl
theorem body_106 : bodyOf E 106 = Tryz.f106.body := by kernel_rfl
theorem prim_106 : E.prim 106 = none := by kernel_rfl
theorem res_106 : resOf E 106 = some [.cell 4 47, .tmp 5] := by kernel_rfl
theorem keep_106 : E.keep 106 = false := by kernel_rfl
theorem body_107 : bodyOf E 107 = Tryz.f107.body := by kernel_rfl
theorem prim_107 : E.prim 107 = none := by kernel_rfl
theorem res_107 : resOf E 107 = some [.cell 4 54, .tmp 5] := by kernel_rfl
theorem keep_107 : E.keep 107 = false := by kernel_rfl
theorem body_108 : bodyOf E 108 = Tryz.f108.body := by kernel_rfl
theorem prim_108 : E.prim 108 = none := by kernel_rfl
theorem res_108 : resOf E 108 = some [.tmp 8] := by kernel_rfl
theorem keep_108 : E.keep 108 = false := by kernel_rfl
theorem body_109 : bodyOf E 109 = Tryz.f109.body := by kernel_rfl
theorem prim_109 : E.prim 109 = none := by kernel_rfl
theorem res_109 : resOf E 109 = some [.tmp 4] := by kernel_rfl
theorem keep_109 : E.keep 109 = false := by kernel_rfl
theorem body_111 : bodyOf E 111 = Tryz.f111.body := by kernel_rfl
theorem prim_111 : E.prim 111 = none := by kernel_rfl
theorem res_111 : resOf E 111 = some [.tmp 4] := by kernel_rfl
theorem keep_111 : E.keep 111 = false := by kernel_rfl
theorem body_112 : bodyOf E 112 = Tryz.f112.body := by kernel_rfl
theorem prim_112 : E.prim 112 = none := by kernel_rfl
theorem res_112 : resOf E 112 = some [.tmp 2] := by kernel_rfl
theorem keep_112 : E.keep 112 = false := by kernel_rfl
theorem body_116 : bodyOf E 116 = Tryz.f116.body := by kernel_rfl
theorem prim_116 : E.prim 116 = none := by kernel_rfl
theorem res_116 : resOf E 116 = some [.tmp 2] := by kernel_rfl
theorem keep_116 : E.keep 116 = false := by kernel_rfl
theorem body_117 : bodyOf E 117 = Tryz.f117.body := by kernel_rfl
theorem prim_117 : E.prim 117 = none := by kernel_rfl
theorem res_117 : resOf E 117 = some [.tmp 2] := by kernel_rfl
theorem keep_117 : E.keep 117 = false := by kernel_rfl
theorem body_118 : bodyOf E 118 = Tryz.f118.body := by kernel_rfl
theorem prim_118 : E.prim 118 = none := by kernel_rfl
theorem res_118 : resOf E 118 = some [.tmp 6] := by kernel_rfl
theorem keep_118 : E.keep 118 = false := by kernel_rfl
theorem body_119 : bodyOf E 119 = Tryz.f119.body := by kernel_rfl
theorem prim_119 : E.prim 119 = none := by kernel_rfl
theorem res_119 : resOf E 119 = some [.tmp 6] := by kernel_rfl
theorem keep_119 : E.keep 119 = false := by kernel_rfl
theorem body_120 : bodyOf E 120 = Tryz.f120.body := by kernel_rfl
theorem prim_120 : E.prim 120 = none := by kernel_rfl
theorem res_120 : resOf E 120 = some [.cell 2 61] := by kernel_rfl
theorem keep_120 : E.keep 120 = false := by kernel_rfl
theorem body_121 : bodyOf E 121 = Tryz.f121.body := by kernel_rfl
theorem prim_121 : E.prim 121 = none := by kernel_rfl
theorem res_121 : resOf E 121 = some [] := by kernel_rfl
theorem keep_121 : E.keep 121 = false := by kernel_rfl
theorem body_122 : bodyOf E 122 = Tryz.f122.body := by kernel_rfl
theorem prim_122 : E.prim 122 = none := by kernel_rfl
theorem res_122 : resOf E 122 = some [] := by kernel_rfl
theorem keep_122 : E.keep 122 = false := by kernel_rfl
theorem body_123 : bodyOf E 123 = Tryz.f123.body := by kernel_rfl
theorem prim_123 : E.prim 123 = none := by kernel_rfl
theorem res_123 : resOf E 123 = some [.cell 2 61] := by kernel_rfl
theorem keep_123 : E.keep 123 = false := by kernel_rfl
theorem body_124 : bodyOf E 124 = Tryz.f124.body := by kernel_rfl
theorem prim_124 : E.prim 124 = none := by kernel_rfl
theorem res_124 : resOf E 124 = some [.tmp 6] := by kernel_rfl
theorem keep_124 : E.keep 124 = false := by kernel_rfl
theorem body_135 : bodyOf E 135 = Tryz.f135.body := by kernel_rfl
theorem prim_135 : E.prim 135 = none := by kernel_rfl
theorem res_135 : resOf E 135 = some [.cell 2 38] := by kernel_rfl
theorem keep_135 : E.keep 135 = false := by kernel_rfl
theorem body_136 : bodyOf E 136 = Tryz.f136.body := by kernel_rfl
theorem prim_136 : E.prim 136 = none := by kernel_rfl
theorem res_136 : resOf E 136 = some [.cell 4 47, .tmp 5] := by kernel_rfl
theorem keep_136 : E.keep 136 = false := by kernel_rfl
theorem body_137 : bodyOf E 137 = Tryz.f137.body := by kernel_rfl
theorem prim_137 : E.prim 137 = none := by kernel_rfl
theorem res_137 : resOf E 137 = some [.tmp 2] := by kernel_rfl
theorem keep_137 : E.keep 137 = false := by kernel_rfl
theorem body_138 : bodyOf E 138 = Tryz.f138.body := by kernel_rfl
theorem prim_138 : E.prim 138 = none := by kernel_rfl
theorem res_138 : resOf E 138 = some [.tmp 2] := by kernel_rfl
theorem keep_138 : E.keep 138 = false := by kernel_rfl
theorem body_139 : bodyOf E 139 = Tryz.f139.body := by kernel_rfl
theorem prim_139 : E.prim 139 = none := by kernel_rfl
theorem res_139 : resOf E 139 = some [.tmp 2] := by kernel_rfl
theorem keep_139 : E.keep 139 = false := by kernel_rfl
theorem body_140 : bodyOf E 140 = Tryz.f140.body := by kernel_rfl
theorem prim_140 : E.prim 140 = none := by kernel_rfl
theorem res_140 : resOf E 140 = some [.tmp 2] := by kernel_rfl
theorem keep_140 : E.keep 140 = false := by kernel_rfl
theorem body_141 : bodyOf E 141 = Tryz.f141.body := by kernel_rfl
theorem prim_141 : E.prim 141 = none := by kernel_rfl
theorem res_141 : resOf E 141 = some [.tmp 4] := by kernel_rfl
theorem keep_141 : E.keep 141 = false := by kernel_rfl
theorem body_142 : bodyOf E 142 = Tryz.f142.body := by kernel_rfl
theorem prim_142 : E.prim 142 = none := by kernel_rfl
theorem res_142 : resOf E 142 = some [.tmp 2] := by kernel_rfl
theorem keep_142 : E.keep 142 = false := by kernel_rfl
theorem body_143 : bodyOf E 143 = Tryz.f143.body := by kernel_rfl
theorem prim_143 : E.prim 143 = none := by kernel_rfl
theorem res_143 : resOf E 143 = some [.tmp 2] := by kernel_rfl
theorem keep_143 : E.keep 143 = false := by kernel_rfl
theorem body_144 : bodyOf E 144 = Tryz.f144.body := by kernel_rfl
theorem prim_144 : E.prim 144 = none := by kernel_rfl
theorem res_144 : resOf E 144 = some [.tmp 2] := by kernel_rfl
theorem keep_144 : E.keep 144 = false := by kernel_rfl
theorem body_145 : bodyOf E 145 = Tryz.f145.body := by kernel_rfl
theorem prim_145 : E.prim 145 = none := by kernel_rfl
theorem res_145 : resOf E 145 = some [.tmp 2] := by kernel_rfl
theorem keep_145 : E.keep 145 = false := by kernel_rfl
theorem body_146 : bodyOf E 146 = Tryz.f146.body := by kernel_rfl
theorem prim_146 : E.prim 146 = none := by kernel_rfl
theorem res_146 : resOf E 146 = some [.tmp 4] := by kernel_rfl
theorem keep_146 : E.keep 146 = false := by kernel_rfl
theorem body_148 : bodyOf E 148 = Tryz.f148.body := by kernel_rfl
theorem prim_148 : E.prim 148 = none := by kernel_rfl
theorem res_148 : resOf E 148 = some [.cell 2 35, .tmp 3, .tmp 4] := by kernel_rfl
theorem keep_148 : E.keep 148 = false := by kernel_rfl
theorem body_149 : bodyOf E 149 = Tryz.f149.body := by kernel_rfl
theorem prim_149 : E.prim 149 = none := by kernel_rfl
theorem res_149 : resOf E 149 = some [.cell 2 42] := by kernel_rfl
theorem keep_149 : E.keep 149 = false := by kernel_rfl
theorem body_150 : bodyOf E 150 = Tryz.f150.body := by kernel_rfl
theorem prim_150 : E.prim 150 = none := by kernel_rfl
theorem res_150 : resOf E 150 = some [.cell 2 38] := by kernel_rfl
theorem keep_150 : E.keep 150 = false := by kernel_rfl
theorem body_151 : bodyOf E 151 = Tryz.f151.body := by kernel_rfl
theorem prim_151 : E.prim 151 = none := by kernel_rfl
theorem res_151 : resOf E 151 = some [.tmp 2] := by kernel_rfl
theorem keep_151 : E.keep 151 = false := by kernel_rfl
theorem body_152 : bodyOf E 152 = Tryz.f152.body := by kernel_rfl
theorem prim_152 : E.prim 152 = none := by kernel_rfl
theorem res_152 : resOf E 152 = some [.tmp 2] := by kernel_rfl
theorem keep_152 : E.keep 152 = false := by kernel_rfl
theorem body_153 : bodyOf E 153 = Tryz.f153.body := by kernel_rfl
theorem prim_153 : E.prim 153 = none := by kernel_rfl
theorem res_153 : resOf E 153 = some [.tmp 4] := by kernel_rfl
theorem keep_153 : E.keep 153 = false := by kernel_rfl
theorem body_154 : bodyOf E 154 = Tryz.f154.body := by kernel_rfl
theorem prim_154 : E.prim 154 = none := by kernel_rfl
theorem res_154 : resOf E 154 = some [.cell 4 47, .tmp 5] := by kernel_rfl
theorem keep_154 : E.keep 154 = false := by kernel_rfl
theorem body_155 : bodyOf E 155 = Tryz.f155.body := by kernel_rfl
theorem prim_155 : E.prim 155 = none := by kernel_rfl
theorem res_155 : resOf E 155 = some [.cell 4 54, .tmp 5] := by kernel_rfl
theorem keep_155 : E.keep 155 = false := by kernel_rfl
theorem body_156 : bodyOf E 156 = Tryz.f156.body := by kernel_rfl
theorem prim_156 : E.prim 156 = none := by kernel_rfl
theorem res_156 : resOf E 156 = some [.cell 4 50, .tmp 5] := by kernel_rfl
theorem keep_156 : E.keep 156 = false := by kernel_rfl
theorem body_160 : bodyOf E 160 = Tryz.f160.body := by kernel_rfl
theorem prim_160 : E.prim 160 = none := by kernel_rfl
theorem res_160 : resOf E 160 = some [.cell 2 35] := by kernel_rfl
theorem keep_160 : E.keep 160 = false := by kernel_rfl
theorem body_161 : bodyOf E 161 = Tryz.f161.body := by kernel_rfl
theorem prim_161 : E.prim 161 = none := by kernel_rfl
theorem res_161 : resOf E 161 = some [.tmp 2] := by kernel_rfl
theorem keep_161 : E.keep 161 = false := by kernel_rfl
theorem body_163 : bodyOf E 163 = Tryz.f163.body := by kernel_rfl
theorem prim_163 : E.prim 163 = none := by kernel_rfl
theorem res_163 : resOf E 163 = some [.tmp 4] := by kernel_rfl
theorem keep_163 : E.keep 163 = false := by kernel_rfl
theorem body_164 : bodyOf E 164 = Tryz.f164.body := by kernel_rfl
theorem prim_164 : E.prim 164 = none := by kernel_rfl
theorem res_164 : resOf E 164 = some [.cell 2 35] := by kernel_rfl
theorem keep_164 : E.keep 164 = false := by kernel_rfl
theorem body_165 : bodyOf E 165 = Tryz.f165.body := by kernel_rfl
theorem prim_165 : E.prim 165 = none := by kernel_rfl
theorem res_165 : resOf E 165 = some [.tmp 6] := by kernel_rfl
theorem keep_165 : E.keep 165 = false := by kernel_rfl
theorem body_166 : bodyOf E 166 = Tryz.f166.body := by kernel_rfl
theorem prim_166 : E.prim 166 = none := by kernel_rfl
theorem res_166 : resOf E 166 = some [.cell 2 38] := by kernel_rfl
theorem keep_166 : E.keep 166 = false := by kernel_rfl
theorem body_167 : bodyOf E 167 = Tryz.f167.body := by kernel_rfl
theorem prim_167 : E.prim 167 = none := by kernel_rfl
theorem res_167 : resOf E 167 = some [.tmp 4] := by kernel_rfl
theorem keep_167 : E.keep 167 = false := by kernel_rfl
theorem body_169 : bodyOf E 169 = Tryz.f169.body := by kernel_rfl
theorem prim_169 : E.prim 169 = none := by kernel_rfl
theorem res_169 : resOf E 169 = some [.cell 2 35, .tmp 3] := by kernel_rfl
theorem keep_169 : E.keep 169 = false := by kernel_rfl
theorem body_170 : bodyOf E 170 = Tryz.f170.body := by kernel_rfl
theorem prim_170 : E.prim 170 = none := by kernel_rfl
theorem res_170 : resOf E 170 = some [.cell 2 117] := by kernel_rfl
theorem keep_170 : E.keep 170 = false := by kernel_rfl
theorem body_171 : bodyOf E 171 = Tryz.f171.body := by kernel_rfl
theorem prim_171 : E.prim 171 = none := by kernel_rfl
theorem res_171 : resOf E 171 = some [.cell 4 47, .tmp 5] := by kernel_rfl
theorem keep_171 : E.keep 171 = false := by kernel_rfl
theorem body_172 : bodyOf E 172 = Tryz.f172.body := by kernel_rfl
theorem prim_172 : E.prim 172 = none := by kernel_rfl
theorem res_172 : resOf E 172 = some [.tmp 6, .tmp 7] := by kernel_rfl
theorem keep_172 : E.keep 172 = false := by kernel_rfl
theorem body_178 : bodyOf E 178 = Tryz.f178.body := by kernel_rfl
theorem prim_178 : E.prim 178 = none := by kernel_rfl
theorem res_178 : resOf E 178 = some [.tmp 6, .tmp 7] := by kernel_rfl
theorem keep_178 : E.keep 178 = false := by kernel_rfl
theorem body_179 : bodyOf E 179 = Tryz.f179.body := by kernel_rfl
theorem prim_179 : E.prim 179 = none := by kernel_rfl
theorem res_179 : resOf E 179 = some [.cell 2 35, .tmp 3] := by kernel_rfl
theorem keep_179 : E.keep 179 = false := by kernel_rfl
theorem body_180 : bodyOf E 180 = Tryz.f180.body := by kernel_rfl
theorem prim_180 : E.prim 180 = none := by kernel_rfl
theorem res_180 : resOf E 180 = some [.cell 2 35, .tmp 3] := by kernel_rfl
theorem keep_180 : E.keep 180 = false := by kernel_rfl
theorem body_181 : bodyOf E 181 = Tryz.f181.body := by kernel_rfl
theorem prim_181 : E.prim 181 = none := by kernel_rfl
theorem res_181 : resOf E 181 = some [.tmp 2] := by kernel_rfl
theorem keep_181 : E.keep 181 = false := by kernel_rfl
theorem body_188 : bodyOf E 188 = Tryz.f188.body := by kernel_rfl
theorem prim_188 : E.prim 188 = none := by kernel_rfl
theorem res_188 : resOf E 188 = some [.tmp 6] := by kernel_rfl
theorem keep_188 : E.keep 188 = false := by kernel_rfl
theorem body_189 : bodyOf E 189 = Tryz.f189.body := by kernel_rfl
theorem prim_189 : E.prim 189 = none := by kernel_rfl
theorem res_189 : resOf E 189 = some [.cell 2 35, .tmp 3] := by kernel_rfl
theorem keep_189 : E.keep 189 = false := by kernel_rfl
theorem prim_57 : E.prim 57 = some joinP := by kernel_rfl
theorem prim_110 : E.prim 110 = some itoaP := by kernel_rfl
theorem prim_176 : E.prim 176 = some atoiP := by kernel_rfl
theorem prim_147 : E.prim 147 = some indexByteP := by kernel_rfl
theorem drw_122_3 : E.drw 122 3 = none := by kernel_rfl
theorem ts3 : tsize E.P 3 = 1 := by kernel_rfl
theorem ts4 : tsize E.P 4 = 1 := by kernel_rfl
theorem ts5 : tsize E.P 5 = 1 := by kernel_rfl
theorem ts9 : tsize E.P 9 = 1 := by kernel_rfl
theorem ts33 : tsize E.P 33 = 1 := by kernel_rfl
theorem ts35 : tsize E.P 35 = 4 := by kernel_rfl
theorem ts36 : tsize E.P 36 = 1 := by kernel_rfl
theorem ts38 : tsize E.P 38 = 8 := by kernel_rfl
theorem ts39 : tsize E.P 39 = 1 := by kernel_rfl
theorem ts40 : tsize E.P 40 = 1 := by kernel_rfl
theorem ts42 : tsize E.P 42 = 16 := by kernel_rfl
theorem ts45 : tsize E.P 45 = 1 := by kernel_rfl
theorem ts47 : tsize E.P 47 = 4 := by kernel_rfl
theorem ts48 : tsize E.P 48 = 1 := by kernel_rfl
theorem ts50 : tsize E.P 50 = 8 := by kernel_rfl
theorem ts51 : tsize E.P 51 = 1 := by kernel_rfl
theorem ts52 : tsize E.P 52 = 1 := by kernel_rfl
theorem ts54 : tsize E.P 54 = 16 := by kernel_rfl
theorem ts58 : tsize E.P 58 = 1 := by kernel_rfl
theorem ts59 : tsize E.P 59 = 1 := by kernel_rfl
theorem ts61 : tsize E.P 61 = 9 := by kernel_rfl
theorem ts63 : tsize E.P 63 = 1 := by kernel_rfl
theorem ts64 : tsize E.P 64 = 1 := by kernel_rfl
theorem ts66 : tsize E.P 66 = 9 := by kernel_rfl
theorem ts78 : tsize E.P 78 = 1 := by kernel_rfl
theorem ts92 : tsize E.P 92 = 1 := by kernel_rfl
theorem ts97 : tsize E.P 97 = 2 := by kernel_rfl
theorem ts117 : tsize E.P 117 = 20 := by kernel_rfl
theorem ts119 : tsize E.P 119 = 20 := by kernel_rfl
theorem ts121 : tsize E.P 121 = 11 := by kernel_rfl
theorem ts125 : tsize E.P 125 = 2 := by kernel_rfl
theorem ts128 : tsize E.P 128 = 11 := by kernel_rfl
theorem ts133 : tsize E.P 133 = 1 := by kernel_rfl
theorem ts135 : tsize E.P 135 = 2 := by kernel_rfl
theorem ts163 : tsize E.P 163 = 3 := by kernel_rfl
theorem ts181 : tsize E.P 181 = 2 := by kernel_rfl
theorem ts191 : tsize E.P 191 = 2 := by kernel_rfl
theorem ts206 : tsize E.P 206 = 1 := by kernel_rfl
theorem tg3 : tagg E.P 3 = some false := by kernel_rfl
theorem tg4 : tagg E.P 4 = some false := by kernel_rfl
theorem tg9 : tagg E.P 9 = some false := by kernel_rfl
theorem tg33 : tagg E.P 33 = some false := by kernel_rfl
theorem tg35 : tagg E.P 35 = some true := by kernel_rfl
theorem tg36 : tagg E.P 36 = some false := by kernel_rfl
theorem tg38 : tagg E.P 38 = some true := by kernel_rfl
theorem tg39 : tagg E.P 39 = some false := by kernel_rfl
theorem tg40 : tagg E.P 40 = some false := by kernel_rfl
theorem tg42 : tagg E.P 42 = some true := by kernel_rfl
theorem tg45 : tagg E.P 45 = some false := by kernel_rfl
theorem tg47 : tagg E.P 47 = some true := by kernel_rfl
theorem tg48 : tagg E.P 48 = some false := by kernel_rfl
theorem tg50 : tagg E.P 50 = some true := by kernel_rfl
theorem tg51 : tagg E.P 51 = some false := by kernel_rfl
theorem tg52 : tagg E.P 52 = some false := by kernel_rfl
theorem tg54 : tagg E.P 54 = some true := by kernel_rfl
theorem tg58 : tagg E.P 58 = some false := by kernel_rfl
theorem tg59 : tagg E.P 59 = some false := by kernel_rfl
theorem tg61 : tagg E.P 61 = some true := by kernel_rfl
theorem tg63 : tagg E.P 63 = some false := by kernel_rfl
theorem tg64 : tagg E.P 64 = some false := by kernel_rfl
theorem tg66 : tagg E.P 66 = some true := by kernel_rfl
theorem tg78 : tagg E.P 78 = some false := by kernel_rfl
theorem tg92 : tagg E.P 92 = some false := by kernel_rfl
theorem tg117 : tagg E.P 117 = some true := by kernel_rfl
theorem tg119 : tagg E.P 119 = some true := by kernel_rfl
theorem tg121 : tagg E.P 121 = some true := by kernel_rfl
theorem tg133 : tagg E.P 133 = some false := by kernel_rfl
theorem te1 : telem E.P 1 = none := by kernel_rfl
theorem te3 : telem E.P 3 = none := by kernel_rfl
theorem te4 : telem E.P 4 = none := by kernel_rfl
theorem te5 : telem E.P 5 = none := by kernel_rfl
theorem te9 : telem E.P 9 = none := by kernel_rfl
theorem te24 : telem E.P 24 = none := by kernel_rfl
theorem te33 : telem E.P 33 = some 35 := by kernel_rfl
theorem te35 : telem E.P 35 = none := by kernel_rfl
theorem te36 : telem E.P 36 = some 38 := by kernel_rfl
theorem te38 : telem E.P 38 = none := by kernel_rfl
theorem te39 : telem E.P 39 = some 42 := by kernel_rfl
theorem te40 : telem E.P 40 = some 117 := by kernel_rfl
theorem te42 : telem E.P 42 = none := by kernel_rfl
theorem te43 : telem E.P 43 = none := by kernel_rfl
theorem te45 : telem E.P 45 = some 47 := by kernel_rfl
theorem te47 : telem E.P 47 = none := by kernel_rfl
theorem te48 : telem E.P 48 = some 50 := by kernel_rfl
theorem te50 : telem E.P 50 = none := by kernel_rfl
theorem te51 : telem E.P 51 = some 54 := by kernel_rfl
theorem te52 : telem E.P 52 = some 119 := by kernel_rfl
theorem te54 : telem E.P 54 = none := by kernel_rfl
theorem te55 : telem E.P 55 = none := by kernel_rfl
theorem te58 : telem E.P 58 = some 61 := by kernel_rfl
theorem te59 : telem E.P 59 = some 121 := by kernel_rfl
theorem te61 : telem E.P 61 = none := by kernel_rfl
theorem te62 : telem E.P 62 = none := by kernel_rfl
theorem te63 : telem E.P 63 = some 66 := by kernel_rfl
theorem te64 : telem E.P 64 = some 128 := by kernel_rfl
theorem te66 : telem E.P 66 = none := by kernel_rfl
theorem te69 : telem E.P 69 = none := by kernel_rfl
theorem te73 : telem E.P 73 = none := by kernel_rfl
theorem te78 : telem E.P 78 = some 9 := by kernel_rfl
theorem te92 : telem E.P 92 = some 163 := by kernel_rfl
theorem te93 : telem E.P 93 = none := by kernel_rfl
theorem te95 : telem E.P 95 = none := by kernel_rfl
theorem te98 : telem E.P 98 = none := by kernel_rfl
theorem te108 : telem E.P 108 = none := by kernel_rfl
theorem te111 : telem E.P 111 = none := by kernel_rfl
theorem te117 : telem E.P 117 = none := by kernel_rfl
theorem te119 : telem E.P 119 = none := by kernel_rfl
theorem te121 : telem E.P 121 = none := by kernel_rfl
theorem te122 : telem E.P 122 = none := by kernel_rfl
theorem te126 : telem E.P 126 = some 125 := by kernel_rfl
theorem te133 : telem E.P 133 = none := by kernel_rfl
theorem te141 : telem E.P 141 = none := by kernel_rfl
theorem te149 : telem E.P 149 = none := by kernel_rfl
theorem te151 : telem E.P 151 = none := by kernel_rfl
theorem te152 : telem E.P 152 = none := by kernel_rfl
theorem te153 : telem E.P 153 = none := by kernel_rfl
theorem te170 : telem E.P 170 = some 5 := by kernel_rfl
theorem te175 : telem E.P 175 = none := by kernel_rfl
theorem te176 : telem E.P 176 = none := by kernel_rfl
theorem te178 : telem E.P 178 = some 3 := by kernel_rfl
theorem te179 : telem E.P 179 = none := by kernel_rfl
theorem te183 : telem E.P 183 = none := by kernel_rfl
theorem te189 : telem E.P 189 = none := by kernel_rfl
theorem te193 : telem E.P 193 = none := by kernel_rfl
theorem te197 : telem E.P 197 = none := by kernel_rfl
theorem te204 : telem E.P 204 = none := by kernel_rfl
theorem te207 : telem E.P 207 = none := by kernel_rfl
theorem te215 : telem E.P 215 = none := by kernel_rfl
theorem tf35_0 : tfield E.P 35 0 = some (0, 1) := by kernel_rfl
theorem tf35_1 : tfield E.P 35 1 = some (1, 1) := by kernel_rfl
theorem tf35_2 : tfield E.P 35 2 = some (2, 1) := by kernel_rfl
theorem tf35_3 : tfield E.P 35 3 = some (3, 1) := by kernel_rfl
theorem tf38_0 : tfield E.P 38 0 = some (0, 1) := by kernel_rfl
theorem tf38_1 : tfield E.P 38 1 = some (1, 1) := by kernel_rfl
theorem tf38_2 : tfield E.P 38 2 = some (2, 1) := by kernel_rfl
theorem tf38_3 : tfield E.P 38 3 = some (3, 4) := by kernel_rfl
theorem tf38_4 : tfield E.P 38 4 = some (7, 1) := by kernel_rfl
theorem tf42_0 : tfield E.P 42 0 = some (0, 1) := by kernel_rfl
theorem tf42_1 : tfield E.P 42 1 = some (1, 1) := by kernel_rfl
theorem tf42_2 : tfield E.P 42 2 = some (2, 4) := by kernel_rfl
theorem tf42_3 : tfield E.P 42 3 = some (6, 8) := by kernel_rfl
theorem tf42_4 : tfield E.P 42 4 = some (14, 1) := by kernel_rfl
theorem tf42_5 : tfield E.P 42 5 = some (15, 1) := by kernel_rfl
theorem tf47_0 : tfield E.P 47 0 = some (0, 1) := by kernel_rfl
theorem tf47_1 : tfield E.P 47 1 = some (1, 1) := by kernel_rfl
theorem tf47_2 : tfield E.P 47 2 = some (2, 1) := by kernel_rfl
theorem tf47_3 : tfield E.P 47 3 = some (3, 1) := by kernel_rfl
theorem tf50_0 : tfield E.P 50 0 = some (0, 1) := by kernel_rfl
theorem tf50_1 : tfield E.P 50 1 = some (1, 1) := by kernel_rfl
theorem tf50_2 : tfield E.P 50 2 = some (2, 1) := by kernel_rfl
theorem tf50_3 : tfield E.P 50 3 = some (3, 4) := by kernel_rfl
theorem tf50_4 : tfield E.P 50 4 = some (7, 1) := by kernel_rfl
theorem tf54_0 : tfield E.P 54 0 = some (0, 1) := by kernel_rfl
theorem tf54_1 : tfield E.P 54 1 = some (1, 1) := by kernel_rfl
theorem tf54_2 : tfield E.P 54 2 = some (2, 4) := by kernel_rfl
theorem tf54_3 : tfield E.P 54 3 = some (6, 8) := by kernel_rfl
theorem tf54_4 : tfield E.P 54 4 = some (14, 1) := by kernel_rfl
theorem tf54_5 : tfield E.P 54 5 = some (15, 1) := by kernel_rfl
theorem tf61_0 : tfield E.P 61 0 = some (0, 1) := by kernel_rfl
theorem tf61_1 : tfield E.P 61 1 = some (1, 1) := by kernel_rfl
theorem tf61_2 : tfield E.P 61 2 = some (2, 1) := by kernel_rfl
theorem tf61_3 : tfield E.P 61 3 = some (3, 4) := by kernel_rfl
theorem tf61_4 : tfield E.P 61 4 = some (7, 1) := by kernel_rfl
theorem tf61_5 : tfield E.P 61 5 = some (8, 1) := by kernel_rfl
theorem tf66_0 : tfield E.P 66 0 = some (0, 1) := by kernel_rfl
theorem tf66_1 : tfield E.P 66 1 = some (1, 1) := by kernel_rfl
theorem tf66_2 : tfield E.P 66 2 = some (2, 1) := by kernel_rfl
theorem tf66_3 : tfield E.P 66 3 = some (3, 4) := by kernel_rfl
theorem tf66_4 : tfield E.P 66 4 = some (7, 1) := by kernel_rfl
theorem tf66_5 : tfield E.P 66 5 = some (8, 1) := by kernel_rfl
theorem tf97_0 : tfield E.P 97 0 = some (0, 1) := by kernel_rfl
theorem tf97_1 : tfield E.P 97 1 = some (1, 1) := by kernel_rfl
theorem tf117_0 : tfield E.P 117 0 = some (0, 1) := by kernel_rfl
theorem tf117_1 : tfield E.P 117 1 = some (1, 1) := by kernel_rfl
theorem tf117_2 : tfield E.P 117 2 = some (2, 1) := by kernel_rfl
theorem tf117_3 : tfield E.P 117 3 = some (3, 1) := by kernel_rfl
theorem tf117_4 : tfield E.P 117 4 = some (4, 16) := by kernel_rfl
theorem tf119_0 : tfield E.P 119 0 = some (0, 1) := by kernel_rfl
theorem tf119_1 : tfield E.P 119 1 = some (1, 1) := by kernel_rfl
theorem tf119_2 : tfield E.P 119 2 = some (2, 1) := by kernel_rfl
theorem tf119_3 : tfield E.P 119 3 = some (3, 1) := by kernel_rfl
theorem tf119_4 : tfield E.P 119 4 = some (4, 16) := by kernel_rfl
theorem tf121_0 : tfield E.P 121 0 = some (0, 1) := by kernel_rfl
theorem tf121_1 : tfield E.P 121 1 = some (1, 1) := by kernel_rfl
theorem tf121_2 : tfield E.P 121 2 = some (2, 9) := by kernel_rfl
theorem tf128_0 : tfield E.P 128 0 = some (0, 1) := by kernel_rfl
theorem tf128_1 : tfield E.P 128 1 = some (1, 1) := by kernel_rfl
theorem tf128_2 : tfield E.P 128 2 = some (2, 9) := by kernel_rfl
theorem tf135_0 : tfield E.P 135 0 = some (0, 1) := by kernel_rfl
theorem tf135_1 : tfield E.P 135 1 = some (1, 1) := by kernel_rfl
theorem tf163_0 : tfield E.P 163 0 = some (0, 1) := by kernel_rfl
theorem tf163_1 : tfield E.P 163 1 = some (1, 1) := by kernel_rfl
theorem tf181_0 : tfield E.P 181 0 = some (0, 1) := by kernel_rfl
theorem tf181_1 : tfield E.P 181 1 = some (1, 1) := by kernel_rfl
theorem tf191_0 : tfield E.P 191 0 = some (0, 1) := by kernel_rfl
theorem tf191_1 : tfield E.P 191 1 = some (1, 1) := by kernel_rfl
theorem tf206_0 : tfield E.P 206 0 = some (0, 1) := by kernel_rfl
theorem tp35_0 : tplace E.P 35 0 = some (0, 1) := by kernel_rfl
theorem tp35_1 : tplace E.P 35 1 = some (1, 1) := by kernel_rfl
theorem tp35_2 : tplace E.P 35 2 = some (2, 1) := by kernel_rfl
theorem tp35_3 : tplace E.P 35 3 = some (3, 1) := by kernel_rfl
theorem tp38_0 : tplace E.P 38 0 = some (0, 1) := by kernel_rfl
theorem tp38_1 : tplace E.P 38 1 = some (1, 1) := by kernel_rfl
theorem tp38_3 : tplace E.P 38 3 = some (3, 4) := by kernel_rfl
theorem tp42_0 : tplace E.P 42 0 = some (0, 1) := by kernel_rfl
theorem tp42_1 : tplace E.P 42 1 = some (1, 1) := by kernel_rfl
theorem tp42_2 : tplace E.P 42 2 = some (2, 4) := by kernel_rfl
theorem tp42_3 : tplace E.P 42 3 = some (6, 8) := by kernel_rfl
theorem tp42_4 : tplace E.P 42 4 = some (14, 1) := by kernel_rfl
theorem tp47_0 : tplace E.P 47 0 = some (0, 1) := by kernel_rfl
theorem tp47_1 : tplace E.P 47 1 = some (1, 1) := by kernel_rfl
theorem tp47_2 : tplace E.P 47 2 = some (2, 1) := by kernel_rfl
theorem tp47_3 : tplace E.P 47 3 = some (3, 1) := by kernel_rfl
theorem tp50_0 : tplace E.P 50 0 = some (0, 1) := by kernel_rfl
theorem tp50_1 : tplace E.P 50 1 = some (1, 1) := by kernel_rfl
theorem tp50_3 : tplace E.P 50 3 = some (3, 4) := by kernel_rfl
theorem tp54_0 : tplace E.P 54 0 = some (0, 1) := by kernel_rfl
theorem tp54_1 : tplace E.P 54 1 = some (1, 1) := by kernel_rfl
theorem tp54_2 : tplace E.P 54 2 = some (2, 4) := by kernel_rfl
theorem tp54_3 : tplace E.P 54 3 = some (6, 8) := by kernel_rfl
theorem tp54_4 : tplace E.P 54 4 = some (14, 1) := by kernel_rfl
theorem tp61_0 : tplace E.P 61 0 = some (0, 1) := by kernel_rfl
theorem tp61_1 : tplace E.P 61 1 = some (1, 1) := by kernel_rfl
theorem tp61_3 : tplace E.P 61 3 = some (3, 4) := by kernel_rfl
theorem tp61_4 : tplace E.P 61 4 = some (7, 1) := by kernel_rfl
theorem tp61_5 : tplace E.P 61 5 = some (8, 1) := by kernel_rfl
theorem tp66_1 : tplace E.P 66 1 = some (1, 1) := by kernel_rfl
theorem tp97_0 : tplace E.P 97 0 = some (0, 1) := by kernel_rfl
theorem tp117_0 : tplace E.P 117 0 = some (0, 1) := by kernel_rfl
theorem tp119_0 : tplace E.P 119 0 = some (0, 1) := by kernel_rfl
theorem tp121_0 : tplace E.P 121 0 = some (0, 1) := by kernel_rfl
theorem tp121_1 : tplace E.P 121 1 = some (1, 1) := by kernel_rfl
theorem tp121_2 : tplace E.P 121 2 = some (2, 9) := by kernel_rfl
theorem tp125_0 : tplace E.P 125 0 = some (0, 1) := by kernel_rfl
theorem tp125_1 : tplace E.P 125 1 = some (1, 1) := by kernel_rfl
theorem tp128_0 : tplace E.P 128 0 = some (0, 1) := by kernel_rfl
theorem tp128_1 : tplace E.P 128 1 = some (1, 1) := by kernel_rfl
theorem tp128_2 : tplace E.P 128 2 = some (2, 9) := by kernel_rfl
theorem tp135_0 : tplace E.P 135 0 = some (0, 1) := by kernel_rfl
theorem tp163_0 : tplace E.P 163 0 = some (0, 1) := by kernel_rfl
theorem tp163_1 : tplace E.P 163 1 = some (1, 1) := by kernel_rfl
theorem tp163_2 : tplace E.P 163 2 = some (2, 1) := by kernel_rfl
theorem tp181_0 : tplace E.P 181 0 = some (0, 1) := by kernel_rfl
theorem tp191_0 : tplace E.P 191 0 = some (0, 1) := by kernel_rfl
theorem tp206_0 : tplace E.P 206 0 = some (0, 1) := by kernel_rfl
theorem ta125 : tarr E.P 125 = some (2, 1) := by kernel_rfl
theorem tz3 : zeroA E.P 3 = some [.int .i64 0] := by kernel_rfl
theorem tz35 : zeroA E.P 35 = some [.int .i64 0, .str [], .int .i64 0, .own 35 0 []] := by kernel_rfl
theorem tz38 : zeroA E.P 38 = some [.int .i64 0, .str [], .int .i64 0, .int .i64 0, .str [], .int .i64 0, .own 35 0 [], .own 38 0 []] := by kernel_rfl
theorem tz42 : zeroA E.P 42 = some [.int .i64 0, .str [], .int .i64 0, .str [], .int .i64 0, .own 35 0 [], .int .i64 0, .str [], .int .i64 0, .int .i64 0, .str [], .int .i64 0, .own 35 0 [], .own 38 0 [], .own 42 0 [], .own 117 0 []] := by kernel_rfl
theorem tz47 : zeroA E.P 47 = some [.int .i64 0, .str [], .int .i64 0, .own 47 0 []] := by kernel_rfl
theorem tz50 : zeroA E.P 50 = some [.int .i64 0, .str [], .int .i64 0, .int .i64 0, .str [], .int .i64 0, .own 47 0 [], .own 50 0 []] := by kernel_rfl
theorem tz54 : zeroA E.P 54 = some [.int .i64 0, .str [], .int .i64 0, .str [], .int .i64 0, .own 47 0 [], .int .i64 0, .str [], .int .i64 0, .int .i64 0, .str [], .int .i64 0, .own 47 0 [], .own 50 0 [], .own 54 0 [], .own 119 0 []] := by kernel_rfl
theorem tz61 : zeroA E.P 61 = some [.int .i64 0, .str [], .bool false, .int .i64 0, .str [], .int .i64 0, .own 35 0 [], .own 61 0 [], .own 121 0 []] := by kernel_rfl
theorem tz66 : zeroA E.P 66 = some [.int .i64 0, .str [], .bool false, .int .i64 0, .str [], .int .i64 0, .own 47 0 [], .own 66 0 [], .own 128 0 []] := by kernel_rfl
theorem tz97 : zeroA E.P 97 = some [.own 163 0 [], .bool false] := by kernel_rfl
theorem tz117 : zeroA E.P 117 = some [.str [], .own 9 0 [], .own 9 0 [], .own 9 0 [], .int .i64 0, .str [], .int .i64 0, .str [], .int .i64 0, .own 35 0 [], .int .i64 0, .str [], .int .i64 0, .int .i64 0, .str [], .int .i64 0, .own 35 0 [], .own 38 0 [], .own 42 0 [], .own 117 0 []] := by kernel_rfl
theorem tz119 : zeroA E.P 119 = some [.str [], .own 9 0 [], .own 9 0 [], .own 9 0 [], .int .i64 0, .str [], .int .i64 0, .str [], .int .i64 0, .own 47 0 [], .int .i64 0, .str [], .int .i64 0, .int .i64 0, .str [], .int .i64 0, .own 47 0 [], .own 50 0 [], .own 54 0 [], .own 119 0 []] := by kernel_rfl
theorem tz121 : zeroA E.P 121 = some [.str [], .own 9 0 [], .int .i64 0, .str [], .bool false, .int .i64 0, .str [], .int .i64 0, .own 35 0 [], .own 61 0 [], .own 121 0 []] := by kernel_rfl
theorem tz125 : zeroA E.P 125 = some [.int .i64 0, .int .i64 0] := by kernel_rfl
theorem tz128 : zeroA E.P 128 = some [.str [], .own 9 0 [], .int .i64 0, .str [], .bool false, .int .i64 0, .str [], .int .i64 0, .own 47 0 [], .own 66 0 [], .own 128 0 []] := by kernel_rfl
theorem tz135 : zeroA E.P 135 = some [.own 163 0 [], .bool false] := by kernel_rfl
theorem tz163 : zeroA E.P 163 = some [.int .i64 0, .str [], .int .i64 0] := by kernel_rfl
theorem tz181 : zeroA E.P 181 = some [.nilp, .own 121 0 []] := by kernel_rfl
theorem tz191 : zeroA E.P 191 = some [.own 163 0 [], .bool false] := by kernel_rfl
theorem tz206 : zeroA E.P 206 = some [.own 163 0 []] := by kernel_rfl
theorem ti3 : tint E.P 3 = some .i64 := by kernel_rfl
theorem ti5 : tint E.P 5 = some .u8 := by kernel_rfl
theorem ti9 : tint E.P 9 = none := by kernel_rfl
theorem ti35 : tint E.P 35 = none := by kernel_rfl
theorem ti38 : tint E.P 38 = none := by kernel_rfl
theorem ti42 : tint E.P 42 = none := by kernel_rfl
theorem ti47 : tint E.P 47 = none := by kernel_rfl
theorem ti50 : tint E.P 50 = none := by kernel_rfl
theorem ti54 : tint E.P 54 = none := by kernel_rfl
theorem ti61 : tint E.P 61 = none := by kernel_rfl
theorem ti66 : tint E.P 66 = none := by kernel_rfl
theorem ti117 : tint E.P 117 = none := by kernel_rfl
theorem ti119 : tint E.P 119 = none := by kernel_rfl
theorem ti121 : tint E.P 121 = none := by kernel_rfl
theorem ti125 : tint E.P 125 = none := by kernel_rfl
theorem ti128 : tint E.P 128 = none := by kernel_rfl
theorem ti163 : tint E.P 163 = none := by kernel_rfl
theorem ti170 : tint E.P 170 = none := by kernel_rfl
theorem tst3 : tstring E.P 3 = false := by kernel_rfl
theorem tst5 : tstring E.P 5 = false := by kernel_rfl
theorem tst9 : tstring E.P 9 = true := by kernel_rfl
theorem tst33 : tstring E.P 33 = false := by kernel_rfl
theorem tst36 : tstring E.P 36 = false := by kernel_rfl
theorem tst39 : tstring E.P 39 = false := by kernel_rfl
theorem tst40 : tstring E.P 40 = false := by kernel_rfl
theorem tst45 : tstring E.P 45 = false := by kernel_rfl
theorem tst48 : tstring E.P 48 = false := by kernel_rfl
theorem tst51 : tstring E.P 51 = false := by kernel_rfl
theorem tst52 : tstring E.P 52 = false := by kernel_rfl
theorem tst58 : tstring E.P 58 = false := by kernel_rfl
theorem tst59 : tstring E.P 59 = false := by kernel_rfl
theorem tst63 : tstring E.P 63 = false := by kernel_rfl
theorem tst64 : tstring E.P 64 = false := by kernel_rfl
theorem tst78 : tstring E.P 78 = false := by kernel_rfl
theorem tst92 : tstring E.P 92 = false := by kernel_rfl
theorem tst126 : tstring E.P 126 = false := by kernel_rfl
theorem tst178 : tstring E.P 178 = false := by kernel_rfl
theorem tbo3 : tbool E.P 3 = false := by kernel_rfl
theorem tbo5 : tbool E.P 5 = false := by kernel_rfl
theorem tbo9 : tbool E.P 9 = false := by kernel_rfl
theorem tbo24 : tbool E.P 24 = false := by kernel_rfl
theorem tpt3 : tptr E.P 3 = false := by kernel_rfl
theorem tpt5 : tptr E.P 5 = false := by kernel_rfl
theorem tpt9 : tptr E.P 9 = false := by kernel_rfl
theorem tpt24 : tptr E.P 24 = false := by kernel_rfl
theorem tfo35 : fieldsOK E.P 35 = true := by kernel_rfl
theorem tfo38 : fieldsOK E.P 38 = true := by kernel_rfl
theorem tfo42 : fieldsOK E.P 42 = true := by kernel_rfl
theorem tfo47 : fieldsOK E.P 47 = true := by kernel_rfl
theorem tfo50 : fieldsOK E.P 50 = true := by kernel_rfl
theorem tfo54 : fieldsOK E.P 54 = true := by kernel_rfl
theorem tfo61 : fieldsOK E.P 61 = true := by kernel_rfl
theorem tfo66 : fieldsOK E.P 66 = true := by kernel_rfl
theorem tfo97 : fieldsOK E.P 97 = true := by kernel_rfl
theorem tfo117 : fieldsOK E.P 117 = true := by kernel_rfl
theorem tfo119 : fieldsOK E.P 119 = true := by kernel_rfl
theorem tfo121 : fieldsOK E.P 121 = true := by kernel_rfl
theorem tfo125 : fieldsOK E.P 125 = true := by kernel_rfl
theorem tfo128 : fieldsOK E.P 128 = true := by kernel_rfl
theorem tfo135 : fieldsOK E.P 135 = true := by kernel_rfl
theorem tfo163 : fieldsOK E.P 163 = true := by kernel_rfl
theorem tfo181 : fieldsOK E.P 181 = true := by kernel_rfl
theorem tfo191 : fieldsOK E.P 191 = true := by kernel_rfl
theorem tfo206 : fieldsOK E.P 206 = true := by kernel_rfl
theorem tze3 : tzero E.P 3 = some 1 := by kernel_rfl
theorem tze5 : tzero E.P 5 = some 1 := by kernel_rfl
theorem tze9 : tzero E.P 9 = some 1 := by kernel_rfl
theorem tze35 : tzero E.P 35 = some 4 := by kernel_rfl
theorem tze38 : tzero E.P 38 = some 8 := by kernel_rfl
theorem tze42 : tzero E.P 42 = some 16 := by kernel_rfl
theorem tze47 : tzero E.P 47 = some 4 := by kernel_rfl
theorem tze50 : tzero E.P 50 = some 8 := by kernel_rfl
theorem tze54 : tzero E.P 54 = some 16 := by kernel_rfl
theorem tze61 : tzero E.P 61 = some 9 := by kernel_rfl
theorem tze66 : tzero E.P 66 = some 9 := by kernel_rfl
theorem tze117 : tzero E.P 117 = some 20 := by kernel_rfl
theorem tze119 : tzero E.P 119 = some 20 := by kernel_rfl
theorem tze121 : tzero E.P 121 = some 11 := by kernel_rfl
theorem tze125 : tzero E.P 125 = some 2 := by kernel_rfl
theorem tze128 : tzero E.P 128 = some 11 := by kernel_rfl
theorem tze163 : tzero E.P 163 = some 3 := by kernel_rfl
theorem tu3 : (E.P.underlying 3).isSome = true := by kernel_rfl
theorem tu5 : (E.P.underlying 5).isSome = true := by kernel_rfl
theorem tu170 : (E.P.underlying 170).isSome = true := by kernel_rfl
theorem tby9 : (E.P.bytesOf 9 ≤ 32768) = True := by rw [show E.P.bytesOf 9 = 16 from by kernel_rfl]; simp
theorem tby35 : (E.P.bytesOf 35 ≤ 32768) = True := by rw [show E.P.bytesOf 35 = 56 from by kernel_rfl]; simp
theorem tby38 : (E.P.bytesOf 38 ≤ 32768) = True := by rw [show E.P.bytesOf 38 = 112 from by kernel_rfl]; simp
theorem tby47 : (E.P.bytesOf 47 ≤ 32768) = True := by rw [show E.P.bytesOf 47 = 56 from by kernel_rfl]; simp
theorem tby50 : (E.P.bytesOf 50 ≤ 32768) = True := by rw [show E.P.bytesOf 50 = 112 from by kernel_rfl]; simp
theorem tby61 : (E.P.bytesOf 61 ≤ 32768) = True := by rw [show E.P.bytesOf 61 = 136 from by kernel_rfl]; simp
theorem tby66 : (E.P.bytesOf 66 ≤ 32768) = True := by rw [show E.P.bytesOf 66 = 136 from by kernel_rfl]; simp
theorem tby117 : (E.P.bytesOf 117 ≤ 32768) = True := by rw [show E.P.bytesOf 117 = 328 from by kernel_rfl]; simp
theorem tby119 : (E.P.bytesOf 119 ≤ 32768) = True := by rw [show E.P.bytesOf 119 = 328 from by kernel_rfl]; simp
theorem tby121 : (E.P.bytesOf 121 ≤ 32768) = True := by rw [show E.P.bytesOf 121 = 176 from by kernel_rfl]; simp
theorem tby128 : (E.P.bytesOf 128 ≤ 32768) = True := by rw [show E.P.bytesOf 128 = 176 from by kernel_rfl]; simp
theorem tby163 : (E.P.bytesOf 163 ≤ 32768) = True := by rw [show E.P.bytesOf 163 = 32 from by kernel_rfl]; simp
attribute [go_sem] live_21_0 live_21_2 live_21_4 live_22_1 live_23_0 live_24_1 live_24_3 live_25_0 live_41_0 live_46_0 live_47_0 live_47_2 live_48_0 live_48_2 live_54_0 live_54_2 live_55_0 live_56_1 live_56_3 live_58_1 live_58_3 live_64_0 live_65_0 live_66_0 live_67_0 live_69_0 live_70_1 live_71_0 live_72_0 live_76_0 live_77_0 live_89_0 live_90_0 live_101_0 live_105_0 live_105_2 live_106_0 live_106_2 live_109_0 live_121_0
attribute [go_sem] live_137_0 live_138_0 live_141_0 live_149_0 live_153_0 live_154_0 live_155_0 live_161_0 live_166_0 live_166_3 live_166_5 live_170_0 live_170_2 live_170_4 live_172_0 live_179_0 live_179_2 live_180_0 live_181_0 drw_20_21 drw_21_8 drw_21_13 drw_21_17 drw_22_3 drw_22_5 drw_22_10 drw_22_16 drw_22_20 drw_24_6 drw_24_21 drw_24_23 drw_41_9 drw_41_10 drw_41_6 drw_52_11 drw_56_9 drw_56_13 drw_58_18 drw_58_19 drw_63_1
attribute [go_sem] drw_70_14 drw_70_17 drw_88_5 drw_104_4 drw_104_15 drw_104_20 drw_104_22 drw_104_24 drw_104_25 drw_105_31 drw_106_13 drw_107_12 drw_107_18 drw_116_3 drw_120_7 drw_122_0 drw_123_8 drw_148_5 drw_149_9 drw_149_11 drw_155_20 drw_166_18 drw_166_26 drw_170_3 drw_170_5 drw_170_7 drw_179_12 res_5 keep_5 res_15 keep_15 res_16 keep_16 res_19 keep_19 res_20 keep_20 res_21 keep_21 res_22
attribute [go_sem] keep_22 res_23 keep_23 res_24 keep_24 res_25 keep_25 res_26 keep_26 res_28 keep_28 res_41 keep_41 res_42 keep_42 res_43 keep_43 res_44 keep_44 res_45 keep_45 res_46 keep_46 res_47 keep_47 res_48 keep_48 res_49 keep_49 res_50 keep_50 res_51 keep_51 res_52 keep_52 res_53 keep_53 res_54 keep_54 res_55
attribute [go_sem] keep_55 res_56 keep_56 res_58 keep_58 res_62 keep_62 res_63 keep_63 res_64 keep_64 res_65 keep_65 res_66 keep_66 res_67 keep_67 res_68 keep_68 res_69 keep_69 res_70 keep_70 res_71 keep_71 res_72 keep_72 res_76 keep_76 res_77 keep_77 res_78 keep_78 res_88 keep_88 res_89 keep_89 res_90 keep_90 res_99
attribute [go_sem] keep_99 res_100 keep_100 res_101 keep_101 res_102 keep_102 res_103 keep_103 res_104 keep_104 res_105 keep_105 res_106 keep_106 res_107 keep_107 res_108 keep_108 res_109 keep_109 res_111 keep_111 res_112 keep_112 res_116 keep_116 res_117 keep_117 res_118 keep_118 res_119 keep_119 res_120 keep_120 res_121 keep_121 res_122 keep_122 res_123
attribute [go_sem] keep_123 res_124 keep_124 res_135 keep_135 res_136 keep_136 res_137 keep_137 res_138 keep_138 res_139 keep_139 res_140 keep_140 res_141 keep_141 res_142 keep_142 res_143 keep_143 res_144 keep_144 res_145 keep_145 res_146 keep_146 res_148 keep_148 res_149 keep_149 res_150 keep_150 res_151 keep_151 res_152 keep_152 res_153 keep_153 res_154
attribute [go_sem] keep_154 res_155 keep_155 res_156 keep_156 res_160 keep_160 res_161 keep_161 res_163 keep_163 res_164 keep_164 res_165 keep_165 res_166 keep_166 res_167 keep_167 res_169 keep_169 res_170 keep_170 res_171 keep_171 res_172 keep_172 res_178 keep_178 res_179 keep_179 res_180 keep_180 res_181 keep_181 res_188 keep_188 res_189 keep_189 drw_122_3
attribute [go_sem] ts3 ts4 ts5 ts9 ts33 ts35 ts36 ts38 ts39 ts40 ts42 ts45 ts47 ts48 ts50 ts51 ts52 ts54 ts58 ts59 ts61 ts63 ts64 ts66 ts78 ts92 ts97 ts117 ts119 ts121 ts125 ts128 ts133 ts135 ts163 ts181 ts191 ts206 tg3 tg4
attribute [go_sem] tg9 tg33 tg35 tg36 tg38 tg39 tg40 tg42 tg45 tg47 tg48 tg50 tg51 tg52 tg54 tg58 tg59 tg61 tg63 tg64 tg66 tg78 tg92 tg117 tg119 tg121 tg133 te1 te3 te4 te5 te9 te24 te33 te35 te36 te38 te39 te40 te42
attribute [go_sem] te43 te45 te47 te48 te50 te51 te52 te54 te55 te58 te59 te61 te62 te63 te64 te66 te69 te73 te78 te92 te93 te95 te98 te108 te111 te117 te119 te121 te122 te126 te133 te141 te149 te151 te152 te153 te170 te175 te176 te178
attribute [go_sem] te179 te183 te189 te193 te197 te204 te207 te215 tf35_0 tf35_1 tf35_2 tf35_3 tf38_0 tf38_1 tf38_2 tf38_3 tf38_4 tf42_0 tf42_1 tf42_2 tf42_3 tf42_4 tf42_5 tf47_0 tf47_1 tf47_2 tf47_3 tf50_0 tf50_1 tf50_2 tf50_3 tf50_4 tf54_0 tf54_1 tf54_2 tf54_3 tf54_4 tf54_5 tf61_0 tf61_1
attribute [go_sem] tf61_2 tf61_3 tf61_4 tf61_5 tf66_0 tf66_1 tf66_2 tf66_3 tf66_4 tf66_5 tf97_0 tf97_1 tf117_0 tf117_1 tf117_2 tf117_3 tf117_4 tf119_0 tf119_1 tf119_2 tf119_3 tf119_4 tf121_0 tf121_1 tf121_2 tf128_0 tf128_1 tf128_2 tf135_0 tf135_1 tf163_0 tf163_1 tf181_0 tf181_1 tf191_0 tf191_1 tf206_0 tp35_0 tp35_1 tp35_2
attribute [go_sem] tp35_3 tp38_0 tp38_1 tp38_3 tp42_0 tp42_1 tp42_2 tp42_3 tp42_4 tp47_0 tp47_1 tp47_2 tp47_3 tp50_0 tp50_1 tp50_3 tp54_0 tp54_1 tp54_2 tp54_3 tp54_4 tp61_0 tp61_1 tp61_3 tp61_4 tp61_5 tp66_1 tp97_0 tp117_0 tp119_0 tp121_0 tp121_1 tp121_2 tp125_0 tp125_1 tp128_0 tp128_1 tp128_2 tp135_0 tp163_0
attribute [go_sem] tp163_1 tp163_2 tp181_0 tp191_0 tp206_0 ta125 tz3 tz35 tz38 tz42 tz47 tz50 tz54 tz61 tz66 tz97 tz117 tz119 tz121 tz125 tz128 tz135 tz163 tz181 tz191 tz206 ti3 ti5 ti9 ti35 ti38 ti42 ti47 ti50 ti54 ti61 ti66 ti117 ti119 ti121
attribute [go_sem] ti125 ti128 ti163 ti170 tst3 tst5 tst9 tst33 tst36 tst39 tst40 tst45 tst48 tst51 tst52 tst58 tst59 tst63 tst64 tst78 tst92 tst126 tst178 tbo3 tbo5 tbo9 tbo24 tpt3 tpt5 tpt9 tpt24 tfo35 tfo38 tfo42 tfo47 tfo50 tfo54 tfo61 tfo66 tfo97
attribute [go_sem] tfo117 tfo119 tfo121 tfo125 tfo128 tfo135 tfo163 tfo181 tfo191 tfo206 tze3 tze5 tze9 tze35 tze38 tze42 tze47 tze50 tze54 tze61 tze66 tze117 tze119 tze121 tze125 tze128 tze163 tu3 tu5 tu170 tby9 tby35 tby38 tby47 tby50 tby61 tby66 tby117 tby119 tby121
attribute [go_sem] tby128 tby163
end Go.Proofs
