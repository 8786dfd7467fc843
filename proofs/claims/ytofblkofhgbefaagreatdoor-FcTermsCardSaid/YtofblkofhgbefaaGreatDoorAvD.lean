/- The program as the abstract machine sees it: what is alive at each loop, which operations may be drawn, sizes of types. -/
import Derived.Test.YtofblkofhgbefaaGreatDoorAvC
import Derived.Test.YtofblkofhgbefaaGreatDoorProg
import Derived.KernelRfl
namespace Go.Proofs
open Go.Av
def liveT : List (Nat × (List Nat × List Nat)) := [(11000, ([7, 8, 9], [25])),
  (11002, ([8, 59, 60, 61], [])),
  (12000, ([4, 7, 8, 9], [])),
  (12002, ([7, 13], [])),
  (13000, ([3, 6, 7, 8], [])),
  (14000, ([0, 3, 4], [])),
  (17001, ([1, 3, 128, 129, 130], [1])),
  (18001, ([1, 3, 4], [1])),
  (18003, ([1, 3, 4, 5, 6], [1, 5])),
  (18005, ([1, 3, 4, 5, 7], [1, 5])),
  (18007, ([1, 3, 4, 5, 8], [1, 5])),
  (41000, ([1, 2, 3, 5], [1, 3])),
  (46000, ([3, 7, 8, 9], [])),
  (47000, ([1, 2, 34, 35, 36], [2])),
  (47002, ([1, 46, 47, 48], [])),
  (48000, ([0, 5, 6], [])),
  (48002, ([0, 5, 6], [])),
  (54000, ([1, 2, 6], [2])),
  (54002, ([1, 2, 8], [2])),
  (55000, ([1, 3, 4], [1])),
  (56001, ([3, 22, 23, 24], [])),
  (56003, ([6, 7], [7])),
  (58001, ([1, 3, 4], [1])),
  (58003, ([6, 7], [7])),
  (59002, ([1, 3, 42, 43, 44], [1])),
  (60000, ([1, 3, 12, 13, 14], [1])),
  (60002, ([1, 3, 25, 26, 27], [1])),
  (61000, ([1, 4, 5], [1])),
  (89000, ([2, 3, 20, 21, 22], [])),
  (90000, ([0, 4, 12, 13, 14], [4, 12])),
  (101000, ([0, 3, 4], [])),
  (105000, ([0, 1, 7], [])),
  (105002, ([0, 1, 11, 12], [])),
  (106000, ([0, 1, 4, 7], [4])),
  (106002, ([0, 1, 4, 9, 10, 11], [4, 9])),
  (109000, ([1, 2, 5], [2])),
  (137000, ([0, 3, 4], [])),
  (138000, ([0, 3, 4], [])),
  (141000, ([0, 1, 5], [])),
  (149000, ([0, 2, 3], [2, 3])),
  (153000, ([0, 1, 5], [])),
  (154000, ([0, 4, 7, 8], [4, 7])),
  (155000, ([0, 4, 7, 8, 10], [4, 8])),
  (166000, ([0, 2, 3, 4, 5], [2, 3])),
  (166003, ([0, 2, 3, 6], [2, 3])),
  (166005, ([0, 2, 3, 6, 7], [2, 3])),
  (170000, ([0, 2, 3], [2, 3])),
  (170002, ([0, 2, 3], [2, 3])),
  (170004, ([0, 2, 3], [2, 3])),
  (172000, ([0, 1, 2, 8, 9], [])),
  (179000, ([0, 2, 4], [2])),
  (179002, ([2, 4, 9, 10, 11], [2, 9])),
  (180000, ([0, 2, 6], [2, 6])),
  (181000, ([0, 3, 4], []))]
def drwT : List (Nat × List (Nat × Nat)) := [(11011, [(2, 4)]),
  (13005, [(2, 6), (2, 11), (10, 6)]),
  (14007, [(5, 13), (5, 21), (20, 13)]),
  (17006, [(1, 6), (1, 13), (10, 6), (12, 6)]),
  (17008, [(1, 8)]),
  (17010, [(8, 4), (10, 4)]),
  (17012, [(8, 4)]),
  (17014, [(8, 4)]),
  (17016, [(8, 4)]),
  (17018, [(1, 6), (1, 13), (1, 20), (10, 6), (12, 6), (17, 6), (17, 13), (19, 6), (19, 13)]),
  (17025, [(8, 4)]),
  (18006, [(1, 6), (1, 13), (10, 6), (12, 6)]),
  (18008, [(1, 8)]),
  (18010, [(8, 4), (10, 4)]),
  (18012, [(8, 4)]),
  (18014, [(8, 4)]),
  (18016, [(8, 4)]),
  (18018, [(1, 6), (1, 13), (1, 20), (10, 6), (12, 6), (17, 6), (17, 13), (19, 6), (19, 13)]),
  (18019, [(8, 4)]),
  (41009, []),
  (41010, []),
  (41006, [(0, 4)]),
  (52011, [(0, 3)]),
  (56009, [(1, 3)]),
  (56013, [(13, 10), (15, 10)]),
  (58018, [(8, 4), (10, 4)]),
  (58019, [(7, 4), (9, 4)]),
  (60013, [(4, 1)]),
  (88005, [(4, 5)]),
  (104004, [(1, 3)]),
  (104015, [(1, 4), (2, 4)]),
  (104020, [(2, 1)]),
  (104022, [(2, 1)]),
  (104024, [(2, 1)]),
  (104025, [(0, 2)]),
  (105031, []),
  (106013, []),
  (107012, [(4, 3)]),
  (107018, [(4, 3), (5, 3), (6, 3)]),
  (116003, []),
  (148005, [(4, 5)]),
  (149009, [(1, 3)]),
  (149011, [(1, 3)]),
  (155020, [(0, 3)]),
  (166018, [(1, 3)]),
  (166026, [(1, 3)]),
  (170003, [(1, 3)]),
  (170005, [(1, 3)]),
  (170007, [(1, 3)]),
  (179012, [])]
def keepT : List Nat := []
def primT : List (Nat × (List AVal → Heap → Option (AVal × Heap))) := [(57, joinP), (110, itoaP), (176, atoiP), (147, indexByteP)]
noncomputable def E : Env := { P := Tryz.prog, live := fun f id => alGet liveT (f * 1000 + id), drw := fun f id => alGet drwT (f * 1000 + id), keep := fun f => keepT.contains f, prim := fun f => alGet primT f }
theorem live_11_0 : E.live 11 0 = some ([7, 8, 9], [25]) := by kernel_rfl
theorem live_11_2 : E.live 11 2 = some ([8, 59, 60, 61], []) := by kernel_rfl
theorem live_12_0 : E.live 12 0 = some ([4, 7, 8, 9], []) := by kernel_rfl
theorem live_12_2 : E.live 12 2 = some ([7, 13], []) := by kernel_rfl
theorem live_13_0 : E.live 13 0 = some ([3, 6, 7, 8], []) := by kernel_rfl
theorem live_14_0 : E.live 14 0 = some ([0, 3, 4], []) := by kernel_rfl
theorem live_17_1 : E.live 17 1 = some ([1, 3, 128, 129, 130], [1]) := by kernel_rfl
theorem live_18_1 : E.live 18 1 = some ([1, 3, 4], [1]) := by kernel_rfl
theorem live_18_3 : E.live 18 3 = some ([1, 3, 4, 5, 6], [1, 5]) := by kernel_rfl
theorem live_18_5 : E.live 18 5 = some ([1, 3, 4, 5, 7], [1, 5]) := by kernel_rfl
theorem live_18_7 : E.live 18 7 = some ([1, 3, 4, 5, 8], [1, 5]) := by kernel_rfl
theorem live_41_0 : E.live 41 0 = some ([1, 2, 3, 5], [1, 3]) := by kernel_rfl
theorem live_46_0 : E.live 46 0 = some ([3, 7, 8, 9], []) := by kernel_rfl
theorem live_47_0 : E.live 47 0 = some ([1, 2, 34, 35, 36], [2]) := by kernel_rfl
theorem live_47_2 : E.live 47 2 = some ([1, 46, 47, 48], []) := by kernel_rfl
theorem live_48_0 : E.live 48 0 = some ([0, 5, 6], []) := by kernel_rfl
theorem live_48_2 : E.live 48 2 = some ([0, 5, 6], []) := by kernel_rfl
theorem live_54_0 : E.live 54 0 = some ([1, 2, 6], [2]) := by kernel_rfl
theorem live_54_2 : E.live 54 2 = some ([1, 2, 8], [2]) := by kernel_rfl
theorem live_55_0 : E.live 55 0 = some ([1, 3, 4], [1]) := by kernel_rfl
theorem live_56_1 : E.live 56 1 = some ([3, 22, 23, 24], []) := by kernel_rfl
theorem live_56_3 : E.live 56 3 = some ([6, 7], [7]) := by kernel_rfl
theorem live_58_1 : E.live 58 1 = some ([1, 3, 4], [1]) := by kernel_rfl
theorem live_58_3 : E.live 58 3 = some ([6, 7], [7]) := by kernel_rfl
theorem live_59_2 : E.live 59 2 = some ([1, 3, 42, 43, 44], [1]) := by kernel_rfl
theorem live_60_0 : E.live 60 0 = some ([1, 3, 12, 13, 14], [1]) := by kernel_rfl
theorem live_60_2 : E.live 60 2 = some ([1, 3, 25, 26, 27], [1]) := by kernel_rfl
theorem live_61_0 : E.live 61 0 = some ([1, 4, 5], [1]) := by kernel_rfl
theorem live_89_0 : E.live 89 0 = some ([2, 3, 20, 21, 22], []) := by kernel_rfl
theorem live_90_0 : E.live 90 0 = some ([0, 4, 12, 13, 14], [4, 12]) := by kernel_rfl
theorem live_101_0 : E.live 101 0 = some ([0, 3, 4], []) := by kernel_rfl
theorem live_105_0 : E.live 105 0 = some ([0, 1, 7], []) := by kernel_rfl
theorem live_105_2 : E.live 105 2 = some ([0, 1, 11, 12], []) := by kernel_rfl
theorem live_106_0 : E.live 106 0 = some ([0, 1, 4, 7], [4]) := by kernel_rfl
theorem live_106_2 : E.live 106 2 = some ([0, 1, 4, 9, 10, 11], [4, 9]) := by kernel_rfl
theorem live_109_0 : E.live 109 0 = some ([1, 2, 5], [2]) := by kernel_rfl
theorem live_137_0 : E.live 137 0 = some ([0, 3, 4], []) := by kernel_rfl
theorem live_138_0 : E.live 138 0 = some ([0, 3, 4], []) := by kernel_rfl
theorem live_141_0 : E.live 141 0 = some ([0, 1, 5], []) := by kernel_rfl
theorem live_149_0 : E.live 149 0 = some ([0, 2, 3], [2, 3]) := by kernel_rfl
theorem live_153_0 : E.live 153 0 = some ([0, 1, 5], []) := by kernel_rfl
theorem live_154_0 : E.live 154 0 = some ([0, 4, 7, 8], [4, 7]) := by kernel_rfl
theorem live_155_0 : E.live 155 0 = some ([0, 4, 7, 8, 10], [4, 8]) := by kernel_rfl
theorem live_166_0 : E.live 166 0 = some ([0, 2, 3, 4, 5], [2, 3]) := by kernel_rfl
theorem live_166_3 : E.live 166 3 = some ([0, 2, 3, 6], [2, 3]) := by kernel_rfl
theorem live_166_5 : E.live 166 5 = some ([0, 2, 3, 6, 7], [2, 3]) := by kernel_rfl
theorem live_170_0 : E.live 170 0 = some ([0, 2, 3], [2, 3]) := by kernel_rfl
theorem live_170_2 : E.live 170 2 = some ([0, 2, 3], [2, 3]) := by kernel_rfl
theorem live_170_4 : E.live 170 4 = some ([0, 2, 3], [2, 3]) := by kernel_rfl
theorem live_172_0 : E.live 172 0 = some ([0, 1, 2, 8, 9], []) := by kernel_rfl
theorem live_179_0 : E.live 179 0 = some ([0, 2, 4], [2]) := by kernel_rfl
theorem live_179_2 : E.live 179 2 = some ([2, 4, 9, 10, 11], [2, 9]) := by kernel_rfl
theorem live_180_0 : E.live 180 0 = some ([0, 2, 6], [2, 6]) := by kernel_rfl
theorem live_181_0 : E.live 181 0 = some ([0, 3, 4], []) := by kernel_rfl
theorem drw_11_11 : E.drw 11 11 = some [(2, 4)] := by kernel_rfl
theorem drw_13_5 : E.drw 13 5 = some [(2, 6), (2, 11), (10, 6)] := by kernel_rfl
theorem drw_14_7 : E.drw 14 7 = some [(5, 13), (5, 21), (20, 13)] := by kernel_rfl
theorem drw_17_6 : E.drw 17 6 = some [(1, 6), (1, 13), (10, 6), (12, 6)] := by kernel_rfl
theorem drw_17_8 : E.drw 17 8 = some [(1, 8)] := by kernel_rfl
theorem drw_17_10 : E.drw 17 10 = some [(8, 4), (10, 4)] := by kernel_rfl
theorem drw_17_12 : E.drw 17 12 = some [(8, 4)] := by kernel_rfl
theorem drw_17_14 : E.drw 17 14 = some [(8, 4)] := by kernel_rfl
theorem drw_17_16 : E.drw 17 16 = some [(8, 4)] := by kernel_rfl
theorem drw_17_18 : E.drw 17 18 = some [(1, 6), (1, 13), (1, 20), (10, 6), (12, 6), (17, 6), (17, 13), (19, 6), (19, 13)] := by kernel_rfl
theorem drw_17_25 : E.drw 17 25 = some [(8, 4)] := by kernel_rfl
theorem drw_18_6 : E.drw 18 6 = some [(1, 6), (1, 13), (10, 6), (12, 6)] := by kernel_rfl
theorem drw_18_8 : E.drw 18 8 = some [(1, 8)] := by kernel_rfl
theorem drw_18_10 : E.drw 18 10 = some [(8, 4), (10, 4)] := by kernel_rfl
theorem drw_18_12 : E.drw 18 12 = some [(8, 4)] := by kernel_rfl
theorem drw_18_14 : E.drw 18 14 = some [(8, 4)] := by kernel_rfl
theorem drw_18_16 : E.drw 18 16 = some [(8, 4)] := by kernel_rfl
theorem drw_18_18 : E.drw 18 18 = some [(1, 6), (1, 13), (1, 20), (10, 6), (12, 6), (17, 6), (17, 13), (19, 6), (19, 13)] := by kernel_rfl
theorem drw_18_19 : E.drw 18 19 = some [(8, 4)] := by kernel_rfl
theorem drw_41_9 : E.drw 41 9 = some [] := by kernel_rfl
theorem drw_41_10 : E.drw 41 10 = some [] := by kernel_rfl
theorem drw_41_6 : E.drw 41 6 = some [(0, 4)] := by kernel_rfl
theorem drw_52_11 : E.drw 52 11 = some [(0, 3)] := by kernel_rfl
theorem drw_56_9 : E.drw 56 9 = some [(1, 3)] := by kernel_rfl
theorem drw_56_13 : E.drw 56 13 = some [(13, 10), (15, 10)] := by kernel_rfl
theorem drw_58_18 : E.drw 58 18 = some [(8, 4), (10, 4)] := by kernel_rfl
theorem drw_58_19 : E.drw 58 19 = some [(7, 4), (9, 4)] := by kernel_rfl
theorem drw_60_13 : E.drw 60 13 = some [(4, 1)] := by kernel_rfl
theorem drw_88_5 : E.drw 88 5 = some [(4, 5)] := by kernel_rfl
theorem drw_104_4 : E.drw 104 4 = some [(1, 3)] := by kernel_rfl
theorem drw_104_15 : E.drw 104 15 = some [(1, 4), (2, 4)] := by kernel_rfl
theorem drw_104_20 : E.drw 104 20 = some [(2, 1)] := by kernel_rfl
theorem drw_104_22 : E.drw 104 22 = some [(2, 1)] := by kernel_rfl
theorem drw_104_24 : E.drw 104 24 = some [(2, 1)] := by kernel_rfl
theorem drw_104_25 : E.drw 104 25 = some [(0, 2)] := by kernel_rfl
theorem drw_105_31 : E.drw 105 31 = some [] := by kernel_rfl
theorem drw_106_13 : E.drw 106 13 = some [] := by kernel_rfl
theorem drw_107_12 : E.drw 107 12 = some [(4, 3)] := by kernel_rfl
theorem drw_107_18 : E.drw 107 18 = some [(4, 3), (5, 3), (6, 3)] := by kernel_rfl
theorem drw_116_3 : E.drw 116 3 = some [] := by kernel_rfl
theorem drw_148_5 : E.drw 148 5 = some [(4, 5)] := by kernel_rfl
theorem drw_149_9 : E.drw 149 9 = some [(1, 3)] := by kernel_rfl
theorem drw_149_11 : E.drw 149 11 = some [(1, 3)] := by kernel_rfl
theorem drw_155_20 : E.drw 155 20 = some [(0, 3)] := by kernel_rfl
theorem drw_166_18 : E.drw 166 18 = some [(1, 3)] := by kernel_rfl
theorem drw_166_26 : E.drw 166 26 = some [(1, 3)] := by kernel_rfl
theorem drw_170_3 : E.drw 170 3 = some [(1, 3)] := by kernel_rfl
theorem drw_170_5 : E.drw 170 5 = some [(1, 3)] := by kernel_rfl
theorem drw_170_7 : E.drw 170 7 = some [(1, 3)] := by kernel_rfl
theorem drw_179_12 : E.drw 179 12 = some [] := by kernel_rfl
theorem body_3 : bodyOf E 3 = Tryz.f3.body := by kernel_rfl
theorem prim_3 : E.prim 3 = none := by kernel_rfl
theorem res_3 : resOf E 3 = some [.tmp 2] := by kernel_rfl
theorem keep_3 : E.keep 3 = false := by kernel_rfl
theorem body_4 : bodyOf E 4 = Tryz.f4.body := by kernel_rfl
theorem prim_4 : E.prim 4 = none := by kernel_rfl
theorem res_4 : resOf E 4 = some [.tmp 2] := by kernel_rfl
theorem keep_4 : E.keep 4 = false := by kernel_rfl
theorem body_10 : bodyOf E 10 = Tryz.f10.body := by kernel_rfl
theorem prim_10 : E.prim 10 = none := by kernel_rfl
theorem res_10 : resOf E 10 = some [.tmp 0] := by kernel_rfl
theorem keep_10 : E.keep 10 = false := by kernel_rfl
theorem body_11 : bodyOf E 11 = Tryz.f11.body := by kernel_rfl
theorem prim_11 : E.prim 11 = none := by kernel_rfl
theorem res_11 : resOf E 11 = some [.tmp 2, .tmp 3] := by kernel_rfl
theorem keep_11 : E.keep 11 = false := by kernel_rfl
theorem body_12 : bodyOf E 12 = Tryz.f12.body := by kernel_rfl
theorem prim_12 : E.prim 12 = none := by kernel_rfl
theorem res_12 : resOf E 12 = some [.tmp 2, .tmp 3] := by kernel_rfl
theorem keep_12 : E.keep 12 = false := by kernel_rfl
theorem body_13 : bodyOf E 13 = Tryz.f13.body := by kernel_rfl
theorem prim_13 : E.prim 13 = none := by kernel_rfl
theorem res_13 : resOf E 13 = some [.tmp 2] := by kernel_rfl
theorem keep_13 : E.keep 13 = false := by kernel_rfl
theorem body_14 : bodyOf E 14 = Tryz.f14.body := by kernel_rfl
theorem prim_14 : E.prim 14 = none := by kernel_rfl
theorem res_14 : resOf E 14 = some [.tmp 2] := by kernel_rfl
theorem keep_14 : E.keep 14 = false := by kernel_rfl
theorem body_15 : bodyOf E 15 = Tryz.f15.body := by kernel_rfl
theorem prim_15 : E.prim 15 = none := by kernel_rfl
theorem res_15 : resOf E 15 = some [.cell 2 42, .tmp 3] := by kernel_rfl
theorem keep_15 : E.keep 15 = false := by kernel_rfl
theorem body_16 : bodyOf E 16 = Tryz.f16.body := by kernel_rfl
theorem prim_16 : E.prim 16 = none := by kernel_rfl
theorem res_16 : resOf E 16 = some [.cell 2 54, .tmp 3] := by kernel_rfl
theorem keep_16 : E.keep 16 = false := by kernel_rfl
theorem body_17 : bodyOf E 17 = Tryz.f17.body := by kernel_rfl
theorem prim_17 : E.prim 17 = none := by kernel_rfl
theorem res_17 : resOf E 17 = some [.tmp 2] := by kernel_rfl
theorem keep_17 : E.keep 17 = false := by kernel_rfl
theorem body_18 : bodyOf E 18 = Tryz.f18.body := by kernel_rfl
theorem prim_18 : E.prim 18 = none := by kernel_rfl
theorem res_18 : resOf E 18 = some [.tmp 2] := by kernel_rfl
theorem keep_18 : E.keep 18 = false := by kernel_rfl
theorem body_40 : bodyOf E 40 = Tryz.f40.body := by kernel_rfl
theorem prim_40 : E.prim 40 = none := by kernel_rfl
theorem res_40 : resOf E 40 = some [.tmp 2] := by kernel_rfl
theorem keep_40 : E.keep 40 = false := by kernel_rfl
theorem body_41 : bodyOf E 41 = Tryz.f41.body := by kernel_rfl
theorem prim_41 : E.prim 41 = none := by kernel_rfl
theorem res_41 : resOf E 41 = some [.tmp 2, .cell 3 3, .tmp 4] := by kernel_rfl
theorem keep_41 : E.keep 41 = false := by kernel_rfl
theorem body_42 : bodyOf E 42 = Tryz.f42.body := by kernel_rfl
theorem prim_42 : E.prim 42 = none := by kernel_rfl
theorem res_42 : resOf E 42 = some [.tmp 4] := by kernel_rfl
theorem keep_42 : E.keep 42 = false := by kernel_rfl
theorem body_43 : bodyOf E 43 = Tryz.f43.body := by kernel_rfl
theorem prim_43 : E.prim 43 = none := by kernel_rfl
theorem res_43 : resOf E 43 = some [.tmp 2, .cell 3 35] := by kernel_rfl
theorem keep_43 : E.keep 43 = false := by kernel_rfl
theorem body_44 : bodyOf E 44 = Tryz.f44.body := by kernel_rfl
theorem prim_44 : E.prim 44 = none := by kernel_rfl
theorem res_44 : resOf E 44 = some [.tmp 6] := by kernel_rfl
theorem keep_44 : E.keep 44 = false := by kernel_rfl
theorem body_45 : bodyOf E 45 = Tryz.f45.body := by kernel_rfl
theorem prim_45 : E.prim 45 = none := by kernel_rfl
theorem res_45 : resOf E 45 = some [.cell 2 42] := by kernel_rfl
theorem keep_45 : E.keep 45 = false := by kernel_rfl
theorem body_46 : bodyOf E 46 = Tryz.f46.body := by kernel_rfl
theorem prim_46 : E.prim 46 = none := by kernel_rfl
theorem res_46 : resOf E 46 = some [.tmp 2] := by kernel_rfl
theorem keep_46 : E.keep 46 = false := by kernel_rfl
theorem body_47 : bodyOf E 47 = Tryz.f47.body := by kernel_rfl
theorem prim_47 : E.prim 47 = none := by kernel_rfl
theorem res_47 : resOf E 47 = some [.tmp 4] := by kernel_rfl
theorem keep_47 : E.keep 47 = false := by kernel_rfl
theorem body_48 : bodyOf E 48 = Tryz.f48.body := by kernel_rfl
theorem prim_48 : E.prim 48 = none := by kernel_rfl
theorem res_48 : resOf E 48 = some [.tmp 2, .tmp 3, .tmp 4] := by kernel_rfl
theorem keep_48 : E.keep 48 = false := by kernel_rfl
theorem body_49 : bodyOf E 49 = Tryz.f49.body := by kernel_rfl
theorem prim_49 : E.prim 49 = none := by kernel_rfl
theorem res_49 : resOf E 49 = some [.tmp 4] := by kernel_rfl
theorem keep_49 : E.keep 49 = false := by kernel_rfl
theorem body_50 : bodyOf E 50 = Tryz.f50.body := by kernel_rfl
theorem prim_50 : E.prim 50 = none := by kernel_rfl
theorem res_50 : resOf E 50 = some [.cell 4 47, .tmp 5] := by kernel_rfl
theorem keep_50 : E.keep 50 = false := by kernel_rfl
theorem body_51 : bodyOf E 51 = Tryz.f51.body := by kernel_rfl
theorem prim_51 : E.prim 51 = none := by kernel_rfl
theorem res_51 : resOf E 51 = some [.tmp 8] := by kernel_rfl
theorem keep_51 : E.keep 51 = false := by kernel_rfl
theorem body_52 : bodyOf E 52 = Tryz.f52.body := by kernel_rfl
theorem prim_52 : E.prim 52 = none := by kernel_rfl
theorem res_52 : resOf E 52 = some [.cell 4 54, .tmp 5] := by kernel_rfl
theorem keep_52 : E.keep 52 = false := by kernel_rfl
theorem body_53 : bodyOf E 53 = Tryz.f53.body := by kernel_rfl
theorem prim_53 : E.prim 53 = none := by kernel_rfl
theorem res_53 : resOf E 53 = some [.tmp 8] := by kernel_rfl
theorem keep_53 : E.keep 53 = false := by kernel_rfl
theorem body_54 : bodyOf E 54 = Tryz.f54.body := by kernel_rfl
theorem prim_54 : E.prim 54 = none := by kernel_rfl
theorem res_54 : resOf E 54 = some [.tmp 4] := by kernel_rfl
theorem keep_54 : E.keep 54 = false := by kernel_rfl
theorem body_55 : bodyOf E 55 = Tryz.f55.body := by kernel_rfl
theorem prim_55 : E.prim 55 = none := by kernel_rfl
theorem res_55 : resOf E 55 = some [.tmp 2] := by kernel_rfl
theorem keep_55 : E.keep 55 = false := by kernel_rfl
theorem body_56 : bodyOf E 56 = Tryz.f56.body := by kernel_rfl
theorem prim_56 : E.prim 56 = none := by kernel_rfl
theorem res_56 : resOf E 56 = some [.tmp 2] := by kernel_rfl
theorem keep_56 : E.keep 56 = false := by kernel_rfl
theorem body_58 : bodyOf E 58 = Tryz.f58.body := by kernel_rfl
theorem prim_58 : E.prim 58 = none := by kernel_rfl
theorem res_58 : resOf E 58 = some [.tmp 2] := by kernel_rfl
theorem keep_58 : E.keep 58 = false := by kernel_rfl
theorem body_59 : bodyOf E 59 = Tryz.f59.body := by kernel_rfl
theorem prim_59 : E.prim 59 = none := by kernel_rfl
theorem res_59 : resOf E 59 = some [.tmp 2] := by kernel_rfl
theorem keep_59 : E.keep 59 = false := by kernel_rfl
theorem body_60 : bodyOf E 60 = Tryz.f60.body := by kernel_rfl
theorem prim_60 : E.prim 60 = none := by kernel_rfl
theorem res_60 : resOf E 60 = some [.tmp 2] := by kernel_rfl
theorem keep_60 : E.keep 60 = false := by kernel_rfl
theorem body_61 : bodyOf E 61 = Tryz.f61.body := by kernel_rfl
theorem prim_61 : E.prim 61 = none := by kernel_rfl
theorem res_61 : resOf E 61 = some [.tmp 2] := by kernel_rfl
theorem keep_61 : E.keep 61 = false := by kernel_rfl
theorem body_88 : bodyOf E 88 = Tryz.f88.body := by kernel_rfl
theorem prim_88 : E.prim 88 = none := by kernel_rfl
theorem res_88 : resOf E 88 = some [.cell 2 38, .tmp 3, .tmp 4] := by kernel_rfl
theorem keep_88 : E.keep 88 = false := by kernel_rfl
theorem body_89 : bodyOf E 89 = Tryz.f89.body := by kernel_rfl
theorem prim_89 : E.prim 89 = none := by kernel_rfl
theorem res_89 : resOf E 89 = some [.tmp 2, .tmp 3] := by kernel_rfl
theorem keep_89 : E.keep 89 = false := by kernel_rfl
theorem body_90 : bodyOf E 90 = Tryz.f90.body := by kernel_rfl
theorem prim_90 : E.prim 90 = none := by kernel_rfl
theorem res_90 : resOf E 90 = some [.cell 4 50, .tmp 5] := by kernel_rfl
theorem keep_90 : E.keep 90 = false := by kernel_rfl
theorem body_99 : bodyOf E 99 = Tryz.f99.body := by kernel_rfl
theorem prim_99 : E.prim 99 = none := by kernel_rfl
theorem res_99 : resOf E 99 = some [.tmp 2, .tmp 3] := by kernel_rfl
theorem keep_99 : E.keep 99 = false := by kernel_rfl
theorem body_100 : bodyOf E 100 = Tryz.f100.body := by kernel_rfl
theorem prim_100 : E.prim 100 = none := by kernel_rfl
theorem res_100 : resOf E 100 = some [.tmp 2, .tmp 3] := by kernel_rfl
theorem keep_100 : E.keep 100 = false := by kernel_rfl
theorem body_101 : bodyOf E 101 = Tryz.f101.body := by kernel_rfl
theorem prim_101 : E.prim 101 = none := by kernel_rfl
theorem res_101 : resOf E 101 = some [.tmp 2] := by kernel_rfl
theorem keep_101 : E.keep 101 = false := by kernel_rfl
theorem body_102 : bodyOf E 102 = Tryz.f102.body := by kernel_rfl
theorem prim_102 : E.prim 102 = none := by kernel_rfl
theorem res_102 : resOf E 102 = some [.tmp 6] := by kernel_rfl
theorem keep_102 : E.keep 102 = false := by kernel_rfl
theorem body_103 : bodyOf E 103 = Tryz.f103.body := by kernel_rfl
theorem prim_103 : E.prim 103 = none := by kernel_rfl
theorem res_103 : resOf E 103 = some [.cell 2 35] := by kernel_rfl
theorem keep_103 : E.keep 103 = false := by kernel_rfl
theorem body_104 : bodyOf E 104 = Tryz.f104.body := by kernel_rfl
theorem prim_104 : E.prim 104 = none := by kernel_rfl
theorem res_104 : resOf E 104 = some [.cell 2 42] := by kernel_rfl
theorem keep_104 : E.keep 104 = false := by kernel_rfl
theorem body_105 : bodyOf E 105 = Tryz.f105.body := by kernel_rfl
theorem prim_105 : E.prim 105 = none := by kernel_rfl
theorem res_105 : resOf E 105 = some [.tmp 4, .tmp 5] := by kernel_rfl
theorem keep_105 : E.keep 105 = false := by kernel_rfl
theorem body_106 : bodyOf E 106 = Tryz.f106.body := by kernel_rfl
theorem prim_106 : E.prim 106 = none := by kernel_rfl
theorem res_106 : resOf E 106 = some [.cell 4 47, .tmp 5] := by kernel_rfl
theorem keep_106 : E.keep 106 = false := by kernel_rfl
theorem body_107 : bodyOf E 107 = Tryz.f107.body := by kernel_rfl
theorem prim_107 : E.prim 107 = none := by kernel_rfl
theorem res_107 : resOf E 107 = some [.cell 4 54, .tmp 5] := by kernel_rfl
theorem keep_107 : E.keep 107 = false := by kernel_rfl
theorem body_108 : bodyOf E 108 = Tryz.f108.body := by kernel_rfl
theorem prim_108 : E.prim 108 = none := by kernel_rfl
theorem res_108 : resOf E 108 = some [.tmp 8] := by kernel_rfl
theorem keep_108 : E.keep 108 = false := by kernel_rfl
theorem body_109 : bodyOf E 109 = Tryz.f109.body := by kernel_rfl
theorem prim_109 : E.prim 109 = none := by kernel_rfl
theorem res_109 : resOf E 109 = some [.tmp 4] := by kernel_rfl
theorem keep_109 : E.keep 109 = false := by kernel_rfl
theorem body_111 : bodyOf E 111 = Tryz.f111.body := by kernel_rfl
theorem prim_111 : E.prim 111 = none := by kernel_rfl
theorem res_111 : resOf E 111 = some [.tmp 4] := by kernel_rfl
theorem keep_111 : E.keep 111 = false := by kernel_rfl
theorem body_112 : bodyOf E 112 = Tryz.f112.body := by kernel_rfl
theorem prim_112 : E.prim 112 = none := by kernel_rfl
theorem res_112 : resOf E 112 = some [.tmp 2] := by kernel_rfl
theorem keep_112 : E.keep 112 = false := by kernel_rfl
theorem body_116 : bodyOf E 116 = Tryz.f116.body := by kernel_rfl
theorem prim_116 : E.prim 116 = none := by kernel_rfl
theorem res_116 : resOf E 116 = some [.tmp 2] := by kernel_rfl
theorem keep_116 : E.keep 116 = false := by kernel_rfl
theorem body_117 : bodyOf E 117 = Tryz.f117.body := by kernel_rfl
theorem prim_117 : E.prim 117 = none := by kernel_rfl
theorem res_117 : resOf E 117 = some [.tmp 2] := by kernel_rfl
theorem keep_117 : E.keep 117 = false := by kernel_rfl
theorem body_135 : bodyOf E 135 = Tryz.f135.body := by kernel_rfl
theorem prim_135 : E.prim 135 = none := by kernel_rfl
theorem res_135 : resOf E 135 = some [.cell 2 38] := by kernel_rfl
theorem keep_135 : E.keep 135 = false := by kernel_rfl
theorem body_136 : bodyOf E 136 = Tryz.f136.body := by kernel_rfl
theorem prim_136 : E.prim 136 = none := by kernel_rfl
theorem res_136 : resOf E 136 = some [.cell 4 47, .tmp 5] := by kernel_rfl
theorem keep_136 : E.keep 136 = false := by kernel_rfl
theorem body_137 : bodyOf E 137 = Tryz.f137.body := by kernel_rfl
theorem prim_137 : E.prim 137 = none := by kernel_rfl
theorem res_137 : resOf E 137 = some [.tmp 2] := by kernel_rfl
theorem keep_137 : E.keep 137 = false := by kernel_rfl
theorem body_138 : bodyOf E 138 = Tryz.f138.body := by kernel_rfl
theorem prim_138 : E.prim 138 = none := by kernel_rfl
theorem res_138 : resOf E 138 = some [.tmp 2] := by kernel_rfl
theorem keep_138 : E.keep 138 = false := by kernel_rfl
theorem body_139 : bodyOf E 139 = Tryz.f139.body := by kernel_rfl
theorem prim_139 : E.prim 139 = none := by kernel_rfl
theorem res_139 : resOf E 139 = some [.tmp 2] := by kernel_rfl
theorem keep_139 : E.keep 139 = false := by kernel_rfl
theorem body_140 : bodyOf E 140 = Tryz.f140.body := by kernel_rfl
theorem prim_140 : E.prim 140 = none := by kernel_rfl
theorem res_140 : resOf E 140 = some [.tmp 2] := by kernel_rfl
theorem keep_140 : E.keep 140 = false := by kernel_rfl
theorem body_141 : bodyOf E 141 = Tryz.f141.body := by kernel_rfl
theorem prim_141 : E.prim 141 = none := by kernel_rfl
theorem res_141 : resOf E 141 = some [.tmp 4] := by kernel_rfl
theorem keep_141 : E.keep 141 = false := by kernel_rfl
theorem body_142 : bodyOf E 142 = Tryz.f142.body := by kernel_rfl
theorem prim_142 : E.prim 142 = none := by kernel_rfl
theorem res_142 : resOf E 142 = some [.tmp 2] := by kernel_rfl
theorem keep_142 : E.keep 142 = false := by kernel_rfl
theorem body_143 : bodyOf E 143 = Tryz.f143.body := by kernel_rfl
theorem prim_143 : E.prim 143 = none := by kernel_rfl
theorem res_143 : resOf E 143 = some [.tmp 2] := by kernel_rfl
theorem keep_143 : E.keep 143 = false := by kernel_rfl
theorem body_144 : bodyOf E 144 = Tryz.f144.body := by kernel_rfl
theorem prim_144 : E.prim 144 = none := by kernel_rfl
theorem res_144 : resOf E 144 = some [.tmp 2] := by kernel_rfl
theorem keep_144 : E.keep 144 = false := by kernel_rfl
theorem body_145 : bodyOf E 145 = Tryz.f145.body := by kernel_rfl
theorem prim_145 : E.prim 145 = none := by kernel_rfl
theorem res_145 : resOf E 145 = some [.tmp 2] := by kernel_rfl
theorem keep_145 : E.keep 145 = false := by kernel_rfl
theorem body_146 : bodyOf E 146 = Tryz.f146.body := by kernel_rfl
theorem prim_146 : E.prim 146 = none := by kernel_rfl
theorem res_146 : resOf E 146 = some [.tmp 4] := by kernel_rfl
theorem keep_146 : E.keep 146 = false := by kernel_rfl
theorem body_148 : bodyOf E 148 = Tryz.f148.body := by kernel_rfl
theorem prim_148 : E.prim 148 = none := by kernel_rfl
theorem res_148 : resOf E 148 = some [.cell 2 35, .tmp 3, .tmp 4] := by kernel_rfl
theorem keep_148 : E.keep 148 = false := by kernel_rfl
theorem body_149 : bodyOf E 149 = Tryz.f149.body := by kernel_rfl
theorem prim_149 : E.prim 149 = none := by kernel_rfl
theorem res_149 : resOf E 149 = some [.cell 2 42] := by kernel_rfl
theorem keep_149 : E.keep 149 = false := by kernel_rfl
theorem body_150 : bodyOf E 150 = Tryz.f150.body := by kernel_rfl
theorem prim_150 : E.prim 150 = none := by kernel_rfl
theorem res_150 : resOf E 150 = some [.cell 2 38] := by kernel_rfl
theorem keep_150 : E.keep 150 = false := by kernel_rfl
theorem body_151 : bodyOf E 151 = Tryz.f151.body := by kernel_rfl
theorem prim_151 : E.prim 151 = none := by kernel_rfl
theorem res_151 : resOf E 151 = some [.tmp 2] := by kernel_rfl
theorem keep_151 : E.keep 151 = false := by kernel_rfl
theorem body_152 : bodyOf E 152 = Tryz.f152.body := by kernel_rfl
theorem prim_152 : E.prim 152 = none := by kernel_rfl
theorem res_152 : resOf E 152 = some [.tmp 2] := by kernel_rfl
theorem keep_152 : E.keep 152 = false := by kernel_rfl
theorem body_153 : bodyOf E 153 = Tryz.f153.body := by kernel_rfl
theorem prim_153 : E.prim 153 = none := by kernel_rfl
theorem res_153 : resOf E 153 = some [.tmp 4] := by kernel_rfl
theorem keep_153 : E.keep 153 = false := by kernel_rfl
theorem body_154 : bodyOf E 154 = Tryz.f154.body := by kernel_rfl
theorem prim_154 : E.prim 154 = none := by kernel_rfl
theorem res_154 : resOf E 154 = some [.cell 4 47, .tmp 5] := by kernel_rfl
theorem keep_154 : E.keep 154 = false := by kernel_rfl
theorem body_155 : bodyOf E 155 = Tryz.f155.body := by kernel_rfl
theorem prim_155 : E.prim 155 = none := by kernel_rfl
theorem res_155 : resOf E 155 = some [.cell 4 54, .tmp 5] := by kernel_rfl
theorem keep_155 : E.keep 155 = false := by kernel_rfl
theorem body_156 : bodyOf E 156 = Tryz.f156.body := by kernel_rfl
theorem prim_156 : E.prim 156 = none := by kernel_rfl
theorem res_156 : resOf E 156 = some [.cell 4 50, .tmp 5] := by kernel_rfl
theorem keep_156 : E.keep 156 = false := by kernel_rfl
theorem body_163 : bodyOf E 163 = Tryz.f163.body := by kernel_rfl
theorem prim_163 : E.prim 163 = none := by kernel_rfl
theorem res_163 : resOf E 163 = some [.tmp 4] := by kernel_rfl
theorem keep_163 : E.keep 163 = false := by kernel_rfl
theorem body_164 : bodyOf E 164 = Tryz.f164.body := by kernel_rfl
theorem prim_164 : E.prim 164 = none := by kernel_rfl
theorem res_164 : resOf E 164 = some [.cell 2 35] := by kernel_rfl
theorem keep_164 : E.keep 164 = false := by kernel_rfl
theorem body_165 : bodyOf E 165 = Tryz.f165.body := by kernel_rfl
theorem prim_165 : E.prim 165 = none := by kernel_rfl
theorem res_165 : resOf E 165 = some [.tmp 6] := by kernel_rfl
theorem keep_165 : E.keep 165 = false := by kernel_rfl
theorem body_166 : bodyOf E 166 = Tryz.f166.body := by kernel_rfl
theorem prim_166 : E.prim 166 = none := by kernel_rfl
theorem res_166 : resOf E 166 = some [.cell 2 38] := by kernel_rfl
theorem keep_166 : E.keep 166 = false := by kernel_rfl
theorem body_167 : bodyOf E 167 = Tryz.f167.body := by kernel_rfl
theorem prim_167 : E.prim 167 = none := by kernel_rfl
theorem res_167 : resOf E 167 = some [.tmp 4] := by kernel_rfl
theorem keep_167 : E.keep 167 = false := by kernel_rfl
theorem body_169 : bodyOf E 169 = Tryz.f169.body := by kernel_rfl
theorem prim_169 : E.prim 169 = none := by kernel_rfl
theorem res_169 : resOf E 169 = some [.cell 2 35, .tmp 3] := by kernel_rfl
theorem keep_169 : E.keep 169 = false := by kernel_rfl
theorem body_170 : bodyOf E 170 = Tryz.f170.body := by kernel_rfl
theorem prim_170 : E.prim 170 = none := by kernel_rfl
theorem res_170 : resOf E 170 = some [.cell 2 117] := by kernel_rfl
theorem keep_170 : E.keep 170 = false := by kernel_rfl
theorem body_171 : bodyOf E 171 = Tryz.f171.body := by kernel_rfl
theorem prim_171 : E.prim 171 = none := by kernel_rfl
theorem res_171 : resOf E 171 = some [.cell 4 47, .tmp 5] := by kernel_rfl
theorem keep_171 : E.keep 171 = false := by kernel_rfl
theorem body_172 : bodyOf E 172 = Tryz.f172.body := by kernel_rfl
theorem prim_172 : E.prim 172 = none := by kernel_rfl
theorem res_172 : resOf E 172 = some [.tmp 6, .tmp 7] := by kernel_rfl
theorem keep_172 : E.keep 172 = false := by kernel_rfl
theorem body_178 : bodyOf E 178 = Tryz.f178.body := by kernel_rfl
theorem prim_178 : E.prim 178 = none := by kernel_rfl
theorem res_178 : resOf E 178 = some [.tmp 6, .tmp 7] := by kernel_rfl
theorem keep_178 : E.keep 178 = false := by kernel_rfl
theorem body_179 : bodyOf E 179 = Tryz.f179.body := by kernel_rfl
theorem prim_179 : E.prim 179 = none := by kernel_rfl
theorem res_179 : resOf E 179 = some [.cell 2 35, .tmp 3] := by kernel_rfl
theorem keep_179 : E.keep 179 = false := by kernel_rfl
theorem body_180 : bodyOf E 180 = Tryz.f180.body := by kernel_rfl
theorem prim_180 : E.prim 180 = none := by kernel_rfl
theorem res_180 : resOf E 180 = some [.cell 2 35, .tmp 3] := by kernel_rfl
theorem keep_180 : E.keep 180 = false := by kernel_rfl
theorem body_181 : bodyOf E 181 = Tryz.f181.body := by kernel_rfl
theorem prim_181 : E.prim 181 = none := by kernel_rfl
theorem res_181 : resOf E 181 = some [.tmp 2] := by kernel_rfl
theorem keep_181 : E.keep 181 = false := by kernel_rfl
theorem body_188 : bodyOf E 188 = Tryz.f188.body := by kernel_rfl
theorem prim_188 : E.prim 188 = none := by kernel_rfl
theorem res_188 : resOf E 188 = some [.tmp 6] := by kernel_rfl
theorem keep_188 : E.keep 188 = false := by kernel_rfl
theorem body_189 : bodyOf E 189 = Tryz.f189.body := by kernel_rfl
theorem prim_189 : E.prim 189 = none := by kernel_rfl
theorem res_189 : resOf E 189 = some [.cell 2 35, .tmp 3] := by kernel_rfl
theorem keep_189 : E.keep 189 = false := by kernel_rfl
theorem prim_57 : E.prim 57 = some joinP := by kernel_rfl
theorem prim_110 : E.prim 110 = some itoaP := by kernel_rfl
theorem prim_176 : E.prim 176 = some atoiP := by kernel_rfl
theorem prim_147 : E.prim 147 = some indexByteP := by kernel_rfl
theorem ts3 : tsize E.P 3 = 1 := by kernel_rfl
theorem ts4 : tsize E.P 4 = 1 := by kernel_rfl
theorem ts5 : tsize E.P 5 = 1 := by kernel_rfl
theorem ts9 : tsize E.P 9 = 1 := by kernel_rfl
theorem ts33 : tsize E.P 33 = 1 := by kernel_rfl
theorem ts35 : tsize E.P 35 = 4 := by kernel_rfl
theorem ts36 : tsize E.P 36 = 1 := by kernel_rfl
theorem ts38 : tsize E.P 38 = 8 := by kernel_rfl
theorem ts39 : tsize E.P 39 = 1 := by kernel_rfl
theorem ts40 : tsize E.P 40 = 1 := by kernel_rfl
theorem ts42 : tsize E.P 42 = 16 := by kernel_rfl
theorem ts45 : tsize E.P 45 = 1 := by kernel_rfl
theorem ts47 : tsize E.P 47 = 4 := by kernel_rfl
theorem ts48 : tsize E.P 48 = 1 := by kernel_rfl
theorem ts50 : tsize E.P 50 = 8 := by kernel_rfl
theorem ts51 : tsize E.P 51 = 1 := by kernel_rfl
theorem ts52 : tsize E.P 52 = 1 := by kernel_rfl
theorem ts54 : tsize E.P 54 = 16 := by kernel_rfl
theorem ts78 : tsize E.P 78 = 1 := by kernel_rfl
theorem ts92 : tsize E.P 92 = 1 := by kernel_rfl
theorem ts97 : tsize E.P 97 = 2 := by kernel_rfl
theorem ts103 : tsize E.P 103 = 21 := by kernel_rfl
theorem ts107 : tsize E.P 107 = 21 := by kernel_rfl
theorem ts117 : tsize E.P 117 = 20 := by kernel_rfl
theorem ts119 : tsize E.P 119 = 20 := by kernel_rfl
theorem ts163 : tsize E.P 163 = 3 := by kernel_rfl
theorem ts191 : tsize E.P 191 = 2 := by kernel_rfl
theorem ts206 : tsize E.P 206 = 1 := by kernel_rfl
theorem tg3 : tagg E.P 3 = some false := by kernel_rfl
theorem tg4 : tagg E.P 4 = some false := by kernel_rfl
theorem tg9 : tagg E.P 9 = some false := by kernel_rfl
theorem tg33 : tagg E.P 33 = some false := by kernel_rfl
theorem tg35 : tagg E.P 35 = some true := by kernel_rfl
theorem tg36 : tagg E.P 36 = some false := by kernel_rfl
theorem tg38 : tagg E.P 38 = some true := by kernel_rfl
theorem tg39 : tagg E.P 39 = some false := by kernel_rfl
theorem tg40 : tagg E.P 40 = some false := by kernel_rfl
theorem tg42 : tagg E.P 42 = some true := by kernel_rfl
theorem tg45 : tagg E.P 45 = some false := by kernel_rfl
theorem tg47 : tagg E.P 47 = some true := by kernel_rfl
theorem tg48 : tagg E.P 48 = some false := by kernel_rfl
theorem tg50 : tagg E.P 50 = some true := by kernel_rfl
theorem tg51 : tagg E.P 51 = some false := by kernel_rfl
theorem tg52 : tagg E.P 52 = some false := by kernel_rfl
theorem tg54 : tagg E.P 54 = some true := by kernel_rfl
theorem tg78 : tagg E.P 78 = some false := by kernel_rfl
theorem tg92 : tagg E.P 92 = some false := by kernel_rfl
theorem tg103 : tagg E.P 103 = some true := by kernel_rfl
theorem tg107 : tagg E.P 107 = some true := by kernel_rfl
theorem tg117 : tagg E.P 117 = some true := by kernel_rfl
theorem tg119 : tagg E.P 119 = some true := by kernel_rfl
theorem te3 : telem E.P 3 = none := by kernel_rfl
theorem te4 : telem E.P 4 = none := by kernel_rfl
theorem te5 : telem E.P 5 = none := by kernel_rfl
theorem te9 : telem E.P 9 = none := by kernel_rfl
theorem te23 : telem E.P 23 = some 103 := by kernel_rfl
theorem te24 : telem E.P 24 = none := by kernel_rfl
theorem te25 : telem E.P 25 = none := by kernel_rfl
theorem te27 : telem E.P 27 = some 107 := by kernel_rfl
theorem te28 : telem E.P 28 = none := by kernel_rfl
theorem te33 : telem E.P 33 = some 35 := by kernel_rfl
theorem te35 : telem E.P 35 = none := by kernel_rfl
theorem te36 : telem E.P 36 = some 38 := by kernel_rfl
theorem te38 : telem E.P 38 = none := by kernel_rfl
theorem te39 : telem E.P 39 = some 42 := by kernel_rfl
theorem te40 : telem E.P 40 = some 117 := by kernel_rfl
theorem te42 : telem E.P 42 = none := by kernel_rfl
theorem te43 : telem E.P 43 = none := by kernel_rfl
theorem te45 : telem E.P 45 = some 47 := by kernel_rfl
theorem te47 : telem E.P 47 = none := by kernel_rfl
theorem te48 : telem E.P 48 = some 50 := by kernel_rfl
theorem te50 : telem E.P 50 = none := by kernel_rfl
theorem te51 : telem E.P 51 = some 54 := by kernel_rfl
theorem te52 : telem E.P 52 = some 119 := by kernel_rfl
theorem te54 : telem E.P 54 = none := by kernel_rfl
theorem te55 : telem E.P 55 = none := by kernel_rfl
theorem te78 : telem E.P 78 = some 9 := by kernel_rfl
theorem te92 : telem E.P 92 = some 163 := by kernel_rfl
theorem te93 : telem E.P 93 = none := by kernel_rfl
theorem te95 : telem E.P 95 = none := by kernel_rfl
theorem te98 : telem E.P 98 = none := by kernel_rfl
theorem te103 : telem E.P 103 = none := by kernel_rfl
theorem te107 : telem E.P 107 = none := by kernel_rfl
theorem te108 : telem E.P 108 = none := by kernel_rfl
theorem te111 : telem E.P 111 = none := by kernel_rfl
theorem te117 : telem E.P 117 = none := by kernel_rfl
theorem te119 : telem E.P 119 = none := by kernel_rfl
theorem te149 : telem E.P 149 = none := by kernel_rfl
theorem te151 : telem E.P 151 = none := by kernel_rfl
theorem te152 : telem E.P 152 = none := by kernel_rfl
theorem te153 : telem E.P 153 = none := by kernel_rfl
theorem te170 : telem E.P 170 = some 5 := by kernel_rfl
theorem te175 : telem E.P 175 = none := by kernel_rfl
theorem te176 : telem E.P 176 = none := by kernel_rfl
theorem te183 : telem E.P 183 = none := by kernel_rfl
theorem te189 : telem E.P 189 = none := by kernel_rfl
theorem te193 : telem E.P 193 = none := by kernel_rfl
theorem te197 : telem E.P 197 = none := by kernel_rfl
theorem te204 : telem E.P 204 = none := by kernel_rfl
theorem te207 : telem E.P 207 = none := by kernel_rfl
theorem te215 : telem E.P 215 = none := by kernel_rfl
theorem tf35_0 : tfield E.P 35 0 = some (0, 1) := by kernel_rfl
theorem tf35_1 : tfield E.P 35 1 = some (1, 1) := by kernel_rfl
theorem tf35_2 : tfield E.P 35 2 = some (2, 1) := by kernel_rfl
theorem tf35_3 : tfield E.P 35 3 = some (3, 1) := by kernel_rfl
theorem tf38_0 : tfield E.P 38 0 = some (0, 1) := by kernel_rfl
theorem tf38_1 : tfield E.P 38 1 = some (1, 1) := by kernel_rfl
theorem tf38_2 : tfield E.P 38 2 = some (2, 1) := by kernel_rfl
theorem tf38_3 : tfield E.P 38 3 = some (3, 4) := by kernel_rfl
theorem tf38_4 : tfield E.P 38 4 = some (7, 1) := by kernel_rfl
theorem tf42_0 : tfield E.P 42 0 = some (0, 1) := by kernel_rfl
theorem tf42_1 : tfield E.P 42 1 = some (1, 1) := by kernel_rfl
theorem tf42_2 : tfield E.P 42 2 = some (2, 4) := by kernel_rfl
theorem tf42_3 : tfield E.P 42 3 = some (6, 8) := by kernel_rfl
theorem tf42_4 : tfield E.P 42 4 = some (14, 1) := by kernel_rfl
theorem tf42_5 : tfield E.P 42 5 = some (15, 1) := by kernel_rfl
theorem tf47_0 : tfield E.P 47 0 = some (0, 1) := by kernel_rfl
theorem tf47_1 : tfield E.P 47 1 = some (1, 1) := by kernel_rfl
theorem tf47_2 : tfield E.P 47 2 = some (2, 1) := by kernel_rfl
theorem tf47_3 : tfield E.P 47 3 = some (3, 1) := by kernel_rfl
theorem tf50_0 : tfield E.P 50 0 = some (0, 1) := by kernel_rfl
theorem tf50_1 : tfield E.P 50 1 = some (1, 1) := by kernel_rfl
theorem tf50_2 : tfield E.P 50 2 = some (2, 1) := by kernel_rfl
theorem tf50_3 : tfield E.P 50 3 = some (3, 4) := by kernel_rfl
theorem tf50_4 : tfield E.P 50 4 = some (7, 1) := by kernel_rfl
theorem tf54_0 : tfield E.P 54 0 = some (0, 1) := by kernel_rfl
theorem tf54_1 : tfield E.P 54 1 = some (1, 1) := by kernel_rfl
theorem tf54_2 : tfield E.P 54 2 = some (2, 4) := by kernel_rfl
theorem tf54_3 : tfield E.P 54 3 = some (6, 8) := by kernel_rfl
theorem tf54_4 : tfield E.P 54 4 = some (14, 1) := by kernel_rfl
theorem tf54_5 : tfield E.P 54 5 = some (15, 1) := by kernel_rfl
theorem tf97_0 : tfield E.P 97 0 = some (0, 1) := by kernel_rfl
theorem tf97_1 : tfield E.P 97 1 = some (1, 1) := by kernel_rfl
theorem tf103_0 : tfield E.P 103 0 = some (0, 1) := by kernel_rfl
theorem tf103_1 : tfield E.P 103 1 = some (1, 4) := by kernel_rfl
theorem tf103_2 : tfield E.P 103 2 = some (5, 16) := by kernel_rfl
theorem tf107_0 : tfield E.P 107 0 = some (0, 1) := by kernel_rfl
theorem tf107_1 : tfield E.P 107 1 = some (1, 4) := by kernel_rfl
theorem tf107_2 : tfield E.P 107 2 = some (5, 16) := by kernel_rfl
theorem tf117_0 : tfield E.P 117 0 = some (0, 1) := by kernel_rfl
theorem tf117_1 : tfield E.P 117 1 = some (1, 1) := by kernel_rfl
theorem tf117_2 : tfield E.P 117 2 = some (2, 1) := by kernel_rfl
theorem tf117_3 : tfield E.P 117 3 = some (3, 1) := by kernel_rfl
theorem tf117_4 : tfield E.P 117 4 = some (4, 16) := by kernel_rfl
theorem tf119_0 : tfield E.P 119 0 = some (0, 1) := by kernel_rfl
theorem tf119_1 : tfield E.P 119 1 = some (1, 1) := by kernel_rfl
theorem tf119_2 : tfield E.P 119 2 = some (2, 1) := by kernel_rfl
theorem tf119_3 : tfield E.P 119 3 = some (3, 1) := by kernel_rfl
theorem tf119_4 : tfield E.P 119 4 = some (4, 16) := by kernel_rfl
theorem tf163_0 : tfield E.P 163 0 = some (0, 1) := by kernel_rfl
theorem tf163_1 : tfield E.P 163 1 = some (1, 1) := by kernel_rfl
theorem tf191_0 : tfield E.P 191 0 = some (0, 1) := by kernel_rfl
theorem tf191_1 : tfield E.P 191 1 = some (1, 1) := by kernel_rfl
theorem tf206_0 : tfield E.P 206 0 = some (0, 1) := by kernel_rfl
theorem tp35_0 : tplace E.P 35 0 = some (0, 1) := by kernel_rfl
theorem tp35_1 : tplace E.P 35 1 = some (1, 1) := by kernel_rfl
theorem tp35_2 : tplace E.P 35 2 = some (2, 1) := by kernel_rfl
theorem tp35_3 : tplace E.P 35 3 = some (3, 1) := by kernel_rfl
theorem tp38_0 : tplace E.P 38 0 = some (0, 1) := by kernel_rfl
theorem tp38_1 : tplace E.P 38 1 = some (1, 1) := by kernel_rfl
theorem tp38_3 : tplace E.P 38 3 = some (3, 4) := by kernel_rfl
theorem tp42_0 : tplace E.P 42 0 = some (0, 1) := by kernel_rfl
theorem tp42_1 : tplace E.P 42 1 = some (1, 1) := by kernel_rfl
theorem tp42_2 : tplace E.P 42 2 = some (2, 4) := by kernel_rfl
theorem tp42_3 : tplace E.P 42 3 = some (6, 8) := by kernel_rfl
theorem tp42_4 : tplace E.P 42 4 = some (14, 1) := by kernel_rfl
theorem tp47_0 : tplace E.P 47 0 = some (0, 1) := by kernel_rfl
theorem tp47_1 : tplace E.P 47 1 = some (1, 1) := by kernel_rfl
theorem tp47_2 : tplace E.P 47 2 = some (2, 1) := by kernel_rfl
theorem tp47_3 : tplace E.P 47 3 = some (3, 1) := by kernel_rfl
theorem tp50_0 : tplace E.P 50 0 = some (0, 1) := by kernel_rfl
theorem tp50_1 : tplace E.P 50 1 = some (1, 1) := by kernel_rfl
theorem tp50_3 : tplace E.P 50 3 = some (3, 4) := by kernel_rfl
theorem tp54_0 : tplace E.P 54 0 = some (0, 1) := by kernel_rfl
theorem tp54_1 : tplace E.P 54 1 = some (1, 1) := by kernel_rfl
theorem tp54_2 : tplace E.P 54 2 = some (2, 4) := by kernel_rfl
theorem tp54_3 : tplace E.P 54 3 = some (6, 8) := by kernel_rfl
theorem tp54_4 : tplace E.P 54 4 = some (14, 1) := by kernel_rfl
theorem tp97_0 : tplace E.P 97 0 = some (0, 1) := by kernel_rfl
theorem tp103_0 : tplace E.P 103 0 = some (0, 1) := by kernel_rfl
theorem tp103_1 : tplace E.P 103 1 = some (1, 4) := by kernel_rfl
theorem tp103_2 : tplace E.P 103 2 = some (5, 16) := by kernel_rfl
theorem tp107_0 : tplace E.P 107 0 = some (0, 1) := by kernel_rfl
theorem tp117_0 : tplace E.P 117 0 = some (0, 1) := by kernel_rfl
theorem tp119_0 : tplace E.P 119 0 = some (0, 1) := by kernel_rfl
theorem tp163_0 : tplace E.P 163 0 = some (0, 1) := by kernel_rfl
theorem tp163_1 : tplace E.P 163 1 = some (1, 1) := by kernel_rfl
theorem tp163_2 : tplace E.P 163 2 = some (2, 1) := by kernel_rfl
theorem tp191_0 : tplace E.P 191 0 = some (0, 1) := by kernel_rfl
theorem tp206_0 : tplace E.P 206 0 = some (0, 1) := by kernel_rfl
theorem tz3 : zeroA E.P 3 = some [.int .i64 0] := by kernel_rfl
theorem tz35 : zeroA E.P 35 = some [.int .i64 0, .str [], .int .i64 0, .own 35 0 []] := by kernel_rfl
theorem tz38 : zeroA E.P 38 = some [.int .i64 0, .str [], .int .i64 0, .int .i64 0, .str [], .int .i64 0, .own 35 0 [], .own 38 0 []] := by kernel_rfl
theorem tz42 : zeroA E.P 42 = some [.int .i64 0, .str [], .int .i64 0, .str [], .int .i64 0, .own 35 0 [], .int .i64 0, .str [], .int .i64 0, .int .i64 0, .str [], .int .i64 0, .own 35 0 [], .own 38 0 [], .own 42 0 [], .own 117 0 []] := by kernel_rfl
theorem tz47 : zeroA E.P 47 = some [.int .i64 0, .str [], .int .i64 0, .own 47 0 []] := by kernel_rfl
theorem tz50 : zeroA E.P 50 = some [.int .i64 0, .str [], .int .i64 0, .int .i64 0, .str [], .int .i64 0, .own 47 0 [], .own 50 0 []] := by kernel_rfl
theorem tz54 : zeroA E.P 54 = some [.int .i64 0, .str [], .int .i64 0, .str [], .int .i64 0, .own 47 0 [], .int .i64 0, .str [], .int .i64 0, .int .i64 0, .str [], .int .i64 0, .own 47 0 [], .own 50 0 [], .own 54 0 [], .own 119 0 []] := by kernel_rfl
theorem tz97 : zeroA E.P 97 = some [.own 163 0 [], .bool false] := by kernel_rfl
theorem tz103 : zeroA E.P 103 = some [.str [], .int .i64 0, .str [], .int .i64 0, .own 35 0 [], .int .i64 0, .str [], .int .i64 0, .str [], .int .i64 0, .own 35 0 [], .int .i64 0, .str [], .int .i64 0, .int .i64 0, .str [], .int .i64 0, .own 35 0 [], .own 38 0 [], .own 42 0 [], .own 117 0 []] := by kernel_rfl
theorem tz107 : zeroA E.P 107 = some [.str [], .int .i64 0, .str [], .int .i64 0, .own 47 0 [], .int .i64 0, .str [], .int .i64 0, .str [], .int .i64 0, .own 47 0 [], .int .i64 0, .str [], .int .i64 0, .int .i64 0, .str [], .int .i64 0, .own 47 0 [], .own 50 0 [], .own 54 0 [], .own 119 0 []] := by kernel_rfl
theorem tz117 : zeroA E.P 117 = some [.str [], .own 9 0 [], .own 9 0 [], .own 9 0 [], .int .i64 0, .str [], .int .i64 0, .str [], .int .i64 0, .own 35 0 [], .int .i64 0, .str [], .int .i64 0, .int .i64 0, .str [], .int .i64 0, .own 35 0 [], .own 38 0 [], .own 42 0 [], .own 117 0 []] := by kernel_rfl
theorem tz119 : zeroA E.P 119 = some [.str [], .own 9 0 [], .own 9 0 [], .own 9 0 [], .int .i64 0, .str [], .int .i64 0, .str [], .int .i64 0, .own 47 0 [], .int .i64 0, .str [], .int .i64 0, .int .i64 0, .str [], .int .i64 0, .own 47 0 [], .own 50 0 [], .own 54 0 [], .own 119 0 []] := by kernel_rfl
theorem tz163 : zeroA E.P 163 = some [.int .i64 0, .str [], .int .i64 0] := by kernel_rfl
theorem tz191 : zeroA E.P 191 = some [.own 163 0 [], .bool false] := by kernel_rfl
theorem tz206 : zeroA E.P 206 = some [.own 163 0 []] := by kernel_rfl
theorem ti3 : tint E.P 3 = some .i64 := by kernel_rfl
theorem ti5 : tint E.P 5 = some .u8 := by kernel_rfl
theorem ti9 : tint E.P 9 = none := by kernel_rfl
theorem ti35 : tint E.P 35 = none := by kernel_rfl
theorem ti38 : tint E.P 38 = none := by kernel_rfl
theorem ti42 : tint E.P 42 = none := by kernel_rfl
theorem ti47 : tint E.P 47 = none := by kernel_rfl
theorem ti50 : tint E.P 50 = none := by kernel_rfl
theorem ti54 : tint E.P 54 = none := by kernel_rfl
theorem ti103 : tint E.P 103 = none := by kernel_rfl
theorem ti107 : tint E.P 107 = none := by kernel_rfl
theorem ti117 : tint E.P 117 = none := by kernel_rfl
theorem ti119 : tint E.P 119 = none := by kernel_rfl
theorem ti163 : tint E.P 163 = none := by kernel_rfl
theorem ti170 : tint E.P 170 = none := by kernel_rfl
theorem tst3 : tstring E.P 3 = false := by kernel_rfl
theorem tst5 : tstring E.P 5 = false := by kernel_rfl
theorem tst9 : tstring E.P 9 = true := by kernel_rfl
theorem tst23 : tstring E.P 23 = false := by kernel_rfl
theorem tst27 : tstring E.P 27 = false := by kernel_rfl
theorem tst33 : tstring E.P 33 = false := by kernel_rfl
theorem tst36 : tstring E.P 36 = false := by kernel_rfl
theorem tst39 : tstring E.P 39 = false := by kernel_rfl
theorem tst40 : tstring E.P 40 = false := by kernel_rfl
theorem tst45 : tstring E.P 45 = false := by kernel_rfl
theorem tst48 : tstring E.P 48 = false := by kernel_rfl
theorem tst51 : tstring E.P 51 = false := by kernel_rfl
theorem tst52 : tstring E.P 52 = false := by kernel_rfl
theorem tst78 : tstring E.P 78 = false := by kernel_rfl
theorem tst92 : tstring E.P 92 = false := by kernel_rfl
theorem tbo3 : tbool E.P 3 = false := by kernel_rfl
theorem tbo5 : tbool E.P 5 = false := by kernel_rfl
theorem tbo9 : tbool E.P 9 = false := by kernel_rfl
theorem tbo24 : tbool E.P 24 = false := by kernel_rfl
theorem tpt3 : tptr E.P 3 = false := by kernel_rfl
theorem tpt5 : tptr E.P 5 = false := by kernel_rfl
theorem tpt9 : tptr E.P 9 = false := by kernel_rfl
theorem tpt24 : tptr E.P 24 = false := by kernel_rfl
theorem tfo35 : fieldsOK E.P 35 = true := by kernel_rfl
theorem tfo38 : fieldsOK E.P 38 = true := by kernel_rfl
theorem tfo42 : fieldsOK E.P 42 = true := by kernel_rfl
theorem tfo47 : fieldsOK E.P 47 = true := by kernel_rfl
theorem tfo50 : fieldsOK E.P 50 = true := by kernel_rfl
theorem tfo54 : fieldsOK E.P 54 = true := by kernel_rfl
theorem tfo97 : fieldsOK E.P 97 = true := by kernel_rfl
theorem tfo103 : fieldsOK E.P 103 = true := by kernel_rfl
theorem tfo107 : fieldsOK E.P 107 = true := by kernel_rfl
theorem tfo117 : fieldsOK E.P 117 = true := by kernel_rfl
theorem tfo119 : fieldsOK E.P 119 = true := by kernel_rfl
theorem tfo163 : fieldsOK E.P 163 = true := by kernel_rfl
theorem tfo191 : fieldsOK E.P 191 = true := by kernel_rfl
theorem tfo206 : fieldsOK E.P 206 = true := by kernel_rfl
theorem tze5 : tzero E.P 5 = some 1 := by kernel_rfl
theorem tze9 : tzero E.P 9 = some 1 := by kernel_rfl
theorem tze35 : tzero E.P 35 = some 4 := by kernel_rfl
theorem tze38 : tzero E.P 38 = some 8 := by kernel_rfl
theorem tze42 : tzero E.P 42 = some 16 := by kernel_rfl
theorem tze47 : tzero E.P 47 = some 4 := by kernel_rfl
theorem tze50 : tzero E.P 50 = some 8 := by kernel_rfl
theorem tze54 : tzero E.P 54 = some 16 := by kernel_rfl
theorem tze103 : tzero E.P 103 = some 21 := by kernel_rfl
theorem tze107 : tzero E.P 107 = some 21 := by kernel_rfl
theorem tze117 : tzero E.P 117 = some 20 := by kernel_rfl
theorem tze119 : tzero E.P 119 = some 20 := by kernel_rfl
theorem tze163 : tzero E.P 163 = some 3 := by kernel_rfl
theorem tu3 : (E.P.underlying 3).isSome = true := by kernel_rfl
theorem tu5 : (E.P.underlying 5).isSome = true := by kernel_rfl
theorem tu170 : (E.P.underlying 170).isSome = true := by kernel_rfl
theorem tby9 : (E.P.bytesOf 9 ≤ 32768) = True := by rw [show E.P.bytesOf 9 = 16 from by kernel_rfl]; simp
theorem tby35 : (E.P.bytesOf 35 ≤ 32768) = True := by rw [show E.P.bytesOf 35 = 56 from by kernel_rfl]; simp
theorem tby38 : (E.P.bytesOf 38 ≤ 32768) = True := by rw [show E.P.bytesOf 38 = 112 from by kernel_rfl]; simp
theorem tby47 : (E.P.bytesOf 47 ≤ 32768) = True := by rw [show E.P.bytesOf 47 = 56 from by kernel_rfl]; simp
theorem tby50 : (E.P.bytesOf 50 ≤ 32768) = True := by rw [show E.P.bytesOf 50 = 112 from by kernel_rfl]; simp
theorem tby103 : (E.P.bytesOf 103 ≤ 32768) = True := by rw [show E.P.bytesOf 103 = 312 from by kernel_rfl]; simp
theorem tby107 : (E.P.bytesOf 107 ≤ 32768) = True := by rw [show E.P.bytesOf 107 = 312 from by kernel_rfl]; simp
theorem tby117 : (E.P.bytesOf 117 ≤ 32768) = True := by rw [show E.P.bytesOf 117 = 328 from by kernel_rfl]; simp
theorem tby119 : (E.P.bytesOf 119 ≤ 32768) = True := by rw [show E.P.bytesOf 119 = 328 from by kernel_rfl]; simp
theorem tby163 : (E.P.bytesOf 163 ≤ 32768) = True := by rw [show E.P.bytesOf 163 = 32 from by kernel_rfl]; simp
attribute [go_sem] live_11_0 live_11_2 live_12_0 live_12_2 live_13_0 live_14_0 live_17_1 live_18_1 live_18_3 live_18_5 live_18_7 live_41_0 live_46_0 live_47_0 live_47_2 live_48_0 live_48_2 live_54_0 live_54_2 live_55_0 live_56_1 live_56_3 live_58_1 live_58_3 live_59_2 live_60_0 live_60_2 live_61_0 live_89_0 live_90_0 live_101_0 live_105_0 live_105_2 live_106_0 live_106_2 live_109_0 live_137_0 live_138_0 live_141_0 live_149_0
attribute [go_sem] live_153_0 live_154_0 live_155_0 live_166_0 live_166_3 live_166_5 live_170_0 live_170_2 live_170_4 live_172_0 live_179_0 live_179_2 live_180_0 live_181_0 drw_11_11 drw_13_5 drw_14_7 drw_17_6 drw_17_8 drw_17_10 drw_17_12 drw_17_14 drw_17_16 drw_17_18 drw_17_25 drw_18_6 drw_18_8 drw_18_10 drw_18_12 drw_18_14 drw_18_16 drw_18_18 drw_18_19 drw_41_9 drw_41_10 drw_41_6 drw_52_11 drw_56_9 drw_56_13 drw_58_18
attribute [go_sem] drw_58_19 drw_60_13 drw_88_5 drw_104_4 drw_104_15 drw_104_20 drw_104_22 drw_104_24 drw_104_25 drw_105_31 drw_106_13 drw_107_12 drw_107_18 drw_116_3 drw_148_5 drw_149_9 drw_149_11 drw_155_20 drw_166_18 drw_166_26 drw_170_3 drw_170_5 drw_170_7 drw_179_12 res_3 keep_3 res_4 keep_4 res_10 keep_10 res_11 keep_11 res_12 keep_12 res_13 keep_13 res_14 keep_14 res_15 keep_15
attribute [go_sem] res_16 keep_16 res_17 keep_17 res_18 keep_18 res_40 keep_40 res_41 keep_41 res_42 keep_42 res_43 keep_43 res_44 keep_44 res_45 keep_45 res_46 keep_46 res_47 keep_47 res_48 keep_48 res_49 keep_49 res_50 keep_50 res_51 keep_51 res_52 keep_52 res_53 keep_53 res_54 keep_54 res_55 keep_55 res_56 keep_56
attribute [go_sem] res_58 keep_58 res_59 keep_59 res_60 keep_60 res_61 keep_61 res_88 keep_88 res_89 keep_89 res_90 keep_90 res_99 keep_99 res_100 keep_100 res_101 keep_101 res_102 keep_102 res_103 keep_103 res_104 keep_104 res_105 keep_105 res_106 keep_106 res_107 keep_107 res_108 keep_108 res_109 keep_109 res_111 keep_111 res_112 keep_112
attribute [go_sem] res_116 keep_116 res_117 keep_117 res_135 keep_135 res_136 keep_136 res_137 keep_137 res_138 keep_138 res_139 keep_139 res_140 keep_140 res_141 keep_141 res_142 keep_142 res_143 keep_143 res_144 keep_144 res_145 keep_145 res_146 keep_146 res_148 keep_148 res_149 keep_149 res_150 keep_150 res_151 keep_151 res_152 keep_152 res_153 keep_153
attribute [go_sem] res_154 keep_154 res_155 keep_155 res_156 keep_156 res_163 keep_163 res_164 keep_164 res_165 keep_165 res_166 keep_166 res_167 keep_167 res_169 keep_169 res_170 keep_170 res_171 keep_171 res_172 keep_172 res_178 keep_178 res_179 keep_179 res_180 keep_180 res_181 keep_181 res_188 keep_188 res_189 keep_189 ts3 ts4 ts5 ts9
attribute [go_sem] ts33 ts35 ts36 ts38 ts39 ts40 ts42 ts45 ts47 ts48 ts50 ts51 ts52 ts54 ts78 ts92 ts97 ts103 ts107 ts117 ts119 ts163 ts191 ts206 tg3 tg4 tg9 tg33 tg35 tg36 tg38 tg39 tg40 tg42 tg45 tg47 tg48 tg50 tg51 tg52
attribute [go_sem] tg54 tg78 tg92 tg103 tg107 tg117 tg119 te3 te4 te5 te9 te23 te24 te25 te27 te28 te33 te35 te36 te38 te39 te40 te42 te43 te45 te47 te48 te50 te51 te52 te54 te55 te78 te92 te93 te95 te98 te103 te107 te108
attribute [go_sem] te111 te117 te119 te149 te151 te152 te153 te170 te175 te176 te183 te189 te193 te197 te204 te207 te215 tf35_0 tf35_1 tf35_2 tf35_3 tf38_0 tf38_1 tf38_2 tf38_3 tf38_4 tf42_0 tf42_1 tf42_2 tf42_3 tf42_4 tf42_5 tf47_0 tf47_1 tf47_2 tf47_3 tf50_0 tf50_1 tf50_2 tf50_3
attribute [go_sem] tf50_4 tf54_0 tf54_1 tf54_2 tf54_3 tf54_4 tf54_5 tf97_0 tf97_1 tf103_0 tf103_1 tf103_2 tf107_0 tf107_1 tf107_2 tf117_0 tf117_1 tf117_2 tf117_3 tf117_4 tf119_0 tf119_1 tf119_2 tf119_3 tf119_4 tf163_0 tf163_1 tf191_0 tf191_1 tf206_0 tp35_0 tp35_1 tp35_2 tp35_3 tp38_0 tp38_1 tp38_3 tp42_0 tp42_1 tp42_2
attribute [go_sem] tp42_3 tp42_4 tp47_0 tp47_1 tp47_2 tp47_3 tp50_0 tp50_1 tp50_3 tp54_0 tp54_1 tp54_2 tp54_3 tp54_4 tp97_0 tp103_0 tp103_1 tp103_2 tp107_0 tp117_0 tp119_0 tp163_0 tp163_1 tp163_2 tp191_0 tp206_0 tz3 tz35 tz38 tz42 tz47 tz50 tz54 tz97 tz103 tz107 tz117 tz119 tz163 tz191
attribute [go_sem] tz206 ti3 ti5 ti9 ti35 ti38 ti42 ti47 ti50 ti54 ti103 ti107 ti117 ti119 ti163 ti170 tst3 tst5 tst9 tst23 tst27 tst33 tst36 tst39 tst40 tst45 tst48 tst51 tst52 tst78 tst92 tbo3 tbo5 tbo9 tbo24 tpt3 tpt5 tpt9 tpt24 tfo35
attribute [go_sem] tfo38 tfo42 tfo47 tfo50 tfo54 tfo97 tfo103 tfo107 tfo117 tfo119 tfo163 tfo191 tfo206 tze5 tze9 tze35 tze38 tze42 tze47 tze50 tze54 tze103 tze107 tze117 tze119 tze163 tu3 tu5 tu170 tby9 tby35 tby38 tby47 tby50 tby103 tby107 tby117 tby119 tby163
end Go.Proofs
