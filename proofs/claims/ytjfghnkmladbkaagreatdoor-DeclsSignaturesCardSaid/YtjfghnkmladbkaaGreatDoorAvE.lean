/- The program as the abstract machine sees it: what is alive at each loop, which operations may be drawn, sizes of types. -/
import Derived.Test.YtjfghnkmladbkaaGreatDoorAvD
import Derived.Test.YtjfghnkmladbkaaGreatDoorProg
import Derived.KernelRfl
namespace Go.Proofs
open Go.Av
def liveT : List (Nat × (List Nat × List Nat)) := [(6000,([5,6,9,11,14],[9,44])),
 (6002,([5,6,9,11,14,16],[9,44])),
 (25000,([2,15,16,17],[14])),
 (25002,([2,6,15,16,17,34,35,36],[6,14])),
 (28000,([1,3,4],[1])),
 (28002,([1,3,5],[1])),
 (28004,([1,3,6],[1])),
 (28006,([1,3,7],[1])),
 (45000,([1,2,3,5],[1,3])),
 (48000,([0,5,6],[])),
 (48002,([0,5,6],[])),
 (58001,([3,22,23,24],[])),
 (58003,([6,7],[7])),
 (78000,([7,8],[22])),
 (78002,([8,50,51,52],[])),
 (79000,([4,7,8,9],[])),
 (79002,([7,12],[])),
 (80000,([0,4,15,16,17],[4])),
 (80002,([4,39,40,41],[4])),
 (82000,([2,4,6,7,8,9],[2,4,7,8])),
 (82002,([4,6,7,8,9,10,11,69,70,71],[4,7,8])),
 (82004,([4,6,7,8,9,10,11,111,112,113],[4,7,8])),
 (82006,([4,6,7,8,9,10,141,142,143],[4,7,8])),
 (82008,([4,6,8,10,173,174,175],[4,8])),
 (88000,([3,7,8,9],[])),
 (90000,([1,2,21,22,23],[])),
 (94000,([0,1,4,7],[4])),
 (94002,([0,1,4,9,10,11],[4,9])),
 (95000,([1,3,4],[1])),
 (98000,([0,1,5],[])),
 (101000,([1,2,4,5,18,19,20],[2,4,16])),
 (103000,([1,2,3,6,7,8],[3,7])),
 (103002,([1,2,3,6,7,8,9],[3,7])),
 (110000,([0,3,4],[])),
 (113000,([0,1,7],[])),
 (113002,([0,1,11,12],[])),
 (119000,([0,1,7,8],[])),
 (136000,([1,6,7,8],[1])),
 (137000,([0,4,7,9,11],[4,7])),
 (139000,([1,3],[1])),
 (140001,([0,15,108,109,110],[])),
 (142000,([0,3,15,16,17],[3])),
 (146000,([1,2,3,6,11,12,13],[3,6])),
 (146002,([2,3,6,25,26,27],[3,6])),
 (151000,([3,4,5,6,8],[3,4,5,6])),
 (156000,([0,1,7,8],[])),
 (157000,([0,4,7,8],[4,7])),
 (164000,([0,1,5],[])),
 (175000,([0,1,5],[])),
 (188000,([0,3],[])),
 (189000,([0,1],[])),
 (192001,([0,2,6],[2,6])),
 (194000,([3,7,8,9],[])),
 (195000,([3,17,18,19],[])),
 (197000,([0,1,6,7],[])),
 (200000,([0,4,19,20,22],[4,20])),
 (200002,([0,4,26,27],[4,26])),
 (201000,([3,4],[])),
 (202000,([3,4,5],[])),
 (203000,([0,1,8,9,10],[])),
 (204000,([0,1,7,8],[])),
 (207001,([1,2,3,4,55,56,57],[4])),
 (207003,([1,2,3,68,69,70],[])),
 (212000,([0,1,7,8],[])),
 (216000,([0,2,4],[2])),
 (216002,([2,4,9,10,11],[2,9])),
 (217000,([0,2,6],[2,6])),
 (233000,([3,16,17,18],[])),
 (235000,([1,3,4],[1])),
 (238000,([1,6,7,8],[])),
 (239000,([0,9,10,11],[])),
 (248000,([0,3,4],[]))]
def drwT : List (Nat × List (Nat × Nat)) := [(25008,[]),
 (25014,[]),
 (25017,[]),
 (25019,[]),
 (28001,[(1,10),(1,15),(4,10),(4,15),(14,10)]),
 (28014,[(3,16),(3,25),(7,16),(7,25),(20,16),(24,16)]),
 (40005,[(7,5)]),
 (40006,[(1,3),(1,8),(1,14),(5,3),(7,3),(10,3),(10,8),(11,3),(11,8)]),
 (40007,[]),
 (45009,[]),
 (45010,[]),
 (45006,[(0,4)]),
 (58009,[(1,3)]),
 (58013,[(13,10),(15,10)]),
 (82014,[(1,3)]),
 (82017,[]),
 (82031,[(1,5),(1,20),(8,5),(8,20),(11,5),(11,20),(14,5),(17,5)]),
 (82036,[(1,5)]),
 (84003,[]),
 (85001,[(0,2)]),
 (87005,[(4,5)]),
 (89001,[]),
 (94013,[]),
 (98003,[]),
 (100007,[(0,5),(0,9),(6,5),(7,5)]),
 (100008,[]),
 (103009,[]),
 (103010,[]),
 (113031,[]),
 (137018,[(0,3)]),
 (137023,[(3,2)]),
 (137025,[(3,2)]),
 (140005,[]),
 (140009,[]),
 (140014,[]),
 (142011,[(5,1)]),
 (142014,[(5,1)]),
 (143001,[(0,2)]),
 (151007,[]),
 (151009,[(1,2)]),
 (190003,[]),
 (192014,[]),
 (192017,[(0,2)]),
 (200005,[(4,3)]),
 (200035,[(0,3)]),
 (207004,[(1,8),(3,8)]),
 (207007,[(1,8),(3,8)]),
 (207017,[(1,5)]),
 (213001,[(0,3),(1,3)]),
 (216012,[]),
 (230007,[(0,2)]),
 (231000,[(8,4)]),
 (232008,[(2,1)]),
 (234016,[(0,3)]),
 (244004,[(1,7),(1,12),(2,7),(9,7)]),
 (244005,[])]
def keepT : List Nat := [32,52,118]
def primT : List (Nat × (List AVal → Heap → Option (AVal × Heap))) := [(61,joinP),(120,itoaP),(229,atoiP),(170,indexByteP),(155,cloneP),(99,concatP),(81,knownP)]
def frzT : List (Nat × List (Nat × List (Nat × Nat))) := [(82,[(28,[(10,244)])]),(90,[(5,[(1,182)])]),(101,[(9,[(5,23)])]),(239,[(7,[(0,182)])])]
def mkmT : List (Nat × Nat) := [(182,10),(244,67)]
def lendT : List (Nat × List (Nat × Nat)) := [(140,[(11,6)])]
def clnT : List (Nat × Nat) := []
def rvsT : List (Nat × Nat) := []
def giftT : List (Nat × (Nat × Nat)) := []
def nbxT : List Nat := [25,81]
def xopT : List (Nat × List (Nat × Nat)) := [(6,[(6,1)]),(25,[(1,1)]),(77,[(4,1)])]
noncomputable def E : Env := { P := Tryz.prog,cln := fun f => alGet clnT f,rvs := fun f => alGet rvsT f,xop := fun f => (alGet xopT f).getD [],gift := fun f => alGet giftT f,nbx := fun f => nbxT.contains f,mkm := fun T _ d => mkmT.contains (T,d.getD 0),lend := fun f => (alGet lendT f).getD [],frz := fun f => (alGet frzT f).getD [],live := fun f id => alGet liveT (f * 1000 + id),drw := fun f id => alGet drwT (f * 1000 + id),keep := fun f => keepT.contains f,prim := fun f => alGet primT f }
theorem keep_def (f : FuncId) : E.keep f = List.contains ([32,52,118] : List Nat) f := rfl
theorem frz_def (f : FuncId) : E.frz f = (alGet ([(82,[(28,[(10,244)])]),(90,[(5,[(1,182)])]),(101,[(9,[(5,23)])]),(239,[(7,[(0,182)])])] : List (Nat × List (Nat × List (Nat × Nat)))) f).getD [] := rfl
theorem xop_def (f : FuncId) : E.xop f = (alGet ([(6,[(6,1)]),(25,[(1,1)]),(77,[(4,1)])] : List (Nat × List (Nat × Nat))) f).getD [] := rfl
theorem lend_def (f : FuncId) : E.lend f = (alGet ([(140,[(11,6)])] : List (Nat × List (Nat × Nat))) f).getD [] := rfl
attribute [go_sem] keep_def frz_def xop_def lend_def
theorem live_6_0 : E.live 6 0 = some ([5,6,9,11,14],[9,44]) := by kernel_rfl
theorem live_6_2 : E.live 6 2 = some ([5,6,9,11,14,16],[9,44]) := by kernel_rfl
theorem live_25_0 : E.live 25 0 = some ([2,15,16,17],[14]) := by kernel_rfl
theorem live_25_2 : E.live 25 2 = some ([2,6,15,16,17,34,35,36],[6,14]) := by kernel_rfl
theorem live_28_0 : E.live 28 0 = some ([1,3,4],[1]) := by kernel_rfl
theorem live_28_2 : E.live 28 2 = some ([1,3,5],[1]) := by kernel_rfl
theorem live_28_4 : E.live 28 4 = some ([1,3,6],[1]) := by kernel_rfl
theorem live_28_6 : E.live 28 6 = some ([1,3,7],[1]) := by kernel_rfl
theorem live_45_0 : E.live 45 0 = some ([1,2,3,5],[1,3]) := by kernel_rfl
theorem live_48_0 : E.live 48 0 = some ([0,5,6],[]) := by kernel_rfl
theorem live_48_2 : E.live 48 2 = some ([0,5,6],[]) := by kernel_rfl
theorem live_58_1 : E.live 58 1 = some ([3,22,23,24],[]) := by kernel_rfl
theorem live_58_3 : E.live 58 3 = some ([6,7],[7]) := by kernel_rfl
theorem live_78_0 : E.live 78 0 = some ([7,8],[22]) := by kernel_rfl
theorem live_78_2 : E.live 78 2 = some ([8,50,51,52],[]) := by kernel_rfl
theorem live_79_0 : E.live 79 0 = some ([4,7,8,9],[]) := by kernel_rfl
theorem live_79_2 : E.live 79 2 = some ([7,12],[]) := by kernel_rfl
theorem live_80_0 : E.live 80 0 = some ([0,4,15,16,17],[4]) := by kernel_rfl
theorem live_80_2 : E.live 80 2 = some ([4,39,40,41],[4]) := by kernel_rfl
theorem live_82_0 : E.live 82 0 = some ([2,4,6,7,8,9],[2,4,7,8]) := by kernel_rfl
theorem live_82_2 : E.live 82 2 = some ([4,6,7,8,9,10,11,69,70,71],[4,7,8]) := by kernel_rfl
theorem live_82_4 : E.live 82 4 = some ([4,6,7,8,9,10,11,111,112,113],[4,7,8]) := by kernel_rfl
theorem live_82_6 : E.live 82 6 = some ([4,6,7,8,9,10,141,142,143],[4,7,8]) := by kernel_rfl
theorem live_82_8 : E.live 82 8 = some ([4,6,8,10,173,174,175],[4,8]) := by kernel_rfl
theorem live_88_0 : E.live 88 0 = some ([3,7,8,9],[]) := by kernel_rfl
theorem live_90_0 : E.live 90 0 = some ([1,2,21,22,23],[]) := by kernel_rfl
theorem live_94_0 : E.live 94 0 = some ([0,1,4,7],[4]) := by kernel_rfl
theorem live_94_2 : E.live 94 2 = some ([0,1,4,9,10,11],[4,9]) := by kernel_rfl
theorem live_95_0 : E.live 95 0 = some ([1,3,4],[1]) := by kernel_rfl
theorem live_98_0 : E.live 98 0 = some ([0,1,5],[]) := by kernel_rfl
theorem live_101_0 : E.live 101 0 = some ([1,2,4,5,18,19,20],[2,4,16]) := by kernel_rfl
theorem live_103_0 : E.live 103 0 = some ([1,2,3,6,7,8],[3,7]) := by kernel_rfl
theorem live_103_2 : E.live 103 2 = some ([1,2,3,6,7,8,9],[3,7]) := by kernel_rfl
theorem live_110_0 : E.live 110 0 = some ([0,3,4],[]) := by kernel_rfl
theorem live_113_0 : E.live 113 0 = some ([0,1,7],[]) := by kernel_rfl
theorem live_113_2 : E.live 113 2 = some ([0,1,11,12],[]) := by kernel_rfl
theorem live_119_0 : E.live 119 0 = some ([0,1,7,8],[]) := by kernel_rfl
theorem live_136_0 : E.live 136 0 = some ([1,6,7,8],[1]) := by kernel_rfl
theorem live_137_0 : E.live 137 0 = some ([0,4,7,9,11],[4,7]) := by kernel_rfl
theorem live_139_0 : E.live 139 0 = some ([1,3],[1]) := by kernel_rfl
theorem live_140_1 : E.live 140 1 = some ([0,15,108,109,110],[]) := by kernel_rfl
theorem live_142_0 : E.live 142 0 = some ([0,3,15,16,17],[3]) := by kernel_rfl
theorem live_146_0 : E.live 146 0 = some ([1,2,3,6,11,12,13],[3,6]) := by kernel_rfl
theorem live_146_2 : E.live 146 2 = some ([2,3,6,25,26,27],[3,6]) := by kernel_rfl
theorem live_151_0 : E.live 151 0 = some ([3,4,5,6,8],[3,4,5,6]) := by kernel_rfl
theorem live_156_0 : E.live 156 0 = some ([0,1,7,8],[]) := by kernel_rfl
theorem live_157_0 : E.live 157 0 = some ([0,4,7,8],[4,7]) := by kernel_rfl
theorem live_164_0 : E.live 164 0 = some ([0,1,5],[]) := by kernel_rfl
theorem live_175_0 : E.live 175 0 = some ([0,1,5],[]) := by kernel_rfl
theorem live_188_0 : E.live 188 0 = some ([0,3],[]) := by kernel_rfl
theorem live_189_0 : E.live 189 0 = some ([0,1],[]) := by kernel_rfl
theorem live_192_1 : E.live 192 1 = some ([0,2,6],[2,6]) := by kernel_rfl
theorem live_194_0 : E.live 194 0 = some ([3,7,8,9],[]) := by kernel_rfl
theorem live_195_0 : E.live 195 0 = some ([3,17,18,19],[]) := by kernel_rfl
theorem live_197_0 : E.live 197 0 = some ([0,1,6,7],[]) := by kernel_rfl
theorem live_200_0 : E.live 200 0 = some ([0,4,19,20,22],[4,20]) := by kernel_rfl
theorem live_200_2 : E.live 200 2 = some ([0,4,26,27],[4,26]) := by kernel_rfl
theorem live_201_0 : E.live 201 0 = some ([3,4],[]) := by kernel_rfl
theorem live_202_0 : E.live 202 0 = some ([3,4,5],[]) := by kernel_rfl
theorem live_203_0 : E.live 203 0 = some ([0,1,8,9,10],[]) := by kernel_rfl
theorem live_204_0 : E.live 204 0 = some ([0,1,7,8],[]) := by kernel_rfl
theorem live_207_1 : E.live 207 1 = some ([1,2,3,4,55,56,57],[4]) := by kernel_rfl
theorem live_207_3 : E.live 207 3 = some ([1,2,3,68,69,70],[]) := by kernel_rfl
theorem live_212_0 : E.live 212 0 = some ([0,1,7,8],[]) := by kernel_rfl
theorem live_216_0 : E.live 216 0 = some ([0,2,4],[2]) := by kernel_rfl
theorem live_216_2 : E.live 216 2 = some ([2,4,9,10,11],[2,9]) := by kernel_rfl
theorem live_217_0 : E.live 217 0 = some ([0,2,6],[2,6]) := by kernel_rfl
theorem live_233_0 : E.live 233 0 = some ([3,16,17,18],[]) := by kernel_rfl
theorem live_235_0 : E.live 235 0 = some ([1,3,4],[1]) := by kernel_rfl
theorem live_238_0 : E.live 238 0 = some ([1,6,7,8],[]) := by kernel_rfl
theorem live_239_0 : E.live 239 0 = some ([0,9,10,11],[]) := by kernel_rfl
theorem live_248_0 : E.live 248 0 = some ([0,3,4],[]) := by kernel_rfl
theorem drw_25_8 : E.drw 25 8 = some [] := by kernel_rfl
theorem drw_25_14 : E.drw 25 14 = some [] := by kernel_rfl
theorem drw_25_17 : E.drw 25 17 = some [] := by kernel_rfl
theorem drw_25_19 : E.drw 25 19 = some [] := by kernel_rfl
theorem drw_28_1 : E.drw 28 1 = some [(1,10),(1,15),(4,10),(4,15),(14,10)] := by kernel_rfl
theorem drw_28_14 : E.drw 28 14 = some [(3,16),(3,25),(7,16),(7,25),(20,16),(24,16)] := by kernel_rfl
theorem drw_40_5 : E.drw 40 5 = some [(7,5)] := by kernel_rfl
theorem drw_40_6 : E.drw 40 6 = some [(1,3),(1,8),(1,14),(5,3),(7,3),(10,3),(10,8),(11,3),(11,8)] := by kernel_rfl
theorem drw_40_7 : E.drw 40 7 = some [] := by kernel_rfl
theorem drw_45_9 : E.drw 45 9 = some [] := by kernel_rfl
theorem drw_45_10 : E.drw 45 10 = some [] := by kernel_rfl
theorem drw_45_6 : E.drw 45 6 = some [(0,4)] := by kernel_rfl
theorem drw_58_9 : E.drw 58 9 = some [(1,3)] := by kernel_rfl
theorem drw_58_13 : E.drw 58 13 = some [(13,10),(15,10)] := by kernel_rfl
theorem drw_82_14 : E.drw 82 14 = some [(1,3)] := by kernel_rfl
theorem drw_82_17 : E.drw 82 17 = some [] := by kernel_rfl
theorem drw_82_31 : E.drw 82 31 = some [(1,5),(1,20),(8,5),(8,20),(11,5),(11,20),(14,5),(17,5)] := by kernel_rfl
theorem drw_82_36 : E.drw 82 36 = some [(1,5)] := by kernel_rfl
theorem drw_84_3 : E.drw 84 3 = some [] := by kernel_rfl
theorem drw_85_1 : E.drw 85 1 = some [(0,2)] := by kernel_rfl
theorem drw_87_5 : E.drw 87 5 = some [(4,5)] := by kernel_rfl
theorem drw_89_1 : E.drw 89 1 = some [] := by kernel_rfl
theorem drw_94_13 : E.drw 94 13 = some [] := by kernel_rfl
theorem drw_98_3 : E.drw 98 3 = some [] := by kernel_rfl
theorem drw_100_7 : E.drw 100 7 = some [(0,5),(0,9),(6,5),(7,5)] := by kernel_rfl
theorem drw_100_8 : E.drw 100 8 = some [] := by kernel_rfl
theorem drw_103_9 : E.drw 103 9 = some [] := by kernel_rfl
theorem drw_103_10 : E.drw 103 10 = some [] := by kernel_rfl
theorem drw_113_31 : E.drw 113 31 = some [] := by kernel_rfl
theorem drw_137_18 : E.drw 137 18 = some [(0,3)] := by kernel_rfl
theorem drw_137_23 : E.drw 137 23 = some [(3,2)] := by kernel_rfl
theorem drw_137_25 : E.drw 137 25 = some [(3,2)] := by kernel_rfl
theorem drw_140_5 : E.drw 140 5 = some [] := by kernel_rfl
theorem drw_140_9 : E.drw 140 9 = some [] := by kernel_rfl
theorem drw_140_14 : E.drw 140 14 = some [] := by kernel_rfl
theorem drw_142_11 : E.drw 142 11 = some [(5,1)] := by kernel_rfl
theorem drw_142_14 : E.drw 142 14 = some [(5,1)] := by kernel_rfl
theorem drw_143_1 : E.drw 143 1 = some [(0,2)] := by kernel_rfl
theorem drw_151_7 : E.drw 151 7 = some [] := by kernel_rfl
theorem drw_151_9 : E.drw 151 9 = some [(1,2)] := by kernel_rfl
theorem drw_190_3 : E.drw 190 3 = some [] := by kernel_rfl
theorem drw_192_14 : E.drw 192 14 = some [] := by kernel_rfl
theorem drw_192_17 : E.drw 192 17 = some [(0,2)] := by kernel_rfl
theorem drw_200_5 : E.drw 200 5 = some [(4,3)] := by kernel_rfl
theorem drw_200_35 : E.drw 200 35 = some [(0,3)] := by kernel_rfl
theorem drw_207_4 : E.drw 207 4 = some [(1,8),(3,8)] := by kernel_rfl
theorem drw_207_7 : E.drw 207 7 = some [(1,8),(3,8)] := by kernel_rfl
theorem drw_207_17 : E.drw 207 17 = some [(1,5)] := by kernel_rfl
theorem drw_213_1 : E.drw 213 1 = some [(0,3),(1,3)] := by kernel_rfl
theorem drw_216_12 : E.drw 216 12 = some [] := by kernel_rfl
theorem drw_230_7 : E.drw 230 7 = some [(0,2)] := by kernel_rfl
theorem drw_231_0 : E.drw 231 0 = some [(8,4)] := by kernel_rfl
theorem drw_232_8 : E.drw 232 8 = some [(2,1)] := by kernel_rfl
theorem drw_234_16 : E.drw 234 16 = some [(0,3)] := by kernel_rfl
theorem drw_244_4 : E.drw 244 4 = some [(1,7),(1,12),(2,7),(9,7)] := by kernel_rfl
theorem drw_244_5 : E.drw 244 5 = some [] := by kernel_rfl
theorem body_6 : bodyOf E 6 = Tryz.f6.body := by kernel_rfl
theorem prim_6 : E.prim 6 = none := by kernel_rfl
theorem res_6 : resOf E 6 = some [.tmp 4] := by kernel_rfl
theorem body_23 : bodyOf E 23 = Tryz.f23.body := by kernel_rfl
theorem prim_23 : E.prim 23 = none := by kernel_rfl
theorem res_23 : resOf E 23 = some [.tmp 0] := by kernel_rfl
theorem body_24 : bodyOf E 24 = Tryz.f24.body := by kernel_rfl
theorem prim_24 : E.prim 24 = none := by kernel_rfl
theorem res_24 : resOf E 24 = some [.tmp 2,.tmp 3,.tmp 4] := by kernel_rfl
theorem body_25 : bodyOf E 25 = Tryz.f25.body := by kernel_rfl
theorem prim_25 : E.prim 25 = none := by kernel_rfl
theorem res_25 : resOf E 25 = some [.tmp 2,.tmp 3,.tmp 4] := by kernel_rfl
theorem body_27 : bodyOf E 27 = Tryz.f27.body := by kernel_rfl
theorem prim_27 : E.prim 27 = none := by kernel_rfl
theorem res_27 : resOf E 27 = some [.cell 4 75,.tmp 5] := by kernel_rfl
theorem body_28 : bodyOf E 28 = Tryz.f28.body := by kernel_rfl
theorem prim_28 : E.prim 28 = none := by kernel_rfl
theorem res_28 : resOf E 28 = some [.tmp 2] := by kernel_rfl
theorem body_30 : bodyOf E 30 = Tryz.f30.body := by kernel_rfl
theorem prim_30 : E.prim 30 = none := by kernel_rfl
theorem res_30 : resOf E 30 = some [.cell 2 25,.tmp 3] := by kernel_rfl
theorem body_31 : bodyOf E 31 = Tryz.f31.body := by kernel_rfl
theorem prim_31 : E.prim 31 = none := by kernel_rfl
theorem res_31 : resOf E 31 = some [.tmp 4] := by kernel_rfl
theorem body_32 : bodyOf E 32 = Tryz.f32.body := by kernel_rfl
theorem prim_32 : E.prim 32 = none := by kernel_rfl
theorem res_32 : resOf E 32 = some [.tmp 2] := by kernel_rfl
theorem body_33 : bodyOf E 33 = Tryz.f33.body := by kernel_rfl
theorem prim_33 : E.prim 33 = none := by kernel_rfl
theorem res_33 : resOf E 33 = some [.tmp 2] := by kernel_rfl
theorem body_40 : bodyOf E 40 = Tryz.f40.body := by kernel_rfl
theorem prim_40 : E.prim 40 = none := by kernel_rfl
theorem res_40 : resOf E 40 = some [.cell 6 25] := by kernel_rfl
theorem body_45 : bodyOf E 45 = Tryz.f45.body := by kernel_rfl
theorem prim_45 : E.prim 45 = none := by kernel_rfl
theorem res_45 : resOf E 45 = some [.tmp 2,.cell 3 3,.tmp 4] := by kernel_rfl
theorem body_48 : bodyOf E 48 = Tryz.f48.body := by kernel_rfl
theorem prim_48 : E.prim 48 = none := by kernel_rfl
theorem res_48 : resOf E 48 = some [.tmp 2,.tmp 3,.tmp 4] := by kernel_rfl
theorem body_57 : bodyOf E 57 = Tryz.f57.body := by kernel_rfl
theorem prim_57 : E.prim 57 = none := by kernel_rfl
theorem res_57 : resOf E 57 = some [.tmp 4] := by kernel_rfl
theorem body_58 : bodyOf E 58 = Tryz.f58.body := by kernel_rfl
theorem prim_58 : E.prim 58 = none := by kernel_rfl
theorem res_58 : resOf E 58 = some [.tmp 2] := by kernel_rfl
theorem body_77 : bodyOf E 77 = Tryz.f77.body := by kernel_rfl
theorem prim_77 : E.prim 77 = none := by kernel_rfl
theorem res_77 : resOf E 77 = some [.tmp 4] := by kernel_rfl
theorem body_78 : bodyOf E 78 = Tryz.f78.body := by kernel_rfl
theorem prim_78 : E.prim 78 = none := by kernel_rfl
theorem res_78 : resOf E 78 = some [.tmp 2,.tmp 3] := by kernel_rfl
theorem body_79 : bodyOf E 79 = Tryz.f79.body := by kernel_rfl
theorem prim_79 : E.prim 79 = none := by kernel_rfl
theorem res_79 : resOf E 79 = some [.tmp 2,.tmp 3] := by kernel_rfl
theorem body_80 : bodyOf E 80 = Tryz.f80.body := by kernel_rfl
theorem prim_80 : E.prim 80 = none := by kernel_rfl
theorem res_80 : resOf E 80 = some [.tmp 2,.tmp 3] := by kernel_rfl
theorem body_82 : bodyOf E 82 = Tryz.f82.body := by kernel_rfl
theorem prim_82 : E.prim 82 = none := by kernel_rfl
theorem res_82 : resOf E 82 = some [.cell 4 75,.tmp 5] := by kernel_rfl
theorem body_84 : bodyOf E 84 = Tryz.f84.body := by kernel_rfl
theorem prim_84 : E.prim 84 = none := by kernel_rfl
theorem res_84 : resOf E 84 = some [.tmp 2] := by kernel_rfl
theorem body_85 : bodyOf E 85 = Tryz.f85.body := by kernel_rfl
theorem prim_85 : E.prim 85 = none := by kernel_rfl
theorem res_85 : resOf E 85 = some [.tmp 2] := by kernel_rfl
theorem body_87 : bodyOf E 87 = Tryz.f87.body := by kernel_rfl
theorem prim_87 : E.prim 87 = none := by kernel_rfl
theorem res_87 : resOf E 87 = some [.cell 2 25,.tmp 3,.tmp 4] := by kernel_rfl
theorem body_88 : bodyOf E 88 = Tryz.f88.body := by kernel_rfl
theorem prim_88 : E.prim 88 = none := by kernel_rfl
theorem res_88 : resOf E 88 = some [.tmp 2] := by kernel_rfl
theorem body_89 : bodyOf E 89 = Tryz.f89.body := by kernel_rfl
theorem prim_89 : E.prim 89 = none := by kernel_rfl
theorem res_89 : resOf E 89 = some [.tmp 4] := by kernel_rfl
theorem body_90 : bodyOf E 90 = Tryz.f90.body := by kernel_rfl
theorem prim_90 : E.prim 90 = none := by kernel_rfl
theorem res_90 : resOf E 90 = some [] := by kernel_rfl
theorem body_91 : bodyOf E 91 = Tryz.f91.body := by kernel_rfl
theorem prim_91 : E.prim 91 = none := by kernel_rfl
theorem res_91 : resOf E 91 = some [] := by kernel_rfl
theorem body_92 : bodyOf E 92 = Tryz.f92.body := by kernel_rfl
theorem prim_92 : E.prim 92 = none := by kernel_rfl
theorem res_92 : resOf E 92 = some [] := by kernel_rfl
theorem body_93 : bodyOf E 93 = Tryz.f93.body := by kernel_rfl
theorem prim_93 : E.prim 93 = none := by kernel_rfl
theorem res_93 : resOf E 93 = some [.tmp 4] := by kernel_rfl
theorem body_94 : bodyOf E 94 = Tryz.f94.body := by kernel_rfl
theorem prim_94 : E.prim 94 = none := by kernel_rfl
theorem res_94 : resOf E 94 = some [.cell 4 38,.tmp 5] := by kernel_rfl
theorem body_95 : bodyOf E 95 = Tryz.f95.body := by kernel_rfl
theorem prim_95 : E.prim 95 = none := by kernel_rfl
theorem res_95 : resOf E 95 = some [.tmp 2] := by kernel_rfl
theorem body_98 : bodyOf E 98 = Tryz.f98.body := by kernel_rfl
theorem prim_98 : E.prim 98 = none := by kernel_rfl
theorem res_98 : resOf E 98 = some [.tmp 4] := by kernel_rfl
theorem body_100 : bodyOf E 100 = Tryz.f100.body := by kernel_rfl
theorem prim_100 : E.prim 100 = none := by kernel_rfl
theorem res_100 : resOf E 100 = some [.cell 6 25] := by kernel_rfl
theorem body_101 : bodyOf E 101 = Tryz.f101.body := by kernel_rfl
theorem prim_101 : E.prim 101 = none := by kernel_rfl
theorem res_101 : resOf E 101 = some [.cell 4 25] := by kernel_rfl
theorem body_102 : bodyOf E 102 = Tryz.f102.body := by kernel_rfl
theorem prim_102 : E.prim 102 = none := by kernel_rfl
theorem res_102 : resOf E 102 = some [.cell 4 25] := by kernel_rfl
theorem body_103 : bodyOf E 103 = Tryz.f103.body := by kernel_rfl
theorem prim_103 : E.prim 103 = none := by kernel_rfl
theorem res_103 : resOf E 103 = some [.tmp 6,.cell 7 25] := by kernel_rfl
theorem body_108 : bodyOf E 108 = Tryz.f108.body := by kernel_rfl
theorem prim_108 : E.prim 108 = none := by kernel_rfl
theorem res_108 : resOf E 108 = some [.tmp 2,.tmp 3] := by kernel_rfl
theorem body_109 : bodyOf E 109 = Tryz.f109.body := by kernel_rfl
theorem prim_109 : E.prim 109 = none := by kernel_rfl
theorem res_109 : resOf E 109 = some [.tmp 2,.tmp 3] := by kernel_rfl
theorem body_110 : bodyOf E 110 = Tryz.f110.body := by kernel_rfl
theorem prim_110 : E.prim 110 = none := by kernel_rfl
theorem res_110 : resOf E 110 = some [.tmp 2] := by kernel_rfl
theorem body_113 : bodyOf E 113 = Tryz.f113.body := by kernel_rfl
theorem prim_113 : E.prim 113 = none := by kernel_rfl
theorem res_113 : resOf E 113 = some [.tmp 4,.tmp 5] := by kernel_rfl
theorem body_119 : bodyOf E 119 = Tryz.f119.body := by kernel_rfl
theorem prim_119 : E.prim 119 = none := by kernel_rfl
theorem res_119 : resOf E 119 = some [.tmp 4] := by kernel_rfl
theorem body_121 : bodyOf E 121 = Tryz.f121.body := by kernel_rfl
theorem prim_121 : E.prim 121 = none := by kernel_rfl
theorem res_121 : resOf E 121 = some [.tmp 4] := by kernel_rfl
theorem body_122 : bodyOf E 122 = Tryz.f122.body := by kernel_rfl
theorem prim_122 : E.prim 122 = none := by kernel_rfl
theorem res_122 : resOf E 122 = some [.tmp 2] := by kernel_rfl
theorem body_130 : bodyOf E 130 = Tryz.f130.body := by kernel_rfl
theorem prim_130 : E.prim 130 = none := by kernel_rfl
theorem res_130 : resOf E 130 = some [.tmp 8] := by kernel_rfl
theorem body_134 : bodyOf E 134 = Tryz.f134.body := by kernel_rfl
theorem prim_134 : E.prim 134 = none := by kernel_rfl
theorem res_134 : resOf E 134 = some [.cell 2 91] := by kernel_rfl
theorem body_135 : bodyOf E 135 = Tryz.f135.body := by kernel_rfl
theorem prim_135 : E.prim 135 = none := by kernel_rfl
theorem res_135 : resOf E 135 = some [.tmp 6] := by kernel_rfl
theorem body_136 : bodyOf E 136 = Tryz.f136.body := by kernel_rfl
theorem prim_136 : E.prim 136 = none := by kernel_rfl
theorem res_136 : resOf E 136 = some [.tmp 2] := by kernel_rfl
theorem body_137 : bodyOf E 137 = Tryz.f137.body := by kernel_rfl
theorem prim_137 : E.prim 137 = none := by kernel_rfl
theorem res_137 : resOf E 137 = some [.cell 4 170,.tmp 5] := by kernel_rfl
theorem body_138 : bodyOf E 138 = Tryz.f138.body := by kernel_rfl
theorem prim_138 : E.prim 138 = none := by kernel_rfl
theorem res_138 : resOf E 138 = some [.tmp 8] := by kernel_rfl
theorem body_139 : bodyOf E 139 = Tryz.f139.body := by kernel_rfl
theorem prim_139 : E.prim 139 = none := by kernel_rfl
theorem res_139 : resOf E 139 = some [.tmp 2] := by kernel_rfl
theorem body_140 : bodyOf E 140 = Tryz.f140.body := by kernel_rfl
theorem prim_140 : E.prim 140 = none := by kernel_rfl
theorem res_140 : resOf E 140 = some [.tmp 4,.tmp 5] := by kernel_rfl
theorem body_141 : bodyOf E 141 = Tryz.f141.body := by kernel_rfl
theorem prim_141 : E.prim 141 = none := by kernel_rfl
theorem res_141 : resOf E 141 = some [.tmp 4,.tmp 5] := by kernel_rfl
theorem body_142 : bodyOf E 142 = Tryz.f142.body := by kernel_rfl
theorem prim_142 : E.prim 142 = none := by kernel_rfl
theorem res_142 : resOf E 142 = some [.tmp 4,.tmp 5] := by kernel_rfl
theorem body_143 : bodyOf E 143 = Tryz.f143.body := by kernel_rfl
theorem prim_143 : E.prim 143 = none := by kernel_rfl
theorem res_143 : resOf E 143 = some [.tmp 2,.cell 3 25] := by kernel_rfl
theorem body_144 : bodyOf E 144 = Tryz.f144.body := by kernel_rfl
theorem prim_144 : E.prim 144 = none := by kernel_rfl
theorem res_144 : resOf E 144 = some [.tmp 4] := by kernel_rfl
theorem body_145 : bodyOf E 145 = Tryz.f145.body := by kernel_rfl
theorem prim_145 : E.prim 145 = none := by kernel_rfl
theorem res_145 : resOf E 145 = some [.tmp 2] := by kernel_rfl
theorem body_146 : bodyOf E 146 = Tryz.f146.body := by kernel_rfl
theorem prim_146 : E.prim 146 = none := by kernel_rfl
theorem res_146 : resOf E 146 = some [.cell 6 25] := by kernel_rfl
theorem body_151 : bodyOf E 151 = Tryz.f151.body := by kernel_rfl
theorem prim_151 : E.prim 151 = none := by kernel_rfl
theorem res_151 : resOf E 151 = some [.cell 6 25,.tmp 7] := by kernel_rfl
theorem body_153 : bodyOf E 153 = Tryz.f153.body := by kernel_rfl
theorem prim_153 : E.prim 153 = none := by kernel_rfl
theorem res_153 : resOf E 153 = some [.cell 2 25,.tmp 3] := by kernel_rfl
theorem body_154 : bodyOf E 154 = Tryz.f154.body := by kernel_rfl
theorem prim_154 : E.prim 154 = none := by kernel_rfl
theorem res_154 : resOf E 154 = some [.tmp 3] := by kernel_rfl
theorem body_156 : bodyOf E 156 = Tryz.f156.body := by kernel_rfl
theorem prim_156 : E.prim 156 = none := by kernel_rfl
theorem res_156 : resOf E 156 = some [.tmp 4] := by kernel_rfl
theorem body_157 : bodyOf E 157 = Tryz.f157.body := by kernel_rfl
theorem prim_157 : E.prim 157 = none := by kernel_rfl
theorem res_157 : resOf E 157 = some [.cell 4 38,.tmp 5] := by kernel_rfl
theorem body_159 : bodyOf E 159 = Tryz.f159.body := by kernel_rfl
theorem prim_159 : E.prim 159 = none := by kernel_rfl
theorem res_159 : resOf E 159 = some [.cell 4 25] := by kernel_rfl
theorem body_162 : bodyOf E 162 = Tryz.f162.body := by kernel_rfl
theorem prim_162 : E.prim 162 = none := by kernel_rfl
theorem res_162 : resOf E 162 = some [.tmp 2] := by kernel_rfl
theorem body_163 : bodyOf E 163 = Tryz.f163.body := by kernel_rfl
theorem prim_163 : E.prim 163 = none := by kernel_rfl
theorem res_163 : resOf E 163 = some [.tmp 2] := by kernel_rfl
theorem body_164 : bodyOf E 164 = Tryz.f164.body := by kernel_rfl
theorem prim_164 : E.prim 164 = none := by kernel_rfl
theorem res_164 : resOf E 164 = some [.tmp 4] := by kernel_rfl
theorem body_165 : bodyOf E 165 = Tryz.f165.body := by kernel_rfl
theorem prim_165 : E.prim 165 = none := by kernel_rfl
theorem res_165 : resOf E 165 = some [.tmp 2] := by kernel_rfl
theorem body_166 : bodyOf E 166 = Tryz.f166.body := by kernel_rfl
theorem prim_166 : E.prim 166 = none := by kernel_rfl
theorem res_166 : resOf E 166 = some [.tmp 2] := by kernel_rfl
theorem body_167 : bodyOf E 167 = Tryz.f167.body := by kernel_rfl
theorem prim_167 : E.prim 167 = none := by kernel_rfl
theorem res_167 : resOf E 167 = some [.tmp 2] := by kernel_rfl
theorem body_168 : bodyOf E 168 = Tryz.f168.body := by kernel_rfl
theorem prim_168 : E.prim 168 = none := by kernel_rfl
theorem res_168 : resOf E 168 = some [.tmp 2] := by kernel_rfl
theorem body_169 : bodyOf E 169 = Tryz.f169.body := by kernel_rfl
theorem prim_169 : E.prim 169 = none := by kernel_rfl
theorem res_169 : resOf E 169 = some [.tmp 4] := by kernel_rfl
theorem body_173 : bodyOf E 173 = Tryz.f173.body := by kernel_rfl
theorem prim_173 : E.prim 173 = none := by kernel_rfl
theorem res_173 : resOf E 173 = some [.tmp 2] := by kernel_rfl
theorem body_174 : bodyOf E 174 = Tryz.f174.body := by kernel_rfl
theorem prim_174 : E.prim 174 = none := by kernel_rfl
theorem res_174 : resOf E 174 = some [.tmp 2] := by kernel_rfl
theorem body_175 : bodyOf E 175 = Tryz.f175.body := by kernel_rfl
theorem prim_175 : E.prim 175 = none := by kernel_rfl
theorem res_175 : resOf E 175 = some [.tmp 4] := by kernel_rfl
theorem body_187 : bodyOf E 187 = Tryz.f187.body := by kernel_rfl
theorem prim_187 : E.prim 187 = none := by kernel_rfl
theorem res_187 : resOf E 187 = some [.tmp 6] := by kernel_rfl
theorem body_188 : bodyOf E 188 = Tryz.f188.body := by kernel_rfl
theorem prim_188 : E.prim 188 = none := by kernel_rfl
theorem res_188 : resOf E 188 = some [.tmp 2] := by kernel_rfl
theorem body_189 : bodyOf E 189 = Tryz.f189.body := by kernel_rfl
theorem prim_189 : E.prim 189 = none := by kernel_rfl
theorem res_189 : resOf E 189 = some [] := by kernel_rfl
theorem body_190 : bodyOf E 190 = Tryz.f190.body := by kernel_rfl
theorem prim_190 : E.prim 190 = none := by kernel_rfl
theorem res_190 : resOf E 190 = some [] := by kernel_rfl
theorem body_191 : bodyOf E 191 = Tryz.f191.body := by kernel_rfl
theorem prim_191 : E.prim 191 = none := by kernel_rfl
theorem res_191 : resOf E 191 = some [.cell 2 25] := by kernel_rfl
theorem body_192 : bodyOf E 192 = Tryz.f192.body := by kernel_rfl
theorem prim_192 : E.prim 192 = none := by kernel_rfl
theorem res_192 : resOf E 192 = some [.cell 2 89] := by kernel_rfl
theorem body_193 : bodyOf E 193 = Tryz.f193.body := by kernel_rfl
theorem prim_193 : E.prim 193 = none := by kernel_rfl
theorem res_193 : resOf E 193 = some [.tmp 6] := by kernel_rfl
theorem body_194 : bodyOf E 194 = Tryz.f194.body := by kernel_rfl
theorem prim_194 : E.prim 194 = none := by kernel_rfl
theorem res_194 : resOf E 194 = some [.tmp 2] := by kernel_rfl
theorem body_195 : bodyOf E 195 = Tryz.f195.body := by kernel_rfl
theorem prim_195 : E.prim 195 = none := by kernel_rfl
theorem res_195 : resOf E 195 = some [.tmp 2] := by kernel_rfl
theorem body_196 : bodyOf E 196 = Tryz.f196.body := by kernel_rfl
theorem prim_196 : E.prim 196 = none := by kernel_rfl
theorem res_196 : resOf E 196 = some [.tmp 4] := by kernel_rfl
theorem body_197 : bodyOf E 197 = Tryz.f197.body := by kernel_rfl
theorem prim_197 : E.prim 197 = none := by kernel_rfl
theorem res_197 : resOf E 197 = some [.tmp 4,.tmp 5] := by kernel_rfl
theorem body_198 : bodyOf E 198 = Tryz.f198.body := by kernel_rfl
theorem prim_198 : E.prim 198 = none := by kernel_rfl
theorem res_198 : resOf E 198 = some [.tmp 8] := by kernel_rfl
theorem body_199 : bodyOf E 199 = Tryz.f199.body := by kernel_rfl
theorem prim_199 : E.prim 199 = none := by kernel_rfl
theorem res_199 : resOf E 199 = some [.cell 4 38,.tmp 5] := by kernel_rfl
theorem body_200 : bodyOf E 200 = Tryz.f200.body := by kernel_rfl
theorem prim_200 : E.prim 200 = none := by kernel_rfl
theorem res_200 : resOf E 200 = some [.cell 4 168,.tmp 5] := by kernel_rfl
theorem body_201 : bodyOf E 201 = Tryz.f201.body := by kernel_rfl
theorem prim_201 : E.prim 201 = none := by kernel_rfl
theorem res_201 : resOf E 201 = some [.tmp 2] := by kernel_rfl
theorem body_202 : bodyOf E 202 = Tryz.f202.body := by kernel_rfl
theorem prim_202 : E.prim 202 = none := by kernel_rfl
theorem res_202 : resOf E 202 = some [.tmp 2] := by kernel_rfl
theorem body_203 : bodyOf E 203 = Tryz.f203.body := by kernel_rfl
theorem prim_203 : E.prim 203 = none := by kernel_rfl
theorem res_203 : resOf E 203 = some [.tmp 4,.tmp 5] := by kernel_rfl
theorem body_204 : bodyOf E 204 = Tryz.f204.body := by kernel_rfl
theorem prim_204 : E.prim 204 = none := by kernel_rfl
theorem res_204 : resOf E 204 = some [.tmp 4] := by kernel_rfl
theorem body_205 : bodyOf E 205 = Tryz.f205.body := by kernel_rfl
theorem prim_205 : E.prim 205 = none := by kernel_rfl
theorem res_205 : resOf E 205 = some [.tmp 3] := by kernel_rfl
theorem body_206 : bodyOf E 206 = Tryz.f206.body := by kernel_rfl
theorem prim_206 : E.prim 206 = none := by kernel_rfl
theorem res_206 : resOf E 206 = some [.tmp 2] := by kernel_rfl
theorem body_207 : bodyOf E 207 = Tryz.f207.body := by kernel_rfl
theorem prim_207 : E.prim 207 = none := by kernel_rfl
theorem res_207 : resOf E 207 = some [] := by kernel_rfl
theorem body_208 : bodyOf E 208 = Tryz.f208.body := by kernel_rfl
theorem prim_208 : E.prim 208 = none := by kernel_rfl
theorem res_208 : resOf E 208 = some [] := by kernel_rfl
theorem body_209 : bodyOf E 209 = Tryz.f209.body := by kernel_rfl
theorem prim_209 : E.prim 209 = none := by kernel_rfl
theorem res_209 : resOf E 209 = some [] := by kernel_rfl
theorem body_210 : bodyOf E 210 = Tryz.f210.body := by kernel_rfl
theorem prim_210 : E.prim 210 = none := by kernel_rfl
theorem res_210 : resOf E 210 = some [.tmp 2] := by kernel_rfl
theorem body_211 : bodyOf E 211 = Tryz.f211.body := by kernel_rfl
theorem prim_211 : E.prim 211 = none := by kernel_rfl
theorem res_211 : resOf E 211 = some [.tmp 2] := by kernel_rfl
theorem body_212 : bodyOf E 212 = Tryz.f212.body := by kernel_rfl
theorem prim_212 : E.prim 212 = none := by kernel_rfl
theorem res_212 : resOf E 212 = some [.tmp 4] := by kernel_rfl
theorem body_213 : bodyOf E 213 = Tryz.f213.body := by kernel_rfl
theorem prim_213 : E.prim 213 = none := by kernel_rfl
theorem res_213 : resOf E 213 = some [.cell 6 25] := by kernel_rfl
theorem body_214 : bodyOf E 214 = Tryz.f214.body := by kernel_rfl
theorem prim_214 : E.prim 214 = none := by kernel_rfl
theorem res_214 : resOf E 214 = some [.cell 4 25] := by kernel_rfl
theorem body_215 : bodyOf E 215 = Tryz.f215.body := by kernel_rfl
theorem prim_215 : E.prim 215 = none := by kernel_rfl
theorem res_215 : resOf E 215 = some [.tmp 6,.tmp 7] := by kernel_rfl
theorem body_216 : bodyOf E 216 = Tryz.f216.body := by kernel_rfl
theorem prim_216 : E.prim 216 = none := by kernel_rfl
theorem res_216 : resOf E 216 = some [.cell 2 25,.tmp 3] := by kernel_rfl
theorem body_217 : bodyOf E 217 = Tryz.f217.body := by kernel_rfl
theorem prim_217 : E.prim 217 = none := by kernel_rfl
theorem res_217 : resOf E 217 = some [.cell 2 25,.tmp 3] := by kernel_rfl
theorem body_219 : bodyOf E 219 = Tryz.f219.body := by kernel_rfl
theorem prim_219 : E.prim 219 = none := by kernel_rfl
theorem res_219 : resOf E 219 = some [.cell 4 38,.tmp 5] := by kernel_rfl
theorem body_222 : bodyOf E 222 = Tryz.f222.body := by kernel_rfl
theorem prim_222 : E.prim 222 = none := by kernel_rfl
theorem res_222 : resOf E 222 = some [.tmp 4] := by kernel_rfl
theorem body_230 : bodyOf E 230 = Tryz.f230.body := by kernel_rfl
theorem prim_230 : E.prim 230 = none := by kernel_rfl
theorem res_230 : resOf E 230 = some [.cell 2 89] := by kernel_rfl
theorem body_231 : bodyOf E 231 = Tryz.f231.body := by kernel_rfl
theorem prim_231 : E.prim 231 = none := by kernel_rfl
theorem res_231 : resOf E 231 = some [] := by kernel_rfl
theorem body_232 : bodyOf E 232 = Tryz.f232.body := by kernel_rfl
theorem prim_232 : E.prim 232 = none := by kernel_rfl
theorem res_232 : resOf E 232 = some [.cell 2 89] := by kernel_rfl
theorem body_233 : bodyOf E 233 = Tryz.f233.body := by kernel_rfl
theorem prim_233 : E.prim 233 = none := by kernel_rfl
theorem res_233 : resOf E 233 = some [.tmp 2] := by kernel_rfl
theorem body_234 : bodyOf E 234 = Tryz.f234.body := by kernel_rfl
theorem prim_234 : E.prim 234 = none := by kernel_rfl
theorem res_234 : resOf E 234 = some [.cell 4 168,.tmp 5] := by kernel_rfl
theorem body_235 : bodyOf E 235 = Tryz.f235.body := by kernel_rfl
theorem prim_235 : E.prim 235 = none := by kernel_rfl
theorem res_235 : resOf E 235 = some [.tmp 2] := by kernel_rfl
theorem body_236 : bodyOf E 236 = Tryz.f236.body := by kernel_rfl
theorem prim_236 : E.prim 236 = none := by kernel_rfl
theorem res_236 : resOf E 236 = some [] := by kernel_rfl
theorem body_237 : bodyOf E 237 = Tryz.f237.body := by kernel_rfl
theorem prim_237 : E.prim 237 = none := by kernel_rfl
theorem res_237 : resOf E 237 = some [] := by kernel_rfl
theorem body_238 : bodyOf E 238 = Tryz.f238.body := by kernel_rfl
theorem prim_238 : E.prim 238 = none := by kernel_rfl
theorem res_238 : resOf E 238 = some [] := by kernel_rfl
theorem body_239 : bodyOf E 239 = Tryz.f239.body := by kernel_rfl
theorem prim_239 : E.prim 239 = none := by kernel_rfl
theorem res_239 : resOf E 239 = some [.tmp 4] := by kernel_rfl
theorem body_240 : bodyOf E 240 = Tryz.f240.body := by kernel_rfl
theorem prim_240 : E.prim 240 = none := by kernel_rfl
theorem res_240 : resOf E 240 = some [] := by kernel_rfl
theorem body_241 : bodyOf E 241 = Tryz.f241.body := by kernel_rfl
theorem prim_241 : E.prim 241 = none := by kernel_rfl
theorem res_241 : resOf E 241 = some [] := by kernel_rfl
theorem body_242 : bodyOf E 242 = Tryz.f242.body := by kernel_rfl
theorem prim_242 : E.prim 242 = none := by kernel_rfl
theorem res_242 : resOf E 242 = some [] := by kernel_rfl
theorem body_243 : bodyOf E 243 = Tryz.f243.body := by kernel_rfl
theorem prim_243 : E.prim 243 = none := by kernel_rfl
theorem res_243 : resOf E 243 = some [] := by kernel_rfl
theorem body_244 : bodyOf E 244 = Tryz.f244.body := by kernel_rfl
theorem prim_244 : E.prim 244 = none := by kernel_rfl
theorem res_244 : resOf E 244 = some [.cell 8 25] := by kernel_rfl
theorem body_245 : bodyOf E 245 = Tryz.f245.body := by kernel_rfl
theorem prim_245 : E.prim 245 = none := by kernel_rfl
theorem res_245 : resOf E 245 = some [.tmp 3] := by kernel_rfl
theorem body_246 : bodyOf E 246 = Tryz.f246.body := by kernel_rfl
theorem prim_246 : E.prim 246 = none := by kernel_rfl
theorem res_246 : resOf E 246 = some [.tmp 6] := by kernel_rfl
theorem body_247 : bodyOf E 247 = Tryz.f247.body := by kernel_rfl
theorem prim_247 : E.prim 247 = none := by kernel_rfl
theorem res_247 : resOf E 247 = some [.cell 2 25,.tmp 3] := by kernel_rfl
theorem body_248 : bodyOf E 248 = Tryz.f248.body := by kernel_rfl
theorem prim_248 : E.prim 248 = none := by kernel_rfl
theorem res_248 : resOf E 248 = some [.tmp 2] := by kernel_rfl
theorem body_261 : bodyOf E 261 = Tryz.f261.body := by kernel_rfl
theorem prim_261 : E.prim 261 = none := by kernel_rfl
theorem res_261 : resOf E 261 = some [.cell 5 25] := by kernel_rfl
theorem prim_61 : E.prim 61 = some joinP := by kernel_rfl
theorem prim_120 : E.prim 120 = some itoaP := by kernel_rfl
theorem prim_229 : E.prim 229 = some atoiP := by kernel_rfl
theorem prim_170 : E.prim 170 = some indexByteP := by kernel_rfl
theorem prim_155 : E.prim 155 = some cloneP := by kernel_rfl
theorem prim_99 : E.prim 99 = some concatP := by kernel_rfl
theorem prim_81 : E.prim 81 = some knownP := by kernel_rfl
theorem drw_231_3 : E.drw 231 3 = none := by kernel_rfl
theorem ts3 : tsize E.P 3 = 1 := by kernel_rfl
theorem ts4 : tsize E.P 4 = 1 := by kernel_rfl
theorem ts5 : tsize E.P 5 = 1 := by kernel_rfl
theorem ts9 : tsize E.P 9 = 1 := by kernel_rfl
theorem ts23 : tsize E.P 23 = 1 := by kernel_rfl
theorem ts25 : tsize E.P 25 = 4 := by kernel_rfl
theorem ts36 : tsize E.P 36 = 1 := by kernel_rfl
theorem ts38 : tsize E.P 38 = 4 := by kernel_rfl
theorem ts49 : tsize E.P 49 = 1 := by kernel_rfl
theorem ts67 : tsize E.P 67 = 1 := by kernel_rfl
theorem ts73 : tsize E.P 73 = 1 := by kernel_rfl
theorem ts75 : tsize E.P 75 = 11 := by kernel_rfl
theorem ts85 : tsize E.P 85 = 1 := by kernel_rfl
theorem ts86 : tsize E.P 86 = 1 := by kernel_rfl
theorem ts87 : tsize E.P 87 = 1 := by kernel_rfl
theorem ts89 : tsize E.P 89 = 9 := by kernel_rfl
theorem ts91 : tsize E.P 91 = 17 := by kernel_rfl
theorem ts94 : tsize E.P 94 = 5 := by kernel_rfl
theorem ts96 : tsize E.P 96 = 1 := by kernel_rfl
theorem ts110 : tsize E.P 110 = 9 := by kernel_rfl
theorem ts117 : tsize E.P 117 = 1 := by kernel_rfl
theorem ts159 : tsize E.P 159 = 1 := by kernel_rfl
theorem ts161 : tsize E.P 161 = 1 := by kernel_rfl
theorem ts164 : tsize E.P 164 = 1 := by kernel_rfl
theorem ts165 : tsize E.P 165 = 1 := by kernel_rfl
theorem ts166 : tsize E.P 166 = 1 := by kernel_rfl
theorem ts168 : tsize E.P 168 = 9 := by kernel_rfl
theorem ts170 : tsize E.P 170 = 17 := by kernel_rfl
theorem ts172 : tsize E.P 172 = 5 := by kernel_rfl
theorem ts180 : tsize E.P 180 = 1 := by kernel_rfl
theorem ts182 : tsize E.P 182 = 1 := by kernel_rfl
theorem ts206 : tsize E.P 206 = 3 := by kernel_rfl
theorem ts229 : tsize E.P 229 = 1 := by kernel_rfl
theorem ts231 : tsize E.P 231 = 2 := by kernel_rfl
theorem ts237 : tsize E.P 237 = 4 := by kernel_rfl
theorem ts256 : tsize E.P 256 = 1 := by kernel_rfl
theorem ts278 : tsize E.P 278 = 2 := by kernel_rfl
theorem ts291 : tsize E.P 291 = 11 := by kernel_rfl
theorem ts309 : tsize E.P 309 = 2 := by kernel_rfl
theorem ts312 : tsize E.P 312 = 11 := by kernel_rfl
theorem ts315 : tsize E.P 315 = 2 := by kernel_rfl
theorem gift_25 : E.gift 25 = none := by kernel_rfl
theorem nbx_25 : E.nbx 25 = true := by kernel_rfl
theorem gift_81 : E.gift 81 = none := by kernel_rfl
theorem nbx_81 : E.nbx 81 = true := by kernel_rfl
theorem tsM : tsize E.P 1099511627777 = 0 := by kernel_rfl
theorem mkm182_5 : ∀ n,E.mkm 182 n (some 5) = false := fun _ => by kernel_rfl
theorem mkm182_10 : ∀ n,E.mkm 182 n (some 10) = true := fun _ => by kernel_rfl
theorem mkm182_30 : ∀ n,E.mkm 182 n (some 30) = false := fun _ => by kernel_rfl
theorem mkm244_67 : ∀ n,E.mkm 244 n (some 67) = true := fun _ => by kernel_rfl
theorem tmp159 : tmap E.P 159 = some (9,3) := by kernel_rfl
theorem tmp161 : tmap E.P 161 = some (9,75) := by kernel_rfl
theorem tmp182 : tmap E.P 182 = some (9,4) := by kernel_rfl
theorem tmp244 : tmap E.P 244 = some (9,9) := by kernel_rfl
theorem tzv3 : zeroV E 3 = some (.int .i64 0) := by kernel_rfl
theorem tzv4 : zeroV E 4 = some (.bool false) := by kernel_rfl
theorem tzv9 : zeroV E 9 = some (.str []) := by kernel_rfl
theorem tzv75 : zeroV E 75 = some (.agg [.str [],.str [],.int .i64 0,.int .i64 0,.str [],.int .i64 0,.slice [],.slice [],.slice [],.slice [],.slice []]) := by kernel_rfl
theorem tg3 : tagg E.P 3 = some false := by kernel_rfl
theorem tg4 : tagg E.P 4 = some false := by kernel_rfl
theorem tg9 : tagg E.P 9 = some false := by kernel_rfl
theorem tg23 : tagg E.P 23 = some false := by kernel_rfl
theorem tg25 : tagg E.P 25 = some true := by kernel_rfl
theorem tg36 : tagg E.P 36 = some false := by kernel_rfl
theorem tg38 : tagg E.P 38 = some true := by kernel_rfl
theorem tg49 : tagg E.P 49 = some false := by kernel_rfl
theorem tg67 : tagg E.P 67 = some false := by kernel_rfl
theorem tg73 : tagg E.P 73 = some false := by kernel_rfl
theorem tg75 : tagg E.P 75 = some true := by kernel_rfl
theorem tg85 : tagg E.P 85 = some false := by kernel_rfl
theorem tg86 : tagg E.P 86 = some false := by kernel_rfl
theorem tg87 : tagg E.P 87 = some false := by kernel_rfl
theorem tg89 : tagg E.P 89 = some true := by kernel_rfl
theorem tg91 : tagg E.P 91 = some true := by kernel_rfl
theorem tg94 : tagg E.P 94 = some true := by kernel_rfl
theorem tg96 : tagg E.P 96 = some false := by kernel_rfl
theorem tg117 : tagg E.P 117 = some false := by kernel_rfl
theorem tg159 : tagg E.P 159 = some false := by kernel_rfl
theorem tg161 : tagg E.P 161 = some false := by kernel_rfl
theorem tg164 : tagg E.P 164 = some false := by kernel_rfl
theorem tg165 : tagg E.P 165 = some false := by kernel_rfl
theorem tg166 : tagg E.P 166 = some false := by kernel_rfl
theorem tg168 : tagg E.P 168 = some true := by kernel_rfl
theorem tg170 : tagg E.P 170 = some true := by kernel_rfl
theorem tg172 : tagg E.P 172 = some true := by kernel_rfl
theorem tg180 : tagg E.P 180 = some false := by kernel_rfl
theorem tg182 : tagg E.P 182 = some false := by kernel_rfl
theorem tg229 : tagg E.P 229 = some false := by kernel_rfl
theorem tg291 : tagg E.P 291 = some true := by kernel_rfl
theorem tg312 : tagg E.P 312 = some true := by kernel_rfl
theorem te1 : telem E.P 1 = none := by kernel_rfl
theorem te3 : telem E.P 3 = none := by kernel_rfl
theorem te4 : telem E.P 4 = none := by kernel_rfl
theorem te5 : telem E.P 5 = none := by kernel_rfl
theorem te9 : telem E.P 9 = none := by kernel_rfl
theorem te23 : telem E.P 23 = some 25 := by kernel_rfl
theorem te25 : telem E.P 25 = none := by kernel_rfl
theorem te33 : telem E.P 33 = none := by kernel_rfl
theorem te36 : telem E.P 36 = some 38 := by kernel_rfl
theorem te38 : telem E.P 38 = none := by kernel_rfl
theorem te49 : telem E.P 49 = some 9 := by kernel_rfl
theorem te63 : telem E.P 63 = some 91 := by kernel_rfl
theorem te64 : telem E.P 64 = some 170 := by kernel_rfl
theorem te65 : telem E.P 65 = none := by kernel_rfl
theorem te67 : telem E.P 67 = none := by kernel_rfl
theorem te68 : telem E.P 68 = none := by kernel_rfl
theorem te73 : telem E.P 73 = some 110 := by kernel_rfl
theorem te75 : telem E.P 75 = none := by kernel_rfl
theorem te76 : telem E.P 76 = none := by kernel_rfl
theorem te82 : telem E.P 82 = none := by kernel_rfl
theorem te83 : telem E.P 83 = none := by kernel_rfl
theorem te85 : telem E.P 85 = some 94 := by kernel_rfl
theorem te86 : telem E.P 86 = some 89 := by kernel_rfl
theorem te87 : telem E.P 87 = some 291 := by kernel_rfl
theorem te89 : telem E.P 89 = none := by kernel_rfl
theorem te91 : telem E.P 91 = none := by kernel_rfl
theorem te94 : telem E.P 94 = none := by kernel_rfl
theorem te96 : telem E.P 96 = some 3 := by kernel_rfl
theorem te101 : telem E.P 101 = none := by kernel_rfl
theorem te117 : telem E.P 117 = some 206 := by kernel_rfl
theorem te118 : telem E.P 118 = none := by kernel_rfl
theorem te141 : telem E.P 141 = none := by kernel_rfl
theorem te142 : telem E.P 142 = none := by kernel_rfl
theorem te146 : telem E.P 146 = none := by kernel_rfl
theorem te151 : telem E.P 151 = none := by kernel_rfl
theorem te153 : telem E.P 153 = none := by kernel_rfl
theorem te155 : telem E.P 155 = none := by kernel_rfl
theorem te164 : telem E.P 164 = some 172 := by kernel_rfl
theorem te165 : telem E.P 165 = some 168 := by kernel_rfl
theorem te166 : telem E.P 166 = some 312 := by kernel_rfl
theorem te168 : telem E.P 168 = none := by kernel_rfl
theorem te170 : telem E.P 170 = none := by kernel_rfl
theorem te172 : telem E.P 172 = none := by kernel_rfl
theorem te177 : telem E.P 177 = none := by kernel_rfl
theorem te180 : telem E.P 180 = none := by kernel_rfl
theorem te182 : telem E.P 182 = none := by kernel_rfl
theorem te183 : telem E.P 183 = none := by kernel_rfl
theorem te185 : telem E.P 185 = none := by kernel_rfl
theorem te193 : telem E.P 193 = none := by kernel_rfl
theorem te215 : telem E.P 215 = some 5 := by kernel_rfl
theorem te220 : telem E.P 220 = none := by kernel_rfl
theorem te221 : telem E.P 221 = none := by kernel_rfl
theorem te229 : telem E.P 229 = none := by kernel_rfl
theorem te233 : telem E.P 233 = none := by kernel_rfl
theorem te238 : telem E.P 238 = none := by kernel_rfl
theorem te244 : telem E.P 244 = none := by kernel_rfl
theorem te249 : telem E.P 249 = none := by kernel_rfl
theorem te254 : telem E.P 254 = none := by kernel_rfl
theorem te257 : telem E.P 257 = none := by kernel_rfl
theorem te261 : telem E.P 261 = some 49 := by kernel_rfl
theorem te270 : telem E.P 270 = none := by kernel_rfl
theorem te276 : telem E.P 276 = none := by kernel_rfl
theorem te281 : telem E.P 281 = none := by kernel_rfl
theorem te283 : telem E.P 283 = none := by kernel_rfl
theorem te285 : telem E.P 285 = none := by kernel_rfl
theorem te289 : telem E.P 289 = none := by kernel_rfl
theorem te291 : telem E.P 291 = none := by kernel_rfl
theorem te292 : telem E.P 292 = none := by kernel_rfl
theorem te307 : telem E.P 307 = none := by kernel_rfl
theorem te312 : telem E.P 312 = none := by kernel_rfl
theorem te329 : telem E.P 329 = none := by kernel_rfl
theorem tf25_0 : tfield E.P 25 0 = some (0,1) := by kernel_rfl
theorem tf25_1 : tfield E.P 25 1 = some (1,1) := by kernel_rfl
theorem tf25_2 : tfield E.P 25 2 = some (2,1) := by kernel_rfl
theorem tf25_3 : tfield E.P 25 3 = some (3,1) := by kernel_rfl
theorem tf38_3 : tfield E.P 38 3 = some (3,1) := by kernel_rfl
theorem tf75_0 : tfield E.P 75 0 = some (0,1) := by kernel_rfl
theorem tf75_1 : tfield E.P 75 1 = some (1,1) := by kernel_rfl
theorem tf75_2 : tfield E.P 75 2 = some (2,1) := by kernel_rfl
theorem tf75_3 : tfield E.P 75 3 = some (3,4) := by kernel_rfl
theorem tf75_4 : tfield E.P 75 4 = some (7,1) := by kernel_rfl
theorem tf75_5 : tfield E.P 75 5 = some (8,1) := by kernel_rfl
theorem tf75_6 : tfield E.P 75 6 = some (9,1) := by kernel_rfl
theorem tf75_7 : tfield E.P 75 7 = some (10,1) := by kernel_rfl
theorem tf89_0 : tfield E.P 89 0 = some (0,1) := by kernel_rfl
theorem tf89_1 : tfield E.P 89 1 = some (1,1) := by kernel_rfl
theorem tf89_2 : tfield E.P 89 2 = some (2,1) := by kernel_rfl
theorem tf89_3 : tfield E.P 89 3 = some (3,4) := by kernel_rfl
theorem tf89_4 : tfield E.P 89 4 = some (7,1) := by kernel_rfl
theorem tf89_5 : tfield E.P 89 5 = some (8,1) := by kernel_rfl
theorem tf91_0 : tfield E.P 91 0 = some (0,1) := by kernel_rfl
theorem tf91_1 : tfield E.P 91 1 = some (1,1) := by kernel_rfl
theorem tf91_2 : tfield E.P 91 2 = some (2,1) := by kernel_rfl
theorem tf91_3 : tfield E.P 91 3 = some (3,1) := by kernel_rfl
theorem tf91_4 : tfield E.P 91 4 = some (4,4) := by kernel_rfl
theorem tf91_5 : tfield E.P 91 5 = some (8,9) := by kernel_rfl
theorem tf94_0 : tfield E.P 94 0 = some (0,1) := by kernel_rfl
theorem tf94_1 : tfield E.P 94 1 = some (1,4) := by kernel_rfl
theorem tf110_0 : tfield E.P 110 0 = some (0,1) := by kernel_rfl
theorem tf110_1 : tfield E.P 110 1 = some (1,4) := by kernel_rfl
theorem tf110_2 : tfield E.P 110 2 = some (5,4) := by kernel_rfl
theorem tf163_0 : tfield E.P 163 0 = some (0,1) := by kernel_rfl
theorem tf163_2 : tfield E.P 163 2 = some (2,1) := by kernel_rfl
theorem tf168_0 : tfield E.P 168 0 = some (0,1) := by kernel_rfl
theorem tf168_2 : tfield E.P 168 2 = some (2,1) := by kernel_rfl
theorem tf168_3 : tfield E.P 168 3 = some (3,4) := by kernel_rfl
theorem tf168_4 : tfield E.P 168 4 = some (7,1) := by kernel_rfl
theorem tf168_5 : tfield E.P 168 5 = some (8,1) := by kernel_rfl
theorem tf170_2 : tfield E.P 170 2 = some (2,1) := by kernel_rfl
theorem tf170_3 : tfield E.P 170 3 = some (3,1) := by kernel_rfl
theorem tf170_4 : tfield E.P 170 4 = some (4,4) := by kernel_rfl
theorem tf170_5 : tfield E.P 170 5 = some (8,9) := by kernel_rfl
theorem tf172_1 : tfield E.P 172 1 = some (1,4) := by kernel_rfl
theorem tf206_0 : tfield E.P 206 0 = some (0,1) := by kernel_rfl
theorem tf206_1 : tfield E.P 206 1 = some (1,1) := by kernel_rfl
theorem tf231_0 : tfield E.P 231 0 = some (0,1) := by kernel_rfl
theorem tf231_1 : tfield E.P 231 1 = some (1,1) := by kernel_rfl
theorem tf237_0 : tfield E.P 237 0 = some (0,1) := by kernel_rfl
theorem tf237_1 : tfield E.P 237 1 = some (1,1) := by kernel_rfl
theorem tf237_2 : tfield E.P 237 2 = some (2,1) := by kernel_rfl
theorem tf237_3 : tfield E.P 237 3 = some (3,1) := by kernel_rfl
theorem tf256_0 : tfield E.P 256 0 = some (0,1) := by kernel_rfl
theorem tf278_0 : tfield E.P 278 0 = some (0,1) := by kernel_rfl
theorem tf278_1 : tfield E.P 278 1 = some (1,1) := by kernel_rfl
theorem tf291_0 : tfield E.P 291 0 = some (0,1) := by kernel_rfl
theorem tf291_1 : tfield E.P 291 1 = some (1,1) := by kernel_rfl
theorem tf291_2 : tfield E.P 291 2 = some (2,9) := by kernel_rfl
theorem tf309_0 : tfield E.P 309 0 = some (0,1) := by kernel_rfl
theorem tf309_1 : tfield E.P 309 1 = some (1,1) := by kernel_rfl
theorem tf312_1 : tfield E.P 312 1 = some (1,1) := by kernel_rfl
theorem tf312_2 : tfield E.P 312 2 = some (2,9) := by kernel_rfl
theorem tf315_0 : tfield E.P 315 0 = some (0,1) := by kernel_rfl
theorem tf315_1 : tfield E.P 315 1 = some (1,1) := by kernel_rfl
theorem tp25_0 : tplace E.P 25 0 = some (0,1) := by kernel_rfl
theorem tp25_1 : tplace E.P 25 1 = some (1,1) := by kernel_rfl
theorem tp25_2 : tplace E.P 25 2 = some (2,1) := by kernel_rfl
theorem tp25_3 : tplace E.P 25 3 = some (3,1) := by kernel_rfl
theorem tp38_0 : tplace E.P 38 0 = some (0,1) := by kernel_rfl
theorem tp38_1 : tplace E.P 38 1 = some (1,1) := by kernel_rfl
theorem tp38_2 : tplace E.P 38 2 = some (2,1) := by kernel_rfl
theorem tp38_3 : tplace E.P 38 3 = some (3,1) := by kernel_rfl
theorem tp75_0 : tplace E.P 75 0 = some (0,1) := by kernel_rfl
theorem tp75_1 : tplace E.P 75 1 = some (1,1) := by kernel_rfl
theorem tp75_3 : tplace E.P 75 3 = some (3,4) := by kernel_rfl
theorem tp89_0 : tplace E.P 89 0 = some (0,1) := by kernel_rfl
theorem tp89_1 : tplace E.P 89 1 = some (1,1) := by kernel_rfl
theorem tp89_3 : tplace E.P 89 3 = some (3,4) := by kernel_rfl
theorem tp89_4 : tplace E.P 89 4 = some (7,1) := by kernel_rfl
theorem tp89_5 : tplace E.P 89 5 = some (8,1) := by kernel_rfl
theorem tp91_0 : tplace E.P 91 0 = some (0,1) := by kernel_rfl
theorem tp91_1 : tplace E.P 91 1 = some (1,1) := by kernel_rfl
theorem tp91_2 : tplace E.P 91 2 = some (2,1) := by kernel_rfl
theorem tp94_0 : tplace E.P 94 0 = some (0,1) := by kernel_rfl
theorem tp110_0 : tplace E.P 110 0 = some (0,1) := by kernel_rfl
theorem tp110_1 : tplace E.P 110 1 = some (1,4) := by kernel_rfl
theorem tp110_2 : tplace E.P 110 2 = some (5,4) := by kernel_rfl
theorem tp168_0 : tplace E.P 168 0 = some (0,1) := by kernel_rfl
theorem tp168_1 : tplace E.P 168 1 = some (1,1) := by kernel_rfl
theorem tp168_4 : tplace E.P 168 4 = some (7,1) := by kernel_rfl
theorem tp170_0 : tplace E.P 170 0 = some (0,1) := by kernel_rfl
theorem tp170_1 : tplace E.P 170 1 = some (1,1) := by kernel_rfl
theorem tp170_4 : tplace E.P 170 4 = some (4,4) := by kernel_rfl
theorem tp170_5 : tplace E.P 170 5 = some (8,9) := by kernel_rfl
theorem tp172_0 : tplace E.P 172 0 = some (0,1) := by kernel_rfl
theorem tp206_0 : tplace E.P 206 0 = some (0,1) := by kernel_rfl
theorem tp206_1 : tplace E.P 206 1 = some (1,1) := by kernel_rfl
theorem tp206_2 : tplace E.P 206 2 = some (2,1) := by kernel_rfl
theorem tp231_0 : tplace E.P 231 0 = some (0,1) := by kernel_rfl
theorem tp256_0 : tplace E.P 256 0 = some (0,1) := by kernel_rfl
theorem tp278_0 : tplace E.P 278 0 = some (0,1) := by kernel_rfl
theorem tp291_0 : tplace E.P 291 0 = some (0,1) := by kernel_rfl
theorem tp291_1 : tplace E.P 291 1 = some (1,1) := by kernel_rfl
theorem tp309_0 : tplace E.P 309 0 = some (0,1) := by kernel_rfl
theorem tp312_0 : tplace E.P 312 0 = some (0,1) := by kernel_rfl
theorem tz3 : zeroA E.P 3 = some [.int .i64 0] := by kernel_rfl
theorem tz4 : zeroA E.P 4 = some [.bool false] := by kernel_rfl
theorem tz9 : zeroA E.P 9 = some [.str []] := by kernel_rfl
theorem tz25 : zeroA E.P 25 = some [.int .i64 0,.str [],.int .i64 0,.own 25 0 []] := by kernel_rfl
theorem tz38 : zeroA E.P 38 = some [.int .i64 0,.str [],.int .i64 0,.own 38 0 []] := by kernel_rfl
theorem tz49 : zeroA E.P 49 = some [.own 9 0 []] := by kernel_rfl
theorem tz75 : zeroA E.P 75 = some [.str [],.str [],.int .i64 0,.int .i64 0,.str [],.int .i64 0,.own 25 0 [],.own 9 0 [],.own 9 0 [],.own 110 0 [],.own 25 0 []] := by kernel_rfl
theorem tz89 : zeroA E.P 89 = some [.int .i64 0,.str [],.bool false,.int .i64 0,.str [],.int .i64 0,.own 25 0 [],.own 89 0 [],.own 291 0 []] := by kernel_rfl
theorem tz91 : zeroA E.P 91 = some [.int .i64 0,.str [],.own 9 0 [],.own 94 0 [],.int .i64 0,.str [],.int .i64 0,.own 25 0 [],.int .i64 0,.str [],.bool false,.int .i64 0,.str [],.int .i64 0,.own 25 0 [],.own 89 0 [],.own 291 0 []] := by kernel_rfl
theorem tz94 : zeroA E.P 94 = some [.str [],.int .i64 0,.str [],.int .i64 0,.own 25 0 []] := by kernel_rfl
theorem tz96 : zeroA E.P 96 = some [.own 3 0 []] := by kernel_rfl
theorem tz110 : zeroA E.P 110 = some [.str [],.int .i64 0,.str [],.int .i64 0,.own 25 0 [],.int .i64 0,.str [],.int .i64 0,.own 25 0 []] := by kernel_rfl
theorem tz168 : zeroA E.P 168 = some [.int .i64 0,.str [],.bool false,.int .i64 0,.str [],.int .i64 0,.own 38 0 [],.own 168 0 [],.own 312 0 []] := by kernel_rfl
theorem tz170 : zeroA E.P 170 = some [.int .i64 0,.str [],.own 9 0 [],.own 172 0 [],.int .i64 0,.str [],.int .i64 0,.own 38 0 [],.int .i64 0,.str [],.bool false,.int .i64 0,.str [],.int .i64 0,.own 38 0 [],.own 168 0 [],.own 312 0 []] := by kernel_rfl
theorem tz172 : zeroA E.P 172 = some [.str [],.int .i64 0,.str [],.int .i64 0,.own 38 0 []] := by kernel_rfl
theorem tz206 : zeroA E.P 206 = some [.int .i64 0,.str [],.int .i64 0] := by kernel_rfl
theorem tz231 : zeroA E.P 231 = some [.own 206 0 [],.bool false] := by kernel_rfl
theorem tz237 : zeroA E.P 237 = some [.own 9 0 [],.own 9 0 [],.own 9 0 [],.own 9 0 []] := by kernel_rfl
theorem tz256 : zeroA E.P 256 = some [.own 206 0 []] := by kernel_rfl
theorem tz278 : zeroA E.P 278 = some [.nilp,.own 94 0 []] := by kernel_rfl
theorem tz291 : zeroA E.P 291 = some [.str [],.own 9 0 [],.int .i64 0,.str [],.bool false,.int .i64 0,.str [],.int .i64 0,.own 25 0 [],.own 89 0 [],.own 291 0 []] := by kernel_rfl
theorem tz309 : zeroA E.P 309 = some [.nilp,.own 291 0 []] := by kernel_rfl
theorem tz312 : zeroA E.P 312 = some [.str [],.own 9 0 [],.int .i64 0,.str [],.bool false,.int .i64 0,.str [],.int .i64 0,.own 38 0 [],.own 168 0 [],.own 312 0 []] := by kernel_rfl
theorem tz315 : zeroA E.P 315 = some [.own 9 0 [],.nilm] := by kernel_rfl
theorem ti3 : tint E.P 3 = some .i64 := by kernel_rfl
theorem ti5 : tint E.P 5 = some .u8 := by kernel_rfl
theorem ti9 : tint E.P 9 = none := by kernel_rfl
theorem ti25 : tint E.P 25 = none := by kernel_rfl
theorem ti38 : tint E.P 38 = none := by kernel_rfl
theorem ti89 : tint E.P 89 = none := by kernel_rfl
theorem ti91 : tint E.P 91 = none := by kernel_rfl
theorem ti94 : tint E.P 94 = none := by kernel_rfl
theorem ti110 : tint E.P 110 = none := by kernel_rfl
theorem ti168 : tint E.P 168 = none := by kernel_rfl
theorem ti170 : tint E.P 170 = none := by kernel_rfl
theorem ti172 : tint E.P 172 = none := by kernel_rfl
theorem ti206 : tint E.P 206 = none := by kernel_rfl
theorem ti215 : tint E.P 215 = none := by kernel_rfl
theorem ti291 : tint E.P 291 = none := by kernel_rfl
theorem ti312 : tint E.P 312 = none := by kernel_rfl
theorem tst3 : tstring E.P 3 = false := by kernel_rfl
theorem tst5 : tstring E.P 5 = false := by kernel_rfl
theorem tst9 : tstring E.P 9 = true := by kernel_rfl
theorem tst23 : tstring E.P 23 = false := by kernel_rfl
theorem tst36 : tstring E.P 36 = false := by kernel_rfl
theorem tst49 : tstring E.P 49 = false := by kernel_rfl
theorem tst63 : tstring E.P 63 = false := by kernel_rfl
theorem tst64 : tstring E.P 64 = false := by kernel_rfl
theorem tst73 : tstring E.P 73 = false := by kernel_rfl
theorem tst85 : tstring E.P 85 = false := by kernel_rfl
theorem tst86 : tstring E.P 86 = false := by kernel_rfl
theorem tst87 : tstring E.P 87 = false := by kernel_rfl
theorem tst96 : tstring E.P 96 = false := by kernel_rfl
theorem tst117 : tstring E.P 117 = false := by kernel_rfl
theorem tst164 : tstring E.P 164 = false := by kernel_rfl
theorem tst165 : tstring E.P 165 = false := by kernel_rfl
theorem tst166 : tstring E.P 166 = false := by kernel_rfl
theorem tbo3 : tbool E.P 3 = false := by kernel_rfl
theorem tbo5 : tbool E.P 5 = false := by kernel_rfl
theorem tbo9 : tbool E.P 9 = false := by kernel_rfl
theorem tbo33 : tbool E.P 33 = false := by kernel_rfl
theorem tbo67 : tbool E.P 67 = false := by kernel_rfl
theorem tbo182 : tbool E.P 182 = false := by kernel_rfl
theorem tpt3 : tptr E.P 3 = false := by kernel_rfl
theorem tpt5 : tptr E.P 5 = false := by kernel_rfl
theorem tpt9 : tptr E.P 9 = false := by kernel_rfl
theorem tpt33 : tptr E.P 33 = false := by kernel_rfl
theorem tpt67 : tptr E.P 67 = true := by kernel_rfl
theorem tpt182 : tptr E.P 182 = false := by kernel_rfl
theorem tfo25 : fieldsOK E.P 25 = true := by kernel_rfl
theorem tfo38 : fieldsOK E.P 38 = true := by kernel_rfl
theorem tfo75 : fieldsOK E.P 75 = true := by kernel_rfl
theorem tfo89 : fieldsOK E.P 89 = true := by kernel_rfl
theorem tfo91 : fieldsOK E.P 91 = true := by kernel_rfl
theorem tfo94 : fieldsOK E.P 94 = true := by kernel_rfl
theorem tfo110 : fieldsOK E.P 110 = true := by kernel_rfl
theorem tfo168 : fieldsOK E.P 168 = true := by kernel_rfl
theorem tfo170 : fieldsOK E.P 170 = true := by kernel_rfl
theorem tfo172 : fieldsOK E.P 172 = true := by kernel_rfl
theorem tfo206 : fieldsOK E.P 206 = true := by kernel_rfl
theorem tfo231 : fieldsOK E.P 231 = true := by kernel_rfl
theorem tfo256 : fieldsOK E.P 256 = true := by kernel_rfl
theorem tfo278 : fieldsOK E.P 278 = true := by kernel_rfl
theorem tfo291 : fieldsOK E.P 291 = true := by kernel_rfl
theorem tfo309 : fieldsOK E.P 309 = true := by kernel_rfl
theorem tfo312 : fieldsOK E.P 312 = true := by kernel_rfl
theorem tze3 : tzero E.P 3 = some 1 := by kernel_rfl
theorem tze5 : tzero E.P 5 = some 1 := by kernel_rfl
theorem tze9 : tzero E.P 9 = some 1 := by kernel_rfl
theorem tze25 : tzero E.P 25 = some 4 := by kernel_rfl
theorem tze38 : tzero E.P 38 = some 4 := by kernel_rfl
theorem tze49 : tzero E.P 49 = some 1 := by kernel_rfl
theorem tze89 : tzero E.P 89 = some 9 := by kernel_rfl
theorem tze91 : tzero E.P 91 = some 17 := by kernel_rfl
theorem tze94 : tzero E.P 94 = some 5 := by kernel_rfl
theorem tze110 : tzero E.P 110 = some 9 := by kernel_rfl
theorem tze168 : tzero E.P 168 = some 9 := by kernel_rfl
theorem tze170 : tzero E.P 170 = some 17 := by kernel_rfl
theorem tze172 : tzero E.P 172 = some 5 := by kernel_rfl
theorem tze206 : tzero E.P 206 = some 3 := by kernel_rfl
theorem tze291 : tzero E.P 291 = some 11 := by kernel_rfl
theorem tze312 : tzero E.P 312 = some 11 := by kernel_rfl
theorem tu3 : (E.P.underlying 3).isSome = true := by kernel_rfl
theorem tu5 : (E.P.underlying 5).isSome = true := by kernel_rfl
theorem tu215 : (E.P.underlying 215).isSome = true := by kernel_rfl
theorem tby3 : (E.P.bytesOf 3 ≤ 32768) = True := by rw [show E.P.bytesOf 3 = 8 from by kernel_rfl]; simp
theorem tby9 : (E.P.bytesOf 9 ≤ 32768) = True := by rw [show E.P.bytesOf 9 = 16 from by kernel_rfl]; simp
theorem tby25 : (E.P.bytesOf 25 ≤ 32768) = True := by rw [show E.P.bytesOf 25 = 56 from by kernel_rfl]; simp
theorem tby38 : (E.P.bytesOf 38 ≤ 32768) = True := by rw [show E.P.bytesOf 38 = 56 from by kernel_rfl]; simp
theorem tby89 : (E.P.bytesOf 89 ≤ 32768) = True := by rw [show E.P.bytesOf 89 = 136 from by kernel_rfl]; simp
theorem tby91 : (E.P.bytesOf 91 ≤ 32768) = True := by rw [show E.P.bytesOf 91 = 264 from by kernel_rfl]; simp
theorem tby94 : (E.P.bytesOf 94 ≤ 32768) = True := by rw [show E.P.bytesOf 94 = 72 from by kernel_rfl]; simp
theorem tby110 : (E.P.bytesOf 110 ≤ 32768) = True := by rw [show E.P.bytesOf 110 = 128 from by kernel_rfl]; simp
theorem tby168 : (E.P.bytesOf 168 ≤ 32768) = True := by rw [show E.P.bytesOf 168 = 136 from by kernel_rfl]; simp
theorem tby170 : (E.P.bytesOf 170 ≤ 32768) = True := by rw [show E.P.bytesOf 170 = 264 from by kernel_rfl]; simp
theorem tby172 : (E.P.bytesOf 172 ≤ 32768) = True := by rw [show E.P.bytesOf 172 = 72 from by kernel_rfl]; simp
theorem tby206 : (E.P.bytesOf 206 ≤ 32768) = True := by rw [show E.P.bytesOf 206 = 32 from by kernel_rfl]; simp
theorem tby291 : (E.P.bytesOf 291 ≤ 32768) = True := by rw [show E.P.bytesOf 291 = 176 from by kernel_rfl]; simp
theorem tby312 : (E.P.bytesOf 312 ≤ 32768) = True := by rw [show E.P.bytesOf 312 = 176 from by kernel_rfl]; simp
attribute [go_sem] live_6_0 live_6_2 live_25_0 live_25_2 live_28_0 live_28_2 live_28_4 live_28_6 live_45_0 live_48_0 live_48_2 live_58_1 live_58_3 live_78_0 live_78_2 live_79_0 live_79_2 live_80_0 live_80_2 live_82_0 live_82_2 live_82_4 live_82_6 live_82_8 live_88_0 live_90_0 live_94_0 live_94_2 live_95_0 live_98_0 live_101_0 live_103_0 live_103_2 live_110_0 live_113_0 live_113_2 live_119_0 live_136_0 live_137_0 live_139_0
attribute [go_sem] live_140_1 live_142_0 live_146_0 live_146_2 live_151_0 live_156_0 live_157_0 live_164_0 live_175_0 live_188_0 live_189_0 live_192_1 live_194_0 live_195_0 live_197_0 live_200_0 live_200_2 live_201_0 live_202_0 live_203_0 live_204_0 live_207_1 live_207_3 live_212_0 live_216_0 live_216_2 live_217_0 live_233_0 live_235_0 live_238_0 live_239_0 live_248_0 drw_25_8 drw_25_14 drw_25_17 drw_25_19 drw_28_1 drw_28_14 drw_40_5 drw_40_6
attribute [go_sem] drw_40_7 drw_45_9 drw_45_10 drw_45_6 drw_58_9 drw_58_13 drw_82_14 drw_82_17 drw_82_31 drw_82_36 drw_84_3 drw_85_1 drw_87_5 drw_89_1 drw_94_13 drw_98_3 drw_100_7 drw_100_8 drw_103_9 drw_103_10 drw_113_31 drw_137_18 drw_137_23 drw_137_25 drw_140_5 drw_140_9 drw_140_14 drw_142_11 drw_142_14 drw_143_1 drw_151_7 drw_151_9 drw_190_3 drw_192_14 drw_192_17 drw_200_5 drw_200_35 drw_207_4 drw_207_7 drw_207_17
attribute [go_sem] drw_213_1 drw_216_12 drw_230_7 drw_231_0 drw_232_8 drw_234_16 drw_244_4 drw_244_5 res_6 res_23 res_24 res_25 res_27 res_28 res_30
attribute [go_sem] res_31 res_32 res_33 res_40 res_45 res_48 res_57 res_58
attribute [go_sem] res_77 res_78 res_79 res_80 res_82 res_84 res_85 res_87
attribute [go_sem] res_88 res_89 res_90 res_91 res_92 res_93 res_94 res_95
attribute [go_sem] res_98 res_100 res_101 res_102 res_103 res_108 res_109 res_110
attribute [go_sem] res_113 res_119 res_121 res_122 res_130 res_134 res_135 res_136
attribute [go_sem] res_137 res_138 res_139 res_140 res_141 res_142 res_143 res_144
attribute [go_sem] res_145 res_146 res_151 res_153 res_154 res_156 res_157 res_159
attribute [go_sem] res_162 res_163 res_164 res_165 res_166 res_167 res_168 res_169
attribute [go_sem] res_173 res_174 res_175 res_187 res_188 res_189 res_190 res_191
attribute [go_sem] res_192 res_193 res_194 res_195 res_196 res_197 res_198 res_199
attribute [go_sem] res_200 res_201 res_202 res_203 res_204 res_205 res_206 res_207
attribute [go_sem] res_208 res_209 res_210 res_211 res_212 res_213 res_214 res_215
attribute [go_sem] res_216 res_217 res_219 res_222 res_230 res_231 res_232 res_233
attribute [go_sem] res_234 res_235 res_236 res_237 res_238 res_239 res_240 res_241
attribute [go_sem] res_242 res_243 res_244 res_245 res_246 res_247 res_248 res_261
attribute [go_sem] drw_231_3 ts3 ts4 ts5 ts9 ts23 ts25 ts36 ts38 ts49 ts67 ts73 ts75 ts85 ts86 ts87 ts89 ts91 ts94 ts96 ts110 ts117 ts159 ts161 ts164 ts165 ts166 ts168 ts170 ts172 ts180 ts182 ts206 ts229 ts231 ts237 ts256
attribute [go_sem] ts278 ts291 ts309 ts312 ts315 gift_25 nbx_25 gift_81 nbx_81 tsM mkm182_5 mkm182_10 mkm182_30 mkm244_67 tmp159 tmp161 tmp182 tmp244 tzv3 tzv4 tzv9 tzv75 tg3 tg4 tg9 tg23 tg25 tg36 tg38 tg49 tg67 tg73 tg75 tg85 tg86 tg87 tg89 tg91 tg94 tg96
attribute [go_sem] tg117 tg159 tg161 tg164 tg165 tg166 tg168 tg170 tg172 tg180 tg182 tg229 tg291 tg312 te1 te3 te4 te5 te9 te23 te25 te33 te36 te38 te49 te63 te64 te65 te67 te68 te73 te75 te76 te82 te83 te85 te86 te87 te89 te91
attribute [go_sem] te94 te96 te101 te117 te118 te141 te142 te146 te151 te153 te155 te164 te165 te166 te168 te170 te172 te177 te180 te182 te183 te185 te193 te215 te220 te221 te229 te233 te238 te244 te249 te254 te257 te261 te270 te276 te281 te283 te285 te289
attribute [go_sem] te291 te292 te307 te312 te329 tf25_0 tf25_1 tf25_2 tf25_3 tf38_3 tf75_0 tf75_1 tf75_2 tf75_3 tf75_4 tf75_5 tf75_6 tf75_7 tf89_0 tf89_1 tf89_2 tf89_3 tf89_4 tf89_5 tf91_0 tf91_1 tf91_2 tf91_3 tf91_4 tf91_5 tf94_0 tf94_1 tf110_0 tf110_1 tf110_2 tf163_0 tf163_2 tf168_0 tf168_2 tf168_3
attribute [go_sem] tf168_4 tf168_5 tf170_2 tf170_3 tf170_4 tf170_5 tf172_1 tf206_0 tf206_1 tf231_0 tf231_1 tf237_0 tf237_1 tf237_2 tf237_3 tf256_0 tf278_0 tf278_1 tf291_0 tf291_1 tf291_2 tf309_0 tf309_1 tf312_1 tf312_2 tf315_0 tf315_1 tp25_0 tp25_1 tp25_2 tp25_3 tp38_0 tp38_1 tp38_2 tp38_3 tp75_0 tp75_1 tp75_3 tp89_0 tp89_1
attribute [go_sem] tp89_3 tp89_4 tp89_5 tp91_0 tp91_1 tp91_2 tp94_0 tp110_0 tp110_1 tp110_2 tp168_0 tp168_1 tp168_4 tp170_0 tp170_1 tp170_4 tp170_5 tp172_0 tp206_0 tp206_1 tp206_2 tp231_0 tp256_0 tp278_0 tp291_0 tp291_1 tp309_0 tp312_0 tz3 tz4 tz9 tz25 tz38 tz49 tz75 tz89 tz91 tz94 tz96 tz110
attribute [go_sem] tz168 tz170 tz172 tz206 tz231 tz237 tz256 tz278 tz291 tz309 tz312 tz315 ti3 ti5 ti9 ti25 ti38 ti89 ti91 ti94 ti110 ti168 ti170 ti172 ti206 ti215 ti291 ti312 tst3 tst5 tst9 tst23 tst36 tst49 tst63 tst64 tst73 tst85 tst86 tst87
attribute [go_sem] tst96 tst117 tst164 tst165 tst166 tbo3 tbo5 tbo9 tbo33 tbo67 tbo182 tpt3 tpt5 tpt9 tpt33 tpt67 tpt182 tfo25 tfo38 tfo75 tfo89 tfo91 tfo94 tfo110 tfo168 tfo170 tfo172 tfo206 tfo231 tfo256 tfo278 tfo291 tfo309 tfo312 tze3 tze5 tze9 tze25 tze38 tze49
attribute [go_sem] tze89 tze91 tze94 tze110 tze168 tze170 tze172 tze206 tze291 tze312 tu3 tu5 tu215 tby3 tby9 tby25 tby38 tby89 tby91 tby94 tby110 tby168 tby170 tby172 tby206 tby291 tby312
end Go.Proofs
