/- The program as the abstract machine sees it: what is alive at each loop, which operations may be drawn, sizes of types. -/
import Derived.Test.YtjfghnkmladbkaaGreatDoorAvD
import Derived.Test.YtjfghnkmladbkaaGreatDoorProg
import Derived.KernelRfl
namespace Go.Proofs
open Go.Av
def j9w:List (Nat×(List Nat×List Nat)):=[(7000,([2,7,9,13,18,19,20,21,22,24,25,28,29],[13,58])),
 (25000,([2,15,16,17],[14])),
 (25002,([2,6,15,16,17,34,35,36],[6,14])),
 (26000,([0,5,6],[])),
 (26002,([0,5,6,8],[])),
 (28000,([1,3,4],[1])),
 (28002,([1,3,5],[1])),
 (28004,([1,3,6],[1])),
 (28006,([1,3,7],[1])),
 (36000,([0,1,5],[])),
 (38000,([0,1,4,6],[4])),
 (45000,([1,2,3,5],[1,3])),
 (48000,([0,5,6],[])),
 (48002,([0,5,6],[])),
 (51000,([0,1,5],[])),
 (58001,([3,22,23,24],[])),
 (58003,([6,7],[7])),
 (78000,([7,8],[22])),
 (78002,([8,50,51,52],[])),
 (79000,([4,7,8,9],[])),
 (79002,([7,12],[])),
 (80000,([0,4,15,16,17],[4])),
 (80002,([4,39,40,41],[4])),
 (82000,([2,4,6,7,8,9],[2,4,7,8])),
 (82002,([4,6,7,8,9,10,11,69,70,71],[4,7,8])),
 (82004,([4,6,7,8,9,10,11,111,112,113],[4,7,8])),
 (82006,([4,6,7,8,9,10,141,142,143],[4,7,8])),
 (82008,([4,6,8,10,173,174,175],[4,8])),
 (83000,([2,4,6,7,8,9],[2,4,7,8])),
 (83002,([4,6,7,8,9,10,11,12],[4,7,8,62])),
 (83004,([4,6,7,8,9,10,11,15],[4,7,8,62])),
 (83006,([4,6,7,8,9,10,11,16],[4,7,8,62])),
 (83008,([4,6,8,9,10,18],[4,8,62])),
 (88000,([3,7,8,9],[])),
 (90000,([1,2,21,22,23],[])),
 (94000,([0,1,4,7],[4])),
 (94002,([0,1,4,9,10,11],[4,9])),
 (95000,([1,3,4],[1])),
 (97000,([0,3,5],[3])),
 (98000,([0,1,5],[])),
 (101000,([1,2,4,5,18,19,20],[2,4,16])),
 (103000,([1,2,3,6,7,8],[3,7])),
 (103002,([1,2,3,6,7,8,9],[3,7])),
 (110000,([0,3,4],[])),
 (113000,([0,1,7],[])),
 (113002,([0,1,11,12],[])),
 (118000,([2,3,9,10],[3])),
 (119000,([0,1,7,8],[])),
 (128000,([1,2,3,5,9,10,11,12],[5,9,10,11])),
 (136000,([1,6,7,8],[1])),
 (137000,([0,4,7,9,11],[4,7])),
 (139000,([1,3],[1])),
 (140001,([0,15,108,109,110],[])),
 (142000,([0,3,15,16,17],[3])),
 (146000,([1,2,3,6,11,12,13],[3,6])),
 (146002,([2,3,6,25,26,27],[3,6])),
 (147000,([1,2,3,7,8,9],[3,7])),
 (147002,([1,2,3,7,8,9,10],[3,7])),
 (148000,([1,3],[1])),
 (149000,([0,1,5],[])),
 (150000,([1,2,3,6,7],[3,6])),
 (151000,([3,4,5,6,8],[3,4,5,6])),
 (152000,([4,5,6,10,12,13],[5,6,10,12])),
 (152002,([2,3,4,5,6,10,12,14,15],[5,6,10,12,14])),
 (152004,([2,3,4,5,10,12,14,16],[5,10,12,14])),
 (157000,([0,4,7,8],[4,7])),
 (164000,([0,1,5],[])),
 (175000,([0,1,5],[])),
 (188000,([0,3],[])),
 (189000,([0,1],[])),
 (192001,([0,2,6],[2,6])),
 (194000,([3,7,8,9],[])),
 (195000,([3,17,18,19],[])),
 (197000,([0,1,6,7],[])),
 (200000,([0,4,19,20,22],[4,20])),
 (200002,([0,4,26,27],[4,26])),
 (201000,([3,4],[])),
 (202000,([3,4,5],[])),
 (203000,([0,1,8,9,10],[])),
 (204000,([0,1,7,8],[])),
 (207001,([1,2,3,4,55,56,57],[4])),
 (207003,([1,2,3,68,69,70],[])),
 (212000,([0,1,7,8],[])),
 (216000,([0,2,4],[2])),
 (216002,([2,4,9,10,11],[2,9])),
 (217000,([0,2,6],[2,6])),
 (233000,([3,16,17,18],[])),
 (235000,([1,3,4],[1])),
 (238000,([1,6,7,8],[])),
 (239000,([0,9,10,11],[])),
 (248000,([0,3,4],[]))]
def drwT:List (Nat×List (Nat×Nat)):=[(7021,[]),
 (25008,[]),
 (25014,[]),
 (25017,[]),
 (25019,[]),
 (26008,[]),
 (26014,[]),
 (26015,[]),
 (26017,[]),
 (28001,[(1,10),(1,15),(4,10),(4,15),(14,10)]),
 (28014,[(3,16),(3,25),(7,16),(7,25),(20,16),(24,16)]),
 (40005,[(7,5)]),
 (40006,[(1,3),(1,8),(1,14),(5,3),(7,3),(10,3),(10,8),(11,3),(11,8)]),
 (40007,[]),
 (45009,[]),
 (45010,[]),
 (45006,[(0,4)]),
 (58009,[(1,3)]),
 (58013,[(13,10),(15,10)]),
 (62001,[(5,3)]),
 (82014,[(1,3)]),
 (82017,[]),
 (82031,[(1,5),(1,20),(8,5),(8,20),(11,5),(11,20),(14,5),(17,5)]),
 (82036,[(1,5)]),
 (83001,[(1,4)]),
 (83017,[(1,3)]),
 (83029,[]),
 (83034,[]),
 (83035,[]),
 (83040,[(1,8)]),
 (84003,[]),
 (85001,[(0,2)]),
 (87005,[(4,5)]),
 (89001,[]),
 (94013,[]),
 (97001,[(13,11)]),
 (98003,[]),
 (100007,[(0,5),(0,9),(6,5),(7,5)]),
 (100008,[]),
 (103009,[]),
 (103010,[]),
 (113031,[]),
 (118005,[(4,2)]),
 (118009,[(4,2)]),
 (127001,[(5,3),(5,4)]),
 (128007,[(1,11)]),
 (137018,[(0,3)]),
 (137023,[(3,2)]),
 (137025,[(3,2)]),
 (140005,[]),
 (140009,[]),
 (140014,[]),
 (142011,[(5,1)]),
 (142014,[(5,1)]),
 (143001,[(0,2)]),
 (147011,[]),
 (147012,[]),
 (150004,[]),
 (151007,[]),
 (151009,[(1,2)]),
 (152006,[]),
 (152018,[(5,3)]),
 (152019,[(5,3)]),
 (152023,[]),
 (190003,[]),
 (192014,[]),
 (192017,[(0,2)]),
 (200005,[(4,3)]),
 (200035,[(0,3)]),
 (207004,[(1,8),(3,8)]),
 (207007,[(1,8),(3,8)]),
 (207017,[(1,5)]),
 (213001,[(0,3),(1,3)]),
 (216012,[]),
 (230007,[(0,2)]),
 (231000,[(8,4)]),
 (232008,[(2,1)]),
 (234016,[(0,3)]),
 (244004,[(1,7),(1,12),(2,7),(9,7)]),
 (244005,[])]
def j9y:List Nat:=[32]
def i2d:List (Nat×(List AVal→a2p→Option (AVal×a2p))):=[(61,d8k),(120,d5z),(229,d9g),(170,a8s),(155,c2h),(99,b3c),(81,c6g),(96,b3d)]
def frzT:List (Nat×List (Nat×List (Nat×Nat))):=[(82,[(28,[(10,244)])]),(83,[(30,[(10,49)])]),(90,[(5,[(1,182)])]),(101,[(9,[(5,23)])]),(239,[(7,[(0,182)])])]
def mkmT:List (Nat×Nat):=[(182,10),(244,67)]
def j9x:List (Nat×List (Nat×Nat)):=[(140,[(11,6)])]
def clnT:List (Nat×Nat):=[]
def rvsT:List (Nat×Nat):=[]
def k0c:List (Nat×(Nat×Nat)):=[]
def nbxT:List Nat:=[25,81]
def xopT:List (Nat×List (Nat×Nat)):=[(7,[(7,1)]),(25,[(1,1)]),(77,[(4,1)])]
noncomputable def E:Env:={P:=Tryz.prog,cln:=fun f=>a0j clnT f,rvs:=fun f=>a0j rvsT f,xop:=fun f=>(a0j xopT f).getD [],gift:=fun f=>a0j k0c f,nbx:=fun f=>nbxT.contains f,mkm:=fun T _ d=>mkmT.contains (T,d.getD 0),lend:=fun f=>(a0j j9x f).getD [],frz:=fun f=>(a0j frzT f).getD [],live:=fun f id=>a0j j9w (f*1000+id),drw:=fun f id=>a0j drwT (f*1000+id),keep:=fun f=>j9y.contains f,prim:=fun f=>a0j i2d f}
theorem g6d(f:FuncId):E.keep f=List.contains ([32]:List Nat) f:=rfl
theorem i3i(f:FuncId):E.frz f=(a0j ([(82,[(28,[(10,244)])]),(83,[(30,[(10,49)])]),(90,[(5,[(1,182)])]),(101,[(9,[(5,23)])]),(239,[(7,[(0,182)])])]:List (Nat×List (Nat×List (Nat×Nat)))) f).getD []:=rfl
theorem h3g(f:FuncId):E.xop f=(a0j ([(7,[(7,1)]),(25,[(1,1)]),(77,[(4,1)])]:List (Nat×List (Nat×Nat))) f).getD []:=rfl
theorem g5x(f:FuncId):E.lend f=(a0j ([(140,[(11,6)])]:List (Nat×List (Nat×Nat))) f).getD []:=rfl
attribute [go_sem] g6d i3i h3g g5x
theorem g5w:E.live 7 0=some ([2,7,9,13,18,19,20,21,22,24,25,28,29],[13,58]):=by kernel_rfl
theorem f5m:E.live 25 0=some ([2,15,16,17],[14]):=by kernel_rfl
theorem f5l:E.live 25 2=some ([2,6,15,16,17,34,35,36],[6,14]):=by kernel_rfl
theorem f5k:E.live 26 0=some ([0,5,6],[]):=by kernel_rfl
theorem f5j:E.live 26 2=some ([0,5,6,8],[]):=by kernel_rfl
theorem f5i:E.live 28 0=some ([1,3,4],[1]):=by kernel_rfl
theorem f5h:E.live 28 2=some ([1,3,5],[1]):=by kernel_rfl
theorem f5g:E.live 28 4=some ([1,3,6],[1]):=by kernel_rfl
theorem f5f:E.live 28 6=some ([1,3,7],[1]):=by kernel_rfl
theorem f5e:E.live 36 0=some ([0,1,5],[]):=by kernel_rfl
theorem f5d:E.live 38 0=some ([0,1,4,6],[4]):=by kernel_rfl
theorem f5c:E.live 45 0=some ([1,2,3,5],[1,3]):=by kernel_rfl
theorem f5b:E.live 48 0=some ([0,5,6],[]):=by kernel_rfl
theorem f5a:E.live 48 2=some ([0,5,6],[]):=by kernel_rfl
theorem f4z:E.live 51 0=some ([0,1,5],[]):=by kernel_rfl
theorem f4y:E.live 58 1=some ([3,22,23,24],[]):=by kernel_rfl
theorem f4x:E.live 58 3=some ([6,7],[7]):=by kernel_rfl
theorem f4w:E.live 78 0=some ([7,8],[22]):=by kernel_rfl
theorem f4v:E.live 78 2=some ([8,50,51,52],[]):=by kernel_rfl
theorem f4u:E.live 79 0=some ([4,7,8,9],[]):=by kernel_rfl
theorem f4t:E.live 79 2=some ([7,12],[]):=by kernel_rfl
theorem f4s:E.live 80 0=some ([0,4,15,16,17],[4]):=by kernel_rfl
theorem f4r:E.live 80 2=some ([4,39,40,41],[4]):=by kernel_rfl
theorem f4q:E.live 82 0=some ([2,4,6,7,8,9],[2,4,7,8]):=by kernel_rfl
theorem f4p:E.live 82 2=some ([4,6,7,8,9,10,11,69,70,71],[4,7,8]):=by kernel_rfl
theorem f4o:E.live 82 4=some ([4,6,7,8,9,10,11,111,112,113],[4,7,8]):=by kernel_rfl
theorem f4n:E.live 82 6=some ([4,6,7,8,9,10,141,142,143],[4,7,8]):=by kernel_rfl
theorem f4m:E.live 82 8=some ([4,6,8,10,173,174,175],[4,8]):=by kernel_rfl
theorem f4l:E.live 83 0=some ([2,4,6,7,8,9],[2,4,7,8]):=by kernel_rfl
theorem f4k:E.live 83 2=some ([4,6,7,8,9,10,11,12],[4,7,8,62]):=by kernel_rfl
theorem f4j:E.live 83 4=some ([4,6,7,8,9,10,11,15],[4,7,8,62]):=by kernel_rfl
theorem f4i:E.live 83 6=some ([4,6,7,8,9,10,11,16],[4,7,8,62]):=by kernel_rfl
theorem f4h:E.live 83 8=some ([4,6,8,9,10,18],[4,8,62]):=by kernel_rfl
theorem f4g:E.live 88 0=some ([3,7,8,9],[]):=by kernel_rfl
theorem f4f:E.live 90 0=some ([1,2,21,22,23],[]):=by kernel_rfl
theorem f4e:E.live 94 0=some ([0,1,4,7],[4]):=by kernel_rfl
theorem f4d:E.live 94 2=some ([0,1,4,9,10,11],[4,9]):=by kernel_rfl
theorem f4c:E.live 95 0=some ([1,3,4],[1]):=by kernel_rfl
theorem f4b:E.live 97 0=some ([0,3,5],[3]):=by kernel_rfl
theorem f4a:E.live 98 0=some ([0,1,5],[]):=by kernel_rfl
theorem e7g:E.live 101 0=some ([1,2,4,5,18,19,20],[2,4,16]):=by kernel_rfl
theorem e7f:E.live 103 0=some ([1,2,3,6,7,8],[3,7]):=by kernel_rfl
theorem e7e:E.live 103 2=some ([1,2,3,6,7,8,9],[3,7]):=by kernel_rfl
theorem e7d:E.live 110 0=some ([0,3,4],[]):=by kernel_rfl
theorem e7c:E.live 113 0=some ([0,1,7],[]):=by kernel_rfl
theorem e7b:E.live 113 2=some ([0,1,11,12],[]):=by kernel_rfl
theorem e7a:E.live 118 0=some ([2,3,9,10],[3]):=by kernel_rfl
theorem e6z:E.live 119 0=some ([0,1,7,8],[]):=by kernel_rfl
theorem e6y:E.live 128 0=some ([1,2,3,5,9,10,11,12],[5,9,10,11]):=by kernel_rfl
theorem e6x:E.live 136 0=some ([1,6,7,8],[1]):=by kernel_rfl
theorem e6w:E.live 137 0=some ([0,4,7,9,11],[4,7]):=by kernel_rfl
theorem e6v:E.live 139 0=some ([1,3],[1]):=by kernel_rfl
theorem e6u:E.live 140 1=some ([0,15,108,109,110],[]):=by kernel_rfl
theorem e6t:E.live 142 0=some ([0,3,15,16,17],[3]):=by kernel_rfl
theorem e6s:E.live 146 0=some ([1,2,3,6,11,12,13],[3,6]):=by kernel_rfl
theorem e6r:E.live 146 2=some ([2,3,6,25,26,27],[3,6]):=by kernel_rfl
theorem e6q:E.live 147 0=some ([1,2,3,7,8,9],[3,7]):=by kernel_rfl
theorem e6p:E.live 147 2=some ([1,2,3,7,8,9,10],[3,7]):=by kernel_rfl
theorem e6o:E.live 148 0=some ([1,3],[1]):=by kernel_rfl
theorem e6n:E.live 149 0=some ([0,1,5],[]):=by kernel_rfl
theorem e6m:E.live 150 0=some ([1,2,3,6,7],[3,6]):=by kernel_rfl
theorem e6l:E.live 151 0=some ([3,4,5,6,8],[3,4,5,6]):=by kernel_rfl
theorem e6k:E.live 152 0=some ([4,5,6,10,12,13],[5,6,10,12]):=by kernel_rfl
theorem e6j:E.live 152 2=some ([2,3,4,5,6,10,12,14,15],[5,6,10,12,14]):=by kernel_rfl
theorem e6i:E.live 152 4=some ([2,3,4,5,10,12,14,16],[5,10,12,14]):=by kernel_rfl
theorem e6h:E.live 157 0=some ([0,4,7,8],[4,7]):=by kernel_rfl
theorem e6g:E.live 164 0=some ([0,1,5],[]):=by kernel_rfl
theorem e6f:E.live 175 0=some ([0,1,5],[]):=by kernel_rfl
theorem e6e:E.live 188 0=some ([0,3],[]):=by kernel_rfl
theorem e6d:E.live 189 0=some ([0,1],[]):=by kernel_rfl
theorem e6c:E.live 192 1=some ([0,2,6],[2,6]):=by kernel_rfl
theorem e6b:E.live 194 0=some ([3,7,8,9],[]):=by kernel_rfl
theorem e6a:E.live 195 0=some ([3,17,18,19],[]):=by kernel_rfl
theorem e5z:E.live 197 0=some ([0,1,6,7],[]):=by kernel_rfl
theorem e5y:E.live 200 0=some ([0,4,19,20,22],[4,20]):=by kernel_rfl
theorem e5x:E.live 200 2=some ([0,4,26,27],[4,26]):=by kernel_rfl
theorem e5w:E.live 201 0=some ([3,4],[]):=by kernel_rfl
theorem e5v:E.live 202 0=some ([3,4,5],[]):=by kernel_rfl
theorem e5u:E.live 203 0=some ([0,1,8,9,10],[]):=by kernel_rfl
theorem e5t:E.live 204 0=some ([0,1,7,8],[]):=by kernel_rfl
theorem e5s:E.live 207 1=some ([1,2,3,4,55,56,57],[4]):=by kernel_rfl
theorem e5r:E.live 207 3=some ([1,2,3,68,69,70],[]):=by kernel_rfl
theorem e5q:E.live 212 0=some ([0,1,7,8],[]):=by kernel_rfl
theorem e5p:E.live 216 0=some ([0,2,4],[2]):=by kernel_rfl
theorem e5o:E.live 216 2=some ([2,4,9,10,11],[2,9]):=by kernel_rfl
theorem e5n:E.live 217 0=some ([0,2,6],[2,6]):=by kernel_rfl
theorem e5m:E.live 233 0=some ([3,16,17,18],[]):=by kernel_rfl
theorem e5l:E.live 235 0=some ([1,3,4],[1]):=by kernel_rfl
theorem e5k:E.live 238 0=some ([1,6,7,8],[]):=by kernel_rfl
theorem e5j:E.live 239 0=some ([0,9,10,11],[]):=by kernel_rfl
theorem e5i:E.live 248 0=some ([0,3,4],[]):=by kernel_rfl
theorem g7i:E.drw 7 21=some []:=by kernel_rfl
theorem g7s:E.drw 25 8=some []:=by kernel_rfl
theorem f7n:E.drw 25 14=some []:=by kernel_rfl
theorem f7m:E.drw 25 17=some []:=by kernel_rfl
theorem f7l:E.drw 25 19=some []:=by kernel_rfl
theorem g7r:E.drw 26 8=some []:=by kernel_rfl
theorem f7k:E.drw 26 14=some []:=by kernel_rfl
theorem f7j:E.drw 26 15=some []:=by kernel_rfl
theorem f7i:E.drw 26 17=some []:=by kernel_rfl
theorem g7q:E.drw 28 1=some [(1,10),(1,15),(4,10),(4,15),(14,10)]:=by kernel_rfl
theorem f7h:E.drw 28 14=some [(3,16),(3,25),(7,16),(7,25),(20,16),(24,16)]:=by kernel_rfl
theorem g7p:E.drw 40 5=some [(7,5)]:=by kernel_rfl
theorem g7o:E.drw 40 6=some [(1,3),(1,8),(1,14),(5,3),(7,3),(10,3),(10,8),(11,3),(11,8)]:=by kernel_rfl
theorem g7n:E.drw 40 7=some []:=by kernel_rfl
theorem g7l:E.drw 45 9=some []:=by kernel_rfl
theorem f7g:E.drw 45 10=some []:=by kernel_rfl
theorem g7m:E.drw 45 6=some [(0,4)]:=by kernel_rfl
theorem g7k:E.drw 58 9=some [(1,3)]:=by kernel_rfl
theorem f7f:E.drw 58 13=some [(13,10),(15,10)]:=by kernel_rfl
theorem g7j:E.drw 62 1=some [(5,3)]:=by kernel_rfl
theorem f7e:E.drw 82 14=some [(1,3)]:=by kernel_rfl
theorem f7d:E.drw 82 17=some []:=by kernel_rfl
theorem f7c:E.drw 82 31=some [(1,5),(1,20),(8,5),(8,20),(11,5),(11,20),(14,5),(17,5)]:=by kernel_rfl
theorem f7b:E.drw 82 36=some [(1,5)]:=by kernel_rfl
theorem g7h:E.drw 83 1=some [(1,4)]:=by kernel_rfl
theorem f7a:E.drw 83 17=some [(1,3)]:=by kernel_rfl
theorem f6z:E.drw 83 29=some []:=by kernel_rfl
theorem f6y:E.drw 83 34=some []:=by kernel_rfl
theorem f6x:E.drw 83 35=some []:=by kernel_rfl
theorem f6w:E.drw 83 40=some [(1,8)]:=by kernel_rfl
theorem g7g:E.drw 84 3=some []:=by kernel_rfl
theorem g7f:E.drw 85 1=some [(0,2)]:=by kernel_rfl
theorem g7e:E.drw 87 5=some [(4,5)]:=by kernel_rfl
theorem g7d:E.drw 89 1=some []:=by kernel_rfl
theorem f6v:E.drw 94 13=some []:=by kernel_rfl
theorem g7c:E.drw 97 1=some [(13,11)]:=by kernel_rfl
theorem g7b:E.drw 98 3=some []:=by kernel_rfl
theorem f8m:E.drw 100 7=some [(0,5),(0,9),(6,5),(7,5)]:=by kernel_rfl
theorem f8l:E.drw 100 8=some []:=by kernel_rfl
theorem f8k:E.drw 103 9=some []:=by kernel_rfl
theorem e8w:E.drw 103 10=some []:=by kernel_rfl
theorem e8v:E.drw 113 31=some []:=by kernel_rfl
theorem f8j:E.drw 118 5=some [(4,2)]:=by kernel_rfl
theorem f8i:E.drw 118 9=some [(4,2)]:=by kernel_rfl
theorem f8h:E.drw 127 1=some [(5,3),(5,4)]:=by kernel_rfl
theorem f8g:E.drw 128 7=some [(1,11)]:=by kernel_rfl
theorem e8u:E.drw 137 18=some [(0,3)]:=by kernel_rfl
theorem e8t:E.drw 137 23=some [(3,2)]:=by kernel_rfl
theorem e8s:E.drw 137 25=some [(3,2)]:=by kernel_rfl
theorem f8f:E.drw 140 5=some []:=by kernel_rfl
theorem f8e:E.drw 140 9=some []:=by kernel_rfl
theorem e8r:E.drw 140 14=some []:=by kernel_rfl
theorem e8q:E.drw 142 11=some [(5,1)]:=by kernel_rfl
theorem e8p:E.drw 142 14=some [(5,1)]:=by kernel_rfl
theorem f8d:E.drw 143 1=some [(0,2)]:=by kernel_rfl
theorem e8o:E.drw 147 11=some []:=by kernel_rfl
theorem e8n:E.drw 147 12=some []:=by kernel_rfl
theorem f8c:E.drw 150 4=some []:=by kernel_rfl
theorem f8b:E.drw 151 7=some []:=by kernel_rfl
theorem f8a:E.drw 151 9=some [(1,2)]:=by kernel_rfl
theorem f7z:E.drw 152 6=some []:=by kernel_rfl
theorem e8m:E.drw 152 18=some [(5,3)]:=by kernel_rfl
theorem e8l:E.drw 152 19=some [(5,3)]:=by kernel_rfl
theorem e8k:E.drw 152 23=some []:=by kernel_rfl
theorem f7y:E.drw 190 3=some []:=by kernel_rfl
theorem e8j:E.drw 192 14=some []:=by kernel_rfl
theorem e8i:E.drw 192 17=some [(0,2)]:=by kernel_rfl
theorem f7x:E.drw 200 5=some [(4,3)]:=by kernel_rfl
theorem e8h:E.drw 200 35=some [(0,3)]:=by kernel_rfl
theorem f7w:E.drw 207 4=some [(1,8),(3,8)]:=by kernel_rfl
theorem f7v:E.drw 207 7=some [(1,8),(3,8)]:=by kernel_rfl
theorem e8g:E.drw 207 17=some [(1,5)]:=by kernel_rfl
theorem f7u:E.drw 213 1=some [(0,3),(1,3)]:=by kernel_rfl
theorem e8f:E.drw 216 12=some []:=by kernel_rfl
theorem f7t:E.drw 230 7=some [(0,2)]:=by kernel_rfl
theorem f7s:E.drw 231 0=some [(8,4)]:=by kernel_rfl
theorem f7q:E.drw 232 8=some [(2,1)]:=by kernel_rfl
theorem e8e:E.drw 234 16=some [(0,3)]:=by kernel_rfl
theorem f7p:E.drw 244 4=some [(1,7),(1,12),(2,7),(9,7)]:=by kernel_rfl
theorem f7o:E.drw 244 5=some []:=by kernel_rfl
theorem j3a:a0k E 7=Tryz.f7.body:=by kernel_rfl
theorem j2d:E.prim 7=none:=by kernel_rfl
theorem j9t:a0q E 7=some [.tmp 6]:=by kernel_rfl
theorem i5q:a0k E 23=Tryz.f23.body:=by kernel_rfl
theorem i2c:E.prim 23=none:=by kernel_rfl
theorem j2b:a0q E 23=some [.tmp 0]:=by kernel_rfl
theorem i5p:a0k E 24=Tryz.f24.body:=by kernel_rfl
theorem i2b:E.prim 24=none:=by kernel_rfl
theorem j2a:a0q E 24=some [.tmp 2,.tmp 3,.tmp 4]:=by kernel_rfl
theorem i5o:a0k E 25=Tryz.f25.body:=by kernel_rfl
theorem i2a:E.prim 25=none:=by kernel_rfl
theorem j1z:a0q E 25=some [.tmp 2,.tmp 3,.tmp 4]:=by kernel_rfl
theorem i5n:a0k E 26=Tryz.f26.body:=by kernel_rfl
theorem i1z:E.prim 26=none:=by kernel_rfl
theorem j1y:a0q E 26=some [.tmp 2,.tmp 3,.tmp 4]:=by kernel_rfl
theorem i5m:a0k E 27=Tryz.f27.body:=by kernel_rfl
theorem i1y:E.prim 27=none:=by kernel_rfl
theorem j1x:a0q E 27=some [.cell 4 75,.tmp 5]:=by kernel_rfl
theorem i5l:a0k E 28=Tryz.f28.body:=by kernel_rfl
theorem i1x:E.prim 28=none:=by kernel_rfl
theorem j1w:a0q E 28=some [.tmp 2]:=by kernel_rfl
theorem c7m:a0k E 30=Tryz.f30.body:=by kernel_rfl
theorem c5h:E.prim 30=none:=by kernel_rfl
theorem j1v:a0q E 30=some [.cell 2 25,.tmp 3]:=by kernel_rfl
theorem i5k:a0k E 31=Tryz.f31.body:=by kernel_rfl
theorem i1w:E.prim 31=none:=by kernel_rfl
theorem j1u:a0q E 31=some [.tmp 4]:=by kernel_rfl
theorem i5j:a0k E 32=Tryz.f32.body:=by kernel_rfl
theorem i1v:E.prim 32=none:=by kernel_rfl
theorem j1t:a0q E 32=some [.tmp 2]:=by kernel_rfl
theorem d3m:a0k E 34=Tryz.f34.body:=by kernel_rfl
theorem d2g:E.prim 34=none:=by kernel_rfl
theorem j1s:a0q E 34=some [.cell 2 38,.tmp 3]:=by kernel_rfl
theorem i5i:a0k E 35=Tryz.f35.body:=by kernel_rfl
theorem i1u:E.prim 35=none:=by kernel_rfl
theorem j1r:a0q E 35=some [.tmp 4,.tmp 5]:=by kernel_rfl
theorem i5h:a0k E 36=Tryz.f36.body:=by kernel_rfl
theorem i1t:E.prim 36=none:=by kernel_rfl
theorem j1q:a0q E 36=some [.tmp 4]:=by kernel_rfl
theorem i5g:a0k E 37=Tryz.f37.body:=by kernel_rfl
theorem i1s:E.prim 37=none:=by kernel_rfl
theorem j1p:a0q E 37=some [.tmp 4]:=by kernel_rfl
theorem i5f:a0k E 38=Tryz.f38.body:=by kernel_rfl
theorem i1r:E.prim 38=none:=by kernel_rfl
theorem j1o:a0q E 38=some [.cell 4 80,.tmp 5]:=by kernel_rfl
theorem i5e:a0k E 39=Tryz.f39.body:=by kernel_rfl
theorem i1q:E.prim 39=none:=by kernel_rfl
theorem j1n:a0q E 39=some [.tmp 4]:=by kernel_rfl
theorem d3l:a0k E 40=Tryz.f40.body:=by kernel_rfl
theorem d2f:E.prim 40=none:=by kernel_rfl
theorem j1m:a0q E 40=some [.cell 6 25]:=by kernel_rfl
theorem f9r:a0k E 45=Tryz.f45.body:=by kernel_rfl
theorem f2p:E.prim 45=none:=by kernel_rfl
theorem j1l:a0q E 45=some [.tmp 2,.cell 3 3,.tmp 4]:=by kernel_rfl
theorem f9q:a0k E 48=Tryz.f48.body:=by kernel_rfl
theorem f2o:E.prim 48=none:=by kernel_rfl
theorem j1k:a0q E 48=some [.tmp 2,.tmp 3,.tmp 4]:=by kernel_rfl
theorem i5d:a0k E 51=Tryz.f51.body:=by kernel_rfl
theorem i1p:E.prim 51=none:=by kernel_rfl
theorem j1j:a0q E 51=some [.tmp 4]:=by kernel_rfl
theorem i5c:a0k E 52=Tryz.f52.body:=by kernel_rfl
theorem i1o:E.prim 52=none:=by kernel_rfl
theorem j1i:a0q E 52=some [.tmp 2]:=by kernel_rfl
theorem i5b:a0k E 57=Tryz.f57.body:=by kernel_rfl
theorem i1n:E.prim 57=none:=by kernel_rfl
theorem j1h:a0q E 57=some [.tmp 4]:=by kernel_rfl
theorem i5a:a0k E 58=Tryz.f58.body:=by kernel_rfl
theorem i1m:E.prim 58=none:=by kernel_rfl
theorem j1g:a0q E 58=some [.tmp 2]:=by kernel_rfl
theorem i4z:a0k E 62=Tryz.f62.body:=by kernel_rfl
theorem i1k:E.prim 62=none:=by kernel_rfl
theorem j1f:a0q E 62=some [.cell 6 38]:=by kernel_rfl
theorem i4y:a0k E 77=Tryz.f77.body:=by kernel_rfl
theorem i1j:E.prim 77=none:=by kernel_rfl
theorem j1e:a0q E 77=some [.tmp 4]:=by kernel_rfl
theorem i4x:a0k E 78=Tryz.f78.body:=by kernel_rfl
theorem i1i:E.prim 78=none:=by kernel_rfl
theorem j1d:a0q E 78=some [.tmp 2,.tmp 3]:=by kernel_rfl
theorem i4w:a0k E 79=Tryz.f79.body:=by kernel_rfl
theorem i1h:E.prim 79=none:=by kernel_rfl
theorem j1c:a0q E 79=some [.tmp 2,.tmp 3]:=by kernel_rfl
theorem i4v:a0k E 80=Tryz.f80.body:=by kernel_rfl
theorem i1g:E.prim 80=none:=by kernel_rfl
theorem j1b:a0q E 80=some [.tmp 2,.tmp 3]:=by kernel_rfl
theorem f9p:a0k E 82=Tryz.f82.body:=by kernel_rfl
theorem f2n:E.prim 82=none:=by kernel_rfl
theorem j1a:a0q E 82=some [.cell 4 75,.tmp 5]:=by kernel_rfl
theorem i4u:a0k E 83=Tryz.f83.body:=by kernel_rfl
theorem i1e:E.prim 83=none:=by kernel_rfl
theorem j0z:a0q E 83=some [.cell 4 80,.tmp 5]:=by kernel_rfl
theorem i4t:a0k E 84=Tryz.f84.body:=by kernel_rfl
theorem i1d:E.prim 84=none:=by kernel_rfl
theorem j0y:a0q E 84=some [.tmp 2]:=by kernel_rfl
theorem i4s:a0k E 85=Tryz.f85.body:=by kernel_rfl
theorem i1c:E.prim 85=none:=by kernel_rfl
theorem j0x:a0q E 85=some [.tmp 2]:=by kernel_rfl
theorem i4r:a0k E 87=Tryz.f87.body:=by kernel_rfl
theorem i1b:E.prim 87=none:=by kernel_rfl
theorem j0w:a0q E 87=some [.cell 2 25,.tmp 3,.tmp 4]:=by kernel_rfl
theorem i4q:a0k E 88=Tryz.f88.body:=by kernel_rfl
theorem i1a:E.prim 88=none:=by kernel_rfl
theorem j0v:a0q E 88=some [.tmp 2]:=by kernel_rfl
theorem i4p:a0k E 89=Tryz.f89.body:=by kernel_rfl
theorem i0z:E.prim 89=none:=by kernel_rfl
theorem j0u:a0q E 89=some [.tmp 4]:=by kernel_rfl
theorem i4o:a0k E 90=Tryz.f90.body:=by kernel_rfl
theorem i0y:E.prim 90=none:=by kernel_rfl
theorem j0t:a0q E 90=some []:=by kernel_rfl
theorem i4n:a0k E 91=Tryz.f91.body:=by kernel_rfl
theorem i0x:E.prim 91=none:=by kernel_rfl
theorem j0s:a0q E 91=some []:=by kernel_rfl
theorem c1j:a0k E 94=Tryz.f94.body:=by kernel_rfl
theorem c0j:E.prim 94=none:=by kernel_rfl
theorem j0r:a0q E 94=some [.cell 4 38,.tmp 5]:=by kernel_rfl
theorem i4m:a0k E 95=Tryz.f95.body:=by kernel_rfl
theorem i0w:E.prim 95=none:=by kernel_rfl
theorem j0q:a0q E 95=some [.tmp 2]:=by kernel_rfl
theorem i4l:a0k E 97=Tryz.f97.body:=by kernel_rfl
theorem i0u:E.prim 97=none:=by kernel_rfl
theorem j0p:a0q E 97=some [.tmp 4]:=by kernel_rfl
theorem i4k:a0k E 98=Tryz.f98.body:=by kernel_rfl
theorem i0t:E.prim 98=none:=by kernel_rfl
theorem j0o:a0q E 98=some [.tmp 4]:=by kernel_rfl
theorem c4d:a0k E 100=Tryz.f100.body:=by kernel_rfl
theorem c3l:E.prim 100=none:=by kernel_rfl
theorem i0k:a0q E 100=some [.cell 6 25]:=by kernel_rfl
theorem c4c:a0k E 101=Tryz.f101.body:=by kernel_rfl
theorem c3k:E.prim 101=none:=by kernel_rfl
theorem i0j:a0q E 101=some [.cell 4 25]:=by kernel_rfl
theorem h1y:a0k E 102=Tryz.f102.body:=by kernel_rfl
theorem g5b:E.prim 102=none:=by kernel_rfl
theorem i0i:a0q E 102=some [.cell 4 25]:=by kernel_rfl
theorem h1x:a0k E 103=Tryz.f103.body:=by kernel_rfl
theorem g5a:E.prim 103=none:=by kernel_rfl
theorem i0h:a0q E 103=some [.tmp 6,.cell 7 25]:=by kernel_rfl
theorem h1w:a0k E 108=Tryz.f108.body:=by kernel_rfl
theorem g4z:E.prim 108=none:=by kernel_rfl
theorem i0g:a0q E 108=some [.tmp 2,.tmp 3]:=by kernel_rfl
theorem h1v:a0k E 109=Tryz.f109.body:=by kernel_rfl
theorem g4y:E.prim 109=none:=by kernel_rfl
theorem i0f:a0q E 109=some [.tmp 2,.tmp 3]:=by kernel_rfl
theorem h1u:a0k E 110=Tryz.f110.body:=by kernel_rfl
theorem g4x:E.prim 110=none:=by kernel_rfl
theorem i0e:a0q E 110=some [.tmp 2]:=by kernel_rfl
theorem h1t:a0k E 113=Tryz.f113.body:=by kernel_rfl
theorem g4w:E.prim 113=none:=by kernel_rfl
theorem i0d:a0q E 113=some [.tmp 4,.tmp 5]:=by kernel_rfl
theorem h1s:a0k E 118=Tryz.f118.body:=by kernel_rfl
theorem g4v:E.prim 118=none:=by kernel_rfl
theorem i0c:a0q E 118=some [.tmp 6]:=by kernel_rfl
theorem h1r:a0k E 119=Tryz.f119.body:=by kernel_rfl
theorem g4u:E.prim 119=none:=by kernel_rfl
theorem i0b:a0q E 119=some [.tmp 4]:=by kernel_rfl
theorem h1q:a0k E 121=Tryz.f121.body:=by kernel_rfl
theorem g4t:E.prim 121=none:=by kernel_rfl
theorem i0a:a0q E 121=some [.tmp 4]:=by kernel_rfl
theorem h1p:a0k E 122=Tryz.f122.body:=by kernel_rfl
theorem g4s:E.prim 122=none:=by kernel_rfl
theorem h9z:a0q E 122=some [.tmp 2]:=by kernel_rfl
theorem h1o:a0k E 127=Tryz.f127.body:=by kernel_rfl
theorem g4r:E.prim 127=none:=by kernel_rfl
theorem h9y:a0q E 127=some [.cell 6 38]:=by kernel_rfl
theorem e3l:a0k E 128=Tryz.f128.body:=by kernel_rfl
theorem e1c:E.prim 128=none:=by kernel_rfl
theorem h9x:a0q E 128=some [.cell 10 38]:=by kernel_rfl
theorem h1n:a0k E 130=Tryz.f130.body:=by kernel_rfl
theorem g4q:E.prim 130=none:=by kernel_rfl
theorem h9w:a0q E 130=some [.tmp 8]:=by kernel_rfl
theorem h1m:a0k E 134=Tryz.f134.body:=by kernel_rfl
theorem g4p:E.prim 134=none:=by kernel_rfl
theorem h9v:a0q E 134=some [.cell 2 91]:=by kernel_rfl
theorem h1l:a0k E 135=Tryz.f135.body:=by kernel_rfl
theorem g4o:E.prim 135=none:=by kernel_rfl
theorem h9u:a0q E 135=some [.tmp 6]:=by kernel_rfl
theorem h1k:a0k E 136=Tryz.f136.body:=by kernel_rfl
theorem g4n:E.prim 136=none:=by kernel_rfl
theorem h9t:a0q E 136=some [.tmp 2]:=by kernel_rfl
theorem c4b:a0k E 137=Tryz.f137.body:=by kernel_rfl
theorem c3j:E.prim 137=none:=by kernel_rfl
theorem h9s:a0q E 137=some [.cell 4 170,.tmp 5]:=by kernel_rfl
theorem h1j:a0k E 138=Tryz.f138.body:=by kernel_rfl
theorem g4m:E.prim 138=none:=by kernel_rfl
theorem h9r:a0q E 138=some [.tmp 8]:=by kernel_rfl
theorem h1i:a0k E 139=Tryz.f139.body:=by kernel_rfl
theorem g4l:E.prim 139=none:=by kernel_rfl
theorem h9q:a0q E 139=some [.tmp 2]:=by kernel_rfl
theorem h1h:a0k E 140=Tryz.f140.body:=by kernel_rfl
theorem g4k:E.prim 140=none:=by kernel_rfl
theorem h9p:a0q E 140=some [.tmp 4,.tmp 5]:=by kernel_rfl
theorem h1g:a0k E 141=Tryz.f141.body:=by kernel_rfl
theorem g4j:E.prim 141=none:=by kernel_rfl
theorem h9o:a0q E 141=some [.tmp 4,.tmp 5]:=by kernel_rfl
theorem h1f:a0k E 142=Tryz.f142.body:=by kernel_rfl
theorem g4i:E.prim 142=none:=by kernel_rfl
theorem h9n:a0q E 142=some [.tmp 4,.tmp 5]:=by kernel_rfl
theorem e3k:a0k E 143=Tryz.f143.body:=by kernel_rfl
theorem e1b:E.prim 143=none:=by kernel_rfl
theorem h9m:a0q E 143=some [.tmp 2,.cell 3 25]:=by kernel_rfl
theorem e3j:a0k E 144=Tryz.f144.body:=by kernel_rfl
theorem e1a:E.prim 144=none:=by kernel_rfl
theorem h9l:a0q E 144=some [.tmp 4]:=by kernel_rfl
theorem h1e:a0k E 145=Tryz.f145.body:=by kernel_rfl
theorem g4h:E.prim 145=none:=by kernel_rfl
theorem h9k:a0q E 145=some [.tmp 2]:=by kernel_rfl
theorem h1d:a0k E 146=Tryz.f146.body:=by kernel_rfl
theorem g4g:E.prim 146=none:=by kernel_rfl
theorem h9j:a0q E 146=some [.cell 6 25]:=by kernel_rfl
theorem h1c:a0k E 147=Tryz.f147.body:=by kernel_rfl
theorem g4f:E.prim 147=none:=by kernel_rfl
theorem h9i:a0q E 147=some [.tmp 6,.cell 7 38]:=by kernel_rfl
theorem h0z:a0k E 148=Tryz.f148.body:=by kernel_rfl
theorem g4e:E.prim 148=none:=by kernel_rfl
theorem h9h:a0q E 148=some [.tmp 2]:=by kernel_rfl
theorem h0y:a0k E 149=Tryz.f149.body:=by kernel_rfl
theorem g4d:E.prim 149=none:=by kernel_rfl
theorem h9g:a0q E 149=some [.tmp 4]:=by kernel_rfl
theorem h0x:a0k E 150=Tryz.f150.body:=by kernel_rfl
theorem g4c:E.prim 150=none:=by kernel_rfl
theorem h9f:a0q E 150=some [.cell 6 38]:=by kernel_rfl
theorem e3i:a0k E 151=Tryz.f151.body:=by kernel_rfl
theorem e0z:E.prim 151=none:=by kernel_rfl
theorem h9e:a0q E 151=some [.cell 6 25,.tmp 7]:=by kernel_rfl
theorem d3p:a0k E 152=Tryz.f152.body:=by kernel_rfl
theorem d2j:E.prim 152=none:=by kernel_rfl
theorem h9d:a0q E 152=some [.cell 10 38,.tmp 11]:=by kernel_rfl
theorem h0w:a0k E 153=Tryz.f153.body:=by kernel_rfl
theorem g4b:E.prim 153=none:=by kernel_rfl
theorem h9c:a0q E 153=some [.cell 2 25,.tmp 3]:=by kernel_rfl
theorem h0v:a0k E 154=Tryz.f154.body:=by kernel_rfl
theorem g4a:E.prim 154=none:=by kernel_rfl
theorem h9b:a0q E 154=some [.tmp 3]:=by kernel_rfl
theorem e3h:a0k E 157=Tryz.f157.body:=by kernel_rfl
theorem e0x:E.prim 157=none:=by kernel_rfl
theorem h9a:a0q E 157=some [.cell 4 38,.tmp 5]:=by kernel_rfl
theorem h0u:a0k E 159=Tryz.f159.body:=by kernel_rfl
theorem g3z:E.prim 159=none:=by kernel_rfl
theorem h8z:a0q E 159=some [.cell 4 25]:=by kernel_rfl
theorem h0t:a0k E 162=Tryz.f162.body:=by kernel_rfl
theorem g3y:E.prim 162=none:=by kernel_rfl
theorem h8y:a0q E 162=some [.tmp 2]:=by kernel_rfl
theorem h0s:a0k E 163=Tryz.f163.body:=by kernel_rfl
theorem g3x:E.prim 163=none:=by kernel_rfl
theorem h8x:a0q E 163=some [.tmp 2]:=by kernel_rfl
theorem h0r:a0k E 164=Tryz.f164.body:=by kernel_rfl
theorem g3w:E.prim 164=none:=by kernel_rfl
theorem h8w:a0q E 164=some [.tmp 4]:=by kernel_rfl
theorem h0q:a0k E 165=Tryz.f165.body:=by kernel_rfl
theorem g3v:E.prim 165=none:=by kernel_rfl
theorem h8v:a0q E 165=some [.tmp 2]:=by kernel_rfl
theorem h0p:a0k E 166=Tryz.f166.body:=by kernel_rfl
theorem g3u:E.prim 166=none:=by kernel_rfl
theorem h8u:a0q E 166=some [.tmp 2]:=by kernel_rfl
theorem h0o:a0k E 167=Tryz.f167.body:=by kernel_rfl
theorem g3t:E.prim 167=none:=by kernel_rfl
theorem h8t:a0q E 167=some [.tmp 2]:=by kernel_rfl
theorem h0n:a0k E 168=Tryz.f168.body:=by kernel_rfl
theorem g3s:E.prim 168=none:=by kernel_rfl
theorem h8s:a0q E 168=some [.tmp 2]:=by kernel_rfl
theorem h0m:a0k E 169=Tryz.f169.body:=by kernel_rfl
theorem g3r:E.prim 169=none:=by kernel_rfl
theorem h8r:a0q E 169=some [.tmp 4]:=by kernel_rfl
theorem h0l:a0k E 173=Tryz.f173.body:=by kernel_rfl
theorem g3p:E.prim 173=none:=by kernel_rfl
theorem h8q:a0q E 173=some [.tmp 2]:=by kernel_rfl
theorem h0k:a0k E 174=Tryz.f174.body:=by kernel_rfl
theorem g3o:E.prim 174=none:=by kernel_rfl
theorem h8p:a0q E 174=some [.tmp 2]:=by kernel_rfl
theorem h0j:a0k E 175=Tryz.f175.body:=by kernel_rfl
theorem g3n:E.prim 175=none:=by kernel_rfl
theorem h8o:a0q E 175=some [.tmp 4]:=by kernel_rfl
theorem h0i:a0k E 187=Tryz.f187.body:=by kernel_rfl
theorem g3m:E.prim 187=none:=by kernel_rfl
theorem h8n:a0q E 187=some [.tmp 6]:=by kernel_rfl
theorem h0h:a0k E 188=Tryz.f188.body:=by kernel_rfl
theorem g3l:E.prim 188=none:=by kernel_rfl
theorem h8m:a0q E 188=some [.tmp 2]:=by kernel_rfl
theorem d3o:a0k E 189=Tryz.f189.body:=by kernel_rfl
theorem d2i:E.prim 189=none:=by kernel_rfl
theorem h8l:a0q E 189=some []:=by kernel_rfl
theorem h0g:a0k E 190=Tryz.f190.body:=by kernel_rfl
theorem g3k:E.prim 190=none:=by kernel_rfl
theorem h8k:a0q E 190=some []:=by kernel_rfl
theorem h0f:a0k E 191=Tryz.f191.body:=by kernel_rfl
theorem g3j:E.prim 191=none:=by kernel_rfl
theorem h8j:a0q E 191=some [.cell 2 25]:=by kernel_rfl
theorem h0e:a0k E 192=Tryz.f192.body:=by kernel_rfl
theorem g3i:E.prim 192=none:=by kernel_rfl
theorem h8i:a0q E 192=some [.cell 2 89]:=by kernel_rfl
theorem h0d:a0k E 193=Tryz.f193.body:=by kernel_rfl
theorem g3h:E.prim 193=none:=by kernel_rfl
theorem h8h:a0q E 193=some [.tmp 6]:=by kernel_rfl
theorem h0c:a0k E 194=Tryz.f194.body:=by kernel_rfl
theorem g3g:E.prim 194=none:=by kernel_rfl
theorem h8g:a0q E 194=some [.tmp 2]:=by kernel_rfl
theorem h0b:a0k E 195=Tryz.f195.body:=by kernel_rfl
theorem g3f:E.prim 195=none:=by kernel_rfl
theorem h8f:a0q E 195=some [.tmp 2]:=by kernel_rfl
theorem h0a:a0k E 196=Tryz.f196.body:=by kernel_rfl
theorem g3e:E.prim 196=none:=by kernel_rfl
theorem h8e:a0q E 196=some [.tmp 4]:=by kernel_rfl
theorem g9z:a0k E 197=Tryz.f197.body:=by kernel_rfl
theorem g3d:E.prim 197=none:=by kernel_rfl
theorem h8d:a0q E 197=some [.tmp 4,.tmp 5]:=by kernel_rfl
theorem e3g:a0k E 198=Tryz.f198.body:=by kernel_rfl
theorem e0w:E.prim 198=none:=by kernel_rfl
theorem h8c:a0q E 198=some [.tmp 8]:=by kernel_rfl
theorem g9y:a0k E 199=Tryz.f199.body:=by kernel_rfl
theorem g3c:E.prim 199=none:=by kernel_rfl
theorem h8b:a0q E 199=some [.cell 4 38,.tmp 5]:=by kernel_rfl
theorem b3f:a0k E 200=Tryz.f200.body:=by kernel_rfl
theorem b2v:E.prim 200=none:=by kernel_rfl
theorem h8a:a0q E 200=some [.cell 4 168,.tmp 5]:=by kernel_rfl
theorem g9x:a0k E 201=Tryz.f201.body:=by kernel_rfl
theorem g3b:E.prim 201=none:=by kernel_rfl
theorem h7z:a0q E 201=some [.tmp 2]:=by kernel_rfl
theorem g9w:a0k E 202=Tryz.f202.body:=by kernel_rfl
theorem g3a:E.prim 202=none:=by kernel_rfl
theorem h7y:a0q E 202=some [.tmp 2]:=by kernel_rfl
theorem g9v:a0k E 203=Tryz.f203.body:=by kernel_rfl
theorem g2z:E.prim 203=none:=by kernel_rfl
theorem h7x:a0q E 203=some [.tmp 4,.tmp 5]:=by kernel_rfl
theorem g9u:a0k E 204=Tryz.f204.body:=by kernel_rfl
theorem g2y:E.prim 204=none:=by kernel_rfl
theorem h7w:a0q E 204=some [.tmp 4]:=by kernel_rfl
theorem g9t:a0k E 205=Tryz.f205.body:=by kernel_rfl
theorem g2x:E.prim 205=none:=by kernel_rfl
theorem h7v:a0q E 205=some [.tmp 3]:=by kernel_rfl
theorem g9s:a0k E 206=Tryz.f206.body:=by kernel_rfl
theorem g2w:E.prim 206=none:=by kernel_rfl
theorem h7u:a0q E 206=some [.tmp 2]:=by kernel_rfl
theorem c4a:a0k E 207=Tryz.f207.body:=by kernel_rfl
theorem c3i:E.prim 207=none:=by kernel_rfl
theorem h7t:a0q E 207=some []:=by kernel_rfl
theorem g9r:a0k E 208=Tryz.f208.body:=by kernel_rfl
theorem g2v:E.prim 208=none:=by kernel_rfl
theorem h7s:a0q E 208=some []:=by kernel_rfl
theorem g9q:a0k E 209=Tryz.f209.body:=by kernel_rfl
theorem g2u:E.prim 209=none:=by kernel_rfl
theorem h7r:a0q E 209=some []:=by kernel_rfl
theorem g9p:a0k E 210=Tryz.f210.body:=by kernel_rfl
theorem g2t:E.prim 210=none:=by kernel_rfl
theorem h7q:a0q E 210=some [.tmp 2]:=by kernel_rfl
theorem g9o:a0k E 211=Tryz.f211.body:=by kernel_rfl
theorem g2s:E.prim 211=none:=by kernel_rfl
theorem h7p:a0q E 211=some [.tmp 2]:=by kernel_rfl
theorem e3f:a0k E 212=Tryz.f212.body:=by kernel_rfl
theorem e0v:E.prim 212=none:=by kernel_rfl
theorem h7o:a0q E 212=some [.tmp 4]:=by kernel_rfl
theorem g9n:a0k E 213=Tryz.f213.body:=by kernel_rfl
theorem g2r:E.prim 213=none:=by kernel_rfl
theorem h7n:a0q E 213=some [.cell 6 25]:=by kernel_rfl
theorem g9m:a0k E 214=Tryz.f214.body:=by kernel_rfl
theorem g2q:E.prim 214=none:=by kernel_rfl
theorem h7m:a0q E 214=some [.cell 4 25]:=by kernel_rfl
theorem g9l:a0k E 215=Tryz.f215.body:=by kernel_rfl
theorem g2p:E.prim 215=none:=by kernel_rfl
theorem h7l:a0q E 215=some [.tmp 6,.tmp 7]:=by kernel_rfl
theorem g9k:a0k E 216=Tryz.f216.body:=by kernel_rfl
theorem g2o:E.prim 216=none:=by kernel_rfl
theorem h7k:a0q E 216=some [.cell 2 25,.tmp 3]:=by kernel_rfl
theorem g9j:a0k E 217=Tryz.f217.body:=by kernel_rfl
theorem g2n:E.prim 217=none:=by kernel_rfl
theorem h7j:a0q E 217=some [.cell 2 25,.tmp 3]:=by kernel_rfl
theorem b1l:a0k E 219=Tryz.f219.body:=by kernel_rfl
theorem b1e:E.prim 219=none:=by kernel_rfl
theorem h7i:a0q E 219=some [.cell 4 38,.tmp 5]:=by kernel_rfl
theorem g9i:a0k E 222=Tryz.f222.body:=by kernel_rfl
theorem g2m:E.prim 222=none:=by kernel_rfl
theorem h7h:a0q E 222=some [.tmp 4]:=by kernel_rfl
theorem g9h:a0k E 230=Tryz.f230.body:=by kernel_rfl
theorem g2k:E.prim 230=none:=by kernel_rfl
theorem h7g:a0q E 230=some [.cell 2 89]:=by kernel_rfl
theorem g9g:a0k E 231=Tryz.f231.body:=by kernel_rfl
theorem g2j:E.prim 231=none:=by kernel_rfl
theorem h7f:a0q E 231=some []:=by kernel_rfl
theorem g9f:a0k E 232=Tryz.f232.body:=by kernel_rfl
theorem g2i:E.prim 232=none:=by kernel_rfl
theorem h7e:a0q E 232=some [.cell 2 89]:=by kernel_rfl
theorem g9e:a0k E 233=Tryz.f233.body:=by kernel_rfl
theorem g2h:E.prim 233=none:=by kernel_rfl
theorem h7d:a0q E 233=some [.tmp 2]:=by kernel_rfl
theorem b6n:a0k E 234=Tryz.f234.body:=by kernel_rfl
theorem b6b:E.prim 234=none:=by kernel_rfl
theorem h7c:a0q E 234=some [.cell 4 168,.tmp 5]:=by kernel_rfl
theorem g9d:a0k E 235=Tryz.f235.body:=by kernel_rfl
theorem g2g:E.prim 235=none:=by kernel_rfl
theorem h7b:a0q E 235=some [.tmp 2]:=by kernel_rfl
theorem g9c:a0k E 236=Tryz.f236.body:=by kernel_rfl
theorem g2f:E.prim 236=none:=by kernel_rfl
theorem h7a:a0q E 236=some []:=by kernel_rfl
theorem g9b:a0k E 237=Tryz.f237.body:=by kernel_rfl
theorem g2e:E.prim 237=none:=by kernel_rfl
theorem h6z:a0q E 237=some []:=by kernel_rfl
theorem g9a:a0k E 238=Tryz.f238.body:=by kernel_rfl
theorem g2d:E.prim 238=none:=by kernel_rfl
theorem h6y:a0q E 238=some []:=by kernel_rfl
theorem g8z:a0k E 239=Tryz.f239.body:=by kernel_rfl
theorem g2c:E.prim 239=none:=by kernel_rfl
theorem h6x:a0q E 239=some [.tmp 4]:=by kernel_rfl
theorem g8y:a0k E 240=Tryz.f240.body:=by kernel_rfl
theorem g2b:E.prim 240=none:=by kernel_rfl
theorem h6w:a0q E 240=some []:=by kernel_rfl
theorem g8x:a0k E 241=Tryz.f241.body:=by kernel_rfl
theorem g2a:E.prim 241=none:=by kernel_rfl
theorem h6v:a0q E 241=some []:=by kernel_rfl
theorem g8w:a0k E 242=Tryz.f242.body:=by kernel_rfl
theorem g1z:E.prim 242=none:=by kernel_rfl
theorem h6u:a0q E 242=some []:=by kernel_rfl
theorem g8v:a0k E 243=Tryz.f243.body:=by kernel_rfl
theorem g1y:E.prim 243=none:=by kernel_rfl
theorem h6t:a0q E 243=some []:=by kernel_rfl
theorem d3n:a0k E 244=Tryz.f244.body:=by kernel_rfl
theorem d2h:E.prim 244=none:=by kernel_rfl
theorem h6s:a0q E 244=some [.cell 8 25]:=by kernel_rfl
theorem g8u:a0k E 245=Tryz.f245.body:=by kernel_rfl
theorem g1x:E.prim 245=none:=by kernel_rfl
theorem h6r:a0q E 245=some [.tmp 3]:=by kernel_rfl
theorem g8t:a0k E 246=Tryz.f246.body:=by kernel_rfl
theorem g1w:E.prim 246=none:=by kernel_rfl
theorem h6q:a0q E 246=some [.tmp 6]:=by kernel_rfl
theorem g8s:a0k E 247=Tryz.f247.body:=by kernel_rfl
theorem g1v:E.prim 247=none:=by kernel_rfl
theorem h6p:a0q E 247=some [.cell 2 25,.tmp 3]:=by kernel_rfl
theorem g8r:a0k E 248=Tryz.f248.body:=by kernel_rfl
theorem g1u:E.prim 248=none:=by kernel_rfl
theorem h6o:a0q E 248=some [.tmp 2]:=by kernel_rfl
theorem g8q:a0k E 261=Tryz.f261.body:=by kernel_rfl
theorem g1t:E.prim 261=none:=by kernel_rfl
theorem h6n:a0q E 261=some [.cell 5 25]:=by kernel_rfl
theorem i1l:E.prim 61=some d8k:=by kernel_rfl
theorem e1d:E.prim 120=some d5z:=by kernel_rfl
theorem g2l:E.prim 229=some d9g:=by kernel_rfl
theorem g3q:E.prim 170=some a8s:=by kernel_rfl
theorem e0y:E.prim 155=some c2h:=by kernel_rfl
theorem i0s:E.prim 99=some b3c:=by kernel_rfl
theorem i1f:E.prim 81=some c6g:=by kernel_rfl
theorem i0v:E.prim 96=some b3d:=by kernel_rfl
theorem f7r:E.drw 231 3=none:=by kernel_rfl
theorem ts3:a1d E.P 3=1:=by kernel_rfl
theorem ts4:a1d E.P 4=1:=by kernel_rfl
theorem ts5:a1d E.P 5=1:=by kernel_rfl
theorem ts9:a1d E.P 9=1:=by kernel_rfl
theorem ts23:a1d E.P 23=1:=by kernel_rfl
theorem ts25:a1d E.P 25=4:=by kernel_rfl
theorem ts36:a1d E.P 36=1:=by kernel_rfl
theorem ts38:a1d E.P 38=4:=by kernel_rfl
theorem ts49:a1d E.P 49=1:=by kernel_rfl
theorem ts67:a1d E.P 67=1:=by kernel_rfl
theorem ts73:a1d E.P 73=1:=by kernel_rfl
theorem ts75:a1d E.P 75=11:=by kernel_rfl
theorem ts78:a1d E.P 78=1:=by kernel_rfl
theorem ts80:a1d E.P 80=11:=by kernel_rfl
theorem ts85:a1d E.P 85=1:=by kernel_rfl
theorem ts86:a1d E.P 86=1:=by kernel_rfl
theorem ts87:a1d E.P 87=1:=by kernel_rfl
theorem ts89:a1d E.P 89=9:=by kernel_rfl
theorem ts91:a1d E.P 91=17:=by kernel_rfl
theorem ts94:a1d E.P 94=5:=by kernel_rfl
theorem j6f:a1d E.P 110=9:=by kernel_rfl
theorem j6e:a1d E.P 117=1:=by kernel_rfl
theorem j6d:a1d E.P 159=1:=by kernel_rfl
theorem j6c:a1d E.P 160=1:=by kernel_rfl
theorem j6b:a1d E.P 161=1:=by kernel_rfl
theorem j6a:a1d E.P 164=1:=by kernel_rfl
theorem j5z:a1d E.P 165=1:=by kernel_rfl
theorem j5y:a1d E.P 166=1:=by kernel_rfl
theorem j5x:a1d E.P 168=9:=by kernel_rfl
theorem j5w:a1d E.P 170=17:=by kernel_rfl
theorem j5v:a1d E.P 172=5:=by kernel_rfl
theorem j5u:a1d E.P 176=9:=by kernel_rfl
theorem j5t:a1d E.P 180=1:=by kernel_rfl
theorem j5s:a1d E.P 182=1:=by kernel_rfl
theorem j5r:a1d E.P 206=3:=by kernel_rfl
theorem j5q:a1d E.P 229=1:=by kernel_rfl
theorem j5p:a1d E.P 231=2:=by kernel_rfl
theorem j5o:a1d E.P 237=4:=by kernel_rfl
theorem j5n:a1d E.P 253=2:=by kernel_rfl
theorem j5m:a1d E.P 256=1:=by kernel_rfl
theorem j5l:a1d E.P 278=2:=by kernel_rfl
theorem j5k:a1d E.P 291=11:=by kernel_rfl
theorem j5j:a1d E.P 309=2:=by kernel_rfl
theorem j5i:a1d E.P 312=11:=by kernel_rfl
theorem j5h:a1d E.P 315=2:=by kernel_rfl
theorem i3f:E.gift 25=none:=by kernel_rfl
theorem j2l:E.nbx 25=true:=by kernel_rfl
theorem i3e:E.gift 81=none:=by kernel_rfl
theorem j2k:E.nbx 81=true:=by kernel_rfl
theorem tsM:a1d E.P 1099511627777=0:=by kernel_rfl
theorem g5o:∀n,E.mkm 182 n (some 5)=false:=fun _=>by kernel_rfl
theorem f3n:∀n,E.mkm 182 n (some 10)=true:=fun _=>by kernel_rfl
theorem f3m:∀n,E.mkm 182 n (some 30)=false:=fun _=>by kernel_rfl
theorem f3l:∀n,E.mkm 244 n (some 67)=true:=fun _=>by kernel_rfl
theorem i7y:e9v E.P 159=some (9,3):=by kernel_rfl
theorem i7x:e9v E.P 160=some (9,49):=by kernel_rfl
theorem i7w:e9v E.P 161=some (9,75):=by kernel_rfl
theorem i7v:e9v E.P 182=some (9,4):=by kernel_rfl
theorem i7u:e9v E.P 244=some (9,9):=by kernel_rfl
theorem tzv3:d7m E 3=some (.int .i64 0):=by kernel_rfl
theorem tzv4:d7m E 4=some (.bool false):=by kernel_rfl
theorem tzv9:d7m E 9=some (.str []):=by kernel_rfl
theorem j3x:d7m E 49=some (.slice []):=by kernel_rfl
theorem j3w:d7m E 75=some (.agg [.str [],.str [],.int .i64 0,.int .i64 0,.str [],.int .i64 0,.slice [],.slice [],.slice [],.slice [],.slice []]):=by kernel_rfl
theorem tg3:b1n E.P 3=some false:=by kernel_rfl
theorem tg4:b1n E.P 4=some false:=by kernel_rfl
theorem tg9:b1n E.P 9=some false:=by kernel_rfl
theorem tg23:b1n E.P 23=some false:=by kernel_rfl
theorem tg25:b1n E.P 25=some true:=by kernel_rfl
theorem tg36:b1n E.P 36=some false:=by kernel_rfl
theorem tg38:b1n E.P 38=some true:=by kernel_rfl
theorem tg49:b1n E.P 49=some false:=by kernel_rfl
theorem tg67:b1n E.P 67=some false:=by kernel_rfl
theorem tg73:b1n E.P 73=some false:=by kernel_rfl
theorem tg75:b1n E.P 75=some true:=by kernel_rfl
theorem tg78:b1n E.P 78=some false:=by kernel_rfl
theorem tg80:b1n E.P 80=some true:=by kernel_rfl
theorem tg85:b1n E.P 85=some false:=by kernel_rfl
theorem tg86:b1n E.P 86=some false:=by kernel_rfl
theorem tg87:b1n E.P 87=some false:=by kernel_rfl
theorem tg89:b1n E.P 89=some true:=by kernel_rfl
theorem tg91:b1n E.P 91=some true:=by kernel_rfl
theorem tg94:b1n E.P 94=some true:=by kernel_rfl
theorem j7h:b1n E.P 117=some false:=by kernel_rfl
theorem j7g:b1n E.P 159=some false:=by kernel_rfl
theorem j7f:b1n E.P 160=some false:=by kernel_rfl
theorem j7e:b1n E.P 161=some false:=by kernel_rfl
theorem j7d:b1n E.P 164=some false:=by kernel_rfl
theorem j7c:b1n E.P 165=some false:=by kernel_rfl
theorem j7b:b1n E.P 166=some false:=by kernel_rfl
theorem j7a:b1n E.P 168=some true:=by kernel_rfl
theorem j6z:b1n E.P 170=some true:=by kernel_rfl
theorem j6y:b1n E.P 172=some true:=by kernel_rfl
theorem j6x:b1n E.P 176=some true:=by kernel_rfl
theorem j6w:b1n E.P 180=some false:=by kernel_rfl
theorem j6v:b1n E.P 182=some false:=by kernel_rfl
theorem j6u:b1n E.P 229=some false:=by kernel_rfl
theorem j6t:b1n E.P 253=some true:=by kernel_rfl
theorem j6s:b1n E.P 291=some true:=by kernel_rfl
theorem j6r:b1n E.P 312=some true:=by kernel_rfl
theorem te1:a1e E.P 1=none:=by kernel_rfl
theorem te3:a1e E.P 3=none:=by kernel_rfl
theorem te4:a1e E.P 4=none:=by kernel_rfl
theorem te5:a1e E.P 5=none:=by kernel_rfl
theorem te9:a1e E.P 9=none:=by kernel_rfl
theorem te23:a1e E.P 23=some 25:=by kernel_rfl
theorem te25:a1e E.P 25=none:=by kernel_rfl
theorem te33:a1e E.P 33=none:=by kernel_rfl
theorem te36:a1e E.P 36=some 38:=by kernel_rfl
theorem te38:a1e E.P 38=none:=by kernel_rfl
theorem te49:a1e E.P 49=some 9:=by kernel_rfl
theorem te63:a1e E.P 63=some 91:=by kernel_rfl
theorem te64:a1e E.P 64=some 170:=by kernel_rfl
theorem te65:a1e E.P 65=none:=by kernel_rfl
theorem te67:a1e E.P 67=none:=by kernel_rfl
theorem te68:a1e E.P 68=none:=by kernel_rfl
theorem te70:a1e E.P 70=some 80:=by kernel_rfl
theorem te71:a1e E.P 71=none:=by kernel_rfl
theorem te73:a1e E.P 73=some 110:=by kernel_rfl
theorem te75:a1e E.P 75=none:=by kernel_rfl
theorem te76:a1e E.P 76=none:=by kernel_rfl
theorem te78:a1e E.P 78=some 176:=by kernel_rfl
theorem te80:a1e E.P 80=none:=by kernel_rfl
theorem te82:a1e E.P 82=none:=by kernel_rfl
theorem te83:a1e E.P 83=none:=by kernel_rfl
theorem te85:a1e E.P 85=some 94:=by kernel_rfl
theorem te86:a1e E.P 86=some 89:=by kernel_rfl
theorem te87:a1e E.P 87=some 291:=by kernel_rfl
theorem te89:a1e E.P 89=none:=by kernel_rfl
theorem te91:a1e E.P 91=none:=by kernel_rfl
theorem te94:a1e E.P 94=none:=by kernel_rfl
theorem te96:a1e E.P 96=some 3:=by kernel_rfl
theorem te99:a1e E.P 99=none:=by kernel_rfl
theorem j9j:a1e E.P 101=none:=by kernel_rfl
theorem j9i:a1e E.P 105=none:=by kernel_rfl
theorem j9h:a1e E.P 117=some 206:=by kernel_rfl
theorem j9g:a1e E.P 118=none:=by kernel_rfl
theorem j9f:a1e E.P 141=none:=by kernel_rfl
theorem j9e:a1e E.P 142=none:=by kernel_rfl
theorem j9d:a1e E.P 146=none:=by kernel_rfl
theorem j9c:a1e E.P 151=none:=by kernel_rfl
theorem j9b:a1e E.P 153=none:=by kernel_rfl
theorem j9a:a1e E.P 155=none:=by kernel_rfl
theorem j8z:a1e E.P 164=some 172:=by kernel_rfl
theorem j8y:a1e E.P 165=some 168:=by kernel_rfl
theorem j8x:a1e E.P 166=some 312:=by kernel_rfl
theorem j8w:a1e E.P 168=none:=by kernel_rfl
theorem j8v:a1e E.P 170=none:=by kernel_rfl
theorem j8u:a1e E.P 172=none:=by kernel_rfl
theorem j8t:a1e E.P 176=none:=by kernel_rfl
theorem j8s:a1e E.P 177=none:=by kernel_rfl
theorem j8r:a1e E.P 180=none:=by kernel_rfl
theorem j8q:a1e E.P 182=none:=by kernel_rfl
theorem j8p:a1e E.P 183=none:=by kernel_rfl
theorem j8o:a1e E.P 185=none:=by kernel_rfl
theorem j8n:a1e E.P 193=none:=by kernel_rfl
theorem j8m:a1e E.P 215=some 5:=by kernel_rfl
theorem j8l:a1e E.P 220=none:=by kernel_rfl
theorem j8k:a1e E.P 221=none:=by kernel_rfl
theorem j8j:a1e E.P 229=none:=by kernel_rfl
theorem j8i:a1e E.P 233=none:=by kernel_rfl
theorem j8h:a1e E.P 238=none:=by kernel_rfl
theorem j8g:a1e E.P 244=none:=by kernel_rfl
theorem j8f:a1e E.P 246=none:=by kernel_rfl
theorem j8e:a1e E.P 249=none:=by kernel_rfl
theorem j8d:a1e E.P 253=none:=by kernel_rfl
theorem j8c:a1e E.P 254=none:=by kernel_rfl
theorem j8b:a1e E.P 257=none:=by kernel_rfl
theorem j8a:a1e E.P 261=some 49:=by kernel_rfl
theorem j7z:a1e E.P 270=none:=by kernel_rfl
theorem j7y:a1e E.P 276=none:=by kernel_rfl
theorem j7x:a1e E.P 281=none:=by kernel_rfl
theorem j7w:a1e E.P 283=none:=by kernel_rfl
theorem j7v:a1e E.P 285=none:=by kernel_rfl
theorem j7u:a1e E.P 289=none:=by kernel_rfl
theorem j7t:a1e E.P 291=none:=by kernel_rfl
theorem j7s:a1e E.P 292=none:=by kernel_rfl
theorem j7r:a1e E.P 307=none:=by kernel_rfl
theorem j7q:a1e E.P 312=none:=by kernel_rfl
theorem j7p:a1e E.P 329=none:=by kernel_rfl
theorem i9w:a0x E.P 25 0=some (0,1):=by kernel_rfl
theorem i9v:a0x E.P 25 1=some (1,1):=by kernel_rfl
theorem i9u:a0x E.P 25 2=some (2,1):=by kernel_rfl
theorem i9t:a0x E.P 25 3=some (3,1):=by kernel_rfl
theorem i9s:a0x E.P 38 0=some (0,1):=by kernel_rfl
theorem i9r:a0x E.P 38 1=some (1,1):=by kernel_rfl
theorem i9q:a0x E.P 38 2=some (2,1):=by kernel_rfl
theorem i9p:a0x E.P 38 3=some (3,1):=by kernel_rfl
theorem i9o:a0x E.P 75 0=some (0,1):=by kernel_rfl
theorem i9n:a0x E.P 75 1=some (1,1):=by kernel_rfl
theorem i9m:a0x E.P 75 2=some (2,1):=by kernel_rfl
theorem i9l:a0x E.P 75 3=some (3,4):=by kernel_rfl
theorem i9k:a0x E.P 75 4=some (7,1):=by kernel_rfl
theorem i9j:a0x E.P 75 5=some (8,1):=by kernel_rfl
theorem i9i:a0x E.P 75 6=some (9,1):=by kernel_rfl
theorem i9h:a0x E.P 75 7=some (10,1):=by kernel_rfl
theorem i9g:a0x E.P 80 0=some (0,1):=by kernel_rfl
theorem i9f:a0x E.P 80 1=some (1,1):=by kernel_rfl
theorem i9e:a0x E.P 80 2=some (2,1):=by kernel_rfl
theorem i9d:a0x E.P 80 4=some (7,1):=by kernel_rfl
theorem i9c:a0x E.P 80 5=some (8,1):=by kernel_rfl
theorem i9b:a0x E.P 80 6=some (9,1):=by kernel_rfl
theorem i9a:a0x E.P 80 7=some (10,1):=by kernel_rfl
theorem i8z:a0x E.P 89 0=some (0,1):=by kernel_rfl
theorem i8y:a0x E.P 89 1=some (1,1):=by kernel_rfl
theorem i8x:a0x E.P 89 2=some (2,1):=by kernel_rfl
theorem i8w:a0x E.P 89 3=some (3,4):=by kernel_rfl
theorem i8v:a0x E.P 89 4=some (7,1):=by kernel_rfl
theorem i8u:a0x E.P 89 5=some (8,1):=by kernel_rfl
theorem i8t:a0x E.P 91 0=some (0,1):=by kernel_rfl
theorem i8s:a0x E.P 91 1=some (1,1):=by kernel_rfl
theorem i8r:a0x E.P 91 2=some (2,1):=by kernel_rfl
theorem i8q:a0x E.P 91 3=some (3,1):=by kernel_rfl
theorem i8p:a0x E.P 91 4=some (4,4):=by kernel_rfl
theorem i8o:a0x E.P 91 5=some (8,9):=by kernel_rfl
theorem i8n:a0x E.P 94 0=some (0,1):=by kernel_rfl
theorem i8m:a0x E.P 94 1=some (1,4):=by kernel_rfl
theorem h6c:a0x E.P 110 0=some (0,1):=by kernel_rfl
theorem h6b:a0x E.P 110 1=some (1,4):=by kernel_rfl
theorem h6a:a0x E.P 110 2=some (5,4):=by kernel_rfl
theorem h5z:a0x E.P 163 0=some (0,1):=by kernel_rfl
theorem h5y:a0x E.P 163 1=some (1,1):=by kernel_rfl
theorem h5x:a0x E.P 163 2=some (2,1):=by kernel_rfl
theorem h5w:a0x E.P 168 0=some (0,1):=by kernel_rfl
theorem h5v:a0x E.P 168 2=some (2,1):=by kernel_rfl
theorem h5u:a0x E.P 168 3=some (3,4):=by kernel_rfl
theorem h5t:a0x E.P 168 4=some (7,1):=by kernel_rfl
theorem h5s:a0x E.P 168 5=some (8,1):=by kernel_rfl
theorem h5r:a0x E.P 170 0=some (0,1):=by kernel_rfl
theorem h5q:a0x E.P 170 1=some (1,1):=by kernel_rfl
theorem h5p:a0x E.P 170 2=some (2,1):=by kernel_rfl
theorem h5o:a0x E.P 170 3=some (3,1):=by kernel_rfl
theorem h5n:a0x E.P 170 4=some (4,4):=by kernel_rfl
theorem h5m:a0x E.P 170 5=some (8,9):=by kernel_rfl
theorem h5l:a0x E.P 172 0=some (0,1):=by kernel_rfl
theorem h5k:a0x E.P 172 1=some (1,4):=by kernel_rfl
theorem h5j:a0x E.P 176 1=some (1,4):=by kernel_rfl
theorem h5i:a0x E.P 176 2=some (5,4):=by kernel_rfl
theorem h5h:a0x E.P 206 0=some (0,1):=by kernel_rfl
theorem h5g:a0x E.P 206 1=some (1,1):=by kernel_rfl
theorem h5f:a0x E.P 231 0=some (0,1):=by kernel_rfl
theorem h5e:a0x E.P 231 1=some (1,1):=by kernel_rfl
theorem h5d:a0x E.P 237 0=some (0,1):=by kernel_rfl
theorem h5c:a0x E.P 237 1=some (1,1):=by kernel_rfl
theorem h5b:a0x E.P 237 2=some (2,1):=by kernel_rfl
theorem h5a:a0x E.P 237 3=some (3,1):=by kernel_rfl
theorem h4z:a0x E.P 253 0=some (0,1):=by kernel_rfl
theorem h4y:a0x E.P 253 1=some (1,1):=by kernel_rfl
theorem h4x:a0x E.P 256 0=some (0,1):=by kernel_rfl
theorem h4w:a0x E.P 278 0=some (0,1):=by kernel_rfl
theorem h4v:a0x E.P 278 1=some (1,1):=by kernel_rfl
theorem h4u:a0x E.P 291 0=some (0,1):=by kernel_rfl
theorem h4t:a0x E.P 291 1=some (1,1):=by kernel_rfl
theorem h4s:a0x E.P 291 2=some (2,9):=by kernel_rfl
theorem h4q:a0x E.P 309 0=some (0,1):=by kernel_rfl
theorem h4p:a0x E.P 309 1=some (1,1):=by kernel_rfl
theorem h4o:a0x E.P 312 1=some (1,1):=by kernel_rfl
theorem h4n:a0x E.P 312 2=some (2,9):=by kernel_rfl
theorem h4m:a0x E.P 315 0=some (0,1):=by kernel_rfl
theorem h4l:a0x E.P 315 1=some (1,1):=by kernel_rfl
theorem i7t:a2g E.P 25 0=some (0,1):=by kernel_rfl
theorem i7s:a2g E.P 25 1=some (1,1):=by kernel_rfl
theorem i7r:a2g E.P 25 2=some (2,1):=by kernel_rfl
theorem i7q:a2g E.P 25 3=some (3,1):=by kernel_rfl
theorem i7p:a2g E.P 38 0=some (0,1):=by kernel_rfl
theorem i7o:a2g E.P 38 1=some (1,1):=by kernel_rfl
theorem i7n:a2g E.P 38 2=some (2,1):=by kernel_rfl
theorem i7m:a2g E.P 38 3=some (3,1):=by kernel_rfl
theorem i7l:a2g E.P 75 0=some (0,1):=by kernel_rfl
theorem i7k:a2g E.P 75 1=some (1,1):=by kernel_rfl
theorem i7j:a2g E.P 75 3=some (3,4):=by kernel_rfl
theorem i7i:a2g E.P 80 0=some (0,1):=by kernel_rfl
theorem i7h:a2g E.P 80 1=some (1,1):=by kernel_rfl
theorem i7g:a2g E.P 80 3=some (3,4):=by kernel_rfl
theorem i7f:a2g E.P 89 0=some (0,1):=by kernel_rfl
theorem i7e:a2g E.P 89 1=some (1,1):=by kernel_rfl
theorem i7d:a2g E.P 89 3=some (3,4):=by kernel_rfl
theorem i7c:a2g E.P 89 4=some (7,1):=by kernel_rfl
theorem i7b:a2g E.P 89 5=some (8,1):=by kernel_rfl
theorem i7a:a2g E.P 91 0=some (0,1):=by kernel_rfl
theorem i6z:a2g E.P 91 1=some (1,1):=by kernel_rfl
theorem i6y:a2g E.P 91 2=some (2,1):=by kernel_rfl
theorem i6x:a2g E.P 94 0=some (0,1):=by kernel_rfl
theorem h4i:a2g E.P 110 0=some (0,1):=by kernel_rfl
theorem h4h:a2g E.P 110 1=some (1,4):=by kernel_rfl
theorem h4g:a2g E.P 110 2=some (5,4):=by kernel_rfl
theorem h4f:a2g E.P 168 0=some (0,1):=by kernel_rfl
theorem h4e:a2g E.P 168 1=some (1,1):=by kernel_rfl
theorem h4d:a2g E.P 168 4=some (7,1):=by kernel_rfl
theorem h4b:a2g E.P 170 0=some (0,1):=by kernel_rfl
theorem h4a:a2g E.P 170 1=some (1,1):=by kernel_rfl
theorem h3z:a2g E.P 170 4=some (4,4):=by kernel_rfl
theorem h3y:a2g E.P 170 5=some (8,9):=by kernel_rfl
theorem h3x:a2g E.P 172 0=some (0,1):=by kernel_rfl
theorem h3w:a2g E.P 176 0=some (0,1):=by kernel_rfl
theorem h3v:a2g E.P 206 0=some (0,1):=by kernel_rfl
theorem h3u:a2g E.P 206 1=some (1,1):=by kernel_rfl
theorem h3t:a2g E.P 206 2=some (2,1):=by kernel_rfl
theorem h3s:a2g E.P 231 0=some (0,1):=by kernel_rfl
theorem h3r:a2g E.P 256 0=some (0,1):=by kernel_rfl
theorem h3q:a2g E.P 278 0=some (0,1):=by kernel_rfl
theorem h3p:a2g E.P 291 0=some (0,1):=by kernel_rfl
theorem h3o:a2g E.P 291 1=some (1,1):=by kernel_rfl
theorem h3n:a2g E.P 309 0=some (0,1):=by kernel_rfl
theorem h3m:a2g E.P 312 0=some (0,1):=by kernel_rfl
theorem tz3:a6o E.P 3=some [.int .i64 0]:=by kernel_rfl
theorem tz4:a6o E.P 4=some [.bool false]:=by kernel_rfl
theorem tz9:a6o E.P 9=some [.str []]:=by kernel_rfl
theorem tz25:a6o E.P 25=some [.int .i64 0,.str [],.int .i64 0,.own 25 0 []]:=by kernel_rfl
theorem tz38:a6o E.P 38=some [.int .i64 0,.str [],.int .i64 0,.own 38 0 []]:=by kernel_rfl
theorem tz49:a6o E.P 49=some [.own 9 0 []]:=by kernel_rfl
theorem tz75:a6o E.P 75=some [.str [],.str [],.int .i64 0,.int .i64 0,.str [],.int .i64 0,.own 25 0 [],.own 9 0 [],.own 9 0 [],.own 110 0 [],.own 25 0 []]:=by kernel_rfl
theorem tz80:a6o E.P 80=some [.str [],.str [],.int .i64 0,.int .i64 0,.str [],.int .i64 0,.own 38 0 [],.own 9 0 [],.own 9 0 [],.own 176 0 [],.own 38 0 []]:=by kernel_rfl
theorem tz89:a6o E.P 89=some [.int .i64 0,.str [],.bool false,.int .i64 0,.str [],.int .i64 0,.own 25 0 [],.own 89 0 [],.own 291 0 []]:=by kernel_rfl
theorem tz91:a6o E.P 91=some [.int .i64 0,.str [],.own 9 0 [],.own 94 0 [],.int .i64 0,.str [],.int .i64 0,.own 25 0 [],.int .i64 0,.str [],.bool false,.int .i64 0,.str [],.int .i64 0,.own 25 0 [],.own 89 0 [],.own 291 0 []]:=by kernel_rfl
theorem tz94:a6o E.P 94=some [.str [],.int .i64 0,.str [],.int .i64 0,.own 25 0 []]:=by kernel_rfl
theorem j4t:a6o E.P 110=some [.str [],.int .i64 0,.str [],.int .i64 0,.own 25 0 [],.int .i64 0,.str [],.int .i64 0,.own 25 0 []]:=by kernel_rfl
theorem j4s:a6o E.P 168=some [.int .i64 0,.str [],.bool false,.int .i64 0,.str [],.int .i64 0,.own 38 0 [],.own 168 0 [],.own 312 0 []]:=by kernel_rfl
theorem j4r:a6o E.P 170=some [.int .i64 0,.str [],.own 9 0 [],.own 172 0 [],.int .i64 0,.str [],.int .i64 0,.own 38 0 [],.int .i64 0,.str [],.bool false,.int .i64 0,.str [],.int .i64 0,.own 38 0 [],.own 168 0 [],.own 312 0 []]:=by kernel_rfl
theorem j4q:a6o E.P 172=some [.str [],.int .i64 0,.str [],.int .i64 0,.own 38 0 []]:=by kernel_rfl
theorem j4p:a6o E.P 176=some [.str [],.int .i64 0,.str [],.int .i64 0,.own 38 0 [],.int .i64 0,.str [],.int .i64 0,.own 38 0 []]:=by kernel_rfl
theorem j4o:a6o E.P 206=some [.int .i64 0,.str [],.int .i64 0]:=by kernel_rfl
theorem j4n:a6o E.P 231=some [.own 206 0 [],.bool false]:=by kernel_rfl
theorem j4m:a6o E.P 237=some [.own 9 0 [],.own 9 0 [],.own 9 0 [],.own 9 0 []]:=by kernel_rfl
theorem j4l:a6o E.P 253=some [.own 9 0 [],.own 9 0 []]:=by kernel_rfl
theorem j4k:a6o E.P 256=some [.own 206 0 []]:=by kernel_rfl
theorem j4j:a6o E.P 278=some [.nilp,.own 94 0 []]:=by kernel_rfl
theorem j4i:a6o E.P 291=some [.str [],.own 9 0 [],.int .i64 0,.str [],.bool false,.int .i64 0,.str [],.int .i64 0,.own 25 0 [],.own 89 0 [],.own 291 0 []]:=by kernel_rfl
theorem j4h:a6o E.P 309=some [.nilp,.own 291 0 []]:=by kernel_rfl
theorem j4g:a6o E.P 312=some [.str [],.own 9 0 [],.int .i64 0,.str [],.bool false,.int .i64 0,.str [],.int .i64 0,.own 38 0 [],.own 168 0 [],.own 312 0 []]:=by kernel_rfl
theorem j4f:a6o E.P 315=some [.own 9 0 [],.nilm]:=by kernel_rfl
theorem ti3:c2k E.P 3=some .i64:=by kernel_rfl
theorem ti5:c2k E.P 5=some .u8:=by kernel_rfl
theorem ti9:c2k E.P 9=none:=by kernel_rfl
theorem ti25:c2k E.P 25=none:=by kernel_rfl
theorem ti38:c2k E.P 38=none:=by kernel_rfl
theorem ti80:c2k E.P 80=none:=by kernel_rfl
theorem ti89:c2k E.P 89=none:=by kernel_rfl
theorem ti91:c2k E.P 91=none:=by kernel_rfl
theorem ti94:c2k E.P 94=none:=by kernel_rfl
theorem j6q:c2k E.P 110=none:=by kernel_rfl
theorem j6p:c2k E.P 168=none:=by kernel_rfl
theorem j6o:c2k E.P 170=none:=by kernel_rfl
theorem j6n:c2k E.P 172=none:=by kernel_rfl
theorem j6m:c2k E.P 176=none:=by kernel_rfl
theorem j6l:c2k E.P 206=none:=by kernel_rfl
theorem j6k:c2k E.P 215=none:=by kernel_rfl
theorem j6j:c2k E.P 291=none:=by kernel_rfl
theorem j6i:c2k E.P 312=none:=by kernel_rfl
theorem tst3:a2z E.P 3=false:=by kernel_rfl
theorem tst5:a2z E.P 5=false:=by kernel_rfl
theorem tst9:a2z E.P 9=true:=by kernel_rfl
theorem j5g:a2z E.P 23=false:=by kernel_rfl
theorem j5f:a2z E.P 36=false:=by kernel_rfl
theorem j5e:a2z E.P 49=false:=by kernel_rfl
theorem j5d:a2z E.P 63=false:=by kernel_rfl
theorem j5c:a2z E.P 64=false:=by kernel_rfl
theorem j5b:a2z E.P 70=false:=by kernel_rfl
theorem j5a:a2z E.P 73=false:=by kernel_rfl
theorem j4z:a2z E.P 78=false:=by kernel_rfl
theorem j4y:a2z E.P 85=false:=by kernel_rfl
theorem j4x:a2z E.P 86=false:=by kernel_rfl
theorem j4w:a2z E.P 87=false:=by kernel_rfl
theorem j4v:a2z E.P 96=false:=by kernel_rfl
theorem i6v:a2z E.P 117=false:=by kernel_rfl
theorem i6u:a2z E.P 164=false:=by kernel_rfl
theorem i6t:a2z E.P 165=false:=by kernel_rfl
theorem i6s:a2z E.P 166=false:=by kernel_rfl
theorem tbo3:c7z E.P 3=false:=by kernel_rfl
theorem tbo4:c7z E.P 4=true:=by kernel_rfl
theorem tbo5:c7z E.P 5=false:=by kernel_rfl
theorem tbo9:c7z E.P 9=false:=by kernel_rfl
theorem j9r:c7z E.P 33=false:=by kernel_rfl
theorem j9q:c7z E.P 67=false:=by kernel_rfl
theorem j0f:c7z E.P 182=false:=by kernel_rfl
theorem tpt3:f0m E.P 3=false:=by kernel_rfl
theorem tpt4:f0m E.P 4=false:=by kernel_rfl
theorem tpt5:f0m E.P 5=false:=by kernel_rfl
theorem tpt9:f0m E.P 9=false:=by kernel_rfl
theorem j6h:f0m E.P 33=false:=by kernel_rfl
theorem j6g:f0m E.P 67=true:=by kernel_rfl
theorem i6w:f0m E.P 182=false:=by kernel_rfl
theorem j7o:a3h E.P 25=true:=by kernel_rfl
theorem j7n:a3h E.P 38=true:=by kernel_rfl
theorem j7m:a3h E.P 75=true:=by kernel_rfl
theorem j7l:a3h E.P 80=true:=by kernel_rfl
theorem j7k:a3h E.P 89=true:=by kernel_rfl
theorem j7j:a3h E.P 91=true:=by kernel_rfl
theorem j7i:a3h E.P 94=true:=by kernel_rfl
theorem i8l:a3h E.P 110=true:=by kernel_rfl
theorem i8k:a3h E.P 168=true:=by kernel_rfl
theorem i8j:a3h E.P 170=true:=by kernel_rfl
theorem i8i:a3h E.P 172=true:=by kernel_rfl
theorem i8h:a3h E.P 176=true:=by kernel_rfl
theorem i8g:a3h E.P 206=true:=by kernel_rfl
theorem i8f:a3h E.P 231=true:=by kernel_rfl
theorem i8e:a3h E.P 253=true:=by kernel_rfl
theorem i8d:a3h E.P 256=true:=by kernel_rfl
theorem i8c:a3h E.P 278=true:=by kernel_rfl
theorem i8b:a3h E.P 291=true:=by kernel_rfl
theorem i8a:a3h E.P 309=true:=by kernel_rfl
theorem i7z:a3h E.P 312=true:=by kernel_rfl
theorem tze3:a9a E.P 3=some 1:=by kernel_rfl
theorem tze5:a9a E.P 5=some 1:=by kernel_rfl
theorem tze9:a9a E.P 9=some 1:=by kernel_rfl
theorem j4e:a9a E.P 25=some 4:=by kernel_rfl
theorem j4d:a9a E.P 38=some 4:=by kernel_rfl
theorem j4c:a9a E.P 49=some 1:=by kernel_rfl
theorem j4b:a9a E.P 80=some 11:=by kernel_rfl
theorem j4a:a9a E.P 89=some 9:=by kernel_rfl
theorem j3z:a9a E.P 91=some 17:=by kernel_rfl
theorem j3y:a9a E.P 94=some 5:=by kernel_rfl
theorem i6r:a9a E.P 110=some 9:=by kernel_rfl
theorem i6q:a9a E.P 168=some 9:=by kernel_rfl
theorem i6p:a9a E.P 170=some 17:=by kernel_rfl
theorem i6o:a9a E.P 172=some 5:=by kernel_rfl
theorem i6n:a9a E.P 176=some 9:=by kernel_rfl
theorem i6m:a9a E.P 206=some 3:=by kernel_rfl
theorem i6l:a9a E.P 291=some 11:=by kernel_rfl
theorem i6k:a9a E.P 312=some 11:=by kernel_rfl
theorem tu3:(E.P.underlying 3).isSome=true:=by kernel_rfl
theorem tu5:(E.P.underlying 5).isSome=true:=by kernel_rfl
theorem j4u:(E.P.underlying 215).isSome=true:=by kernel_rfl
theorem tby3:(E.P.bytesOf 3≤32768)=True:=by rw[show E.P.bytesOf 3=8 from by kernel_rfl];simp
theorem tby9:(E.P.bytesOf 9≤32768)=True:=by rw[show E.P.bytesOf 9=16 from by kernel_rfl];simp
theorem j9p:(E.P.bytesOf 25≤32768)=True:=by rw[show E.P.bytesOf 25=56 from by kernel_rfl];simp
theorem j9o:(E.P.bytesOf 38≤32768)=True:=by rw[show E.P.bytesOf 38=56 from by kernel_rfl];simp
theorem j9n:(E.P.bytesOf 80≤32768)=True:=by rw[show E.P.bytesOf 80=192 from by kernel_rfl];simp
theorem j9m:(E.P.bytesOf 89≤32768)=True:=by rw[show E.P.bytesOf 89=136 from by kernel_rfl];simp
theorem j9l:(E.P.bytesOf 91≤32768)=True:=by rw[show E.P.bytesOf 91=264 from by kernel_rfl];simp
theorem j9k:(E.P.bytesOf 94≤32768)=True:=by rw[show E.P.bytesOf 94=72 from by kernel_rfl];simp
theorem j0e:(E.P.bytesOf 110≤32768)=True:=by rw[show E.P.bytesOf 110=128 from by kernel_rfl];simp
theorem j0d:(E.P.bytesOf 168≤32768)=True:=by rw[show E.P.bytesOf 168=136 from by kernel_rfl];simp
theorem j0c:(E.P.bytesOf 170≤32768)=True:=by rw[show E.P.bytesOf 170=264 from by kernel_rfl];simp
theorem j0b:(E.P.bytesOf 172≤32768)=True:=by rw[show E.P.bytesOf 172=72 from by kernel_rfl];simp
theorem j0a:(E.P.bytesOf 176≤32768)=True:=by rw[show E.P.bytesOf 176=128 from by kernel_rfl];simp
theorem i9z:(E.P.bytesOf 206≤32768)=True:=by rw[show E.P.bytesOf 206=32 from by kernel_rfl];simp
theorem i9y:(E.P.bytesOf 291≤32768)=True:=by rw[show E.P.bytesOf 291=176 from by kernel_rfl];simp
theorem i9x:(E.P.bytesOf 312≤32768)=True:=by rw[show E.P.bytesOf 312=176 from by kernel_rfl];simp
attribute [go_sem] g5w f5m f5l f5k f5j f5i f5h f5g f5f f5e f5d f5c f5b f5a f4z f4y f4x f4w f4v f4u f4t f4s f4r f4q f4p f4o f4n f4m f4l f4k f4j f4i f4h f4g f4f f4e f4d f4c f4b f4a
attribute [go_sem] e7g e7f e7e e7d e7c e7b e7a e6z e6y e6x e6w e6v e6u e6t e6s e6r e6q e6p e6o e6n e6m e6l e6k e6j e6i e6h e6g e6f e6e e6d e6c e6b e6a e5z e5y e5x e5w e5v e5u e5t
attribute [go_sem] e5s e5r e5q e5p e5o e5n e5m e5l e5k e5j e5i g7i g7s f7n f7m f7l g7r f7k f7j f7i g7q f7h g7p g7o g7n g7l f7g g7m g7k f7f g7j f7e f7d f7c f7b g7h f7a f6z f6y f6x
attribute [go_sem] f6w g7g g7f g7e g7d f6v g7c g7b f8m f8l f8k e8w e8v f8j f8i f8h f8g e8u e8t e8s f8f f8e e8r e8q e8p f8d e8o e8n f8c f8b f8a f7z e8m e8l e8k f7y e8j e8i f7x e8h
attribute [go_sem] f7w f7v e8g f7u e8f f7t f7s f7q e8e f7p f7o j9t j2b j2a j1z j1y j1x
attribute [go_sem] j1w j1v j1u j1t j1s j1r j1q j1p
attribute [go_sem] j1o j1n j1m j1l j1k j1j j1i j1h
attribute [go_sem] j1g j1f j1e j1d j1c j1b j1a j0z
attribute [go_sem] j0y j0x j0w j0v j0u j0t j0s j0r
attribute [go_sem] j0q j0p j0o i0k i0j i0i i0h i0g
attribute [go_sem] i0f i0e i0d i0c i0b i0a h9z h9y
attribute [go_sem] h9x h9w h9v h9u h9t h9s h9r h9q
attribute [go_sem] h9p h9o h9n h9m h9l h9k h9j h9i
attribute [go_sem] h9h h9g h9f h9e h9d h9c h9b h9a
attribute [go_sem] h8z h8y h8x h8w h8v h8u h8t h8s
attribute [go_sem] h8r h8q h8p h8o h8n h8m h8l h8k
attribute [go_sem] h8j h8i h8h h8g h8f h8e h8d h8c
attribute [go_sem] h8b h8a h7z h7y h7x h7w h7v h7u
attribute [go_sem] h7t h7s h7r h7q h7p h7o h7n h7m
attribute [go_sem] h7l h7k h7j h7i h7h h7g h7f h7e
attribute [go_sem] h7d h7c h7b h7a h6z h6y h6x h6w
attribute [go_sem] h6v h6u h6t h6s h6r h6q h6p h6o
attribute [go_sem] h6n f7r ts3 ts4 ts5 ts9 ts23 ts25 ts36 ts38 ts49 ts67 ts73 ts75 ts78 ts80 ts85 ts86 ts87 ts89 ts91 ts94 j6f j6e j6d j6c j6b j6a j5z j5y j5x j5w j5v j5u j5t
attribute [go_sem] j5s j5r j5q j5p j5o j5n j5m j5l j5k j5j j5i j5h i3f j2l i3e j2k tsM g5o f3n f3m f3l i7y i7x i7w i7v i7u tzv3 tzv4 tzv9 j3x j3w tg3 tg4 tg9 tg23 tg25 tg36 tg38 tg49 tg67
attribute [go_sem] tg73 tg75 tg78 tg80 tg85 tg86 tg87 tg89 tg91 tg94 j7h j7g j7f j7e j7d j7c j7b j7a j6z j6y j6x j6w j6v j6u j6t j6s j6r te1 te3 te4 te5 te9 te23 te25 te33 te36 te38 te49 te63 te64
attribute [go_sem] te65 te67 te68 te70 te71 te73 te75 te76 te78 te80 te82 te83 te85 te86 te87 te89 te91 te94 te96 te99 j9j j9i j9h j9g j9f j9e j9d j9c j9b j9a j8z j8y j8x j8w j8v j8u j8t j8s j8r j8q
attribute [go_sem] j8p j8o j8n j8m j8l j8k j8j j8i j8h j8g j8f j8e j8d j8c j8b j8a j7z j7y j7x j7w j7v j7u j7t j7s j7r j7q j7p i9w i9v i9u i9t i9s i9r i9q i9p i9o i9n i9m i9l i9k
attribute [go_sem] i9j i9i i9h i9g i9f i9e i9d i9c i9b i9a i8z i8y i8x i8w i8v i8u i8t i8s i8r i8q i8p i8o i8n i8m h6c h6b h6a h5z h5y h5x h5w h5v h5u h5t h5s h5r h5q h5p h5o h5n
attribute [go_sem] h5m h5l h5k h5j h5i h5h h5g h5f h5e h5d h5c h5b h5a h4z h4y h4x h4w h4v h4u h4t h4s h4q h4p h4o h4n h4m h4l i7t i7s i7r i7q i7p i7o i7n i7m i7l i7k i7j i7i i7h
attribute [go_sem] i7g i7f i7e i7d i7c i7b i7a i6z i6y i6x h4i h4h h4g h4f h4e h4d h4b h4a h3z h3y h3x h3w h3v h3u h3t h3s h3r h3q h3p h3o h3n h3m tz3 tz4 tz9 tz25 tz38 tz49 tz75 tz80
attribute [go_sem] tz89 tz91 tz94 j4t j4s j4r j4q j4p j4o j4n j4m j4l j4k j4j j4i j4h j4g j4f ti3 ti5 ti9 ti25 ti38 ti80 ti89 ti91 ti94 j6q j6p j6o j6n j6m j6l j6k j6j j6i tst3 tst5 tst9 j5g
attribute [go_sem] j5f j5e j5d j5c j5b j5a j4z j4y j4x j4w j4v i6v i6u i6t i6s tbo3 tbo4 tbo5 tbo9 j9r j9q j0f tpt3 tpt4 tpt5 tpt9 j6h j6g i6w j7o j7n j7m j7l j7k j7j j7i i8l i8k i8j i8i
attribute [go_sem] i8h i8g i8f i8e i8d i8c i8b i8a i7z tze3 tze5 tze9 j4e j4d j4c j4b j4a j3z j3y i6r i6q i6p i6o i6n i6m i6l i6k tu3 tu5 j4u tby3 tby9 j9p j9o j9n j9m j9l j9k j0e j0d
attribute [go_sem] j0c j0b j0a i9z i9y i9x
end Go.Proofs
