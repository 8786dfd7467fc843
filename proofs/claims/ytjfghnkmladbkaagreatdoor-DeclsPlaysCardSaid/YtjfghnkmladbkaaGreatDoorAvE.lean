/- The program as the abstract machine sees it: what is alive at each loop, which operations may be drawn, sizes of types. -/
import Derived.Test.YtjfghnkmladbkaaGreatDoorAvD
import Derived.Test.YtjfghnkmladbkaaGreatDoorProg
import Derived.KernelRfl
namespace Go.Proofs
open Go.Av
def k5n:List (Nat×(List Nat×List Nat)):=[(5000,([3,7,10,13],[29])),
 (25000,([2,15,16,17],[14])),
 (25002,([2,6,15,16,17,34,35,36],[6,14])),
 (26000,([0,5,6],[])),
 (26002,([0,5,6,8],[])),
 (28000,([1,3,4],[1])),
 (28002,([1,3,5],[1])),
 (28004,([1,3,6],[1])),
 (28006,([1,3,7],[1])),
 (29000,([1,3,4],[1])),
 (29002,([1,3,5],[1])),
 (29004,([1,3,6],[1])),
 (29006,([1,3,7],[1])),
 (36000,([0,1,5],[])),
 (45000,([1,2,3,5],[1,3])),
 (48000,([0,5,6],[])),
 (48002,([0,5,6],[])),
 (51000,([0,1,5],[])),
 (58001,([3,22,23,24],[])),
 (58003,([6,7],[7])),
 (64001,([1,3,4],[1])),
 (64003,([6,7],[7])),
 (78000,([7,8],[22])),
 (78002,([8,50,51,52],[])),
 (79000,([4,7,8,9],[])),
 (79002,([7,12],[])),
 (80000,([0,4,15,16,17],[4])),
 (80002,([4,39,40,41],[4])),
 (82000,([2,4,6,7,8,9],[2,4,7,8])),
 (82002,([4,6,7,8,9,10,11,69,70,71],[4,7,8])),
 (82004,([4,6,7,8,9,10,11,111,112,113],[4,7,8])),
 (82006,([4,6,7,8,9,10,141,142,143],[4,7,8])),
 (82008,([4,6,8,10,173,174,175],[4,8])),
 (83000,([2,4,6,7,8,9],[2,4,7,8])),
 (83002,([4,6,7,8,9,10,11,12],[4,7,8,62])),
 (83004,([4,6,7,8,9,10,11,15],[4,7,8,62])),
 (83006,([4,6,7,8,9,10,11,16],[4,7,8,62])),
 (83008,([4,6,8,9,10,18],[4,8,62])),
 (88000,([3,7,8,9],[])),
 (90000,([1,2,21,22,23],[])),
 (94000,([0,1,4,7],[4])),
 (94002,([0,1,4,9,10,11],[4,9])),
 (95000,([1,3,4],[1])),
 (97000,([0,3,5],[3])),
 (98000,([0,1,5],[])),
 (101000,([1,2,4,5,18,19,20],[2,4,16])),
 (103000,([1,2,3,6,7,8],[3,7])),
 (103002,([1,2,3,6,7,8,9],[3,7])),
 (110000,([0,3,4],[])),
 (113000,([0,1,7],[])),
 (113002,([0,1,11,12],[])),
 (118000,([2,3,9,10],[3])),
 (119000,([0,1,7,8],[])),
 (128000,([1,2,3,5,9,10,11,12],[5,9,10,11])),
 (136000,([1,6,7,8],[1])),
 (137000,([0,4,7,9,11],[4,7])),
 (139000,([1,3],[1])),
 (140001,([0,15,108,109,110],[])),
 (142000,([0,3,15,16,17],[3])),
 (146000,([1,2,3,6,11,12,13],[3,6])),
 (146002,([2,3,6,25,26,27],[3,6])),
 (147000,([1,2,3,7,8,9],[3,7])),
 (147002,([1,2,3,7,8,9,10],[3,7])),
 (148000,([1,3],[1])),
 (149000,([0,1,5],[])),
 (150000,([1,2,3,6,7],[3,6])),
 (151000,([3,4,5,6,8],[3,4,5,6])),
 (152000,([4,5,6,10,12,13],[5,6,10,12])),
 (152002,([2,3,4,5,6,10,12,14,15],[5,6,10,12,14])),
 (152004,([2,3,4,5,10,12,14,16],[5,10,12,14])),
 (157000,([0,4,7,8],[4,7])),
 (164000,([0,1,5],[])),
 (175000,([0,1,5],[])),
 (188000,([0,3],[])),
 (189000,([0,1],[])),
 (192001,([0,2,6],[2,6])),
 (194000,([3,7,8,9],[])),
 (195000,([3,17,18,19],[])),
 (197000,([0,1,6,7],[])),
 (200000,([0,4,19,20,22],[4,20])),
 (200002,([0,4,26,27],[4,26])),
 (201000,([3,4],[])),
 (202000,([3,4,5],[])),
 (203000,([0,1,8,9,10],[])),
 (204000,([0,1,7,8],[])),
 (207001,([1,2,3,4,55,56,57],[4])),
 (207003,([1,2,3,68,69,70],[])),
 (212000,([0,1,7,8],[])),
 (216000,([0,2,4],[2])),
 (216002,([2,4,9,10,11],[2,9])),
 (217000,([0,2,6],[2,6])),
 (233000,([3,16,17,18],[])),
 (235000,([1,3,4],[1])),
 (238000,([1,6,7,8],[])),
 (239000,([0,9,10,11],[])),
 (248000,([0,3,4],[]))]
def drwT:List (Nat×List (Nat×Nat)):=[(25008,[]),
 (25014,[]),
 (25017,[]),
 (25019,[]),
 (26008,[]),
 (26014,[]),
 (26015,[]),
 (26017,[]),
 (28001,[(1,10),(1,15),(4,10),(4,15),(14,10)]),
 (28014,[(3,16),(3,25),(7,16),(7,25),(20,16),(24,16)]),
 (29001,[(1,9),(1,14),(4,9),(4,14),(13,9)]),
 (29014,[(3,16),(3,25),(7,16),(7,25),(20,16),(24,16)]),
 (40005,[(7,5)]),
 (40006,[(1,3),(1,8),(1,14),(5,3),(7,3),(10,3),(10,8),(11,3),(11,8)]),
 (40007,[]),
 (45009,[]),
 (45010,[]),
 (45006,[(0,4)]),
 (58009,[(1,3)]),
 (58013,[(13,10),(15,10)]),
 (62001,[(5,3)]),
 (64018,[(8,4),(10,4)]),
 (64019,[(7,4),(9,4)]),
 (82014,[(1,3)]),
 (82017,[]),
 (82031,[(1,5),(1,20),(8,5),(8,20),(11,5),(11,20),(14,5),(17,5)]),
 (82036,[(1,5)]),
 (83001,[(1,4)]),
 (83017,[(1,3)]),
 (83029,[]),
 (83034,[]),
 (83035,[]),
 (83040,[(1,8)]),
 (84003,[]),
 (85001,[(0,2)]),
 (86001,[(0,3)]),
 (87005,[(4,5)]),
 (89001,[]),
 (94013,[]),
 (97001,[(13,11)]),
 (98003,[]),
 (100007,[(0,5),(0,9),(6,5),(7,5)]),
 (100008,[]),
 (103009,[]),
 (103010,[]),
 (113031,[]),
 (118005,[(4,2)]),
 (118009,[(4,2)]),
 (127001,[(5,3),(5,4)]),
 (128007,[(1,11)]),
 (137018,[(0,3)]),
 (137023,[(3,2)]),
 (137025,[(3,2)]),
 (140005,[]),
 (140009,[]),
 (140014,[]),
 (142011,[(5,1)]),
 (142014,[(5,1)]),
 (143001,[(0,2)]),
 (147011,[]),
 (147012,[]),
 (150004,[]),
 (151007,[]),
 (151009,[(1,2)]),
 (152006,[]),
 (152018,[(5,3)]),
 (152019,[(5,3)]),
 (152023,[]),
 (190003,[]),
 (192014,[]),
 (192017,[(0,2)]),
 (200005,[(4,3)]),
 (200035,[(0,3)]),
 (207004,[(1,8),(3,8)]),
 (207007,[(1,8),(3,8)]),
 (207017,[(1,5)]),
 (213001,[(0,3),(1,3)]),
 (216012,[]),
 (230007,[(0,2)]),
 (231000,[(8,4)]),
 (232008,[(2,1)]),
 (234016,[(0,3)]),
 (244004,[(1,7),(1,12),(2,7),(9,7)]),
 (244005,[])]
def k5p:List Nat:=[32]
def i7i:List (Nat×(List AVal→a2z→Option (AVal×a2z))):=[(61,e1j),(120,d8u),(229,e2g),(170,a9k),(155,c4a),(99,b3z),(81,c7z)]
def frzT:List (Nat×List (Nat×List (Nat×Nat))):=[(82,[(28,[(10,244)])]),(83,[(30,[(10,49)])]),(90,[(5,[(1,182)])]),(101,[(9,[(5,23)])]),(239,[(7,[(0,182)])])]
def mkmT:List (Nat×Nat):=[(182,10),(244,67)]
def k5o:List (Nat×List (Nat×Nat)):=[(140,[(11,6)])]
def clnT:List (Nat×Nat):=[]
def rvsT:List (Nat×Nat):=[]
def k5s:List (Nat×(Nat×Nat)):=[]
def nbxT:List Nat:=[25,81]
def xopT:List (Nat×List (Nat×Nat)):=[(5,[(5,1)]),(25,[(1,1)]),(77,[(4,1)])]
noncomputable def E:Env:={P:=Tryz.prog,cln:=fun f=>a0j clnT f,rvs:=fun f=>a0j rvsT f,xop:=fun f=>(a0j xopT f).getD [],gift:=fun f=>a0j k5s f,nbx:=fun f=>nbxT.contains f,mkm:=fun T _ d=>mkmT.contains (T,d.getD 0),lend:=fun f=>(a0j k5o f).getD [],frz:=fun f=>(a0j frzT f).getD [],live:=fun f id=>a0j k5n (f*1000+id),drw:=fun f id=>a0j drwT (f*1000+id),keep:=fun f=>k5p.contains f,prim:=fun f=>a0j i7i f}
theorem h0l(f:FuncId):E.keep f=List.contains ([32]:List Nat) f:=rfl
theorem i8p(f:FuncId):E.frz f=(a0j ([(82,[(28,[(10,244)])]),(83,[(30,[(10,49)])]),(90,[(5,[(1,182)])]),(101,[(9,[(5,23)])]),(239,[(7,[(0,182)])])]:List (Nat×List (Nat×List (Nat×Nat)))) f).getD []:=rfl
theorem h8f(f:FuncId):E.xop f=(a0j ([(5,[(5,1)]),(25,[(1,1)]),(77,[(4,1)])]:List (Nat×List (Nat×Nat))) f).getD []:=rfl
theorem h0f(f:FuncId):E.lend f=(a0j ([(140,[(11,6)])]:List (Nat×List (Nat×Nat))) f).getD []:=rfl
attribute [go_sem] h0l i8p h8f h0f
theorem h0e:E.live 5 0=some ([3,7,10,13],[29]):=by kernel_rfl
theorem f9p:E.live 25 0=some ([2,15,16,17],[14]):=by kernel_rfl
theorem f9o:E.live 25 2=some ([2,6,15,16,17,34,35,36],[6,14]):=by kernel_rfl
theorem f9n:E.live 26 0=some ([0,5,6],[]):=by kernel_rfl
theorem f9m:E.live 26 2=some ([0,5,6,8],[]):=by kernel_rfl
theorem f9l:E.live 28 0=some ([1,3,4],[1]):=by kernel_rfl
theorem f9k:E.live 28 2=some ([1,3,5],[1]):=by kernel_rfl
theorem f9j:E.live 28 4=some ([1,3,6],[1]):=by kernel_rfl
theorem f9i:E.live 28 6=some ([1,3,7],[1]):=by kernel_rfl
theorem f9h:E.live 29 0=some ([1,3,4],[1]):=by kernel_rfl
theorem f9g:E.live 29 2=some ([1,3,5],[1]):=by kernel_rfl
theorem f9f:E.live 29 4=some ([1,3,6],[1]):=by kernel_rfl
theorem f9e:E.live 29 6=some ([1,3,7],[1]):=by kernel_rfl
theorem f9d:E.live 36 0=some ([0,1,5],[]):=by kernel_rfl
theorem f9c:E.live 45 0=some ([1,2,3,5],[1,3]):=by kernel_rfl
theorem f9b:E.live 48 0=some ([0,5,6],[]):=by kernel_rfl
theorem f9a:E.live 48 2=some ([0,5,6],[]):=by kernel_rfl
theorem f8z:E.live 51 0=some ([0,1,5],[]):=by kernel_rfl
theorem f8y:E.live 58 1=some ([3,22,23,24],[]):=by kernel_rfl
theorem f8x:E.live 58 3=some ([6,7],[7]):=by kernel_rfl
theorem f8w:E.live 64 1=some ([1,3,4],[1]):=by kernel_rfl
theorem f8v:E.live 64 3=some ([6,7],[7]):=by kernel_rfl
theorem f8u:E.live 78 0=some ([7,8],[22]):=by kernel_rfl
theorem f8t:E.live 78 2=some ([8,50,51,52],[]):=by kernel_rfl
theorem f8s:E.live 79 0=some ([4,7,8,9],[]):=by kernel_rfl
theorem f8r:E.live 79 2=some ([7,12],[]):=by kernel_rfl
theorem f8q:E.live 80 0=some ([0,4,15,16,17],[4]):=by kernel_rfl
theorem f8p:E.live 80 2=some ([4,39,40,41],[4]):=by kernel_rfl
theorem f8o:E.live 82 0=some ([2,4,6,7,8,9],[2,4,7,8]):=by kernel_rfl
theorem f8n:E.live 82 2=some ([4,6,7,8,9,10,11,69,70,71],[4,7,8]):=by kernel_rfl
theorem f8m:E.live 82 4=some ([4,6,7,8,9,10,11,111,112,113],[4,7,8]):=by kernel_rfl
theorem f8l:E.live 82 6=some ([4,6,7,8,9,10,141,142,143],[4,7,8]):=by kernel_rfl
theorem f8k:E.live 82 8=some ([4,6,8,10,173,174,175],[4,8]):=by kernel_rfl
theorem f8j:E.live 83 0=some ([2,4,6,7,8,9],[2,4,7,8]):=by kernel_rfl
theorem f8i:E.live 83 2=some ([4,6,7,8,9,10,11,12],[4,7,8,62]):=by kernel_rfl
theorem f8h:E.live 83 4=some ([4,6,7,8,9,10,11,15],[4,7,8,62]):=by kernel_rfl
theorem f8g:E.live 83 6=some ([4,6,7,8,9,10,11,16],[4,7,8,62]):=by kernel_rfl
theorem f8f:E.live 83 8=some ([4,6,8,9,10,18],[4,8,62]):=by kernel_rfl
theorem f8e:E.live 88 0=some ([3,7,8,9],[]):=by kernel_rfl
theorem f8d:E.live 90 0=some ([1,2,21,22,23],[]):=by kernel_rfl
theorem f8c:E.live 94 0=some ([0,1,4,7],[4]):=by kernel_rfl
theorem f8b:E.live 94 2=some ([0,1,4,9,10,11],[4,9]):=by kernel_rfl
theorem f8a:E.live 95 0=some ([1,3,4],[1]):=by kernel_rfl
theorem f7z:E.live 97 0=some ([0,3,5],[3]):=by kernel_rfl
theorem f7y:E.live 98 0=some ([0,1,5],[]):=by kernel_rfl
theorem f0o:E.live 101 0=some ([1,2,4,5,18,19,20],[2,4,16]):=by kernel_rfl
theorem f0n:E.live 103 0=some ([1,2,3,6,7,8],[3,7]):=by kernel_rfl
theorem f0m:E.live 103 2=some ([1,2,3,6,7,8,9],[3,7]):=by kernel_rfl
theorem f0l:E.live 110 0=some ([0,3,4],[]):=by kernel_rfl
theorem f0k:E.live 113 0=some ([0,1,7],[]):=by kernel_rfl
theorem f0j:E.live 113 2=some ([0,1,11,12],[]):=by kernel_rfl
theorem f0i:E.live 118 0=some ([2,3,9,10],[3]):=by kernel_rfl
theorem f0h:E.live 119 0=some ([0,1,7,8],[]):=by kernel_rfl
theorem f0g:E.live 128 0=some ([1,2,3,5,9,10,11,12],[5,9,10,11]):=by kernel_rfl
theorem f0f:E.live 136 0=some ([1,6,7,8],[1]):=by kernel_rfl
theorem f0e:E.live 137 0=some ([0,4,7,9,11],[4,7]):=by kernel_rfl
theorem f0d:E.live 139 0=some ([1,3],[1]):=by kernel_rfl
theorem f0c:E.live 140 1=some ([0,15,108,109,110],[]):=by kernel_rfl
theorem f0b:E.live 142 0=some ([0,3,15,16,17],[3]):=by kernel_rfl
theorem f0a:E.live 146 0=some ([1,2,3,6,11,12,13],[3,6]):=by kernel_rfl
theorem e9z:E.live 146 2=some ([2,3,6,25,26,27],[3,6]):=by kernel_rfl
theorem e9y:E.live 147 0=some ([1,2,3,7,8,9],[3,7]):=by kernel_rfl
theorem e9x:E.live 147 2=some ([1,2,3,7,8,9,10],[3,7]):=by kernel_rfl
theorem e9w:E.live 148 0=some ([1,3],[1]):=by kernel_rfl
theorem e9v:E.live 149 0=some ([0,1,5],[]):=by kernel_rfl
theorem e9u:E.live 150 0=some ([1,2,3,6,7],[3,6]):=by kernel_rfl
theorem e9t:E.live 151 0=some ([3,4,5,6,8],[3,4,5,6]):=by kernel_rfl
theorem e9s:E.live 152 0=some ([4,5,6,10,12,13],[5,6,10,12]):=by kernel_rfl
theorem e9r:E.live 152 2=some ([2,3,4,5,6,10,12,14,15],[5,6,10,12,14]):=by kernel_rfl
theorem e9q:E.live 152 4=some ([2,3,4,5,10,12,14,16],[5,10,12,14]):=by kernel_rfl
theorem e9p:E.live 157 0=some ([0,4,7,8],[4,7]):=by kernel_rfl
theorem e9o:E.live 164 0=some ([0,1,5],[]):=by kernel_rfl
theorem e9n:E.live 175 0=some ([0,1,5],[]):=by kernel_rfl
theorem e9m:E.live 188 0=some ([0,3],[]):=by kernel_rfl
theorem e9l:E.live 189 0=some ([0,1],[]):=by kernel_rfl
theorem e9k:E.live 192 1=some ([0,2,6],[2,6]):=by kernel_rfl
theorem e9j:E.live 194 0=some ([3,7,8,9],[]):=by kernel_rfl
theorem e9i:E.live 195 0=some ([3,17,18,19],[]):=by kernel_rfl
theorem e9h:E.live 197 0=some ([0,1,6,7],[]):=by kernel_rfl
theorem e9g:E.live 200 0=some ([0,4,19,20,22],[4,20]):=by kernel_rfl
theorem e9f:E.live 200 2=some ([0,4,26,27],[4,26]):=by kernel_rfl
theorem e9e:E.live 201 0=some ([3,4],[]):=by kernel_rfl
theorem e9d:E.live 202 0=some ([3,4,5],[]):=by kernel_rfl
theorem e9c:E.live 203 0=some ([0,1,8,9,10],[]):=by kernel_rfl
theorem e9b:E.live 204 0=some ([0,1,7,8],[]):=by kernel_rfl
theorem e9a:E.live 207 1=some ([1,2,3,4,55,56,57],[4]):=by kernel_rfl
theorem e8z:E.live 207 3=some ([1,2,3,68,69,70],[]):=by kernel_rfl
theorem e8y:E.live 212 0=some ([0,1,7,8],[]):=by kernel_rfl
theorem e8x:E.live 216 0=some ([0,2,4],[2]):=by kernel_rfl
theorem e8w:E.live 216 2=some ([2,4,9,10,11],[2,9]):=by kernel_rfl
theorem e8v:E.live 217 0=some ([0,2,6],[2,6]):=by kernel_rfl
theorem e8u:E.live 233 0=some ([3,16,17,18],[]):=by kernel_rfl
theorem e8t:E.live 235 0=some ([1,3,4],[1]):=by kernel_rfl
theorem e8s:E.live 238 0=some ([1,6,7,8],[]):=by kernel_rfl
theorem e8r:E.live 239 0=some ([0,9,10,11],[]):=by kernel_rfl
theorem e8q:E.live 248 0=some ([0,3,4],[]):=by kernel_rfl
theorem h2d:E.drw 25 8=some []:=by kernel_rfl
theorem g1x:E.drw 25 14=some []:=by kernel_rfl
theorem g1w:E.drw 25 17=some []:=by kernel_rfl
theorem g1v:E.drw 25 19=some []:=by kernel_rfl
theorem h2c:E.drw 26 8=some []:=by kernel_rfl
theorem g1u:E.drw 26 14=some []:=by kernel_rfl
theorem g1t:E.drw 26 15=some []:=by kernel_rfl
theorem g1s:E.drw 26 17=some []:=by kernel_rfl
theorem h2b:E.drw 28 1=some [(1,10),(1,15),(4,10),(4,15),(14,10)]:=by kernel_rfl
theorem g1r:E.drw 28 14=some [(3,16),(3,25),(7,16),(7,25),(20,16),(24,16)]:=by kernel_rfl
theorem h2a:E.drw 29 1=some [(1,9),(1,14),(4,9),(4,14),(13,9)]:=by kernel_rfl
theorem g1q:E.drw 29 14=some [(3,16),(3,25),(7,16),(7,25),(20,16),(24,16)]:=by kernel_rfl
theorem h1z:E.drw 40 5=some [(7,5)]:=by kernel_rfl
theorem h1y:E.drw 40 6=some [(1,3),(1,8),(1,14),(5,3),(7,3),(10,3),(10,8),(11,3),(11,8)]:=by kernel_rfl
theorem h1x:E.drw 40 7=some []:=by kernel_rfl
theorem h1v:E.drw 45 9=some []:=by kernel_rfl
theorem g1p:E.drw 45 10=some []:=by kernel_rfl
theorem h1w:E.drw 45 6=some [(0,4)]:=by kernel_rfl
theorem h1u:E.drw 58 9=some [(1,3)]:=by kernel_rfl
theorem g1o:E.drw 58 13=some [(13,10),(15,10)]:=by kernel_rfl
theorem h1t:E.drw 62 1=some [(5,3)]:=by kernel_rfl
theorem g1n:E.drw 64 18=some [(8,4),(10,4)]:=by kernel_rfl
theorem g1m:E.drw 64 19=some [(7,4),(9,4)]:=by kernel_rfl
theorem g1l:E.drw 82 14=some [(1,3)]:=by kernel_rfl
theorem g1k:E.drw 82 17=some []:=by kernel_rfl
theorem g1j:E.drw 82 31=some [(1,5),(1,20),(8,5),(8,20),(11,5),(11,20),(14,5),(17,5)]:=by kernel_rfl
theorem g1i:E.drw 82 36=some [(1,5)]:=by kernel_rfl
theorem h1s:E.drw 83 1=some [(1,4)]:=by kernel_rfl
theorem g1h:E.drw 83 17=some [(1,3)]:=by kernel_rfl
theorem g1g:E.drw 83 29=some []:=by kernel_rfl
theorem g1f:E.drw 83 34=some []:=by kernel_rfl
theorem g1e:E.drw 83 35=some []:=by kernel_rfl
theorem g1d:E.drw 83 40=some [(1,8)]:=by kernel_rfl
theorem h1r:E.drw 84 3=some []:=by kernel_rfl
theorem h1q:E.drw 85 1=some [(0,2)]:=by kernel_rfl
theorem h1p:E.drw 86 1=some [(0,3)]:=by kernel_rfl
theorem h1o:E.drw 87 5=some [(4,5)]:=by kernel_rfl
theorem h1n:E.drw 89 1=some []:=by kernel_rfl
theorem g1c:E.drw 94 13=some []:=by kernel_rfl
theorem h1m:E.drw 97 1=some [(13,11)]:=by kernel_rfl
theorem h1l:E.drw 98 3=some []:=by kernel_rfl
theorem g2w:E.drw 100 7=some [(0,5),(0,9),(6,5),(7,5)]:=by kernel_rfl
theorem g2v:E.drw 100 8=some []:=by kernel_rfl
theorem g2u:E.drw 103 9=some []:=by kernel_rfl
theorem f2c:E.drw 103 10=some []:=by kernel_rfl
theorem f2b:E.drw 113 31=some []:=by kernel_rfl
theorem g2t:E.drw 118 5=some [(4,2)]:=by kernel_rfl
theorem g2s:E.drw 118 9=some [(4,2)]:=by kernel_rfl
theorem g2r:E.drw 127 1=some [(5,3),(5,4)]:=by kernel_rfl
theorem g2q:E.drw 128 7=some [(1,11)]:=by kernel_rfl
theorem f2a:E.drw 137 18=some [(0,3)]:=by kernel_rfl
theorem f1z:E.drw 137 23=some [(3,2)]:=by kernel_rfl
theorem f1y:E.drw 137 25=some [(3,2)]:=by kernel_rfl
theorem g2p:E.drw 140 5=some []:=by kernel_rfl
theorem g2o:E.drw 140 9=some []:=by kernel_rfl
theorem f1x:E.drw 140 14=some []:=by kernel_rfl
theorem f1w:E.drw 142 11=some [(5,1)]:=by kernel_rfl
theorem f1v:E.drw 142 14=some [(5,1)]:=by kernel_rfl
theorem g2n:E.drw 143 1=some [(0,2)]:=by kernel_rfl
theorem f1u:E.drw 147 11=some []:=by kernel_rfl
theorem f1t:E.drw 147 12=some []:=by kernel_rfl
theorem g2m:E.drw 150 4=some []:=by kernel_rfl
theorem g2l:E.drw 151 7=some []:=by kernel_rfl
theorem g2k:E.drw 151 9=some [(1,2)]:=by kernel_rfl
theorem g2j:E.drw 152 6=some []:=by kernel_rfl
theorem f1s:E.drw 152 18=some [(5,3)]:=by kernel_rfl
theorem f1r:E.drw 152 19=some [(5,3)]:=by kernel_rfl
theorem f1q:E.drw 152 23=some []:=by kernel_rfl
theorem g2i:E.drw 190 3=some []:=by kernel_rfl
theorem f1p:E.drw 192 14=some []:=by kernel_rfl
theorem f1o:E.drw 192 17=some [(0,2)]:=by kernel_rfl
theorem g2h:E.drw 200 5=some [(4,3)]:=by kernel_rfl
theorem f1n:E.drw 200 35=some [(0,3)]:=by kernel_rfl
theorem g2g:E.drw 207 4=some [(1,8),(3,8)]:=by kernel_rfl
theorem g2f:E.drw 207 7=some [(1,8),(3,8)]:=by kernel_rfl
theorem f1m:E.drw 207 17=some [(1,5)]:=by kernel_rfl
theorem g2e:E.drw 213 1=some [(0,3),(1,3)]:=by kernel_rfl
theorem f1l:E.drw 216 12=some []:=by kernel_rfl
theorem g2d:E.drw 230 7=some [(0,2)]:=by kernel_rfl
theorem g2c:E.drw 231 0=some [(8,4)]:=by kernel_rfl
theorem g2a:E.drw 232 8=some [(2,1)]:=by kernel_rfl
theorem f1k:E.drw 234 16=some [(0,3)]:=by kernel_rfl
theorem g1z:E.drw 244 4=some [(1,7),(1,12),(2,7),(9,7)]:=by kernel_rfl
theorem g1y:E.drw 244 5=some []:=by kernel_rfl
theorem j8m:a0k E 5=Tryz.f5.body:=by kernel_rfl
theorem j7m:E.prim 5=none:=by kernel_rfl
theorem k5j:a0u E 5=some [.tmp 2]:=by kernel_rfl
theorem j0y:a0k E 23=Tryz.f23.body:=by kernel_rfl
theorem i7h:E.prim 23=none:=by kernel_rfl
theorem j7k:a0u E 23=some [.tmp 0]:=by kernel_rfl
theorem j0x:a0k E 24=Tryz.f24.body:=by kernel_rfl
theorem i7g:E.prim 24=none:=by kernel_rfl
theorem j7j:a0u E 24=some [.tmp 2,.tmp 3,.tmp 4]:=by kernel_rfl
theorem j0w:a0k E 25=Tryz.f25.body:=by kernel_rfl
theorem i7f:E.prim 25=none:=by kernel_rfl
theorem j7i:a0u E 25=some [.tmp 2,.tmp 3,.tmp 4]:=by kernel_rfl
theorem j0v:a0k E 26=Tryz.f26.body:=by kernel_rfl
theorem i7e:E.prim 26=none:=by kernel_rfl
theorem j7h:a0u E 26=some [.tmp 2,.tmp 3,.tmp 4]:=by kernel_rfl
theorem j0u:a0k E 27=Tryz.f27.body:=by kernel_rfl
theorem i7d:E.prim 27=none:=by kernel_rfl
theorem j7g:a0u E 27=some [.cell 4 75,.tmp 5]:=by kernel_rfl
theorem j0t:a0k E 28=Tryz.f28.body:=by kernel_rfl
theorem i7c:E.prim 28=none:=by kernel_rfl
theorem j7f:a0u E 28=some [.tmp 2]:=by kernel_rfl
theorem j0s:a0k E 29=Tryz.f29.body:=by kernel_rfl
theorem i7b:E.prim 29=none:=by kernel_rfl
theorem j7e:a0u E 29=some [.tmp 2]:=by kernel_rfl
theorem j0r:a0k E 31=Tryz.f31.body:=by kernel_rfl
theorem i7a:E.prim 31=none:=by kernel_rfl
theorem j7d:a0u E 31=some [.tmp 4]:=by kernel_rfl
theorem j0q:a0k E 32=Tryz.f32.body:=by kernel_rfl
theorem i6z:E.prim 32=none:=by kernel_rfl
theorem j7c:a0u E 32=some [.tmp 2]:=by kernel_rfl
theorem j0p:a0k E 36=Tryz.f36.body:=by kernel_rfl
theorem i6y:E.prim 36=none:=by kernel_rfl
theorem j7b:a0u E 36=some [.tmp 4]:=by kernel_rfl
theorem j0o:a0k E 39=Tryz.f39.body:=by kernel_rfl
theorem i6x:E.prim 39=none:=by kernel_rfl
theorem j7a:a0u E 39=some [.tmp 4]:=by kernel_rfl
theorem d5y:a0k E 40=Tryz.f40.body:=by kernel_rfl
theorem d4a:E.prim 40=none:=by kernel_rfl
theorem j6z:a0u E 40=some [.cell 6 25]:=by kernel_rfl
theorem g3y:a0k E 45=Tryz.f45.body:=by kernel_rfl
theorem f5v:E.prim 45=none:=by kernel_rfl
theorem j6y:a0u E 45=some [.tmp 2,.cell 3 3,.tmp 4]:=by kernel_rfl
theorem g3x:a0k E 48=Tryz.f48.body:=by kernel_rfl
theorem f5u:E.prim 48=none:=by kernel_rfl
theorem j6x:a0u E 48=some [.tmp 2,.tmp 3,.tmp 4]:=by kernel_rfl
theorem j0n:a0k E 51=Tryz.f51.body:=by kernel_rfl
theorem i6w:E.prim 51=none:=by kernel_rfl
theorem j6w:a0u E 51=some [.tmp 4]:=by kernel_rfl
theorem j0m:a0k E 52=Tryz.f52.body:=by kernel_rfl
theorem i6v:E.prim 52=none:=by kernel_rfl
theorem j6v:a0u E 52=some [.tmp 2]:=by kernel_rfl
theorem j0l:a0k E 57=Tryz.f57.body:=by kernel_rfl
theorem i6u:E.prim 57=none:=by kernel_rfl
theorem j6u:a0u E 57=some [.tmp 4]:=by kernel_rfl
theorem j0k:a0k E 58=Tryz.f58.body:=by kernel_rfl
theorem i6t:E.prim 58=none:=by kernel_rfl
theorem j6t:a0u E 58=some [.tmp 2]:=by kernel_rfl
theorem j0j:a0k E 62=Tryz.f62.body:=by kernel_rfl
theorem i6r:E.prim 62=none:=by kernel_rfl
theorem j6s:a0u E 62=some [.cell 6 38]:=by kernel_rfl
theorem j0i:a0k E 64=Tryz.f64.body:=by kernel_rfl
theorem i6q:E.prim 64=none:=by kernel_rfl
theorem j6r:a0u E 64=some [.tmp 2]:=by kernel_rfl
theorem j0h:a0k E 77=Tryz.f77.body:=by kernel_rfl
theorem i6p:E.prim 77=none:=by kernel_rfl
theorem j6q:a0u E 77=some [.tmp 4]:=by kernel_rfl
theorem j0g:a0k E 78=Tryz.f78.body:=by kernel_rfl
theorem i6o:E.prim 78=none:=by kernel_rfl
theorem j6p:a0u E 78=some [.tmp 2,.tmp 3]:=by kernel_rfl
theorem j0f:a0k E 79=Tryz.f79.body:=by kernel_rfl
theorem i6n:E.prim 79=none:=by kernel_rfl
theorem j6o:a0u E 79=some [.tmp 2,.tmp 3]:=by kernel_rfl
theorem j0e:a0k E 80=Tryz.f80.body:=by kernel_rfl
theorem i6m:E.prim 80=none:=by kernel_rfl
theorem j6n:a0u E 80=some [.tmp 2,.tmp 3]:=by kernel_rfl
theorem g3w:a0k E 82=Tryz.f82.body:=by kernel_rfl
theorem f5t:E.prim 82=none:=by kernel_rfl
theorem j6m:a0u E 82=some [.cell 4 75,.tmp 5]:=by kernel_rfl
theorem j0d:a0k E 83=Tryz.f83.body:=by kernel_rfl
theorem i6k:E.prim 83=none:=by kernel_rfl
theorem j6l:a0u E 83=some [.cell 4 80,.tmp 5]:=by kernel_rfl
theorem j0c:a0k E 84=Tryz.f84.body:=by kernel_rfl
theorem i6j:E.prim 84=none:=by kernel_rfl
theorem j6k:a0u E 84=some [.tmp 2]:=by kernel_rfl
theorem j0b:a0k E 85=Tryz.f85.body:=by kernel_rfl
theorem i6i:E.prim 85=none:=by kernel_rfl
theorem j6j:a0u E 85=some [.tmp 2]:=by kernel_rfl
theorem j0a:a0k E 86=Tryz.f86.body:=by kernel_rfl
theorem i6h:E.prim 86=none:=by kernel_rfl
theorem j6i:a0u E 86=some [.tmp 2]:=by kernel_rfl
theorem i9z:a0k E 87=Tryz.f87.body:=by kernel_rfl
theorem i6g:E.prim 87=none:=by kernel_rfl
theorem j6h:a0u E 87=some [.cell 2 25,.tmp 3,.tmp 4]:=by kernel_rfl
theorem i9y:a0k E 88=Tryz.f88.body:=by kernel_rfl
theorem i6f:E.prim 88=none:=by kernel_rfl
theorem j6g:a0u E 88=some [.tmp 2]:=by kernel_rfl
theorem i9x:a0k E 89=Tryz.f89.body:=by kernel_rfl
theorem i6e:E.prim 89=none:=by kernel_rfl
theorem j6f:a0u E 89=some [.tmp 4]:=by kernel_rfl
theorem i9w:a0k E 90=Tryz.f90.body:=by kernel_rfl
theorem i6d:E.prim 90=none:=by kernel_rfl
theorem j6e:a0u E 90=some []:=by kernel_rfl
theorem i9v:a0k E 91=Tryz.f91.body:=by kernel_rfl
theorem i6c:E.prim 91=none:=by kernel_rfl
theorem j6d:a0u E 91=some []:=by kernel_rfl
theorem c3d:a0k E 94=Tryz.f94.body:=by kernel_rfl
theorem c2d:E.prim 94=none:=by kernel_rfl
theorem j6c:a0u E 94=some [.cell 4 38,.tmp 5]:=by kernel_rfl
theorem i9u:a0k E 95=Tryz.f95.body:=by kernel_rfl
theorem i6b:E.prim 95=none:=by kernel_rfl
theorem j6b:a0u E 95=some [.tmp 2]:=by kernel_rfl
theorem i9t:a0k E 97=Tryz.f97.body:=by kernel_rfl
theorem i6a:E.prim 97=none:=by kernel_rfl
theorem j6a:a0u E 97=some [.tmp 4]:=by kernel_rfl
theorem i9s:a0k E 98=Tryz.f98.body:=by kernel_rfl
theorem i5z:E.prim 98=none:=by kernel_rfl
theorem j5z:a0u E 98=some [.tmp 4]:=by kernel_rfl
theorem c6a:a0k E 100=Tryz.f100.body:=by kernel_rfl
theorem c5h:E.prim 100=none:=by kernel_rfl
theorem i5r:a0u E 100=some [.cell 6 25]:=by kernel_rfl
theorem c5z:a0k E 101=Tryz.f101.body:=by kernel_rfl
theorem c5g:E.prim 101=none:=by kernel_rfl
theorem i5q:a0u E 101=some [.cell 4 25]:=by kernel_rfl
theorem h6m:a0k E 102=Tryz.f102.body:=by kernel_rfl
theorem g9m:E.prim 102=none:=by kernel_rfl
theorem i5p:a0u E 102=some [.cell 4 25]:=by kernel_rfl
theorem h6l:a0k E 103=Tryz.f103.body:=by kernel_rfl
theorem g9l:E.prim 103=none:=by kernel_rfl
theorem i5o:a0u E 103=some [.tmp 6,.cell 7 25]:=by kernel_rfl
theorem h6k:a0k E 108=Tryz.f108.body:=by kernel_rfl
theorem g9k:E.prim 108=none:=by kernel_rfl
theorem i5n:a0u E 108=some [.tmp 2,.tmp 3]:=by kernel_rfl
theorem h6j:a0k E 109=Tryz.f109.body:=by kernel_rfl
theorem g9j:E.prim 109=none:=by kernel_rfl
theorem i5m:a0u E 109=some [.tmp 2,.tmp 3]:=by kernel_rfl
theorem h6i:a0k E 110=Tryz.f110.body:=by kernel_rfl
theorem g9i:E.prim 110=none:=by kernel_rfl
theorem i5l:a0u E 110=some [.tmp 2]:=by kernel_rfl
theorem h6h:a0k E 113=Tryz.f113.body:=by kernel_rfl
theorem g9h:E.prim 113=none:=by kernel_rfl
theorem i5k:a0u E 113=some [.tmp 4,.tmp 5]:=by kernel_rfl
theorem h6g:a0k E 118=Tryz.f118.body:=by kernel_rfl
theorem g9g:E.prim 118=none:=by kernel_rfl
theorem i5j:a0u E 118=some [.tmp 6]:=by kernel_rfl
theorem h6f:a0k E 119=Tryz.f119.body:=by kernel_rfl
theorem g9f:E.prim 119=none:=by kernel_rfl
theorem i5i:a0u E 119=some [.tmp 4]:=by kernel_rfl
theorem h6e:a0k E 121=Tryz.f121.body:=by kernel_rfl
theorem g9e:E.prim 121=none:=by kernel_rfl
theorem i5h:a0u E 121=some [.tmp 4]:=by kernel_rfl
theorem h6d:a0k E 122=Tryz.f122.body:=by kernel_rfl
theorem g9d:E.prim 122=none:=by kernel_rfl
theorem i5g:a0u E 122=some [.tmp 2]:=by kernel_rfl
theorem h6c:a0k E 127=Tryz.f127.body:=by kernel_rfl
theorem g9c:E.prim 127=none:=by kernel_rfl
theorem i5f:a0u E 127=some [.cell 6 38]:=by kernel_rfl
theorem e6s:a0k E 128=Tryz.f128.body:=by kernel_rfl
theorem e4j:E.prim 128=none:=by kernel_rfl
theorem i5e:a0u E 128=some [.cell 10 38]:=by kernel_rfl
theorem h6b:a0k E 130=Tryz.f130.body:=by kernel_rfl
theorem g9b:E.prim 130=none:=by kernel_rfl
theorem i5d:a0u E 130=some [.tmp 8]:=by kernel_rfl
theorem h6a:a0k E 134=Tryz.f134.body:=by kernel_rfl
theorem g9a:E.prim 134=none:=by kernel_rfl
theorem i5c:a0u E 134=some [.cell 2 91]:=by kernel_rfl
theorem h5z:a0k E 135=Tryz.f135.body:=by kernel_rfl
theorem g8z:E.prim 135=none:=by kernel_rfl
theorem i5b:a0u E 135=some [.tmp 6]:=by kernel_rfl
theorem h5y:a0k E 136=Tryz.f136.body:=by kernel_rfl
theorem g8y:E.prim 136=none:=by kernel_rfl
theorem i5a:a0u E 136=some [.tmp 2]:=by kernel_rfl
theorem c5y:a0k E 137=Tryz.f137.body:=by kernel_rfl
theorem c5f:E.prim 137=none:=by kernel_rfl
theorem i4z:a0u E 137=some [.cell 4 170,.tmp 5]:=by kernel_rfl
theorem h5x:a0k E 138=Tryz.f138.body:=by kernel_rfl
theorem g8x:E.prim 138=none:=by kernel_rfl
theorem i4y:a0u E 138=some [.tmp 8]:=by kernel_rfl
theorem h5w:a0k E 139=Tryz.f139.body:=by kernel_rfl
theorem g8w:E.prim 139=none:=by kernel_rfl
theorem i4x:a0u E 139=some [.tmp 2]:=by kernel_rfl
theorem h5v:a0k E 140=Tryz.f140.body:=by kernel_rfl
theorem g8v:E.prim 140=none:=by kernel_rfl
theorem i4w:a0u E 140=some [.tmp 4,.tmp 5]:=by kernel_rfl
theorem h5u:a0k E 141=Tryz.f141.body:=by kernel_rfl
theorem g8u:E.prim 141=none:=by kernel_rfl
theorem i4v:a0u E 141=some [.tmp 4,.tmp 5]:=by kernel_rfl
theorem h5t:a0k E 142=Tryz.f142.body:=by kernel_rfl
theorem g8t:E.prim 142=none:=by kernel_rfl
theorem i4u:a0u E 142=some [.tmp 4,.tmp 5]:=by kernel_rfl
theorem e6r:a0k E 143=Tryz.f143.body:=by kernel_rfl
theorem e4i:E.prim 143=none:=by kernel_rfl
theorem i4t:a0u E 143=some [.tmp 2,.cell 3 25]:=by kernel_rfl
theorem e6q:a0k E 144=Tryz.f144.body:=by kernel_rfl
theorem e4h:E.prim 144=none:=by kernel_rfl
theorem i4s:a0u E 144=some [.tmp 4]:=by kernel_rfl
theorem h5s:a0k E 145=Tryz.f145.body:=by kernel_rfl
theorem g8s:E.prim 145=none:=by kernel_rfl
theorem i4r:a0u E 145=some [.tmp 2]:=by kernel_rfl
theorem h5r:a0k E 146=Tryz.f146.body:=by kernel_rfl
theorem g8r:E.prim 146=none:=by kernel_rfl
theorem i4q:a0u E 146=some [.cell 6 25]:=by kernel_rfl
theorem h5q:a0k E 147=Tryz.f147.body:=by kernel_rfl
theorem g8q:E.prim 147=none:=by kernel_rfl
theorem i4p:a0u E 147=some [.tmp 6,.cell 7 38]:=by kernel_rfl
theorem h5p:a0k E 148=Tryz.f148.body:=by kernel_rfl
theorem g8p:E.prim 148=none:=by kernel_rfl
theorem i4o:a0u E 148=some [.tmp 2]:=by kernel_rfl
theorem h5o:a0k E 149=Tryz.f149.body:=by kernel_rfl
theorem g8o:E.prim 149=none:=by kernel_rfl
theorem i4n:a0u E 149=some [.tmp 4]:=by kernel_rfl
theorem h5n:a0k E 150=Tryz.f150.body:=by kernel_rfl
theorem g8n:E.prim 150=none:=by kernel_rfl
theorem i4m:a0u E 150=some [.cell 6 38]:=by kernel_rfl
theorem e6p:a0k E 151=Tryz.f151.body:=by kernel_rfl
theorem e4g:E.prim 151=none:=by kernel_rfl
theorem i4l:a0u E 151=some [.cell 6 25,.tmp 7]:=by kernel_rfl
theorem d6b:a0k E 152=Tryz.f152.body:=by kernel_rfl
theorem d4d:E.prim 152=none:=by kernel_rfl
theorem i4k:a0u E 152=some [.cell 10 38,.tmp 11]:=by kernel_rfl
theorem h5m:a0k E 153=Tryz.f153.body:=by kernel_rfl
theorem g8m:E.prim 153=none:=by kernel_rfl
theorem i4j:a0u E 153=some [.cell 2 25,.tmp 3]:=by kernel_rfl
theorem h5l:a0k E 154=Tryz.f154.body:=by kernel_rfl
theorem g8l:E.prim 154=none:=by kernel_rfl
theorem i4i:a0u E 154=some [.tmp 3]:=by kernel_rfl
theorem e6o:a0k E 157=Tryz.f157.body:=by kernel_rfl
theorem e4e:E.prim 157=none:=by kernel_rfl
theorem i4h:a0u E 157=some [.cell 4 38,.tmp 5]:=by kernel_rfl
theorem h5k:a0k E 159=Tryz.f159.body:=by kernel_rfl
theorem g8k:E.prim 159=none:=by kernel_rfl
theorem i4g:a0u E 159=some [.cell 4 25]:=by kernel_rfl
theorem h5j:a0k E 162=Tryz.f162.body:=by kernel_rfl
theorem g8j:E.prim 162=none:=by kernel_rfl
theorem i4f:a0u E 162=some [.tmp 2]:=by kernel_rfl
theorem h5i:a0k E 163=Tryz.f163.body:=by kernel_rfl
theorem g8i:E.prim 163=none:=by kernel_rfl
theorem i4e:a0u E 163=some [.tmp 2]:=by kernel_rfl
theorem h5h:a0k E 164=Tryz.f164.body:=by kernel_rfl
theorem g8h:E.prim 164=none:=by kernel_rfl
theorem i4d:a0u E 164=some [.tmp 4]:=by kernel_rfl
theorem h5g:a0k E 165=Tryz.f165.body:=by kernel_rfl
theorem g8g:E.prim 165=none:=by kernel_rfl
theorem i4c:a0u E 165=some [.tmp 2]:=by kernel_rfl
theorem h5f:a0k E 166=Tryz.f166.body:=by kernel_rfl
theorem g8f:E.prim 166=none:=by kernel_rfl
theorem i4b:a0u E 166=some [.tmp 2]:=by kernel_rfl
theorem h5e:a0k E 167=Tryz.f167.body:=by kernel_rfl
theorem g8e:E.prim 167=none:=by kernel_rfl
theorem i4a:a0u E 167=some [.tmp 2]:=by kernel_rfl
theorem h5d:a0k E 168=Tryz.f168.body:=by kernel_rfl
theorem g8d:E.prim 168=none:=by kernel_rfl
theorem i3z:a0u E 168=some [.tmp 2]:=by kernel_rfl
theorem h5c:a0k E 169=Tryz.f169.body:=by kernel_rfl
theorem g8c:E.prim 169=none:=by kernel_rfl
theorem i3y:a0u E 169=some [.tmp 4]:=by kernel_rfl
theorem h5b:a0k E 173=Tryz.f173.body:=by kernel_rfl
theorem g8a:E.prim 173=none:=by kernel_rfl
theorem i3x:a0u E 173=some [.tmp 2]:=by kernel_rfl
theorem h5a:a0k E 174=Tryz.f174.body:=by kernel_rfl
theorem g7z:E.prim 174=none:=by kernel_rfl
theorem i3w:a0u E 174=some [.tmp 2]:=by kernel_rfl
theorem h4z:a0k E 175=Tryz.f175.body:=by kernel_rfl
theorem g7y:E.prim 175=none:=by kernel_rfl
theorem i3v:a0u E 175=some [.tmp 4]:=by kernel_rfl
theorem h4y:a0k E 187=Tryz.f187.body:=by kernel_rfl
theorem g7x:E.prim 187=none:=by kernel_rfl
theorem i3u:a0u E 187=some [.tmp 6]:=by kernel_rfl
theorem h4x:a0k E 188=Tryz.f188.body:=by kernel_rfl
theorem g7w:E.prim 188=none:=by kernel_rfl
theorem i3t:a0u E 188=some [.tmp 2]:=by kernel_rfl
theorem d6a:a0k E 189=Tryz.f189.body:=by kernel_rfl
theorem d4c:E.prim 189=none:=by kernel_rfl
theorem i3s:a0u E 189=some []:=by kernel_rfl
theorem h4w:a0k E 190=Tryz.f190.body:=by kernel_rfl
theorem g7v:E.prim 190=none:=by kernel_rfl
theorem i3r:a0u E 190=some []:=by kernel_rfl
theorem h4v:a0k E 191=Tryz.f191.body:=by kernel_rfl
theorem g7u:E.prim 191=none:=by kernel_rfl
theorem i3q:a0u E 191=some [.cell 2 25]:=by kernel_rfl
theorem h4u:a0k E 192=Tryz.f192.body:=by kernel_rfl
theorem g7t:E.prim 192=none:=by kernel_rfl
theorem i3p:a0u E 192=some [.cell 2 89]:=by kernel_rfl
theorem h4t:a0k E 193=Tryz.f193.body:=by kernel_rfl
theorem g7s:E.prim 193=none:=by kernel_rfl
theorem i3o:a0u E 193=some [.tmp 6]:=by kernel_rfl
theorem h4s:a0k E 194=Tryz.f194.body:=by kernel_rfl
theorem g7r:E.prim 194=none:=by kernel_rfl
theorem i3n:a0u E 194=some [.tmp 2]:=by kernel_rfl
theorem h4q:a0k E 195=Tryz.f195.body:=by kernel_rfl
theorem g7q:E.prim 195=none:=by kernel_rfl
theorem i3m:a0u E 195=some [.tmp 2]:=by kernel_rfl
theorem h4p:a0k E 196=Tryz.f196.body:=by kernel_rfl
theorem g7p:E.prim 196=none:=by kernel_rfl
theorem i3l:a0u E 196=some [.tmp 4]:=by kernel_rfl
theorem h4o:a0k E 197=Tryz.f197.body:=by kernel_rfl
theorem g7o:E.prim 197=none:=by kernel_rfl
theorem i3k:a0u E 197=some [.tmp 4,.tmp 5]:=by kernel_rfl
theorem e6n:a0k E 198=Tryz.f198.body:=by kernel_rfl
theorem e4d:E.prim 198=none:=by kernel_rfl
theorem i3j:a0u E 198=some [.tmp 8]:=by kernel_rfl
theorem h4n:a0k E 199=Tryz.f199.body:=by kernel_rfl
theorem g7n:E.prim 199=none:=by kernel_rfl
theorem i3i:a0u E 199=some [.cell 4 38,.tmp 5]:=by kernel_rfl
theorem b4b:a0k E 200=Tryz.f200.body:=by kernel_rfl
theorem b3q:E.prim 200=none:=by kernel_rfl
theorem i3h:a0u E 200=some [.cell 4 168,.tmp 5]:=by kernel_rfl
theorem h4m:a0k E 201=Tryz.f201.body:=by kernel_rfl
theorem g7m:E.prim 201=none:=by kernel_rfl
theorem i3g:a0u E 201=some [.tmp 2]:=by kernel_rfl
theorem h4l:a0k E 202=Tryz.f202.body:=by kernel_rfl
theorem g7l:E.prim 202=none:=by kernel_rfl
theorem i3f:a0u E 202=some [.tmp 2]:=by kernel_rfl
theorem h4k:a0k E 203=Tryz.f203.body:=by kernel_rfl
theorem g7k:E.prim 203=none:=by kernel_rfl
theorem i3e:a0u E 203=some [.tmp 4,.tmp 5]:=by kernel_rfl
theorem h4j:a0k E 204=Tryz.f204.body:=by kernel_rfl
theorem g7j:E.prim 204=none:=by kernel_rfl
theorem i3d:a0u E 204=some [.tmp 4]:=by kernel_rfl
theorem h4i:a0k E 205=Tryz.f205.body:=by kernel_rfl
theorem g7i:E.prim 205=none:=by kernel_rfl
theorem i3c:a0u E 205=some [.tmp 3]:=by kernel_rfl
theorem h4h:a0k E 206=Tryz.f206.body:=by kernel_rfl
theorem g7h:E.prim 206=none:=by kernel_rfl
theorem i3b:a0u E 206=some [.tmp 2]:=by kernel_rfl
theorem c5x:a0k E 207=Tryz.f207.body:=by kernel_rfl
theorem c5e:E.prim 207=none:=by kernel_rfl
theorem i3a:a0u E 207=some []:=by kernel_rfl
theorem h4g:a0k E 208=Tryz.f208.body:=by kernel_rfl
theorem g7g:E.prim 208=none:=by kernel_rfl
theorem i2z:a0u E 208=some []:=by kernel_rfl
theorem h4f:a0k E 209=Tryz.f209.body:=by kernel_rfl
theorem g7f:E.prim 209=none:=by kernel_rfl
theorem i2y:a0u E 209=some []:=by kernel_rfl
theorem h4e:a0k E 210=Tryz.f210.body:=by kernel_rfl
theorem g7e:E.prim 210=none:=by kernel_rfl
theorem i2x:a0u E 210=some [.tmp 2]:=by kernel_rfl
theorem h4d:a0k E 211=Tryz.f211.body:=by kernel_rfl
theorem g7d:E.prim 211=none:=by kernel_rfl
theorem i2w:a0u E 211=some [.tmp 2]:=by kernel_rfl
theorem e6m:a0k E 212=Tryz.f212.body:=by kernel_rfl
theorem e4c:E.prim 212=none:=by kernel_rfl
theorem i2v:a0u E 212=some [.tmp 4]:=by kernel_rfl
theorem h4b:a0k E 213=Tryz.f213.body:=by kernel_rfl
theorem g7c:E.prim 213=none:=by kernel_rfl
theorem i2u:a0u E 213=some [.cell 6 25]:=by kernel_rfl
theorem h4a:a0k E 214=Tryz.f214.body:=by kernel_rfl
theorem g7b:E.prim 214=none:=by kernel_rfl
theorem i2t:a0u E 214=some [.cell 4 25]:=by kernel_rfl
theorem h3z:a0k E 215=Tryz.f215.body:=by kernel_rfl
theorem g7a:E.prim 215=none:=by kernel_rfl
theorem i2s:a0u E 215=some [.tmp 6,.tmp 7]:=by kernel_rfl
theorem h3y:a0k E 216=Tryz.f216.body:=by kernel_rfl
theorem g6z:E.prim 216=none:=by kernel_rfl
theorem i2r:a0u E 216=some [.cell 2 25,.tmp 3]:=by kernel_rfl
theorem h3x:a0k E 217=Tryz.f217.body:=by kernel_rfl
theorem g6y:E.prim 217=none:=by kernel_rfl
theorem i2q:a0u E 217=some [.cell 2 25,.tmp 3]:=by kernel_rfl
theorem b2c:a0k E 219=Tryz.f219.body:=by kernel_rfl
theorem b1w:E.prim 219=none:=by kernel_rfl
theorem i2p:a0u E 219=some [.cell 4 38,.tmp 5]:=by kernel_rfl
theorem h3w:a0k E 222=Tryz.f222.body:=by kernel_rfl
theorem g6x:E.prim 222=none:=by kernel_rfl
theorem i2o:a0u E 222=some [.tmp 4]:=by kernel_rfl
theorem h3v:a0k E 230=Tryz.f230.body:=by kernel_rfl
theorem g6v:E.prim 230=none:=by kernel_rfl
theorem i2n:a0u E 230=some [.cell 2 89]:=by kernel_rfl
theorem h3u:a0k E 231=Tryz.f231.body:=by kernel_rfl
theorem g6u:E.prim 231=none:=by kernel_rfl
theorem i2m:a0u E 231=some []:=by kernel_rfl
theorem h3t:a0k E 232=Tryz.f232.body:=by kernel_rfl
theorem g6t:E.prim 232=none:=by kernel_rfl
theorem i2l:a0u E 232=some [.cell 2 89]:=by kernel_rfl
theorem h3s:a0k E 233=Tryz.f233.body:=by kernel_rfl
theorem g6s:E.prim 233=none:=by kernel_rfl
theorem i2k:a0u E 233=some [.tmp 2]:=by kernel_rfl
theorem b7s:a0k E 234=Tryz.f234.body:=by kernel_rfl
theorem b7b:E.prim 234=none:=by kernel_rfl
theorem i2j:a0u E 234=some [.cell 4 168,.tmp 5]:=by kernel_rfl
theorem h3r:a0k E 235=Tryz.f235.body:=by kernel_rfl
theorem g6r:E.prim 235=none:=by kernel_rfl
theorem i2i:a0u E 235=some [.tmp 2]:=by kernel_rfl
theorem h3q:a0k E 236=Tryz.f236.body:=by kernel_rfl
theorem g6q:E.prim 236=none:=by kernel_rfl
theorem i2h:a0u E 236=some []:=by kernel_rfl
theorem h3p:a0k E 237=Tryz.f237.body:=by kernel_rfl
theorem g6p:E.prim 237=none:=by kernel_rfl
theorem i2g:a0u E 237=some []:=by kernel_rfl
theorem h3o:a0k E 238=Tryz.f238.body:=by kernel_rfl
theorem g6o:E.prim 238=none:=by kernel_rfl
theorem i2f:a0u E 238=some []:=by kernel_rfl
theorem h3n:a0k E 239=Tryz.f239.body:=by kernel_rfl
theorem g6n:E.prim 239=none:=by kernel_rfl
theorem i2e:a0u E 239=some [.tmp 4]:=by kernel_rfl
theorem h3m:a0k E 240=Tryz.f240.body:=by kernel_rfl
theorem g6m:E.prim 240=none:=by kernel_rfl
theorem i2d:a0u E 240=some []:=by kernel_rfl
theorem h3l:a0k E 241=Tryz.f241.body:=by kernel_rfl
theorem g6l:E.prim 241=none:=by kernel_rfl
theorem i2c:a0u E 241=some []:=by kernel_rfl
theorem h3k:a0k E 242=Tryz.f242.body:=by kernel_rfl
theorem g6k:E.prim 242=none:=by kernel_rfl
theorem i2b:a0u E 242=some []:=by kernel_rfl
theorem h3j:a0k E 243=Tryz.f243.body:=by kernel_rfl
theorem g6j:E.prim 243=none:=by kernel_rfl
theorem i2a:a0u E 243=some []:=by kernel_rfl
theorem d5z:a0k E 244=Tryz.f244.body:=by kernel_rfl
theorem d4b:E.prim 244=none:=by kernel_rfl
theorem i1z:a0u E 244=some [.cell 8 25]:=by kernel_rfl
theorem h3i:a0k E 245=Tryz.f245.body:=by kernel_rfl
theorem g6i:E.prim 245=none:=by kernel_rfl
theorem i1y:a0u E 245=some [.tmp 3]:=by kernel_rfl
theorem h3h:a0k E 246=Tryz.f246.body:=by kernel_rfl
theorem g6h:E.prim 246=none:=by kernel_rfl
theorem i1x:a0u E 246=some [.tmp 6]:=by kernel_rfl
theorem h3g:a0k E 247=Tryz.f247.body:=by kernel_rfl
theorem g6g:E.prim 247=none:=by kernel_rfl
theorem i1w:a0u E 247=some [.cell 2 25,.tmp 3]:=by kernel_rfl
theorem h3f:a0k E 248=Tryz.f248.body:=by kernel_rfl
theorem g6f:E.prim 248=none:=by kernel_rfl
theorem i1v:a0u E 248=some [.tmp 2]:=by kernel_rfl
theorem h3e:a0k E 261=Tryz.f261.body:=by kernel_rfl
theorem g6e:E.prim 261=none:=by kernel_rfl
theorem i1u:a0u E 261=some [.cell 5 25]:=by kernel_rfl
theorem i6s:E.prim 61=some e1j:=by kernel_rfl
theorem e4k:E.prim 120=some d8u:=by kernel_rfl
theorem g6w:E.prim 229=some e2g:=by kernel_rfl
theorem g8b:E.prim 170=some a9k:=by kernel_rfl
theorem e4f:E.prim 155=some c4a:=by kernel_rfl
theorem i5y:E.prim 99=some b3z:=by kernel_rfl
theorem i6l:E.prim 81=some c7z:=by kernel_rfl
theorem g2b:E.drw 231 3=none:=by kernel_rfl
theorem ts3:a1i E.P 3=1:=by kernel_rfl
theorem ts4:a1i E.P 4=1:=by kernel_rfl
theorem ts5:a1i E.P 5=1:=by kernel_rfl
theorem ts9:a1i E.P 9=1:=by kernel_rfl
theorem ts23:a1i E.P 23=1:=by kernel_rfl
theorem ts25:a1i E.P 25=4:=by kernel_rfl
theorem ts36:a1i E.P 36=1:=by kernel_rfl
theorem ts38:a1i E.P 38=4:=by kernel_rfl
theorem ts49:a1i E.P 49=1:=by kernel_rfl
theorem ts67:a1i E.P 67=1:=by kernel_rfl
theorem ts73:a1i E.P 73=1:=by kernel_rfl
theorem ts75:a1i E.P 75=11:=by kernel_rfl
theorem ts78:a1i E.P 78=1:=by kernel_rfl
theorem ts80:a1i E.P 80=11:=by kernel_rfl
theorem ts85:a1i E.P 85=1:=by kernel_rfl
theorem ts86:a1i E.P 86=1:=by kernel_rfl
theorem ts87:a1i E.P 87=1:=by kernel_rfl
theorem ts89:a1i E.P 89=9:=by kernel_rfl
theorem ts91:a1i E.P 91=17:=by kernel_rfl
theorem ts94:a1i E.P 94=5:=by kernel_rfl
theorem k1t:a1i E.P 110=9:=by kernel_rfl
theorem k1r:a1i E.P 117=1:=by kernel_rfl
theorem k1q:a1i E.P 159=1:=by kernel_rfl
theorem k1p:a1i E.P 161=1:=by kernel_rfl
theorem k1o:a1i E.P 164=1:=by kernel_rfl
theorem k1m:a1i E.P 165=1:=by kernel_rfl
theorem k1k:a1i E.P 166=1:=by kernel_rfl
theorem k1j:a1i E.P 168=9:=by kernel_rfl
theorem k1i:a1i E.P 170=17:=by kernel_rfl
theorem k1h:a1i E.P 172=5:=by kernel_rfl
theorem k1f:a1i E.P 176=9:=by kernel_rfl
theorem k1e:a1i E.P 180=1:=by kernel_rfl
theorem k1d:a1i E.P 182=1:=by kernel_rfl
theorem k1c:a1i E.P 206=3:=by kernel_rfl
theorem k1b:a1i E.P 229=1:=by kernel_rfl
theorem k1a:a1i E.P 231=2:=by kernel_rfl
theorem k0z:a1i E.P 237=4:=by kernel_rfl
theorem k0y:a1i E.P 253=2:=by kernel_rfl
theorem k0x:a1i E.P 256=1:=by kernel_rfl
theorem k0w:a1i E.P 278=2:=by kernel_rfl
theorem k0v:a1i E.P 291=11:=by kernel_rfl
theorem k0u:a1i E.P 309=2:=by kernel_rfl
theorem k0t:a1i E.P 312=11:=by kernel_rfl
theorem k0s:a1i E.P 315=2:=by kernel_rfl
theorem i8n:E.gift 25=none:=by kernel_rfl
theorem j7v:E.nbx 25=true:=by kernel_rfl
theorem i8m:E.gift 81=none:=by kernel_rfl
theorem j7u:E.nbx 81=true:=by kernel_rfl
theorem tsM:a1i E.P 1099511627777=0:=by kernel_rfl
theorem g9x:∀n,E.mkm 182 n (some 5)=false:=fun _=>by kernel_rfl
theorem f7f:∀n,E.mkm 182 n (some 10)=true:=fun _=>by kernel_rfl
theorem f7e:∀n,E.mkm 182 n (some 30)=false:=fun _=>by kernel_rfl
theorem f7d:∀n,E.mkm 244 n (some 67)=true:=fun _=>by kernel_rfl
theorem j3i:f3y E.P 159=some (9,3):=by kernel_rfl
theorem j3h:f3y E.P 161=some (9,75):=by kernel_rfl
theorem j3g:f3y E.P 182=some (9,4):=by kernel_rfl
theorem j3f:f3y E.P 244=some (9,9):=by kernel_rfl
theorem tzv3:e6y E 3=some (.int .i64 0):=by kernel_rfl
theorem tzv4:e6y E 4=some (.bool false):=by kernel_rfl
theorem tzv9:e6y E 9=some (.str []):=by kernel_rfl
theorem j9i:e6y E 75=some (.agg [.str [],.str [],.int .i64 0,.int .i64 0,.str [],.int .i64 0,.slice [],.slice [],.slice [],.slice [],.slice []]):=by kernel_rfl
theorem tg3:b2n E.P 3=some false:=by kernel_rfl
theorem tg4:b2n E.P 4=some false:=by kernel_rfl
theorem tg9:b2n E.P 9=some false:=by kernel_rfl
theorem tg23:b2n E.P 23=some false:=by kernel_rfl
theorem tg25:b2n E.P 25=some true:=by kernel_rfl
theorem tg36:b2n E.P 36=some false:=by kernel_rfl
theorem tg38:b2n E.P 38=some true:=by kernel_rfl
theorem tg49:b2n E.P 49=some false:=by kernel_rfl
theorem tg67:b2n E.P 67=some false:=by kernel_rfl
theorem tg73:b2n E.P 73=some false:=by kernel_rfl
theorem tg75:b2n E.P 75=some true:=by kernel_rfl
theorem tg78:b2n E.P 78=some false:=by kernel_rfl
theorem tg80:b2n E.P 80=some true:=by kernel_rfl
theorem tg85:b2n E.P 85=some false:=by kernel_rfl
theorem tg86:b2n E.P 86=some false:=by kernel_rfl
theorem tg87:b2n E.P 87=some false:=by kernel_rfl
theorem tg89:b2n E.P 89=some true:=by kernel_rfl
theorem tg91:b2n E.P 91=some true:=by kernel_rfl
theorem tg94:b2n E.P 94=some true:=by kernel_rfl
theorem k2x:b2n E.P 117=some false:=by kernel_rfl
theorem k2w:b2n E.P 159=some false:=by kernel_rfl
theorem k2v:b2n E.P 161=some false:=by kernel_rfl
theorem k2u:b2n E.P 164=some false:=by kernel_rfl
theorem k2t:b2n E.P 165=some false:=by kernel_rfl
theorem k2r:b2n E.P 166=some false:=by kernel_rfl
theorem k2q:b2n E.P 168=some true:=by kernel_rfl
theorem k2p:b2n E.P 170=some true:=by kernel_rfl
theorem k2o:b2n E.P 172=some true:=by kernel_rfl
theorem k2m:b2n E.P 176=some true:=by kernel_rfl
theorem k2k:b2n E.P 180=some false:=by kernel_rfl
theorem k2j:b2n E.P 182=some false:=by kernel_rfl
theorem k2i:b2n E.P 229=some false:=by kernel_rfl
theorem k2h:b2n E.P 253=some true:=by kernel_rfl
theorem k2g:b2n E.P 291=some true:=by kernel_rfl
theorem k2f:b2n E.P 312=some true:=by kernel_rfl
theorem te1:a1j E.P 1=none:=by kernel_rfl
theorem te3:a1j E.P 3=none:=by kernel_rfl
theorem te4:a1j E.P 4=none:=by kernel_rfl
theorem te5:a1j E.P 5=none:=by kernel_rfl
theorem te9:a1j E.P 9=none:=by kernel_rfl
theorem te23:a1j E.P 23=some 25:=by kernel_rfl
theorem te25:a1j E.P 25=none:=by kernel_rfl
theorem te33:a1j E.P 33=none:=by kernel_rfl
theorem te36:a1j E.P 36=some 38:=by kernel_rfl
theorem te38:a1j E.P 38=none:=by kernel_rfl
theorem te49:a1j E.P 49=some 9:=by kernel_rfl
theorem te63:a1j E.P 63=some 91:=by kernel_rfl
theorem te64:a1j E.P 64=some 170:=by kernel_rfl
theorem te65:a1j E.P 65=none:=by kernel_rfl
theorem te67:a1j E.P 67=none:=by kernel_rfl
theorem te68:a1j E.P 68=none:=by kernel_rfl
theorem te70:a1j E.P 70=some 80:=by kernel_rfl
theorem te71:a1j E.P 71=none:=by kernel_rfl
theorem te73:a1j E.P 73=some 110:=by kernel_rfl
theorem te75:a1j E.P 75=none:=by kernel_rfl
theorem te76:a1j E.P 76=none:=by kernel_rfl
theorem te78:a1j E.P 78=some 176:=by kernel_rfl
theorem te80:a1j E.P 80=none:=by kernel_rfl
theorem te82:a1j E.P 82=none:=by kernel_rfl
theorem te85:a1j E.P 85=some 94:=by kernel_rfl
theorem te86:a1j E.P 86=some 89:=by kernel_rfl
theorem te87:a1j E.P 87=some 291:=by kernel_rfl
theorem te89:a1j E.P 89=none:=by kernel_rfl
theorem te91:a1j E.P 91=none:=by kernel_rfl
theorem te94:a1j E.P 94=none:=by kernel_rfl
theorem te96:a1j E.P 96=some 3:=by kernel_rfl
theorem k4z:a1j E.P 101=none:=by kernel_rfl
theorem k4y:a1j E.P 105=none:=by kernel_rfl
theorem k4x:a1j E.P 117=some 206:=by kernel_rfl
theorem k4w:a1j E.P 118=none:=by kernel_rfl
theorem k4v:a1j E.P 141=none:=by kernel_rfl
theorem k4u:a1j E.P 142=none:=by kernel_rfl
theorem k4t:a1j E.P 146=none:=by kernel_rfl
theorem k4s:a1j E.P 151=none:=by kernel_rfl
theorem k4r:a1j E.P 153=none:=by kernel_rfl
theorem k4q:a1j E.P 155=none:=by kernel_rfl
theorem k4p:a1j E.P 164=some 172:=by kernel_rfl
theorem k4o:a1j E.P 165=some 168:=by kernel_rfl
theorem k4n:a1j E.P 166=some 312:=by kernel_rfl
theorem k4m:a1j E.P 168=none:=by kernel_rfl
theorem k4l:a1j E.P 170=none:=by kernel_rfl
theorem k4k:a1j E.P 172=none:=by kernel_rfl
theorem k4j:a1j E.P 176=none:=by kernel_rfl
theorem k4i:a1j E.P 177=none:=by kernel_rfl
theorem k4h:a1j E.P 180=none:=by kernel_rfl
theorem k4g:a1j E.P 182=none:=by kernel_rfl
theorem k4f:a1j E.P 183=none:=by kernel_rfl
theorem k4e:a1j E.P 185=none:=by kernel_rfl
theorem k4d:a1j E.P 193=none:=by kernel_rfl
theorem k4c:a1j E.P 215=some 5:=by kernel_rfl
theorem k4b:a1j E.P 220=none:=by kernel_rfl
theorem k4a:a1j E.P 221=none:=by kernel_rfl
theorem k3z:a1j E.P 229=none:=by kernel_rfl
theorem k3y:a1j E.P 233=none:=by kernel_rfl
theorem k3x:a1j E.P 238=none:=by kernel_rfl
theorem k3w:a1j E.P 244=none:=by kernel_rfl
theorem k3v:a1j E.P 246=none:=by kernel_rfl
theorem k3u:a1j E.P 249=none:=by kernel_rfl
theorem k3t:a1j E.P 253=none:=by kernel_rfl
theorem k3s:a1j E.P 254=none:=by kernel_rfl
theorem k3r:a1j E.P 257=none:=by kernel_rfl
theorem k3q:a1j E.P 261=some 49:=by kernel_rfl
theorem k3p:a1j E.P 270=none:=by kernel_rfl
theorem k3o:a1j E.P 276=none:=by kernel_rfl
theorem k3n:a1j E.P 281=none:=by kernel_rfl
theorem k3m:a1j E.P 283=none:=by kernel_rfl
theorem k3l:a1j E.P 285=none:=by kernel_rfl
theorem k3k:a1j E.P 289=none:=by kernel_rfl
theorem k3j:a1j E.P 291=none:=by kernel_rfl
theorem k3i:a1j E.P 292=none:=by kernel_rfl
theorem k3h:a1j E.P 307=none:=by kernel_rfl
theorem k3g:a1j E.P 312=none:=by kernel_rfl
theorem k3f:a1j E.P 329=none:=by kernel_rfl
theorem j5h:a1b E.P 25 0=some (0,1):=by kernel_rfl
theorem j5g:a1b E.P 25 1=some (1,1):=by kernel_rfl
theorem j5f:a1b E.P 25 2=some (2,1):=by kernel_rfl
theorem j5e:a1b E.P 25 3=some (3,1):=by kernel_rfl
theorem j5d:a1b E.P 38 0=some (0,1):=by kernel_rfl
theorem j5c:a1b E.P 38 1=some (1,1):=by kernel_rfl
theorem j5b:a1b E.P 38 2=some (2,1):=by kernel_rfl
theorem j5a:a1b E.P 38 3=some (3,1):=by kernel_rfl
theorem j4z:a1b E.P 75 0=some (0,1):=by kernel_rfl
theorem j4y:a1b E.P 75 1=some (1,1):=by kernel_rfl
theorem j4x:a1b E.P 75 2=some (2,1):=by kernel_rfl
theorem j4w:a1b E.P 75 3=some (3,4):=by kernel_rfl
theorem j4v:a1b E.P 75 4=some (7,1):=by kernel_rfl
theorem j4u:a1b E.P 75 5=some (8,1):=by kernel_rfl
theorem j4t:a1b E.P 75 6=some (9,1):=by kernel_rfl
theorem j4s:a1b E.P 75 7=some (10,1):=by kernel_rfl
theorem j4r:a1b E.P 80 0=some (0,1):=by kernel_rfl
theorem j4q:a1b E.P 80 1=some (1,1):=by kernel_rfl
theorem j4p:a1b E.P 80 2=some (2,1):=by kernel_rfl
theorem j4o:a1b E.P 80 3=some (3,4):=by kernel_rfl
theorem j4n:a1b E.P 80 4=some (7,1):=by kernel_rfl
theorem j4m:a1b E.P 80 5=some (8,1):=by kernel_rfl
theorem j4l:a1b E.P 80 6=some (9,1):=by kernel_rfl
theorem j4k:a1b E.P 80 7=some (10,1):=by kernel_rfl
theorem j4j:a1b E.P 89 0=some (0,1):=by kernel_rfl
theorem j4i:a1b E.P 89 1=some (1,1):=by kernel_rfl
theorem j4h:a1b E.P 89 2=some (2,1):=by kernel_rfl
theorem j4g:a1b E.P 89 3=some (3,4):=by kernel_rfl
theorem j4f:a1b E.P 89 4=some (7,1):=by kernel_rfl
theorem j4e:a1b E.P 89 5=some (8,1):=by kernel_rfl
theorem j4d:a1b E.P 91 0=some (0,1):=by kernel_rfl
theorem j4c:a1b E.P 91 1=some (1,1):=by kernel_rfl
theorem j4b:a1b E.P 91 2=some (2,1):=by kernel_rfl
theorem j4a:a1b E.P 91 3=some (3,1):=by kernel_rfl
theorem j3z:a1b E.P 91 4=some (4,4):=by kernel_rfl
theorem j3y:a1b E.P 91 5=some (8,9):=by kernel_rfl
theorem j3x:a1b E.P 94 0=some (0,1):=by kernel_rfl
theorem j3w:a1b E.P 94 1=some (1,4):=by kernel_rfl
theorem i1c:a1b E.P 110 0=some (0,1):=by kernel_rfl
theorem i1b:a1b E.P 110 1=some (1,4):=by kernel_rfl
theorem i1a:a1b E.P 110 2=some (5,4):=by kernel_rfl
theorem i0z:a1b E.P 163 0=some (0,1):=by kernel_rfl
theorem i0y:a1b E.P 163 2=some (2,1):=by kernel_rfl
theorem i0x:a1b E.P 168 0=some (0,1):=by kernel_rfl
theorem i0w:a1b E.P 168 2=some (2,1):=by kernel_rfl
theorem i0v:a1b E.P 168 3=some (3,4):=by kernel_rfl
theorem i0u:a1b E.P 168 4=some (7,1):=by kernel_rfl
theorem i0t:a1b E.P 168 5=some (8,1):=by kernel_rfl
theorem i0s:a1b E.P 170 0=some (0,1):=by kernel_rfl
theorem i0r:a1b E.P 170 1=some (1,1):=by kernel_rfl
theorem i0q:a1b E.P 170 2=some (2,1):=by kernel_rfl
theorem i0p:a1b E.P 170 3=some (3,1):=by kernel_rfl
theorem i0o:a1b E.P 170 4=some (4,4):=by kernel_rfl
theorem i0n:a1b E.P 170 5=some (8,9):=by kernel_rfl
theorem i0m:a1b E.P 172 0=some (0,1):=by kernel_rfl
theorem i0l:a1b E.P 172 1=some (1,4):=by kernel_rfl
theorem i0k:a1b E.P 176 0=some (0,1):=by kernel_rfl
theorem i0j:a1b E.P 176 1=some (1,4):=by kernel_rfl
theorem i0i:a1b E.P 176 2=some (5,4):=by kernel_rfl
theorem i0h:a1b E.P 206 0=some (0,1):=by kernel_rfl
theorem i0g:a1b E.P 206 1=some (1,1):=by kernel_rfl
theorem i0f:a1b E.P 231 0=some (0,1):=by kernel_rfl
theorem i0e:a1b E.P 231 1=some (1,1):=by kernel_rfl
theorem i0d:a1b E.P 237 0=some (0,1):=by kernel_rfl
theorem i0c:a1b E.P 237 1=some (1,1):=by kernel_rfl
theorem i0b:a1b E.P 237 2=some (2,1):=by kernel_rfl
theorem i0a:a1b E.P 237 3=some (3,1):=by kernel_rfl
theorem h9z:a1b E.P 253 0=some (0,1):=by kernel_rfl
theorem h9y:a1b E.P 253 1=some (1,1):=by kernel_rfl
theorem h9x:a1b E.P 256 0=some (0,1):=by kernel_rfl
theorem h9w:a1b E.P 278 0=some (0,1):=by kernel_rfl
theorem h9v:a1b E.P 278 1=some (1,1):=by kernel_rfl
theorem h9u:a1b E.P 291 0=some (0,1):=by kernel_rfl
theorem h9t:a1b E.P 291 1=some (1,1):=by kernel_rfl
theorem h9s:a1b E.P 291 2=some (2,9):=by kernel_rfl
theorem h9r:a1b E.P 309 0=some (0,1):=by kernel_rfl
theorem h9q:a1b E.P 309 1=some (1,1):=by kernel_rfl
theorem h9p:a1b E.P 312 1=some (1,1):=by kernel_rfl
theorem h9o:a1b E.P 312 2=some (2,9):=by kernel_rfl
theorem h9n:a1b E.P 315 0=some (0,1):=by kernel_rfl
theorem h9m:a1b E.P 315 1=some (1,1):=by kernel_rfl
theorem j3e:a2p E.P 25 0=some (0,1):=by kernel_rfl
theorem j3d:a2p E.P 25 1=some (1,1):=by kernel_rfl
theorem j3c:a2p E.P 25 2=some (2,1):=by kernel_rfl
theorem j3b:a2p E.P 25 3=some (3,1):=by kernel_rfl
theorem j3a:a2p E.P 38 0=some (0,1):=by kernel_rfl
theorem j2z:a2p E.P 38 1=some (1,1):=by kernel_rfl
theorem j2y:a2p E.P 38 2=some (2,1):=by kernel_rfl
theorem j2x:a2p E.P 38 3=some (3,1):=by kernel_rfl
theorem j2w:a2p E.P 75 0=some (0,1):=by kernel_rfl
theorem j2v:a2p E.P 75 1=some (1,1):=by kernel_rfl
theorem j2u:a2p E.P 75 3=some (3,4):=by kernel_rfl
theorem j2t:a2p E.P 80 0=some (0,1):=by kernel_rfl
theorem j2s:a2p E.P 80 1=some (1,1):=by kernel_rfl
theorem j2r:a2p E.P 80 3=some (3,4):=by kernel_rfl
theorem j2q:a2p E.P 89 0=some (0,1):=by kernel_rfl
theorem j2p:a2p E.P 89 1=some (1,1):=by kernel_rfl
theorem j2o:a2p E.P 89 3=some (3,4):=by kernel_rfl
theorem j2n:a2p E.P 89 4=some (7,1):=by kernel_rfl
theorem j2m:a2p E.P 89 5=some (8,1):=by kernel_rfl
theorem j2l:a2p E.P 91 0=some (0,1):=by kernel_rfl
theorem j2k:a2p E.P 91 1=some (1,1):=by kernel_rfl
theorem j2j:a2p E.P 91 2=some (2,1):=by kernel_rfl
theorem j2i:a2p E.P 94 0=some (0,1):=by kernel_rfl
theorem h9j:a2p E.P 110 0=some (0,1):=by kernel_rfl
theorem h9i:a2p E.P 110 1=some (1,4):=by kernel_rfl
theorem h9h:a2p E.P 110 2=some (5,4):=by kernel_rfl
theorem h9g:a2p E.P 168 0=some (0,1):=by kernel_rfl
theorem h9f:a2p E.P 168 1=some (1,1):=by kernel_rfl
theorem h9e:a2p E.P 168 4=some (7,1):=by kernel_rfl
theorem h9d:a2p E.P 170 0=some (0,1):=by kernel_rfl
theorem h9c:a2p E.P 170 1=some (1,1):=by kernel_rfl
theorem h9b:a2p E.P 170 4=some (4,4):=by kernel_rfl
theorem h9a:a2p E.P 170 5=some (8,9):=by kernel_rfl
theorem h8z:a2p E.P 172 0=some (0,1):=by kernel_rfl
theorem h8y:a2p E.P 176 0=some (0,1):=by kernel_rfl
theorem h8x:a2p E.P 206 0=some (0,1):=by kernel_rfl
theorem h8w:a2p E.P 206 1=some (1,1):=by kernel_rfl
theorem h8v:a2p E.P 206 2=some (2,1):=by kernel_rfl
theorem h8u:a2p E.P 231 0=some (0,1):=by kernel_rfl
theorem h8t:a2p E.P 256 0=some (0,1):=by kernel_rfl
theorem h8s:a2p E.P 278 0=some (0,1):=by kernel_rfl
theorem h8r:a2p E.P 291 0=some (0,1):=by kernel_rfl
theorem h8q:a2p E.P 291 1=some (1,1):=by kernel_rfl
theorem h8p:a2p E.P 309 0=some (0,1):=by kernel_rfl
theorem h8o:a2p E.P 312 0=some (0,1):=by kernel_rfl
theorem tz3:a7c E.P 3=some [.int .i64 0]:=by kernel_rfl
theorem tz4:a7c E.P 4=some [.bool false]:=by kernel_rfl
theorem tz9:a7c E.P 9=some [.str []]:=by kernel_rfl
theorem tz25:a7c E.P 25=some [.int .i64 0,.str [],.int .i64 0,.own 25 0 []]:=by kernel_rfl
theorem tz38:a7c E.P 38=some [.int .i64 0,.str [],.int .i64 0,.own 38 0 []]:=by kernel_rfl
theorem tz49:a7c E.P 49=some [.own 9 0 []]:=by kernel_rfl
theorem tz75:a7c E.P 75=some [.str [],.str [],.int .i64 0,.int .i64 0,.str [],.int .i64 0,.own 25 0 [],.own 9 0 [],.own 9 0 [],.own 110 0 [],.own 25 0 []]:=by kernel_rfl
theorem tz80:a7c E.P 80=some [.str [],.str [],.int .i64 0,.int .i64 0,.str [],.int .i64 0,.own 38 0 [],.own 9 0 [],.own 9 0 [],.own 176 0 [],.own 38 0 []]:=by kernel_rfl
theorem tz89:a7c E.P 89=some [.int .i64 0,.str [],.bool false,.int .i64 0,.str [],.int .i64 0,.own 25 0 [],.own 89 0 [],.own 291 0 []]:=by kernel_rfl
theorem tz91:a7c E.P 91=some [.int .i64 0,.str [],.own 9 0 [],.own 94 0 [],.int .i64 0,.str [],.int .i64 0,.own 25 0 [],.int .i64 0,.str [],.bool false,.int .i64 0,.str [],.int .i64 0,.own 25 0 [],.own 89 0 [],.own 291 0 []]:=by kernel_rfl
theorem tz94:a7c E.P 94=some [.str [],.int .i64 0,.str [],.int .i64 0,.own 25 0 []]:=by kernel_rfl
theorem k0e:a7c E.P 110=some [.str [],.int .i64 0,.str [],.int .i64 0,.own 25 0 [],.int .i64 0,.str [],.int .i64 0,.own 25 0 []]:=by kernel_rfl
theorem k0d:a7c E.P 168=some [.int .i64 0,.str [],.bool false,.int .i64 0,.str [],.int .i64 0,.own 38 0 [],.own 168 0 [],.own 312 0 []]:=by kernel_rfl
theorem k0c:a7c E.P 170=some [.int .i64 0,.str [],.own 9 0 [],.own 172 0 [],.int .i64 0,.str [],.int .i64 0,.own 38 0 [],.int .i64 0,.str [],.bool false,.int .i64 0,.str [],.int .i64 0,.own 38 0 [],.own 168 0 [],.own 312 0 []]:=by kernel_rfl
theorem k0b:a7c E.P 172=some [.str [],.int .i64 0,.str [],.int .i64 0,.own 38 0 []]:=by kernel_rfl
theorem k0a:a7c E.P 176=some [.str [],.int .i64 0,.str [],.int .i64 0,.own 38 0 [],.int .i64 0,.str [],.int .i64 0,.own 38 0 []]:=by kernel_rfl
theorem j9z:a7c E.P 206=some [.int .i64 0,.str [],.int .i64 0]:=by kernel_rfl
theorem j9y:a7c E.P 231=some [.own 206 0 [],.bool false]:=by kernel_rfl
theorem j9x:a7c E.P 237=some [.own 9 0 [],.own 9 0 [],.own 9 0 [],.own 9 0 []]:=by kernel_rfl
theorem j9w:a7c E.P 253=some [.own 9 0 [],.own 9 0 []]:=by kernel_rfl
theorem j9v:a7c E.P 256=some [.own 206 0 []]:=by kernel_rfl
theorem j9u:a7c E.P 278=some [.nilp,.own 94 0 []]:=by kernel_rfl
theorem j9t:a7c E.P 291=some [.str [],.own 9 0 [],.int .i64 0,.str [],.bool false,.int .i64 0,.str [],.int .i64 0,.own 25 0 [],.own 89 0 [],.own 291 0 []]:=by kernel_rfl
theorem j9s:a7c E.P 309=some [.nilp,.own 291 0 []]:=by kernel_rfl
theorem j9r:a7c E.P 312=some [.str [],.own 9 0 [],.int .i64 0,.str [],.bool false,.int .i64 0,.str [],.int .i64 0,.own 38 0 [],.own 168 0 [],.own 312 0 []]:=by kernel_rfl
theorem j9q:a7c E.P 315=some [.own 9 0 [],.nilm]:=by kernel_rfl
theorem ti3:c4e E.P 3=some .i64:=by kernel_rfl
theorem ti5:c4e E.P 5=some .u8:=by kernel_rfl
theorem ti9:c4e E.P 9=none:=by kernel_rfl
theorem ti25:c4e E.P 25=none:=by kernel_rfl
theorem ti38:c4e E.P 38=none:=by kernel_rfl
theorem ti80:c4e E.P 80=none:=by kernel_rfl
theorem ti89:c4e E.P 89=none:=by kernel_rfl
theorem ti91:c4e E.P 91=none:=by kernel_rfl
theorem ti94:c4e E.P 94=none:=by kernel_rfl
theorem k2e:c4e E.P 110=none:=by kernel_rfl
theorem k2d:c4e E.P 168=none:=by kernel_rfl
theorem k2c:c4e E.P 170=none:=by kernel_rfl
theorem k2b:c4e E.P 172=none:=by kernel_rfl
theorem k2a:c4e E.P 176=none:=by kernel_rfl
theorem k1z:c4e E.P 206=none:=by kernel_rfl
theorem k1y:c4e E.P 215=none:=by kernel_rfl
theorem k1x:c4e E.P 291=none:=by kernel_rfl
theorem k1w:c4e E.P 312=none:=by kernel_rfl
theorem tst3:a3m E.P 3=false:=by kernel_rfl
theorem tst5:a3m E.P 5=false:=by kernel_rfl
theorem tst9:a3m E.P 9=true:=by kernel_rfl
theorem k0r:a3m E.P 23=false:=by kernel_rfl
theorem k0q:a3m E.P 36=false:=by kernel_rfl
theorem k0p:a3m E.P 49=false:=by kernel_rfl
theorem k0o:a3m E.P 63=false:=by kernel_rfl
theorem k0n:a3m E.P 64=false:=by kernel_rfl
theorem k0m:a3m E.P 70=false:=by kernel_rfl
theorem k0l:a3m E.P 73=false:=by kernel_rfl
theorem k0k:a3m E.P 78=false:=by kernel_rfl
theorem k0j:a3m E.P 85=false:=by kernel_rfl
theorem k0i:a3m E.P 86=false:=by kernel_rfl
theorem k0h:a3m E.P 87=false:=by kernel_rfl
theorem k0g:a3m E.P 96=false:=by kernel_rfl
theorem j2g:a3m E.P 117=false:=by kernel_rfl
theorem j2f:a3m E.P 164=false:=by kernel_rfl
theorem j2e:a3m E.P 165=false:=by kernel_rfl
theorem j2d:a3m E.P 166=false:=by kernel_rfl
theorem tbo3:c9s E.P 3=false:=by kernel_rfl
theorem tbo4:c9s E.P 4=true:=by kernel_rfl
theorem tbo5:c9s E.P 5=false:=by kernel_rfl
theorem tbo9:c9s E.P 9=false:=by kernel_rfl
theorem k5h:c9s E.P 33=false:=by kernel_rfl
theorem k5g:c9s E.P 67=false:=by kernel_rfl
theorem j5q:c9s E.P 182=false:=by kernel_rfl
theorem tpt3:f3s E.P 3=false:=by kernel_rfl
theorem tpt4:f3s E.P 4=false:=by kernel_rfl
theorem tpt5:f3s E.P 5=false:=by kernel_rfl
theorem tpt9:f3s E.P 9=false:=by kernel_rfl
theorem k1v:f3s E.P 33=false:=by kernel_rfl
theorem k1u:f3s E.P 67=true:=by kernel_rfl
theorem j2h:f3s E.P 182=false:=by kernel_rfl
theorem k3e:a3w E.P 25=true:=by kernel_rfl
theorem k3d:a3w E.P 38=true:=by kernel_rfl
theorem k3c:a3w E.P 75=true:=by kernel_rfl
theorem k3b:a3w E.P 80=true:=by kernel_rfl
theorem k3a:a3w E.P 89=true:=by kernel_rfl
theorem k2z:a3w E.P 91=true:=by kernel_rfl
theorem k2y:a3w E.P 94=true:=by kernel_rfl
theorem j3v:a3w E.P 110=true:=by kernel_rfl
theorem j3u:a3w E.P 168=true:=by kernel_rfl
theorem j3t:a3w E.P 170=true:=by kernel_rfl
theorem j3s:a3w E.P 172=true:=by kernel_rfl
theorem j3r:a3w E.P 176=true:=by kernel_rfl
theorem j3q:a3w E.P 206=true:=by kernel_rfl
theorem j3p:a3w E.P 231=true:=by kernel_rfl
theorem j3o:a3w E.P 253=true:=by kernel_rfl
theorem j3n:a3w E.P 256=true:=by kernel_rfl
theorem j3m:a3w E.P 278=true:=by kernel_rfl
theorem j3l:a3w E.P 291=true:=by kernel_rfl
theorem j3k:a3w E.P 309=true:=by kernel_rfl
theorem j3j:a3w E.P 312=true:=by kernel_rfl
theorem tze3:a9t E.P 3=some 1:=by kernel_rfl
theorem tze5:a9t E.P 5=some 1:=by kernel_rfl
theorem tze9:a9t E.P 9=some 1:=by kernel_rfl
theorem j9p:a9t E.P 25=some 4:=by kernel_rfl
theorem j9o:a9t E.P 38=some 4:=by kernel_rfl
theorem j9n:a9t E.P 49=some 1:=by kernel_rfl
theorem j9m:a9t E.P 80=some 11:=by kernel_rfl
theorem j9l:a9t E.P 89=some 9:=by kernel_rfl
theorem j9k:a9t E.P 91=some 17:=by kernel_rfl
theorem j9j:a9t E.P 94=some 5:=by kernel_rfl
theorem j2b:a9t E.P 110=some 9:=by kernel_rfl
theorem j2a:a9t E.P 168=some 9:=by kernel_rfl
theorem j1z:a9t E.P 170=some 17:=by kernel_rfl
theorem j1y:a9t E.P 172=some 5:=by kernel_rfl
theorem j1x:a9t E.P 176=some 9:=by kernel_rfl
theorem j1w:a9t E.P 206=some 3:=by kernel_rfl
theorem j1v:a9t E.P 291=some 11:=by kernel_rfl
theorem j1u:a9t E.P 312=some 11:=by kernel_rfl
theorem tu3:(E.P.underlying 3).isSome=true:=by kernel_rfl
theorem tu5:(E.P.underlying 5).isSome=true:=by kernel_rfl
theorem k0f:(E.P.underlying 215).isSome=true:=by kernel_rfl
theorem tby3:(E.P.bytesOf 3≤32768)=True:=by rw[show E.P.bytesOf 3=8 from by kernel_rfl];simp
theorem tby9:(E.P.bytesOf 9≤32768)=True:=by rw[show E.P.bytesOf 9=16 from by kernel_rfl];simp
theorem k5f:(E.P.bytesOf 25≤32768)=True:=by rw[show E.P.bytesOf 25=56 from by kernel_rfl];simp
theorem k5e:(E.P.bytesOf 38≤32768)=True:=by rw[show E.P.bytesOf 38=56 from by kernel_rfl];simp
theorem k5d:(E.P.bytesOf 80≤32768)=True:=by rw[show E.P.bytesOf 80=192 from by kernel_rfl];simp
theorem k5c:(E.P.bytesOf 89≤32768)=True:=by rw[show E.P.bytesOf 89=136 from by kernel_rfl];simp
theorem k5b:(E.P.bytesOf 91≤32768)=True:=by rw[show E.P.bytesOf 91=264 from by kernel_rfl];simp
theorem k5a:(E.P.bytesOf 94≤32768)=True:=by rw[show E.P.bytesOf 94=72 from by kernel_rfl];simp
theorem j5p:(E.P.bytesOf 110≤32768)=True:=by rw[show E.P.bytesOf 110=128 from by kernel_rfl];simp
theorem j5o:(E.P.bytesOf 168≤32768)=True:=by rw[show E.P.bytesOf 168=136 from by kernel_rfl];simp
theorem j5n:(E.P.bytesOf 170≤32768)=True:=by rw[show E.P.bytesOf 170=264 from by kernel_rfl];simp
theorem j5m:(E.P.bytesOf 172≤32768)=True:=by rw[show E.P.bytesOf 172=72 from by kernel_rfl];simp
theorem j5l:(E.P.bytesOf 176≤32768)=True:=by rw[show E.P.bytesOf 176=128 from by kernel_rfl];simp
theorem j5k:(E.P.bytesOf 206≤32768)=True:=by rw[show E.P.bytesOf 206=32 from by kernel_rfl];simp
theorem j5j:(E.P.bytesOf 291≤32768)=True:=by rw[show E.P.bytesOf 291=176 from by kernel_rfl];simp
theorem j5i:(E.P.bytesOf 312≤32768)=True:=by rw[show E.P.bytesOf 312=176 from by kernel_rfl];simp
attribute [go_sem] h0e f9p f9o f9n f9m f9l f9k f9j f9i f9h f9g f9f f9e f9d f9c f9b f9a f8z f8y f8x f8w f8v f8u f8t f8s f8r f8q f8p f8o f8n f8m f8l f8k f8j f8i f8h f8g f8f f8e f8d
attribute [go_sem] f8c f8b f8a f7z f7y f0o f0n f0m f0l f0k f0j f0i f0h f0g f0f f0e f0d f0c f0b f0a e9z e9y e9x e9w e9v e9u e9t e9s e9r e9q e9p e9o e9n e9m e9l e9k e9j e9i e9h e9g
attribute [go_sem] e9f e9e e9d e9c e9b e9a e8z e8y e8x e8w e8v e8u e8t e8s e8r e8q h2d g1x g1w g1v h2c g1u g1t g1s h2b g1r h2a g1q h1z h1y h1x h1v g1p h1w h1u g1o h1t g1n g1m g1l
attribute [go_sem] g1k g1j g1i h1s g1h g1g g1f g1e g1d h1r h1q h1p h1o h1n g1c h1m h1l g2w g2v g2u f2c f2b g2t g2s g2r g2q f2a f1z f1y g2p g2o f1x f1w f1v g2n f1u f1t g2m g2l g2k
attribute [go_sem] g2j f1s f1r f1q g2i f1p f1o g2h f1n g2g g2f f1m g2e f1l g2d g2c g2a f1k g1z g1y k5j j7k j7j j7i
attribute [go_sem] j7h j7g j7f j7e j7d j7c j7b j7a
attribute [go_sem] j6z j6y j6x j6w j6v j6u j6t j6s
attribute [go_sem] j6r j6q j6p j6o j6n j6m j6l j6k
attribute [go_sem] j6j j6i j6h j6g j6f j6e j6d j6c
attribute [go_sem] j6b j6a j5z i5r i5q i5p i5o i5n
attribute [go_sem] i5m i5l i5k i5j i5i i5h i5g i5f
attribute [go_sem] i5e i5d i5c i5b i5a i4z i4y i4x
attribute [go_sem] i4w i4v i4u i4t i4s i4r i4q i4p
attribute [go_sem] i4o i4n i4m i4l i4k i4j i4i i4h
attribute [go_sem] i4g i4f i4e i4d i4c i4b i4a i3z
attribute [go_sem] i3y i3x i3w i3v i3u i3t i3s i3r
attribute [go_sem] i3q i3p i3o i3n i3m i3l i3k i3j
attribute [go_sem] i3i i3h i3g i3f i3e i3d i3c i3b
attribute [go_sem] i3a i2z i2y i2x i2w i2v i2u i2t
attribute [go_sem] i2s i2r i2q i2p i2o i2n i2m i2l
attribute [go_sem] i2k i2j i2i i2h i2g i2f i2e i2d
attribute [go_sem] i2c i2b i2a i1z i1y i1x i1w i1v
attribute [go_sem] i1u g2b ts3 ts4 ts5 ts9 ts23 ts25 ts36 ts38 ts49 ts67 ts73 ts75 ts78 ts80 ts85 ts86 ts87 ts89 ts91 ts94 k1t k1r k1q k1p k1o k1m k1k k1j k1i k1h k1f k1e k1d k1c
attribute [go_sem] k1b k1a k0z k0y k0x k0w k0v k0u k0t k0s i8n j7v i8m j7u tsM g9x f7f f7e f7d j3i j3h j3g j3f tzv3 tzv4 tzv9 j9i tg3 tg4 tg9 tg23 tg25 tg36 tg38 tg49 tg67 tg73 tg75 tg78 tg80
attribute [go_sem] tg85 tg86 tg87 tg89 tg91 tg94 k2x k2w k2v k2u k2t k2r k2q k2p k2o k2m k2k k2j k2i k2h k2g k2f te1 te3 te4 te5 te9 te23 te25 te33 te36 te38 te49 te63 te64 te65 te67 te68 te70 te71
attribute [go_sem] te73 te75 te76 te78 te80 te82 te85 te86 te87 te89 te91 te94 te96 k4z k4y k4x k4w k4v k4u k4t k4s k4r k4q k4p k4o k4n k4m k4l k4k k4j k4i k4h k4g k4f k4e k4d k4c k4b k4a k3z
attribute [go_sem] k3y k3x k3w k3v k3u k3t k3s k3r k3q k3p k3o k3n k3m k3l k3k k3j k3i k3h k3g k3f j5h j5g j5f j5e j5d j5c j5b j5a j4z j4y j4x j4w j4v j4u j4t j4s j4r j4q j4p j4o
attribute [go_sem] j4n j4m j4l j4k j4j j4i j4h j4g j4f j4e j4d j4c j4b j4a j3z j3y j3x j3w i1c i1b i1a i0z i0y i0x i0w i0v i0u i0t i0s i0r i0q i0p i0o i0n i0m i0l i0k i0j i0i i0h
attribute [go_sem] i0g i0f i0e i0d i0c i0b i0a h9z h9y h9x h9w h9v h9u h9t h9s h9r h9q h9p h9o h9n h9m j3e j3d j3c j3b j3a j2z j2y j2x j2w j2v j2u j2t j2s j2r j2q j2p j2o j2n j2m
attribute [go_sem] j2l j2k j2j j2i h9j h9i h9h h9g h9f h9e h9d h9c h9b h9a h8z h8y h8x h8w h8v h8u h8t h8s h8r h8q h8p h8o tz3 tz4 tz9 tz25 tz38 tz49 tz75 tz80 tz89 tz91 tz94 k0e k0d k0c
attribute [go_sem] k0b k0a j9z j9y j9x j9w j9v j9u j9t j9s j9r j9q ti3 ti5 ti9 ti25 ti38 ti80 ti89 ti91 ti94 k2e k2d k2c k2b k2a k1z k1y k1x k1w tst3 tst5 tst9 k0r k0q k0p k0o k0n k0m k0l
attribute [go_sem] k0k k0j k0i k0h k0g j2g j2f j2e j2d tbo3 tbo4 tbo5 tbo9 k5h k5g j5q tpt3 tpt4 tpt5 tpt9 k1v k1u j2h k3e k3d k3c k3b k3a k2z k2y j3v j3u j3t j3s j3r j3q j3p j3o j3n j3m
attribute [go_sem] j3l j3k j3j tze3 tze5 tze9 j9p j9o j9n j9m j9l j9k j9j j2b j2a j1z j1y j1x j1w j1v j1u tu3 tu5 k0f tby3 tby9 k5f k5e k5d k5c k5b k5a j5p j5o j5n j5m j5l j5k j5j j5i
end Go.Proofs
