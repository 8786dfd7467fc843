/- The program as the abstract machine sees it: what is alive at each loop, which operations may be drawn, sizes of types. -/
import Derived.Test.YtjfghnkmladbkaaGreatDoorAvD
import Derived.Test.YtjfghnkmladbkaaGreatDoorProg
import Derived.KernelRfl
namespace Go.Proofs
open Go.Av
def k1r:List (Nat×(List Nat×List Nat)):=[(8000,([3,4,7,10],[34])),
 (8002,([3,4,7,10,11],[34])),
 (8004,([3,4,7,10,11,12,14,15],[12,14,34])),
 (8006,([3,4,7,10,11,12,14,16],[12,14,34])),
 (8008,([3,4,7,10,11,12,14,17],[12,14,34])),
 (8010,([3,4,7,10,11,12,14,18,19],[12,14,34])),
 (25000,([2,15,16,17],[14])),
 (25002,([2,6,15,16,17,34,35,36],[6,14])),
 (28000,([1,3,4],[1])),
 (28002,([1,3,5],[1])),
 (28004,([1,3,6],[1])),
 (28006,([1,3,7],[1])),
 (45000,([1,2,3,5],[1,3])),
 (48000,([0,5,6],[])),
 (48002,([0,5,6],[])),
 (58001,([3,22,23,24],[])),
 (58003,([6,7],[7])),
 (78000,([7,8],[22])),
 (78002,([8,50,51,52],[])),
 (79000,([4,7,8,9],[])),
 (79002,([7,12],[])),
 (80000,([0,4,15,16,17],[4])),
 (80002,([4,39,40,41],[4])),
 (82000,([2,4,6,7,8,9],[2,4,7,8])),
 (82002,([4,6,7,8,9,10,11,69,70,71],[4,7,8])),
 (82004,([4,6,7,8,9,10,11,111,112,113],[4,7,8])),
 (82006,([4,6,7,8,9,10,141,142,143],[4,7,8])),
 (82008,([4,6,8,10,173,174,175],[4,8])),
 (88000,([3,7,8,9],[])),
 (90000,([1,2,21,22,23],[])),
 (94000,([0,1,4,7],[4])),
 (94002,([0,1,4,9,10,11],[4,9])),
 (95000,([1,3,4],[1])),
 (98000,([0,1,5],[])),
 (101000,([1,2,4,5,18,19,20],[2,4,16])),
 (103000,([1,2,3,6,7,8],[3,7])),
 (103002,([1,2,3,6,7,8,9],[3,7])),
 (104000,([8,9,24,25,26],[17])),
 (110000,([0,3,4],[])),
 (113000,([0,1,7],[])),
 (113002,([0,1,11,12],[])),
 (119000,([0,1,7,8],[])),
 (136000,([1,6,7,8],[1])),
 (137000,([0,4,7,9,11],[4,7])),
 (139000,([1,3],[1])),
 (140001,([0,15,108,109,110],[])),
 (142000,([0,3,15,16,17],[3])),
 (146000,([1,2,3,6,11,12,13],[3,6])),
 (146002,([2,3,6,25,26,27],[3,6])),
 (151000,([3,4,5,6,8],[3,4,5,6])),
 (157000,([0,4,7,8],[4,7])),
 (160000,([0,3,5,6,65,66],[5,6])),
 (164000,([0,1,5],[])),
 (175000,([0,1,5],[])),
 (188000,([0,3],[])),
 (189000,([0,1],[])),
 (192001,([0,2,6],[2,6])),
 (194000,([3,7,8,9],[])),
 (195000,([3,17,18,19],[])),
 (197000,([0,1,6,7],[])),
 (200000,([0,4,19,20,22],[4,20])),
 (200002,([0,4,26,27],[4,26])),
 (201000,([3,4],[])),
 (202000,([3,4,5],[])),
 (203000,([0,1,8,9,10],[])),
 (204000,([0,1,7,8],[])),
 (207001,([1,2,3,4,55,56,57],[4])),
 (207003,([1,2,3,68,69,70],[])),
 (212000,([0,1,7,8],[])),
 (216000,([0,2,4],[2])),
 (216002,([2,4,9,10,11],[2,9])),
 (217000,([0,2,6],[2,6])),
 (233000,([3,16,17,18],[])),
 (235000,([1,3,4],[1])),
 (238000,([1,6,7,8],[])),
 (239000,([0,9,10,11],[])),
 (248000,([0,3,4],[])),
 (249000,([0,1,5],[]))]
def drwT:List (Nat×List (Nat×Nat)):=[(8015,[]),
 (8021,[]),
 (8025,[]),
 (8029,[]),
 (8034,[]),
 (25008,[]),
 (25014,[]),
 (25017,[]),
 (25019,[]),
 (28001,[(1,10),(1,15),(4,10),(4,15),(14,10)]),
 (28014,[(3,16),(3,25),(7,16),(7,25),(20,16),(24,16)]),
 (40005,[(7,5)]),
 (40006,[(1,3),(1,8),(1,14),(5,3),(7,3),(10,3),(10,8),(11,3),(11,8)]),
 (40007,[]),
 (41001,[(2,1)]),
 (45009,[]),
 (45010,[]),
 (45006,[(0,4)]),
 (58009,[(1,3)]),
 (58013,[(13,10),(15,10)]),
 (82014,[(1,3)]),
 (82017,[]),
 (82031,[(1,5),(1,20),(8,5),(8,20),(11,5),(11,20),(14,5),(17,5)]),
 (82036,[(1,5)]),
 (84003,[]),
 (85001,[(0,2)]),
 (87005,[(4,5)]),
 (89001,[]),
 (94013,[]),
 (98003,[]),
 (100007,[(0,5),(0,9),(6,5),(7,5)]),
 (100008,[]),
 (103009,[]),
 (103010,[]),
 (113031,[]),
 (137018,[(0,3)]),
 (137023,[(3,2)]),
 (137025,[(3,2)]),
 (140005,[]),
 (140009,[]),
 (140014,[]),
 (142011,[(5,1)]),
 (142014,[(5,1)]),
 (143001,[(0,2)]),
 (151007,[]),
 (151009,[(1,2)]),
 (160006,[(3,1),(5,1)]),
 (160010,[]),
 (190003,[]),
 (192014,[]),
 (192017,[(0,2)]),
 (200005,[(4,3)]),
 (200035,[(0,3)]),
 (207004,[(1,8),(3,8)]),
 (207007,[(1,8),(3,8)]),
 (207017,[(1,5)]),
 (213001,[(0,3),(1,3)]),
 (216012,[]),
 (220002,[]),
 (220003,[]),
 (220006,[]),
 (230007,[(0,2)]),
 (231000,[(8,4)]),
 (232008,[(2,1)]),
 (234016,[(0,3)]),
 (244004,[(1,7),(1,12),(2,7),(9,7)]),
 (244005,[]),
 (251001,[(2,1)])]
def k1t:List Nat:=[32]
def i4l:List (Nat×(List AVal→a3e→Option (AVal×a3e))):=[(61,e0n),(120,d7s),(229,e1i),(170,a9n),(155,c4d),(99,b4a),(81,c7t),(221,b4b)]
def frzT:List (Nat×List (Nat×List (Nat×Nat))):=[(82,[(28,[(10,244)])]),(90,[(5,[(1,182)])]),(101,[(9,[(5,23)])]),(239,[(7,[(0,182)])])]
def mkmT:List (Nat×Nat):=[(182,10),(244,67)]
def k1s:List (Nat×List (Nat×Nat)):=[(140,[(11,6)])]
def clnT:List (Nat×Nat):=[]
def rvsT:List (Nat×Nat):=[]
def k1w:List (Nat×(Nat×Nat)):=[]
def nbxT:List Nat:=[25,81]
def xopT:List (Nat×List (Nat×Nat)):=[(8,[(5,1)]),(25,[(1,1)]),(77,[(4,1)]),(104,[(1,1)])]
noncomputable def E:Env:={P:=Tryz.prog,cln:=fun f=>a0i clnT f,rvs:=fun f=>a0i rvsT f,xop:=fun f=>(a0i xopT f).getD [],gift:=fun f=>a0i k1w f,nbx:=fun f=>nbxT.contains f,mkm:=fun T _ d=>mkmT.contains (T,d.getD 0),lend:=fun f=>(a0i k1s f).getD [],frz:=fun f=>(a0i frzT f).getD [],live:=fun f id=>a0i k1r (f*1000+id),drw:=fun f id=>a0i drwT (f*1000+id),keep:=fun f=>k1t.contains f,prim:=fun f=>a0i i4l f}
theorem g7o(f:FuncId):E.keep f=List.contains ([32]:List Nat) f:=rfl
theorem i5t(f:FuncId):E.frz f=(a0i ([(82,[(28,[(10,244)])]),(90,[(5,[(1,182)])]),(101,[(9,[(5,23)])]),(239,[(7,[(0,182)])])]:List (Nat×List (Nat×List (Nat×Nat)))) f).getD []:=rfl
theorem h5q(f:FuncId):E.xop f=(a0i ([(8,[(5,1)]),(25,[(1,1)]),(77,[(4,1)]),(104,[(1,1)])]:List (Nat×List (Nat×Nat))) f).getD []:=rfl
theorem g7i(f:FuncId):E.lend f=(a0i ([(140,[(11,6)])]:List (Nat×List (Nat×Nat))) f).getD []:=rfl
attribute [go_sem] g7o i5t h5q g7i
theorem g7h:E.live 8 0=some ([3,4,7,10],[34]):=by kernel_rfl
theorem g7g:E.live 8 2=some ([3,4,7,10,11],[34]):=by kernel_rfl
theorem g7f:E.live 8 4=some ([3,4,7,10,11,12,14,15],[12,14,34]):=by kernel_rfl
theorem g7e:E.live 8 6=some ([3,4,7,10,11,12,14,16],[12,14,34]):=by kernel_rfl
theorem g7d:E.live 8 8=some ([3,4,7,10,11,12,14,17],[12,14,34]):=by kernel_rfl
theorem f5o:E.live 8 10=some ([3,4,7,10,11,12,14,18,19],[12,14,34]):=by kernel_rfl
theorem f6l:E.live 25 0=some ([2,15,16,17],[14]):=by kernel_rfl
theorem f6k:E.live 25 2=some ([2,6,15,16,17,34,35,36],[6,14]):=by kernel_rfl
theorem f6j:E.live 28 0=some ([1,3,4],[1]):=by kernel_rfl
theorem f6i:E.live 28 2=some ([1,3,5],[1]):=by kernel_rfl
theorem f6h:E.live 28 4=some ([1,3,6],[1]):=by kernel_rfl
theorem f6g:E.live 28 6=some ([1,3,7],[1]):=by kernel_rfl
theorem f6f:E.live 45 0=some ([1,2,3,5],[1,3]):=by kernel_rfl
theorem f6e:E.live 48 0=some ([0,5,6],[]):=by kernel_rfl
theorem f6d:E.live 48 2=some ([0,5,6],[]):=by kernel_rfl
theorem f6c:E.live 58 1=some ([3,22,23,24],[]):=by kernel_rfl
theorem f6b:E.live 58 3=some ([6,7],[7]):=by kernel_rfl
theorem f6a:E.live 78 0=some ([7,8],[22]):=by kernel_rfl
theorem f5z:E.live 78 2=some ([8,50,51,52],[]):=by kernel_rfl
theorem f5y:E.live 79 0=some ([4,7,8,9],[]):=by kernel_rfl
theorem f5x:E.live 79 2=some ([7,12],[]):=by kernel_rfl
theorem f5w:E.live 80 0=some ([0,4,15,16,17],[4]):=by kernel_rfl
theorem f5v:E.live 80 2=some ([4,39,40,41],[4]):=by kernel_rfl
theorem f5u:E.live 82 0=some ([2,4,6,7,8,9],[2,4,7,8]):=by kernel_rfl
theorem f5t:E.live 82 2=some ([4,6,7,8,9,10,11,69,70,71],[4,7,8]):=by kernel_rfl
theorem f5s:E.live 82 4=some ([4,6,7,8,9,10,11,111,112,113],[4,7,8]):=by kernel_rfl
theorem f5r:E.live 82 6=some ([4,6,7,8,9,10,141,142,143],[4,7,8]):=by kernel_rfl
theorem f5q:E.live 82 8=some ([4,6,8,10,173,174,175],[4,8]):=by kernel_rfl
theorem f5p:E.live 88 0=some ([3,7,8,9],[]):=by kernel_rfl
theorem f5n:E.live 90 0=some ([1,2,21,22,23],[]):=by kernel_rfl
theorem f5m:E.live 94 0=some ([0,1,4,7],[4]):=by kernel_rfl
theorem f5l:E.live 94 2=some ([0,1,4,9,10,11],[4,9]):=by kernel_rfl
theorem f5k:E.live 95 0=some ([1,3,4],[1]):=by kernel_rfl
theorem f5j:E.live 98 0=some ([0,1,5],[]):=by kernel_rfl
theorem e9b:E.live 101 0=some ([1,2,4,5,18,19,20],[2,4,16]):=by kernel_rfl
theorem e9a:E.live 103 0=some ([1,2,3,6,7,8],[3,7]):=by kernel_rfl
theorem e8z:E.live 103 2=some ([1,2,3,6,7,8,9],[3,7]):=by kernel_rfl
theorem e8y:E.live 104 0=some ([8,9,24,25,26],[17]):=by kernel_rfl
theorem e8x:E.live 110 0=some ([0,3,4],[]):=by kernel_rfl
theorem e8w:E.live 113 0=some ([0,1,7],[]):=by kernel_rfl
theorem e8v:E.live 113 2=some ([0,1,11,12],[]):=by kernel_rfl
theorem e8u:E.live 119 0=some ([0,1,7,8],[]):=by kernel_rfl
theorem e8t:E.live 136 0=some ([1,6,7,8],[1]):=by kernel_rfl
theorem e8s:E.live 137 0=some ([0,4,7,9,11],[4,7]):=by kernel_rfl
theorem e8r:E.live 139 0=some ([1,3],[1]):=by kernel_rfl
theorem e8q:E.live 140 1=some ([0,15,108,109,110],[]):=by kernel_rfl
theorem e8p:E.live 142 0=some ([0,3,15,16,17],[3]):=by kernel_rfl
theorem e8o:E.live 146 0=some ([1,2,3,6,11,12,13],[3,6]):=by kernel_rfl
theorem e8n:E.live 146 2=some ([2,3,6,25,26,27],[3,6]):=by kernel_rfl
theorem e8m:E.live 151 0=some ([3,4,5,6,8],[3,4,5,6]):=by kernel_rfl
theorem e8l:E.live 157 0=some ([0,4,7,8],[4,7]):=by kernel_rfl
theorem e8k:E.live 160 0=some ([0,3,5,6,65,66],[5,6]):=by kernel_rfl
theorem e8j:E.live 164 0=some ([0,1,5],[]):=by kernel_rfl
theorem e8i:E.live 175 0=some ([0,1,5],[]):=by kernel_rfl
theorem e8h:E.live 188 0=some ([0,3],[]):=by kernel_rfl
theorem e8g:E.live 189 0=some ([0,1],[]):=by kernel_rfl
theorem e8f:E.live 192 1=some ([0,2,6],[2,6]):=by kernel_rfl
theorem e8e:E.live 194 0=some ([3,7,8,9],[]):=by kernel_rfl
theorem e8d:E.live 195 0=some ([3,17,18,19],[]):=by kernel_rfl
theorem e8c:E.live 197 0=some ([0,1,6,7],[]):=by kernel_rfl
theorem e8b:E.live 200 0=some ([0,4,19,20,22],[4,20]):=by kernel_rfl
theorem e8a:E.live 200 2=some ([0,4,26,27],[4,26]):=by kernel_rfl
theorem e7z:E.live 201 0=some ([3,4],[]):=by kernel_rfl
theorem e7y:E.live 202 0=some ([3,4,5],[]):=by kernel_rfl
theorem e7x:E.live 203 0=some ([0,1,8,9,10],[]):=by kernel_rfl
theorem e7w:E.live 204 0=some ([0,1,7,8],[]):=by kernel_rfl
theorem e7v:E.live 207 1=some ([1,2,3,4,55,56,57],[4]):=by kernel_rfl
theorem e7u:E.live 207 3=some ([1,2,3,68,69,70],[]):=by kernel_rfl
theorem e7t:E.live 212 0=some ([0,1,7,8],[]):=by kernel_rfl
theorem e7s:E.live 216 0=some ([0,2,4],[2]):=by kernel_rfl
theorem e7r:E.live 216 2=some ([2,4,9,10,11],[2,9]):=by kernel_rfl
theorem e7q:E.live 217 0=some ([0,2,6],[2,6]):=by kernel_rfl
theorem e7p:E.live 233 0=some ([3,16,17,18],[]):=by kernel_rfl
theorem e7o:E.live 235 0=some ([1,3,4],[1]):=by kernel_rfl
theorem e7n:E.live 238 0=some ([1,6,7,8],[]):=by kernel_rfl
theorem e7m:E.live 239 0=some ([0,9,10,11],[]):=by kernel_rfl
theorem e7l:E.live 248 0=some ([0,3,4],[]):=by kernel_rfl
theorem e7k:E.live 249 0=some ([0,1,5],[]):=by kernel_rfl
theorem g8s:E.drw 8 15=some []:=by kernel_rfl
theorem g8r:E.drw 8 21=some []:=by kernel_rfl
theorem g8q:E.drw 8 25=some []:=by kernel_rfl
theorem g8p:E.drw 8 29=some []:=by kernel_rfl
theorem g8o:E.drw 8 34=some []:=by kernel_rfl
theorem g9f:E.drw 25 8=some []:=by kernel_rfl
theorem f8n:E.drw 25 14=some []:=by kernel_rfl
theorem f8m:E.drw 25 17=some []:=by kernel_rfl
theorem f8l:E.drw 25 19=some []:=by kernel_rfl
theorem g9e:E.drw 28 1=some [(1,10),(1,15),(4,10),(4,15),(14,10)]:=by kernel_rfl
theorem f8k:E.drw 28 14=some [(3,16),(3,25),(7,16),(7,25),(20,16),(24,16)]:=by kernel_rfl
theorem g9d:E.drw 40 5=some [(7,5)]:=by kernel_rfl
theorem g9c:E.drw 40 6=some [(1,3),(1,8),(1,14),(5,3),(7,3),(10,3),(10,8),(11,3),(11,8)]:=by kernel_rfl
theorem g9b:E.drw 40 7=some []:=by kernel_rfl
theorem g9a:E.drw 41 1=some [(2,1)]:=by kernel_rfl
theorem g8y:E.drw 45 9=some []:=by kernel_rfl
theorem f8j:E.drw 45 10=some []:=by kernel_rfl
theorem g8z:E.drw 45 6=some [(0,4)]:=by kernel_rfl
theorem g8x:E.drw 58 9=some [(1,3)]:=by kernel_rfl
theorem f8i:E.drw 58 13=some [(13,10),(15,10)]:=by kernel_rfl
theorem f8h:E.drw 82 14=some [(1,3)]:=by kernel_rfl
theorem f8g:E.drw 82 17=some []:=by kernel_rfl
theorem f8f:E.drw 82 31=some [(1,5),(1,20),(8,5),(8,20),(11,5),(11,20),(14,5),(17,5)]:=by kernel_rfl
theorem f8e:E.drw 82 36=some [(1,5)]:=by kernel_rfl
theorem g8w:E.drw 84 3=some []:=by kernel_rfl
theorem g8v:E.drw 85 1=some [(0,2)]:=by kernel_rfl
theorem g8u:E.drw 87 5=some [(4,5)]:=by kernel_rfl
theorem g8t:E.drw 89 1=some []:=by kernel_rfl
theorem f8d:E.drw 94 13=some []:=by kernel_rfl
theorem g8n:E.drw 98 3=some []:=by kernel_rfl
theorem f9l:E.drw 100 7=some [(0,5),(0,9),(6,5),(7,5)]:=by kernel_rfl
theorem f9k:E.drw 100 8=some []:=by kernel_rfl
theorem f9j:E.drw 103 9=some []:=by kernel_rfl
theorem f0m:E.drw 103 10=some []:=by kernel_rfl
theorem f0l:E.drw 113 31=some []:=by kernel_rfl
theorem f0k:E.drw 137 18=some [(0,3)]:=by kernel_rfl
theorem f0j:E.drw 137 23=some [(3,2)]:=by kernel_rfl
theorem f0i:E.drw 137 25=some [(3,2)]:=by kernel_rfl
theorem f9i:E.drw 140 5=some []:=by kernel_rfl
theorem f9h:E.drw 140 9=some []:=by kernel_rfl
theorem f0h:E.drw 140 14=some []:=by kernel_rfl
theorem f0g:E.drw 142 11=some [(5,1)]:=by kernel_rfl
theorem f0f:E.drw 142 14=some [(5,1)]:=by kernel_rfl
theorem f9g:E.drw 143 1=some [(0,2)]:=by kernel_rfl
theorem f9f:E.drw 151 7=some []:=by kernel_rfl
theorem f9e:E.drw 151 9=some [(1,2)]:=by kernel_rfl
theorem f9d:E.drw 160 6=some [(3,1),(5,1)]:=by kernel_rfl
theorem f0e:E.drw 160 10=some []:=by kernel_rfl
theorem f9c:E.drw 190 3=some []:=by kernel_rfl
theorem f0d:E.drw 192 14=some []:=by kernel_rfl
theorem f0c:E.drw 192 17=some [(0,2)]:=by kernel_rfl
theorem f9b:E.drw 200 5=some [(4,3)]:=by kernel_rfl
theorem f0b:E.drw 200 35=some [(0,3)]:=by kernel_rfl
theorem f9a:E.drw 207 4=some [(1,8),(3,8)]:=by kernel_rfl
theorem f8z:E.drw 207 7=some [(1,8),(3,8)]:=by kernel_rfl
theorem f0a:E.drw 207 17=some [(1,5)]:=by kernel_rfl
theorem f8y:E.drw 213 1=some [(0,3),(1,3)]:=by kernel_rfl
theorem e9z:E.drw 216 12=some []:=by kernel_rfl
theorem f8x:E.drw 220 2=some []:=by kernel_rfl
theorem f8w:E.drw 220 3=some []:=by kernel_rfl
theorem f8v:E.drw 220 6=some []:=by kernel_rfl
theorem f8u:E.drw 230 7=some [(0,2)]:=by kernel_rfl
theorem f8t:E.drw 231 0=some [(8,4)]:=by kernel_rfl
theorem f8r:E.drw 232 8=some [(2,1)]:=by kernel_rfl
theorem e9y:E.drw 234 16=some [(0,3)]:=by kernel_rfl
theorem f8q:E.drw 244 4=some [(1,7),(1,12),(2,7),(9,7)]:=by kernel_rfl
theorem f8p:E.drw 244 5=some []:=by kernel_rfl
theorem f8o:E.drw 251 1=some [(2,1)]:=by kernel_rfl
theorem j4s:a0k E 8=Tryz.f8.body:=by kernel_rfl
theorem j3s:E.prim 8=none:=by kernel_rfl
theorem k1n:a0t E 8=some [.tmp 2]:=by kernel_rfl
theorem i7s:a0k E 23=Tryz.f23.body:=by kernel_rfl
theorem i4k:E.prim 23=none:=by kernel_rfl
theorem j3o:a0t E 23=some [.tmp 0]:=by kernel_rfl
theorem i7r:a0k E 24=Tryz.f24.body:=by kernel_rfl
theorem i4j:E.prim 24=none:=by kernel_rfl
theorem j3n:a0t E 24=some [.tmp 2,.tmp 3,.tmp 4]:=by kernel_rfl
theorem i7q:a0k E 25=Tryz.f25.body:=by kernel_rfl
theorem i4i:E.prim 25=none:=by kernel_rfl
theorem j3m:a0t E 25=some [.tmp 2,.tmp 3,.tmp 4]:=by kernel_rfl
theorem i7p:a0k E 27=Tryz.f27.body:=by kernel_rfl
theorem i4h:E.prim 27=none:=by kernel_rfl
theorem j3l:a0t E 27=some [.cell 4 75,.tmp 5]:=by kernel_rfl
theorem i7o:a0k E 28=Tryz.f28.body:=by kernel_rfl
theorem i4g:E.prim 28=none:=by kernel_rfl
theorem j3k:a0t E 28=some [.tmp 2]:=by kernel_rfl
theorem i7n:a0k E 31=Tryz.f31.body:=by kernel_rfl
theorem i4f:E.prim 31=none:=by kernel_rfl
theorem j3j:a0t E 31=some [.tmp 4]:=by kernel_rfl
theorem i7m:a0k E 32=Tryz.f32.body:=by kernel_rfl
theorem i4e:E.prim 32=none:=by kernel_rfl
theorem j3i:a0t E 32=some [.tmp 2]:=by kernel_rfl
theorem d5c:a0k E 40=Tryz.f40.body:=by kernel_rfl
theorem d3p:E.prim 40=none:=by kernel_rfl
theorem j3h:a0t E 40=some [.cell 6 25]:=by kernel_rfl
theorem i7l:a0k E 41=Tryz.f41.body:=by kernel_rfl
theorem i4d:E.prim 41=none:=by kernel_rfl
theorem j3g:a0t E 41=some [.tmp 4]:=by kernel_rfl
theorem g0q:a0k E 45=Tryz.f45.body:=by kernel_rfl
theorem f3x:E.prim 45=none:=by kernel_rfl
theorem j3f:a0t E 45=some [.tmp 2,.cell 3 3,.tmp 4]:=by kernel_rfl
theorem g0p:a0k E 48=Tryz.f48.body:=by kernel_rfl
theorem f3w:E.prim 48=none:=by kernel_rfl
theorem j3e:a0t E 48=some [.tmp 2,.tmp 3,.tmp 4]:=by kernel_rfl
theorem i7k:a0k E 57=Tryz.f57.body:=by kernel_rfl
theorem i4c:E.prim 57=none:=by kernel_rfl
theorem j3d:a0t E 57=some [.tmp 4]:=by kernel_rfl
theorem i7j:a0k E 58=Tryz.f58.body:=by kernel_rfl
theorem i4b:E.prim 58=none:=by kernel_rfl
theorem j3c:a0t E 58=some [.tmp 2]:=by kernel_rfl
theorem i7i:a0k E 77=Tryz.f77.body:=by kernel_rfl
theorem i3z:E.prim 77=none:=by kernel_rfl
theorem j3b:a0t E 77=some [.tmp 4]:=by kernel_rfl
theorem i7h:a0k E 78=Tryz.f78.body:=by kernel_rfl
theorem i3y:E.prim 78=none:=by kernel_rfl
theorem j3a:a0t E 78=some [.tmp 2,.tmp 3]:=by kernel_rfl
theorem i7g:a0k E 79=Tryz.f79.body:=by kernel_rfl
theorem i3x:E.prim 79=none:=by kernel_rfl
theorem j2z:a0t E 79=some [.tmp 2,.tmp 3]:=by kernel_rfl
theorem i7f:a0k E 80=Tryz.f80.body:=by kernel_rfl
theorem i3w:E.prim 80=none:=by kernel_rfl
theorem j2y:a0t E 80=some [.tmp 2,.tmp 3]:=by kernel_rfl
theorem g0o:a0k E 82=Tryz.f82.body:=by kernel_rfl
theorem f3v:E.prim 82=none:=by kernel_rfl
theorem j2x:a0t E 82=some [.cell 4 75,.tmp 5]:=by kernel_rfl
theorem i7e:a0k E 84=Tryz.f84.body:=by kernel_rfl
theorem i3u:E.prim 84=none:=by kernel_rfl
theorem j2w:a0t E 84=some [.tmp 2]:=by kernel_rfl
theorem i7d:a0k E 85=Tryz.f85.body:=by kernel_rfl
theorem i3t:E.prim 85=none:=by kernel_rfl
theorem j2v:a0t E 85=some [.tmp 2]:=by kernel_rfl
theorem i7c:a0k E 87=Tryz.f87.body:=by kernel_rfl
theorem i3s:E.prim 87=none:=by kernel_rfl
theorem j2u:a0t E 87=some [.cell 2 25,.tmp 3,.tmp 4]:=by kernel_rfl
theorem i7b:a0k E 88=Tryz.f88.body:=by kernel_rfl
theorem i3r:E.prim 88=none:=by kernel_rfl
theorem j2t:a0t E 88=some [.tmp 2]:=by kernel_rfl
theorem i7a:a0k E 89=Tryz.f89.body:=by kernel_rfl
theorem i3q:E.prim 89=none:=by kernel_rfl
theorem j2s:a0t E 89=some [.tmp 4]:=by kernel_rfl
theorem i6z:a0k E 90=Tryz.f90.body:=by kernel_rfl
theorem i3p:E.prim 90=none:=by kernel_rfl
theorem j2r:a0t E 90=some []:=by kernel_rfl
theorem i6y:a0k E 91=Tryz.f91.body:=by kernel_rfl
theorem i3o:E.prim 91=none:=by kernel_rfl
theorem j2q:a0t E 91=some []:=by kernel_rfl
theorem c3g:a0k E 94=Tryz.f94.body:=by kernel_rfl
theorem c2j:E.prim 94=none:=by kernel_rfl
theorem j2p:a0t E 94=some [.cell 4 38,.tmp 5]:=by kernel_rfl
theorem i6x:a0k E 95=Tryz.f95.body:=by kernel_rfl
theorem i3n:E.prim 95=none:=by kernel_rfl
theorem j2o:a0t E 95=some [.tmp 2]:=by kernel_rfl
theorem i6w:a0k E 98=Tryz.f98.body:=by kernel_rfl
theorem i3m:E.prim 98=none:=by kernel_rfl
theorem j2n:a0t E 98=some [.tmp 4]:=by kernel_rfl
theorem c5w:a0k E 100=Tryz.f100.body:=by kernel_rfl
theorem c5i:E.prim 100=none:=by kernel_rfl
theorem i2z:a0t E 100=some [.cell 6 25]:=by kernel_rfl
theorem c5v:a0k E 101=Tryz.f101.body:=by kernel_rfl
theorem c5h:E.prim 101=none:=by kernel_rfl
theorem i2y:a0t E 101=some [.cell 4 25]:=by kernel_rfl
theorem h3r:a0k E 102=Tryz.f102.body:=by kernel_rfl
theorem g6l:E.prim 102=none:=by kernel_rfl
theorem i2x:a0t E 102=some [.cell 4 25]:=by kernel_rfl
theorem h3q:a0k E 103=Tryz.f103.body:=by kernel_rfl
theorem g6k:E.prim 103=none:=by kernel_rfl
theorem i2w:a0t E 103=some [.tmp 6,.cell 7 25]:=by kernel_rfl
theorem h3p:a0k E 104=Tryz.f104.body:=by kernel_rfl
theorem g6j:E.prim 104=none:=by kernel_rfl
theorem i2v:a0t E 104=some [.tmp 6,.tmp 7]:=by kernel_rfl
theorem h3o:a0k E 108=Tryz.f108.body:=by kernel_rfl
theorem g6i:E.prim 108=none:=by kernel_rfl
theorem i2u:a0t E 108=some [.tmp 2,.tmp 3]:=by kernel_rfl
theorem h3n:a0k E 109=Tryz.f109.body:=by kernel_rfl
theorem g6h:E.prim 109=none:=by kernel_rfl
theorem i2t:a0t E 109=some [.tmp 2,.tmp 3]:=by kernel_rfl
theorem h3m:a0k E 110=Tryz.f110.body:=by kernel_rfl
theorem g6g:E.prim 110=none:=by kernel_rfl
theorem i2s:a0t E 110=some [.tmp 2]:=by kernel_rfl
theorem h3l:a0k E 113=Tryz.f113.body:=by kernel_rfl
theorem g6f:E.prim 113=none:=by kernel_rfl
theorem i2r:a0t E 113=some [.tmp 4,.tmp 5]:=by kernel_rfl
theorem h3k:a0k E 119=Tryz.f119.body:=by kernel_rfl
theorem g6e:E.prim 119=none:=by kernel_rfl
theorem i2q:a0t E 119=some [.tmp 4]:=by kernel_rfl
theorem h3j:a0k E 121=Tryz.f121.body:=by kernel_rfl
theorem g6d:E.prim 121=none:=by kernel_rfl
theorem i2p:a0t E 121=some [.tmp 4]:=by kernel_rfl
theorem h3i:a0k E 122=Tryz.f122.body:=by kernel_rfl
theorem g6c:E.prim 122=none:=by kernel_rfl
theorem i2o:a0t E 122=some [.tmp 2]:=by kernel_rfl
theorem h3h:a0k E 130=Tryz.f130.body:=by kernel_rfl
theorem g6b:E.prim 130=none:=by kernel_rfl
theorem i2n:a0t E 130=some [.tmp 8]:=by kernel_rfl
theorem h3g:a0k E 134=Tryz.f134.body:=by kernel_rfl
theorem g6a:E.prim 134=none:=by kernel_rfl
theorem i2m:a0t E 134=some [.cell 2 91]:=by kernel_rfl
theorem h3f:a0k E 135=Tryz.f135.body:=by kernel_rfl
theorem g5z:E.prim 135=none:=by kernel_rfl
theorem i2l:a0t E 135=some [.tmp 6]:=by kernel_rfl
theorem h3e:a0k E 136=Tryz.f136.body:=by kernel_rfl
theorem g5y:E.prim 136=none:=by kernel_rfl
theorem i2k:a0t E 136=some [.tmp 2]:=by kernel_rfl
theorem c5u:a0k E 137=Tryz.f137.body:=by kernel_rfl
theorem c5g:E.prim 137=none:=by kernel_rfl
theorem i2j:a0t E 137=some [.cell 4 170,.tmp 5]:=by kernel_rfl
theorem h3d:a0k E 138=Tryz.f138.body:=by kernel_rfl
theorem g5x:E.prim 138=none:=by kernel_rfl
theorem i2i:a0t E 138=some [.tmp 8]:=by kernel_rfl
theorem h3c:a0k E 139=Tryz.f139.body:=by kernel_rfl
theorem g5w:E.prim 139=none:=by kernel_rfl
theorem i2h:a0t E 139=some [.tmp 2]:=by kernel_rfl
theorem h3b:a0k E 140=Tryz.f140.body:=by kernel_rfl
theorem g5v:E.prim 140=none:=by kernel_rfl
theorem i2g:a0t E 140=some [.tmp 4,.tmp 5]:=by kernel_rfl
theorem h3a:a0k E 141=Tryz.f141.body:=by kernel_rfl
theorem g5u:E.prim 141=none:=by kernel_rfl
theorem i2f:a0t E 141=some [.tmp 4,.tmp 5]:=by kernel_rfl
theorem h2z:a0k E 142=Tryz.f142.body:=by kernel_rfl
theorem g5t:E.prim 142=none:=by kernel_rfl
theorem i2e:a0t E 142=some [.tmp 4,.tmp 5]:=by kernel_rfl
theorem e5t:a0k E 143=Tryz.f143.body:=by kernel_rfl
theorem e3l:E.prim 143=none:=by kernel_rfl
theorem i2d:a0t E 143=some [.tmp 2,.cell 3 25]:=by kernel_rfl
theorem e5s:a0k E 144=Tryz.f144.body:=by kernel_rfl
theorem e3k:E.prim 144=none:=by kernel_rfl
theorem i2c:a0t E 144=some [.tmp 4]:=by kernel_rfl
theorem h2y:a0k E 145=Tryz.f145.body:=by kernel_rfl
theorem g5s:E.prim 145=none:=by kernel_rfl
theorem i2b:a0t E 145=some [.tmp 2]:=by kernel_rfl
theorem h2x:a0k E 146=Tryz.f146.body:=by kernel_rfl
theorem g5r:E.prim 146=none:=by kernel_rfl
theorem i2a:a0t E 146=some [.cell 6 25]:=by kernel_rfl
theorem e5r:a0k E 151=Tryz.f151.body:=by kernel_rfl
theorem e3j:E.prim 151=none:=by kernel_rfl
theorem i1z:a0t E 151=some [.cell 6 25,.tmp 7]:=by kernel_rfl
theorem h2w:a0k E 153=Tryz.f153.body:=by kernel_rfl
theorem g5q:E.prim 153=none:=by kernel_rfl
theorem i1y:a0t E 153=some [.cell 2 25,.tmp 3]:=by kernel_rfl
theorem h2v:a0k E 154=Tryz.f154.body:=by kernel_rfl
theorem g5p:E.prim 154=none:=by kernel_rfl
theorem i1x:a0t E 154=some [.tmp 3]:=by kernel_rfl
theorem e5q:a0k E 157=Tryz.f157.body:=by kernel_rfl
theorem e3h:E.prim 157=none:=by kernel_rfl
theorem i1w:a0t E 157=some [.cell 4 38,.tmp 5]:=by kernel_rfl
theorem h2u:a0k E 159=Tryz.f159.body:=by kernel_rfl
theorem g5o:E.prim 159=none:=by kernel_rfl
theorem i1v:a0t E 159=some [.cell 4 25]:=by kernel_rfl
theorem h2t:a0k E 160=Tryz.f160.body:=by kernel_rfl
theorem g5n:E.prim 160=none:=by kernel_rfl
theorem i1u:a0t E 160=some [.tmp 8]:=by kernel_rfl
theorem h2s:a0k E 162=Tryz.f162.body:=by kernel_rfl
theorem g5m:E.prim 162=none:=by kernel_rfl
theorem i1t:a0t E 162=some [.tmp 2]:=by kernel_rfl
theorem h2r:a0k E 163=Tryz.f163.body:=by kernel_rfl
theorem g5l:E.prim 163=none:=by kernel_rfl
theorem i1s:a0t E 163=some [.tmp 2]:=by kernel_rfl
theorem h2q:a0k E 164=Tryz.f164.body:=by kernel_rfl
theorem g5k:E.prim 164=none:=by kernel_rfl
theorem i1r:a0t E 164=some [.tmp 4]:=by kernel_rfl
theorem h2p:a0k E 165=Tryz.f165.body:=by kernel_rfl
theorem g5j:E.prim 165=none:=by kernel_rfl
theorem i1q:a0t E 165=some [.tmp 2]:=by kernel_rfl
theorem h2o:a0k E 166=Tryz.f166.body:=by kernel_rfl
theorem g5i:E.prim 166=none:=by kernel_rfl
theorem i1p:a0t E 166=some [.tmp 2]:=by kernel_rfl
theorem h2n:a0k E 167=Tryz.f167.body:=by kernel_rfl
theorem g5h:E.prim 167=none:=by kernel_rfl
theorem i1o:a0t E 167=some [.tmp 2]:=by kernel_rfl
theorem h2m:a0k E 168=Tryz.f168.body:=by kernel_rfl
theorem g5g:E.prim 168=none:=by kernel_rfl
theorem i1n:a0t E 168=some [.tmp 2]:=by kernel_rfl
theorem h2l:a0k E 169=Tryz.f169.body:=by kernel_rfl
theorem g5f:E.prim 169=none:=by kernel_rfl
theorem i1m:a0t E 169=some [.tmp 4]:=by kernel_rfl
theorem h2k:a0k E 173=Tryz.f173.body:=by kernel_rfl
theorem g5d:E.prim 173=none:=by kernel_rfl
theorem i1l:a0t E 173=some [.tmp 2]:=by kernel_rfl
theorem h2j:a0k E 174=Tryz.f174.body:=by kernel_rfl
theorem g5c:E.prim 174=none:=by kernel_rfl
theorem i1k:a0t E 174=some [.tmp 2]:=by kernel_rfl
theorem h2i:a0k E 175=Tryz.f175.body:=by kernel_rfl
theorem g5b:E.prim 175=none:=by kernel_rfl
theorem i1j:a0t E 175=some [.tmp 4]:=by kernel_rfl
theorem h2h:a0k E 187=Tryz.f187.body:=by kernel_rfl
theorem g5a:E.prim 187=none:=by kernel_rfl
theorem i1i:a0t E 187=some [.tmp 6]:=by kernel_rfl
theorem h2g:a0k E 188=Tryz.f188.body:=by kernel_rfl
theorem g4z:E.prim 188=none:=by kernel_rfl
theorem i1h:a0t E 188=some [.tmp 2]:=by kernel_rfl
theorem d5e:a0k E 189=Tryz.f189.body:=by kernel_rfl
theorem d3r:E.prim 189=none:=by kernel_rfl
theorem i1g:a0t E 189=some []:=by kernel_rfl
theorem h2f:a0k E 190=Tryz.f190.body:=by kernel_rfl
theorem g4y:E.prim 190=none:=by kernel_rfl
theorem i1f:a0t E 190=some []:=by kernel_rfl
theorem h2e:a0k E 191=Tryz.f191.body:=by kernel_rfl
theorem g4x:E.prim 191=none:=by kernel_rfl
theorem i1e:a0t E 191=some [.cell 2 25]:=by kernel_rfl
theorem h2d:a0k E 192=Tryz.f192.body:=by kernel_rfl
theorem g4w:E.prim 192=none:=by kernel_rfl
theorem i1d:a0t E 192=some [.cell 2 89]:=by kernel_rfl
theorem h2c:a0k E 193=Tryz.f193.body:=by kernel_rfl
theorem g4v:E.prim 193=none:=by kernel_rfl
theorem i1c:a0t E 193=some [.tmp 6]:=by kernel_rfl
theorem h2b:a0k E 194=Tryz.f194.body:=by kernel_rfl
theorem g4u:E.prim 194=none:=by kernel_rfl
theorem i1b:a0t E 194=some [.tmp 2]:=by kernel_rfl
theorem h2a:a0k E 195=Tryz.f195.body:=by kernel_rfl
theorem g4t:E.prim 195=none:=by kernel_rfl
theorem i1a:a0t E 195=some [.tmp 2]:=by kernel_rfl
theorem h1z:a0k E 196=Tryz.f196.body:=by kernel_rfl
theorem g4s:E.prim 196=none:=by kernel_rfl
theorem i0z:a0t E 196=some [.tmp 4]:=by kernel_rfl
theorem h1y:a0k E 197=Tryz.f197.body:=by kernel_rfl
theorem g4r:E.prim 197=none:=by kernel_rfl
theorem i0y:a0t E 197=some [.tmp 4,.tmp 5]:=by kernel_rfl
theorem e5p:a0k E 198=Tryz.f198.body:=by kernel_rfl
theorem e3g:E.prim 198=none:=by kernel_rfl
theorem i0x:a0t E 198=some [.tmp 8]:=by kernel_rfl
theorem h1x:a0k E 199=Tryz.f199.body:=by kernel_rfl
theorem g4q:E.prim 199=none:=by kernel_rfl
theorem i0w:a0t E 199=some [.cell 4 38,.tmp 5]:=by kernel_rfl
theorem b4d:a0k E 200=Tryz.f200.body:=by kernel_rfl
theorem b3q:E.prim 200=none:=by kernel_rfl
theorem i0v:a0t E 200=some [.cell 4 168,.tmp 5]:=by kernel_rfl
theorem h1w:a0k E 201=Tryz.f201.body:=by kernel_rfl
theorem g4p:E.prim 201=none:=by kernel_rfl
theorem i0u:a0t E 201=some [.tmp 2]:=by kernel_rfl
theorem h1v:a0k E 202=Tryz.f202.body:=by kernel_rfl
theorem g4o:E.prim 202=none:=by kernel_rfl
theorem i0t:a0t E 202=some [.tmp 2]:=by kernel_rfl
theorem h1u:a0k E 203=Tryz.f203.body:=by kernel_rfl
theorem g4n:E.prim 203=none:=by kernel_rfl
theorem i0s:a0t E 203=some [.tmp 4,.tmp 5]:=by kernel_rfl
theorem e5o:a0k E 204=Tryz.f204.body:=by kernel_rfl
theorem e3f:E.prim 204=none:=by kernel_rfl
theorem i0r:a0t E 204=some [.tmp 4]:=by kernel_rfl
theorem h1t:a0k E 205=Tryz.f205.body:=by kernel_rfl
theorem g4m:E.prim 205=none:=by kernel_rfl
theorem i0q:a0t E 205=some [.tmp 3]:=by kernel_rfl
theorem h1s:a0k E 206=Tryz.f206.body:=by kernel_rfl
theorem g4l:E.prim 206=none:=by kernel_rfl
theorem i0p:a0t E 206=some [.tmp 2]:=by kernel_rfl
theorem c5t:a0k E 207=Tryz.f207.body:=by kernel_rfl
theorem c5f:E.prim 207=none:=by kernel_rfl
theorem i0o:a0t E 207=some []:=by kernel_rfl
theorem h1r:a0k E 208=Tryz.f208.body:=by kernel_rfl
theorem g4k:E.prim 208=none:=by kernel_rfl
theorem i0n:a0t E 208=some []:=by kernel_rfl
theorem h1q:a0k E 209=Tryz.f209.body:=by kernel_rfl
theorem g4j:E.prim 209=none:=by kernel_rfl
theorem i0m:a0t E 209=some []:=by kernel_rfl
theorem h1p:a0k E 210=Tryz.f210.body:=by kernel_rfl
theorem g4i:E.prim 210=none:=by kernel_rfl
theorem i0l:a0t E 210=some [.tmp 2]:=by kernel_rfl
theorem h1o:a0k E 211=Tryz.f211.body:=by kernel_rfl
theorem g4h:E.prim 211=none:=by kernel_rfl
theorem i0k:a0t E 211=some [.tmp 2]:=by kernel_rfl
theorem e5n:a0k E 212=Tryz.f212.body:=by kernel_rfl
theorem e3e:E.prim 212=none:=by kernel_rfl
theorem i0j:a0t E 212=some [.tmp 4]:=by kernel_rfl
theorem h1n:a0k E 213=Tryz.f213.body:=by kernel_rfl
theorem g4g:E.prim 213=none:=by kernel_rfl
theorem i0i:a0t E 213=some [.cell 6 25]:=by kernel_rfl
theorem h1m:a0k E 214=Tryz.f214.body:=by kernel_rfl
theorem g4f:E.prim 214=none:=by kernel_rfl
theorem i0h:a0t E 214=some [.cell 4 25]:=by kernel_rfl
theorem h1l:a0k E 215=Tryz.f215.body:=by kernel_rfl
theorem g4e:E.prim 215=none:=by kernel_rfl
theorem i0g:a0t E 215=some [.tmp 6,.tmp 7]:=by kernel_rfl
theorem h1k:a0k E 216=Tryz.f216.body:=by kernel_rfl
theorem g4d:E.prim 216=none:=by kernel_rfl
theorem i0f:a0t E 216=some [.cell 2 25,.tmp 3]:=by kernel_rfl
theorem h1j:a0k E 217=Tryz.f217.body:=by kernel_rfl
theorem g4c:E.prim 217=none:=by kernel_rfl
theorem i0e:a0t E 217=some [.cell 2 25,.tmp 3]:=by kernel_rfl
theorem b2h:a0k E 219=Tryz.f219.body:=by kernel_rfl
theorem b1z:E.prim 219=none:=by kernel_rfl
theorem i0d:a0t E 219=some [.cell 4 38,.tmp 5]:=by kernel_rfl
theorem h1i:a0k E 220=Tryz.f220.body:=by kernel_rfl
theorem g4b:E.prim 220=none:=by kernel_rfl
theorem i0c:a0t E 220=some [.tmp 8]:=by kernel_rfl
theorem h1h:a0k E 222=Tryz.f222.body:=by kernel_rfl
theorem g3z:E.prim 222=none:=by kernel_rfl
theorem i0b:a0t E 222=some [.tmp 4]:=by kernel_rfl
theorem h1g:a0k E 230=Tryz.f230.body:=by kernel_rfl
theorem g3x:E.prim 230=none:=by kernel_rfl
theorem i0a:a0t E 230=some [.cell 2 89]:=by kernel_rfl
theorem h1f:a0k E 231=Tryz.f231.body:=by kernel_rfl
theorem g3w:E.prim 231=none:=by kernel_rfl
theorem h9z:a0t E 231=some []:=by kernel_rfl
theorem h1e:a0k E 232=Tryz.f232.body:=by kernel_rfl
theorem g3v:E.prim 232=none:=by kernel_rfl
theorem h9y:a0t E 232=some [.cell 2 89]:=by kernel_rfl
theorem h1d:a0k E 233=Tryz.f233.body:=by kernel_rfl
theorem g3u:E.prim 233=none:=by kernel_rfl
theorem h9x:a0t E 233=some [.tmp 2]:=by kernel_rfl
theorem b7s:a0k E 234=Tryz.f234.body:=by kernel_rfl
theorem b7d:E.prim 234=none:=by kernel_rfl
theorem h9w:a0t E 234=some [.cell 4 168,.tmp 5]:=by kernel_rfl
theorem h1c:a0k E 235=Tryz.f235.body:=by kernel_rfl
theorem g3t:E.prim 235=none:=by kernel_rfl
theorem h9v:a0t E 235=some [.tmp 2]:=by kernel_rfl
theorem h0z:a0k E 236=Tryz.f236.body:=by kernel_rfl
theorem g3s:E.prim 236=none:=by kernel_rfl
theorem h9u:a0t E 236=some []:=by kernel_rfl
theorem h0y:a0k E 237=Tryz.f237.body:=by kernel_rfl
theorem g3r:E.prim 237=none:=by kernel_rfl
theorem h9t:a0t E 237=some []:=by kernel_rfl
theorem h0x:a0k E 238=Tryz.f238.body:=by kernel_rfl
theorem g3q:E.prim 238=none:=by kernel_rfl
theorem h9s:a0t E 238=some []:=by kernel_rfl
theorem h0w:a0k E 239=Tryz.f239.body:=by kernel_rfl
theorem g3p:E.prim 239=none:=by kernel_rfl
theorem h9r:a0t E 239=some [.tmp 4]:=by kernel_rfl
theorem h0v:a0k E 240=Tryz.f240.body:=by kernel_rfl
theorem g3o:E.prim 240=none:=by kernel_rfl
theorem h9q:a0t E 240=some []:=by kernel_rfl
theorem h0u:a0k E 241=Tryz.f241.body:=by kernel_rfl
theorem g3n:E.prim 241=none:=by kernel_rfl
theorem h9p:a0t E 241=some []:=by kernel_rfl
theorem h0t:a0k E 242=Tryz.f242.body:=by kernel_rfl
theorem g3m:E.prim 242=none:=by kernel_rfl
theorem h9o:a0t E 242=some []:=by kernel_rfl
theorem h0s:a0k E 243=Tryz.f243.body:=by kernel_rfl
theorem g3l:E.prim 243=none:=by kernel_rfl
theorem h9n:a0t E 243=some []:=by kernel_rfl
theorem d5d:a0k E 244=Tryz.f244.body:=by kernel_rfl
theorem d3q:E.prim 244=none:=by kernel_rfl
theorem h9m:a0t E 244=some [.cell 8 25]:=by kernel_rfl
theorem h0r:a0k E 245=Tryz.f245.body:=by kernel_rfl
theorem g3k:E.prim 245=none:=by kernel_rfl
theorem h9l:a0t E 245=some [.tmp 3]:=by kernel_rfl
theorem h0q:a0k E 246=Tryz.f246.body:=by kernel_rfl
theorem g3j:E.prim 246=none:=by kernel_rfl
theorem h9k:a0t E 246=some [.tmp 6]:=by kernel_rfl
theorem h0p:a0k E 247=Tryz.f247.body:=by kernel_rfl
theorem g3i:E.prim 247=none:=by kernel_rfl
theorem h9j:a0t E 247=some [.cell 2 25,.tmp 3]:=by kernel_rfl
theorem h0o:a0k E 248=Tryz.f248.body:=by kernel_rfl
theorem g3h:E.prim 248=none:=by kernel_rfl
theorem h9i:a0t E 248=some [.tmp 2]:=by kernel_rfl
theorem e5m:a0k E 249=Tryz.f249.body:=by kernel_rfl
theorem e3d:E.prim 249=none:=by kernel_rfl
theorem h9h:a0t E 249=some [.tmp 4]:=by kernel_rfl
theorem h0n:a0k E 250=Tryz.f250.body:=by kernel_rfl
theorem g3g:E.prim 250=none:=by kernel_rfl
theorem h9g:a0t E 250=some [.tmp 3]:=by kernel_rfl
theorem h0m:a0k E 251=Tryz.f251.body:=by kernel_rfl
theorem g3f:E.prim 251=none:=by kernel_rfl
theorem h9f:a0t E 251=some [.tmp 4]:=by kernel_rfl
theorem h0l:a0k E 252=Tryz.f252.body:=by kernel_rfl
theorem g3e:E.prim 252=none:=by kernel_rfl
theorem h9e:a0t E 252=some [.tmp 4]:=by kernel_rfl
theorem h0k:a0k E 253=Tryz.f253.body:=by kernel_rfl
theorem g3d:E.prim 253=none:=by kernel_rfl
theorem h9d:a0t E 253=some [.tmp 3]:=by kernel_rfl
theorem h0j:a0k E 261=Tryz.f261.body:=by kernel_rfl
theorem g3c:E.prim 261=none:=by kernel_rfl
theorem h9c:a0t E 261=some [.cell 5 25]:=by kernel_rfl
theorem h0i:a0k E 262=Tryz.f262.body:=by kernel_rfl
theorem g3b:E.prim 262=none:=by kernel_rfl
theorem h9b:a0t E 262=some [.tmp 4]:=by kernel_rfl
theorem h0h:a0k E 263=Tryz.f263.body:=by kernel_rfl
theorem g3a:E.prim 263=none:=by kernel_rfl
theorem h9a:a0t E 263=some [.tmp 3]:=by kernel_rfl
theorem h0g:a0k E 264=Tryz.f264.body:=by kernel_rfl
theorem g2z:E.prim 264=none:=by kernel_rfl
theorem h8z:a0t E 264=some [.tmp 3]:=by kernel_rfl
theorem i4a:E.prim 61=some e0n:=by kernel_rfl
theorem e3m:E.prim 120=some d7s:=by kernel_rfl
theorem g3y:E.prim 229=some e1i:=by kernel_rfl
theorem g5e:E.prim 170=some a9n:=by kernel_rfl
theorem e3i:E.prim 155=some c4d:=by kernel_rfl
theorem i3l:E.prim 99=some b4a:=by kernel_rfl
theorem i3v:E.prim 81=some c7t:=by kernel_rfl
theorem g4a:E.prim 221=some b4b:=by kernel_rfl
theorem f8s:E.drw 231 3=none:=by kernel_rfl
theorem ts3:a1d E.P 3=1:=by kernel_rfl
theorem ts4:a1d E.P 4=1:=by kernel_rfl
theorem ts5:a1d E.P 5=1:=by kernel_rfl
theorem ts9:a1d E.P 9=1:=by kernel_rfl
theorem ts23:a1d E.P 23=1:=by kernel_rfl
theorem ts25:a1d E.P 25=4:=by kernel_rfl
theorem ts36:a1d E.P 36=1:=by kernel_rfl
theorem ts38:a1d E.P 38=4:=by kernel_rfl
theorem ts49:a1d E.P 49=1:=by kernel_rfl
theorem ts67:a1d E.P 67=1:=by kernel_rfl
theorem ts73:a1d E.P 73=1:=by kernel_rfl
theorem ts75:a1d E.P 75=11:=by kernel_rfl
theorem ts85:a1d E.P 85=1:=by kernel_rfl
theorem ts86:a1d E.P 86=1:=by kernel_rfl
theorem ts87:a1d E.P 87=1:=by kernel_rfl
theorem ts89:a1d E.P 89=9:=by kernel_rfl
theorem ts91:a1d E.P 91=17:=by kernel_rfl
theorem ts94:a1d E.P 94=5:=by kernel_rfl
theorem j7z:a1d E.P 110=9:=by kernel_rfl
theorem j7y:a1d E.P 117=1:=by kernel_rfl
theorem j7x:a1d E.P 159=1:=by kernel_rfl
theorem j7w:a1d E.P 161=1:=by kernel_rfl
theorem j7v:a1d E.P 164=1:=by kernel_rfl
theorem j7u:a1d E.P 165=1:=by kernel_rfl
theorem j7t:a1d E.P 166=1:=by kernel_rfl
theorem j7s:a1d E.P 168=9:=by kernel_rfl
theorem j7r:a1d E.P 170=17:=by kernel_rfl
theorem j7q:a1d E.P 172=5:=by kernel_rfl
theorem j7p:a1d E.P 180=1:=by kernel_rfl
theorem j7o:a1d E.P 182=1:=by kernel_rfl
theorem j7n:a1d E.P 206=3:=by kernel_rfl
theorem j7m:a1d E.P 229=1:=by kernel_rfl
theorem j7l:a1d E.P 231=2:=by kernel_rfl
theorem j7k:a1d E.P 237=4:=by kernel_rfl
theorem j7j:a1d E.P 256=1:=by kernel_rfl
theorem j7i:a1d E.P 264=1:=by kernel_rfl
theorem j7h:a1d E.P 266=2:=by kernel_rfl
theorem j7g:a1d E.P 268=5:=by kernel_rfl
theorem j7f:a1d E.P 278=2:=by kernel_rfl
theorem j7e:a1d E.P 291=11:=by kernel_rfl
theorem j7d:a1d E.P 297=1:=by kernel_rfl
theorem j7c:a1d E.P 300=2:=by kernel_rfl
theorem j7b:a1d E.P 309=2:=by kernel_rfl
theorem j7a:a1d E.P 312=11:=by kernel_rfl
theorem j6z:a1d E.P 315=2:=by kernel_rfl
theorem i5r:E.gift 25=none:=by kernel_rfl
theorem j4d:E.nbx 25=true:=by kernel_rfl
theorem i5q:E.gift 81=none:=by kernel_rfl
theorem j4c:E.nbx 81=true:=by kernel_rfl
theorem tsM:a1d E.P 1099511627777=0:=by kernel_rfl
theorem g6y:∀n,E.mkm 182 n (some 5)=false:=fun _=>by kernel_rfl
theorem f4w:∀n,E.mkm 182 n (some 10)=true:=fun _=>by kernel_rfl
theorem f4v:∀n,E.mkm 182 n (some 30)=false:=fun _=>by kernel_rfl
theorem f4u:∀n,E.mkm 244 n (some 67)=true:=fun _=>by kernel_rfl
theorem f4t:∀n,E.mkm 264 n (some 15)=false:=fun _=>by kernel_rfl
theorem j0g:f1k E.P 159=some (9,3):=by kernel_rfl
theorem j0f:f1k E.P 161=some (9,75):=by kernel_rfl
theorem j0e:f1k E.P 182=some (9,4):=by kernel_rfl
theorem j0d:f1k E.P 244=some (9,9):=by kernel_rfl
theorem j0c:f1k E.P 264=some (9,25):=by kernel_rfl
theorem tzv3:d9j E 3=some (.int .i64 0):=by kernel_rfl
theorem tzv4:d9j E 4=some (.bool false):=by kernel_rfl
theorem tzv9:d9j E 9=some (.str []):=by kernel_rfl
theorem j5r:d9j E 25=some (.agg [.int .i64 0,.str [],.int .i64 0,.slice []]):=by kernel_rfl
theorem j5q:d9j E 75=some (.agg [.str [],.str [],.int .i64 0,.int .i64 0,.str [],.int .i64 0,.slice [],.slice [],.slice [],.slice [],.slice []]):=by kernel_rfl
theorem tg3:b2v E.P 3=some false:=by kernel_rfl
theorem tg4:b2v E.P 4=some false:=by kernel_rfl
theorem tg9:b2v E.P 9=some false:=by kernel_rfl
theorem tg23:b2v E.P 23=some false:=by kernel_rfl
theorem tg25:b2v E.P 25=some true:=by kernel_rfl
theorem tg36:b2v E.P 36=some false:=by kernel_rfl
theorem tg38:b2v E.P 38=some true:=by kernel_rfl
theorem tg49:b2v E.P 49=some false:=by kernel_rfl
theorem tg67:b2v E.P 67=some false:=by kernel_rfl
theorem tg73:b2v E.P 73=some false:=by kernel_rfl
theorem tg75:b2v E.P 75=some true:=by kernel_rfl
theorem tg85:b2v E.P 85=some false:=by kernel_rfl
theorem tg86:b2v E.P 86=some false:=by kernel_rfl
theorem tg87:b2v E.P 87=some false:=by kernel_rfl
theorem tg89:b2v E.P 89=some true:=by kernel_rfl
theorem tg91:b2v E.P 91=some true:=by kernel_rfl
theorem tg94:b2v E.P 94=some true:=by kernel_rfl
theorem j9c:b2v E.P 117=some false:=by kernel_rfl
theorem j9b:b2v E.P 159=some false:=by kernel_rfl
theorem j9a:b2v E.P 161=some false:=by kernel_rfl
theorem j8z:b2v E.P 164=some false:=by kernel_rfl
theorem j8y:b2v E.P 165=some false:=by kernel_rfl
theorem j8x:b2v E.P 166=some false:=by kernel_rfl
theorem j8w:b2v E.P 168=some true:=by kernel_rfl
theorem j8v:b2v E.P 170=some true:=by kernel_rfl
theorem j8u:b2v E.P 172=some true:=by kernel_rfl
theorem j8t:b2v E.P 180=some false:=by kernel_rfl
theorem j8s:b2v E.P 182=some false:=by kernel_rfl
theorem j8r:b2v E.P 229=some false:=by kernel_rfl
theorem j8q:b2v E.P 264=some false:=by kernel_rfl
theorem j8p:b2v E.P 291=some true:=by kernel_rfl
theorem j8o:b2v E.P 297=some false:=by kernel_rfl
theorem j8n:b2v E.P 300=some true:=by kernel_rfl
theorem j8m:b2v E.P 312=some true:=by kernel_rfl
theorem te1:a1g E.P 1=none:=by kernel_rfl
theorem te3:a1g E.P 3=none:=by kernel_rfl
theorem te4:a1g E.P 4=none:=by kernel_rfl
theorem te5:a1g E.P 5=none:=by kernel_rfl
theorem te9:a1g E.P 9=none:=by kernel_rfl
theorem te23:a1g E.P 23=some 25:=by kernel_rfl
theorem te25:a1g E.P 25=none:=by kernel_rfl
theorem te33:a1g E.P 33=none:=by kernel_rfl
theorem te36:a1g E.P 36=some 38:=by kernel_rfl
theorem te38:a1g E.P 38=none:=by kernel_rfl
theorem te49:a1g E.P 49=some 9:=by kernel_rfl
theorem te63:a1g E.P 63=some 91:=by kernel_rfl
theorem te64:a1g E.P 64=some 170:=by kernel_rfl
theorem te65:a1g E.P 65=none:=by kernel_rfl
theorem te67:a1g E.P 67=none:=by kernel_rfl
theorem te68:a1g E.P 68=none:=by kernel_rfl
theorem te73:a1g E.P 73=some 110:=by kernel_rfl
theorem te75:a1g E.P 75=none:=by kernel_rfl
theorem te76:a1g E.P 76=none:=by kernel_rfl
theorem te82:a1g E.P 82=none:=by kernel_rfl
theorem te85:a1g E.P 85=some 94:=by kernel_rfl
theorem te86:a1g E.P 86=some 89:=by kernel_rfl
theorem te87:a1g E.P 87=some 291:=by kernel_rfl
theorem te89:a1g E.P 89=none:=by kernel_rfl
theorem te91:a1g E.P 91=none:=by kernel_rfl
theorem te94:a1g E.P 94=none:=by kernel_rfl
theorem te96:a1g E.P 96=some 3:=by kernel_rfl
theorem k1e:a1g E.P 101=none:=by kernel_rfl
theorem k1d:a1g E.P 117=some 206:=by kernel_rfl
theorem k1c:a1g E.P 118=none:=by kernel_rfl
theorem k1b:a1g E.P 141=none:=by kernel_rfl
theorem k1a:a1g E.P 142=none:=by kernel_rfl
theorem k0z:a1g E.P 146=none:=by kernel_rfl
theorem k0y:a1g E.P 151=none:=by kernel_rfl
theorem k0x:a1g E.P 153=none:=by kernel_rfl
theorem k0w:a1g E.P 155=none:=by kernel_rfl
theorem k0v:a1g E.P 164=some 172:=by kernel_rfl
theorem k0u:a1g E.P 165=some 168:=by kernel_rfl
theorem k0t:a1g E.P 166=some 312:=by kernel_rfl
theorem k0s:a1g E.P 168=none:=by kernel_rfl
theorem k0r:a1g E.P 170=none:=by kernel_rfl
theorem k0q:a1g E.P 172=none:=by kernel_rfl
theorem k0p:a1g E.P 177=none:=by kernel_rfl
theorem k0o:a1g E.P 180=none:=by kernel_rfl
theorem k0n:a1g E.P 182=none:=by kernel_rfl
theorem k0m:a1g E.P 183=none:=by kernel_rfl
theorem k0l:a1g E.P 185=none:=by kernel_rfl
theorem k0k:a1g E.P 193=none:=by kernel_rfl
theorem k0j:a1g E.P 195=some 268:=by kernel_rfl
theorem k0i:a1g E.P 196=none:=by kernel_rfl
theorem k0h:a1g E.P 215=some 5:=by kernel_rfl
theorem k0g:a1g E.P 220=none:=by kernel_rfl
theorem k0f:a1g E.P 221=none:=by kernel_rfl
theorem k0e:a1g E.P 229=none:=by kernel_rfl
theorem k0d:a1g E.P 233=none:=by kernel_rfl
theorem k0c:a1g E.P 238=none:=by kernel_rfl
theorem k0b:a1g E.P 244=none:=by kernel_rfl
theorem k0a:a1g E.P 249=none:=by kernel_rfl
theorem j9z:a1g E.P 254=none:=by kernel_rfl
theorem j9y:a1g E.P 257=none:=by kernel_rfl
theorem j9x:a1g E.P 261=some 49:=by kernel_rfl
theorem j9w:a1g E.P 263=none:=by kernel_rfl
theorem j9v:a1g E.P 270=none:=by kernel_rfl
theorem j9u:a1g E.P 276=none:=by kernel_rfl
theorem j9t:a1g E.P 281=none:=by kernel_rfl
theorem j9s:a1g E.P 283=none:=by kernel_rfl
theorem j9r:a1g E.P 285=none:=by kernel_rfl
theorem j9q:a1g E.P 289=none:=by kernel_rfl
theorem j9p:a1g E.P 291=none:=by kernel_rfl
theorem j9o:a1g E.P 292=none:=by kernel_rfl
theorem j9n:a1g E.P 297=some 300:=by kernel_rfl
theorem j9m:a1g E.P 307=none:=by kernel_rfl
theorem j9l:a1g E.P 312=none:=by kernel_rfl
theorem j9k:a1g E.P 320=none:=by kernel_rfl
theorem j9j:a1g E.P 329=none:=by kernel_rfl
theorem j1v:a1j E.P 25 0=some (0,1):=by kernel_rfl
theorem j1u:a1j E.P 25 1=some (1,1):=by kernel_rfl
theorem j1t:a1j E.P 25 2=some (2,1):=by kernel_rfl
theorem j1s:a1j E.P 25 3=some (3,1):=by kernel_rfl
theorem j1r:a1j E.P 38 3=some (3,1):=by kernel_rfl
theorem j1q:a1j E.P 75 0=some (0,1):=by kernel_rfl
theorem j1p:a1j E.P 75 1=some (1,1):=by kernel_rfl
theorem j1o:a1j E.P 75 2=some (2,1):=by kernel_rfl
theorem j1n:a1j E.P 75 3=some (3,4):=by kernel_rfl
theorem j1m:a1j E.P 75 4=some (7,1):=by kernel_rfl
theorem j1l:a1j E.P 75 5=some (8,1):=by kernel_rfl
theorem j1k:a1j E.P 75 6=some (9,1):=by kernel_rfl
theorem j1j:a1j E.P 75 7=some (10,1):=by kernel_rfl
theorem j1i:a1j E.P 89 0=some (0,1):=by kernel_rfl
theorem j1h:a1j E.P 89 1=some (1,1):=by kernel_rfl
theorem j1g:a1j E.P 89 2=some (2,1):=by kernel_rfl
theorem j1f:a1j E.P 89 3=some (3,4):=by kernel_rfl
theorem j1e:a1j E.P 89 4=some (7,1):=by kernel_rfl
theorem j1d:a1j E.P 89 5=some (8,1):=by kernel_rfl
theorem j1c:a1j E.P 91 0=some (0,1):=by kernel_rfl
theorem j1b:a1j E.P 91 1=some (1,1):=by kernel_rfl
theorem j1a:a1j E.P 91 2=some (2,1):=by kernel_rfl
theorem j0z:a1j E.P 91 3=some (3,1):=by kernel_rfl
theorem j0y:a1j E.P 91 4=some (4,4):=by kernel_rfl
theorem j0x:a1j E.P 91 5=some (8,9):=by kernel_rfl
theorem j0w:a1j E.P 94 0=some (0,1):=by kernel_rfl
theorem j0v:a1j E.P 94 1=some (1,4):=by kernel_rfl
theorem h8o:a1j E.P 110 0=some (0,1):=by kernel_rfl
theorem h8n:a1j E.P 110 1=some (1,4):=by kernel_rfl
theorem h8m:a1j E.P 110 2=some (5,4):=by kernel_rfl
theorem h8l:a1j E.P 163 0=some (0,1):=by kernel_rfl
theorem h8k:a1j E.P 163 2=some (2,1):=by kernel_rfl
theorem h8j:a1j E.P 168 0=some (0,1):=by kernel_rfl
theorem h8i:a1j E.P 168 2=some (2,1):=by kernel_rfl
theorem h8h:a1j E.P 168 3=some (3,4):=by kernel_rfl
theorem h8g:a1j E.P 168 4=some (7,1):=by kernel_rfl
theorem h8f:a1j E.P 168 5=some (8,1):=by kernel_rfl
theorem h8e:a1j E.P 170 2=some (2,1):=by kernel_rfl
theorem h8d:a1j E.P 170 3=some (3,1):=by kernel_rfl
theorem h8c:a1j E.P 170 4=some (4,4):=by kernel_rfl
theorem h8b:a1j E.P 170 5=some (8,9):=by kernel_rfl
theorem h8a:a1j E.P 172 1=some (1,4):=by kernel_rfl
theorem h7z:a1j E.P 206 0=some (0,1):=by kernel_rfl
theorem h7y:a1j E.P 206 1=some (1,1):=by kernel_rfl
theorem h7x:a1j E.P 231 0=some (0,1):=by kernel_rfl
theorem h7w:a1j E.P 231 1=some (1,1):=by kernel_rfl
theorem h7v:a1j E.P 237 0=some (0,1):=by kernel_rfl
theorem h7u:a1j E.P 237 1=some (1,1):=by kernel_rfl
theorem h7t:a1j E.P 237 2=some (2,1):=by kernel_rfl
theorem h7s:a1j E.P 237 3=some (3,1):=by kernel_rfl
theorem h7r:a1j E.P 256 0=some (0,1):=by kernel_rfl
theorem h7q:a1j E.P 266 0=some (0,1):=by kernel_rfl
theorem h7p:a1j E.P 266 1=some (1,1):=by kernel_rfl
theorem h7o:a1j E.P 278 0=some (0,1):=by kernel_rfl
theorem h7n:a1j E.P 278 1=some (1,1):=by kernel_rfl
theorem h7m:a1j E.P 291 0=some (0,1):=by kernel_rfl
theorem h7l:a1j E.P 291 1=some (1,1):=by kernel_rfl
theorem h7k:a1j E.P 291 2=some (2,9):=by kernel_rfl
theorem h7j:a1j E.P 300 0=some (0,1):=by kernel_rfl
theorem h7i:a1j E.P 300 1=some (1,1):=by kernel_rfl
theorem h7h:a1j E.P 309 0=some (0,1):=by kernel_rfl
theorem h7g:a1j E.P 309 1=some (1,1):=by kernel_rfl
theorem h7f:a1j E.P 312 1=some (1,1):=by kernel_rfl
theorem h7e:a1j E.P 312 2=some (2,9):=by kernel_rfl
theorem h7d:a1j E.P 315 0=some (0,1):=by kernel_rfl
theorem h7c:a1j E.P 315 1=some (1,1):=by kernel_rfl
theorem j0b:a1x E.P 25 0=some (0,1):=by kernel_rfl
theorem j0a:a1x E.P 25 1=some (1,1):=by kernel_rfl
theorem i9z:a1x E.P 25 2=some (2,1):=by kernel_rfl
theorem i9y:a1x E.P 25 3=some (3,1):=by kernel_rfl
theorem i9x:a1x E.P 38 0=some (0,1):=by kernel_rfl
theorem i9w:a1x E.P 38 1=some (1,1):=by kernel_rfl
theorem i9v:a1x E.P 38 2=some (2,1):=by kernel_rfl
theorem i9u:a1x E.P 38 3=some (3,1):=by kernel_rfl
theorem i9t:a1x E.P 75 0=some (0,1):=by kernel_rfl
theorem i9s:a1x E.P 75 1=some (1,1):=by kernel_rfl
theorem i9r:a1x E.P 75 3=some (3,4):=by kernel_rfl
theorem i9q:a1x E.P 89 0=some (0,1):=by kernel_rfl
theorem i9p:a1x E.P 89 1=some (1,1):=by kernel_rfl
theorem i9o:a1x E.P 89 3=some (3,4):=by kernel_rfl
theorem i9n:a1x E.P 89 4=some (7,1):=by kernel_rfl
theorem i9m:a1x E.P 89 5=some (8,1):=by kernel_rfl
theorem i9l:a1x E.P 91 0=some (0,1):=by kernel_rfl
theorem i9k:a1x E.P 91 1=some (1,1):=by kernel_rfl
theorem i9j:a1x E.P 91 2=some (2,1):=by kernel_rfl
theorem i9i:a1x E.P 94 0=some (0,1):=by kernel_rfl
theorem h7a:a1x E.P 110 0=some (0,1):=by kernel_rfl
theorem h6z:a1x E.P 110 1=some (1,4):=by kernel_rfl
theorem h6y:a1x E.P 110 2=some (5,4):=by kernel_rfl
theorem h6x:a1x E.P 168 0=some (0,1):=by kernel_rfl
theorem h6w:a1x E.P 168 1=some (1,1):=by kernel_rfl
theorem h6v:a1x E.P 168 4=some (7,1):=by kernel_rfl
theorem h6u:a1x E.P 170 0=some (0,1):=by kernel_rfl
theorem h6t:a1x E.P 170 1=some (1,1):=by kernel_rfl
theorem h6s:a1x E.P 170 4=some (4,4):=by kernel_rfl
theorem h6r:a1x E.P 170 5=some (8,9):=by kernel_rfl
theorem h6q:a1x E.P 172 0=some (0,1):=by kernel_rfl
theorem h6p:a1x E.P 206 0=some (0,1):=by kernel_rfl
theorem h6o:a1x E.P 206 1=some (1,1):=by kernel_rfl
theorem h6n:a1x E.P 206 2=some (2,1):=by kernel_rfl
theorem h6m:a1x E.P 231 0=some (0,1):=by kernel_rfl
theorem h6l:a1x E.P 256 0=some (0,1):=by kernel_rfl
theorem h6k:a1x E.P 266 0=some (0,1):=by kernel_rfl
theorem h6j:a1x E.P 266 1=some (1,1):=by kernel_rfl
theorem h6i:a1x E.P 268 0=some (0,1):=by kernel_rfl
theorem h6h:a1x E.P 268 1=some (1,4):=by kernel_rfl
theorem h6g:a1x E.P 278 0=some (0,1):=by kernel_rfl
theorem h6f:a1x E.P 291 0=some (0,1):=by kernel_rfl
theorem h6e:a1x E.P 291 1=some (1,1):=by kernel_rfl
theorem h6d:a1x E.P 300 0=some (0,1):=by kernel_rfl
theorem h6c:a1x E.P 300 1=some (1,1):=by kernel_rfl
theorem h6b:a1x E.P 309 0=some (0,1):=by kernel_rfl
theorem h6a:a1x E.P 312 0=some (0,1):=by kernel_rfl
theorem tz3:a6u E.P 3=some [.int .i64 0]:=by kernel_rfl
theorem tz4:a6u E.P 4=some [.bool false]:=by kernel_rfl
theorem tz9:a6u E.P 9=some [.str []]:=by kernel_rfl
theorem tz25:a6u E.P 25=some [.int .i64 0,.str [],.int .i64 0,.own 25 0 []]:=by kernel_rfl
theorem tz38:a6u E.P 38=some [.int .i64 0,.str [],.int .i64 0,.own 38 0 []]:=by kernel_rfl
theorem tz49:a6u E.P 49=some [.own 9 0 []]:=by kernel_rfl
theorem tz75:a6u E.P 75=some [.str [],.str [],.int .i64 0,.int .i64 0,.str [],.int .i64 0,.own 25 0 [],.own 9 0 [],.own 9 0 [],.own 110 0 [],.own 25 0 []]:=by kernel_rfl
theorem tz89:a6u E.P 89=some [.int .i64 0,.str [],.bool false,.int .i64 0,.str [],.int .i64 0,.own 25 0 [],.own 89 0 [],.own 291 0 []]:=by kernel_rfl
theorem tz91:a6u E.P 91=some [.int .i64 0,.str [],.own 9 0 [],.own 94 0 [],.int .i64 0,.str [],.int .i64 0,.own 25 0 [],.int .i64 0,.str [],.bool false,.int .i64 0,.str [],.int .i64 0,.own 25 0 [],.own 89 0 [],.own 291 0 []]:=by kernel_rfl
theorem tz94:a6u E.P 94=some [.str [],.int .i64 0,.str [],.int .i64 0,.own 25 0 []]:=by kernel_rfl
theorem j6n:a6u E.P 110=some [.str [],.int .i64 0,.str [],.int .i64 0,.own 25 0 [],.int .i64 0,.str [],.int .i64 0,.own 25 0 []]:=by kernel_rfl
theorem j6m:a6u E.P 168=some [.int .i64 0,.str [],.bool false,.int .i64 0,.str [],.int .i64 0,.own 38 0 [],.own 168 0 [],.own 312 0 []]:=by kernel_rfl
theorem j6l:a6u E.P 170=some [.int .i64 0,.str [],.own 9 0 [],.own 172 0 [],.int .i64 0,.str [],.int .i64 0,.own 38 0 [],.int .i64 0,.str [],.bool false,.int .i64 0,.str [],.int .i64 0,.own 38 0 [],.own 168 0 [],.own 312 0 []]:=by kernel_rfl
theorem j6k:a6u E.P 172=some [.str [],.int .i64 0,.str [],.int .i64 0,.own 38 0 []]:=by kernel_rfl
theorem j6j:a6u E.P 206=some [.int .i64 0,.str [],.int .i64 0]:=by kernel_rfl
theorem j6i:a6u E.P 231=some [.own 206 0 [],.bool false]:=by kernel_rfl
theorem j6h:a6u E.P 237=some [.own 9 0 [],.own 9 0 [],.own 9 0 [],.own 9 0 []]:=by kernel_rfl
theorem j6g:a6u E.P 256=some [.own 206 0 []]:=by kernel_rfl
theorem j6f:a6u E.P 266=some [.own 9 0 [],.nilm]:=by kernel_rfl
theorem j6e:a6u E.P 268=some [.str [],.int .i64 0,.str [],.int .i64 0,.own 25 0 []]:=by kernel_rfl
theorem j6d:a6u E.P 278=some [.nilp,.own 94 0 []]:=by kernel_rfl
theorem j6c:a6u E.P 291=some [.str [],.own 9 0 [],.int .i64 0,.str [],.bool false,.int .i64 0,.str [],.int .i64 0,.own 25 0 [],.own 89 0 [],.own 291 0 []]:=by kernel_rfl
theorem j6b:a6u E.P 300=some [.str [],.str []]:=by kernel_rfl
theorem j6a:a6u E.P 309=some [.nilp,.own 291 0 []]:=by kernel_rfl
theorem j5z:a6u E.P 312=some [.str [],.own 9 0 [],.int .i64 0,.str [],.bool false,.int .i64 0,.str [],.int .i64 0,.own 38 0 [],.own 168 0 [],.own 312 0 []]:=by kernel_rfl
theorem j5y:a6u E.P 315=some [.own 9 0 [],.nilm]:=by kernel_rfl
theorem ti3:c4h E.P 3=some .i64:=by kernel_rfl
theorem ti5:c4h E.P 5=some .u8:=by kernel_rfl
theorem ti9:c4h E.P 9=none:=by kernel_rfl
theorem ti25:c4h E.P 25=none:=by kernel_rfl
theorem ti38:c4h E.P 38=none:=by kernel_rfl
theorem ti89:c4h E.P 89=none:=by kernel_rfl
theorem ti91:c4h E.P 91=none:=by kernel_rfl
theorem ti94:c4h E.P 94=none:=by kernel_rfl
theorem j8l:c4h E.P 110=none:=by kernel_rfl
theorem j8k:c4h E.P 168=none:=by kernel_rfl
theorem j8j:c4h E.P 170=none:=by kernel_rfl
theorem j8i:c4h E.P 172=none:=by kernel_rfl
theorem j8h:c4h E.P 206=none:=by kernel_rfl
theorem j8g:c4h E.P 215=none:=by kernel_rfl
theorem j8f:c4h E.P 268=none:=by kernel_rfl
theorem j8e:c4h E.P 291=none:=by kernel_rfl
theorem j8d:c4h E.P 300=none:=by kernel_rfl
theorem j8c:c4h E.P 312=none:=by kernel_rfl
theorem tst3:a3l E.P 3=false:=by kernel_rfl
theorem tst5:a3l E.P 5=false:=by kernel_rfl
theorem tst9:a3l E.P 9=true:=by kernel_rfl
theorem j6y:a3l E.P 23=false:=by kernel_rfl
theorem j6x:a3l E.P 36=false:=by kernel_rfl
theorem j6w:a3l E.P 49=false:=by kernel_rfl
theorem j6v:a3l E.P 63=false:=by kernel_rfl
theorem j6u:a3l E.P 64=false:=by kernel_rfl
theorem j6t:a3l E.P 73=false:=by kernel_rfl
theorem j6s:a3l E.P 85=false:=by kernel_rfl
theorem j6r:a3l E.P 86=false:=by kernel_rfl
theorem j6q:a3l E.P 87=false:=by kernel_rfl
theorem j6p:a3l E.P 96=false:=by kernel_rfl
theorem i9g:a3l E.P 117=false:=by kernel_rfl
theorem i9f:a3l E.P 164=false:=by kernel_rfl
theorem i9e:a3l E.P 165=false:=by kernel_rfl
theorem i9d:a3l E.P 166=false:=by kernel_rfl
theorem i9c:a3l E.P 195=false:=by kernel_rfl
theorem i9b:a3l E.P 297=false:=by kernel_rfl
theorem tbo3:d2u E.P 3=false:=by kernel_rfl
theorem tbo5:d2u E.P 5=false:=by kernel_rfl
theorem tbo9:d2u E.P 9=false:=by kernel_rfl
theorem k1l:d2u E.P 33=false:=by kernel_rfl
theorem k1k:d2u E.P 67=false:=by kernel_rfl
theorem j2f:d2u E.P 182=false:=by kernel_rfl
theorem tpt3:g1g E.P 3=false:=by kernel_rfl
theorem tpt5:g1g E.P 5=false:=by kernel_rfl
theorem tpt9:g1g E.P 9=false:=by kernel_rfl
theorem j8b:g1g E.P 33=false:=by kernel_rfl
theorem j8a:g1g E.P 67=true:=by kernel_rfl
theorem i9h:g1g E.P 182=false:=by kernel_rfl
theorem j9i:a3f E.P 25=true:=by kernel_rfl
theorem j9h:a3f E.P 38=true:=by kernel_rfl
theorem j9g:a3f E.P 75=true:=by kernel_rfl
theorem j9f:a3f E.P 89=true:=by kernel_rfl
theorem j9e:a3f E.P 91=true:=by kernel_rfl
theorem j9d:a3f E.P 94=true:=by kernel_rfl
theorem j0u:a3f E.P 110=true:=by kernel_rfl
theorem j0t:a3f E.P 168=true:=by kernel_rfl
theorem j0s:a3f E.P 170=true:=by kernel_rfl
theorem j0r:a3f E.P 172=true:=by kernel_rfl
theorem j0q:a3f E.P 206=true:=by kernel_rfl
theorem j0p:a3f E.P 231=true:=by kernel_rfl
theorem j0o:a3f E.P 256=true:=by kernel_rfl
theorem j0n:a3f E.P 266=true:=by kernel_rfl
theorem j0m:a3f E.P 268=true:=by kernel_rfl
theorem j0l:a3f E.P 278=true:=by kernel_rfl
theorem j0k:a3f E.P 291=true:=by kernel_rfl
theorem j0j:a3f E.P 300=true:=by kernel_rfl
theorem j0i:a3f E.P 309=true:=by kernel_rfl
theorem j0h:a3f E.P 312=true:=by kernel_rfl
theorem tze3:a9v E.P 3=some 1:=by kernel_rfl
theorem tze5:a9v E.P 5=some 1:=by kernel_rfl
theorem tze9:a9v E.P 9=some 1:=by kernel_rfl
theorem j5x:a9v E.P 25=some 4:=by kernel_rfl
theorem j5w:a9v E.P 38=some 4:=by kernel_rfl
theorem j5v:a9v E.P 49=some 1:=by kernel_rfl
theorem j5u:a9v E.P 89=some 9:=by kernel_rfl
theorem j5t:a9v E.P 91=some 17:=by kernel_rfl
theorem j5s:a9v E.P 94=some 5:=by kernel_rfl
theorem i8z:a9v E.P 110=some 9:=by kernel_rfl
theorem i8y:a9v E.P 168=some 9:=by kernel_rfl
theorem i8x:a9v E.P 170=some 17:=by kernel_rfl
theorem i8w:a9v E.P 172=some 5:=by kernel_rfl
theorem i8v:a9v E.P 206=some 3:=by kernel_rfl
theorem i8u:a9v E.P 268=some 5:=by kernel_rfl
theorem i8t:a9v E.P 291=some 11:=by kernel_rfl
theorem i8s:a9v E.P 300=some 2:=by kernel_rfl
theorem i8r:a9v E.P 312=some 11:=by kernel_rfl
theorem tu3:(E.P.underlying 3).isSome=true:=by kernel_rfl
theorem tu5:(E.P.underlying 5).isSome=true:=by kernel_rfl
theorem j6o:(E.P.underlying 215).isSome=true:=by kernel_rfl
theorem tby3:(E.P.bytesOf 3≤32768)=True:=by rw[show E.P.bytesOf 3=8 from by kernel_rfl];simp
theorem tby9:(E.P.bytesOf 9≤32768)=True:=by rw[show E.P.bytesOf 9=16 from by kernel_rfl];simp
theorem k1j:(E.P.bytesOf 25≤32768)=True:=by rw[show E.P.bytesOf 25=56 from by kernel_rfl];simp
theorem k1i:(E.P.bytesOf 38≤32768)=True:=by rw[show E.P.bytesOf 38=56 from by kernel_rfl];simp
theorem k1h:(E.P.bytesOf 89≤32768)=True:=by rw[show E.P.bytesOf 89=136 from by kernel_rfl];simp
theorem k1g:(E.P.bytesOf 91≤32768)=True:=by rw[show E.P.bytesOf 91=264 from by kernel_rfl];simp
theorem k1f:(E.P.bytesOf 94≤32768)=True:=by rw[show E.P.bytesOf 94=72 from by kernel_rfl];simp
theorem j2e:(E.P.bytesOf 110≤32768)=True:=by rw[show E.P.bytesOf 110=128 from by kernel_rfl];simp
theorem j2d:(E.P.bytesOf 168≤32768)=True:=by rw[show E.P.bytesOf 168=136 from by kernel_rfl];simp
theorem j2c:(E.P.bytesOf 170≤32768)=True:=by rw[show E.P.bytesOf 170=264 from by kernel_rfl];simp
theorem j2b:(E.P.bytesOf 172≤32768)=True:=by rw[show E.P.bytesOf 172=72 from by kernel_rfl];simp
theorem j2a:(E.P.bytesOf 206≤32768)=True:=by rw[show E.P.bytesOf 206=32 from by kernel_rfl];simp
theorem j1z:(E.P.bytesOf 268≤32768)=True:=by rw[show E.P.bytesOf 268=72 from by kernel_rfl];simp
theorem j1y:(E.P.bytesOf 291≤32768)=True:=by rw[show E.P.bytesOf 291=176 from by kernel_rfl];simp
theorem j1x:(E.P.bytesOf 300≤32768)=True:=by rw[show E.P.bytesOf 300=32 from by kernel_rfl];simp
theorem j1w:(E.P.bytesOf 312≤32768)=True:=by rw[show E.P.bytesOf 312=176 from by kernel_rfl];simp
attribute [go_sem] g7h g7g g7f g7e g7d f5o f6l f6k f6j f6i f6h f6g f6f f6e f6d f6c f6b f6a f5z f5y f5x f5w f5v f5u f5t f5s f5r f5q f5p f5n f5m f5l f5k f5j e9b e9a e8z e8y e8x e8w
attribute [go_sem] e8v e8u e8t e8s e8r e8q e8p e8o e8n e8m e8l e8k e8j e8i e8h e8g e8f e8e e8d e8c e8b e8a e7z e7y e7x e7w e7v e7u e7t e7s e7r e7q e7p e7o e7n e7m e7l e7k g8s g8r
attribute [go_sem] g8q g8p g8o g9f f8n f8m f8l g9e f8k g9d g9c g9b g9a g8y f8j g8z g8x f8i f8h f8g f8f f8e g8w g8v g8u g8t f8d g8n f9l f9k f9j f0m f0l f0k f0j f0i f9i f9h f0h f0g
attribute [go_sem] f0f f9g f9f f9e f9d f0e f9c f0d f0c f9b f0b f9a f8z f0a f8y e9z f8x f8w f8v f8u f8t f8r e9y f8q f8p f8o k1n j3o j3n
attribute [go_sem] j3m j3l j3k j3j j3i j3h j3g j3f
attribute [go_sem] j3e j3d j3c j3b j3a j2z j2y j2x
attribute [go_sem] j2w j2v j2u j2t j2s j2r j2q j2p
attribute [go_sem] j2o j2n i2z i2y i2x i2w i2v i2u
attribute [go_sem] i2t i2s i2r i2q i2p i2o i2n i2m
attribute [go_sem] i2l i2k i2j i2i i2h i2g i2f i2e
attribute [go_sem] i2d i2c i2b i2a i1z i1y i1x i1w
attribute [go_sem] i1v i1u i1t i1s i1r i1q i1p i1o
attribute [go_sem] i1n i1m i1l i1k i1j i1i i1h i1g
attribute [go_sem] i1f i1e i1d i1c i1b i1a i0z i0y
attribute [go_sem] i0x i0w i0v i0u i0t i0s i0r i0q
attribute [go_sem] i0p i0o i0n i0m i0l i0k i0j i0i
attribute [go_sem] i0h i0g i0f i0e i0d i0c i0b i0a
attribute [go_sem] h9z h9y h9x h9w h9v h9u h9t h9s
attribute [go_sem] h9r h9q h9p h9o h9n h9m h9l h9k
attribute [go_sem] h9j h9i h9h h9g h9f h9e h9d h9c
attribute [go_sem] h9b h9a h8z f8s ts3 ts4 ts5 ts9 ts23 ts25 ts36 ts38 ts49 ts67 ts73 ts75 ts85 ts86 ts87 ts89 ts91 ts94 j7z j7y j7x j7w j7v
attribute [go_sem] j7u j7t j7s j7r j7q j7p j7o j7n j7m j7l j7k j7j j7i j7h j7g j7f j7e j7d j7c j7b j7a j6z i5r j4d i5q j4c tsM g6y f4w f4v f4u f4t j0g j0f j0e j0d j0c tzv3 tzv4 tzv9
attribute [go_sem] j5r j5q tg3 tg4 tg9 tg23 tg25 tg36 tg38 tg49 tg67 tg73 tg75 tg85 tg86 tg87 tg89 tg91 tg94 j9c j9b j9a j8z j8y j8x j8w j8v j8u j8t j8s j8r j8q j8p j8o j8n j8m te1 te3 te4 te5
attribute [go_sem] te9 te23 te25 te33 te36 te38 te49 te63 te64 te65 te67 te68 te73 te75 te76 te82 te85 te86 te87 te89 te91 te94 te96 k1e k1d k1c k1b k1a k0z k0y k0x k0w k0v k0u k0t k0s k0r k0q k0p k0o
attribute [go_sem] k0n k0m k0l k0k k0j k0i k0h k0g k0f k0e k0d k0c k0b k0a j9z j9y j9x j9w j9v j9u j9t j9s j9r j9q j9p j9o j9n j9m j9l j9k j9j j1v j1u j1t j1s j1r j1q j1p j1o j1n
attribute [go_sem] j1m j1l j1k j1j j1i j1h j1g j1f j1e j1d j1c j1b j1a j0z j0y j0x j0w j0v h8o h8n h8m h8l h8k h8j h8i h8h h8g h8f h8e h8d h8c h8b h8a h7z h7y h7x h7w h7v h7u h7t
attribute [go_sem] h7s h7r h7q h7p h7o h7n h7m h7l h7k h7j h7i h7h h7g h7f h7e h7d h7c j0b j0a i9z i9y i9x i9w i9v i9u i9t i9s i9r i9q i9p i9o i9n i9m i9l i9k i9j i9i h7a h6z h6y
attribute [go_sem] h6x h6w h6v h6u h6t h6s h6r h6q h6p h6o h6n h6m h6l h6k h6j h6i h6h h6g h6f h6e h6d h6c h6b h6a tz3 tz4 tz9 tz25 tz38 tz49 tz75 tz89 tz91 tz94 j6n j6m j6l j6k j6j j6i
attribute [go_sem] j6h j6g j6f j6e j6d j6c j6b j6a j5z j5y ti3 ti5 ti9 ti25 ti38 ti89 ti91 ti94 j8l j8k j8j j8i j8h j8g j8f j8e j8d j8c tst3 tst5 tst9 j6y j6x j6w j6v j6u j6t j6s j6r j6q
attribute [go_sem] j6p i9g i9f i9e i9d i9c i9b tbo3 tbo5 tbo9 k1l k1k j2f tpt3 tpt5 tpt9 j8b j8a i9h j9i j9h j9g j9f j9e j9d j0u j0t j0s j0r j0q j0p j0o j0n j0m j0l j0k j0j j0i j0h tze3
attribute [go_sem] tze5 tze9 j5x j5w j5v j5u j5t j5s i8z i8y i8x i8w i8v i8u i8t i8s i8r tu3 tu5 j6o tby3 tby9 k1j k1i k1h k1g k1f j2e j2d j2c j2b j2a j1z j1y j1x j1w
end Go.Proofs
