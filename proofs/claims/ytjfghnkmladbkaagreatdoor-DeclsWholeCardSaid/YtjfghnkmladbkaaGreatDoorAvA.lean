/- An abstract machine for the code of a Go program, and what it is for a value of it to stand for a value of the model. -/
import GoSem.Step
import Derived.Calls
import Derived.Orders
import Derived.Below
import Derived.Laws.Sem
import Derived.Laws.Cells
import Derived.Laws.World
import Derived.Laws.Small
import Derived.Laws.Strings
import Derived.Laws.Slices
import Derived.Laws.BytesString
import Derived.Laws.Concat
namespace Go.Av
noncomputable section
inductive BName where
 | par (n:Nat)
 | loc (k:Nat)
 deriving DecidableEq
inductive Place where
 | tmp (k:Nat)
 | cell (b:BName) (off:Nat)
 deriving DecidableEq
inductive AVal where
 | int (k:IntKind) (n:Int)
 | bool (b:Bool)
 | str (s:List UInt8)
 | agg (cs:List AVal)
 | tup (vs:List AVal)
 | slice (es:List AVal)
 | full (es:List AVal)
 | view (T:TypeId) (n:Nat) (es:List AVal) (p:Place)
 | own (T:TypeId) (n:Nat) (es:List AVal)
 | dead (T:TypeId) (n:Nat) (es:List AVal)
 | ptr (b:BName) (off:Nat)
 | pel (e:List AVal) (off:Nat)
 | nilp
 | pmap (es:List AVal)
 | nilm
 | mview (n:Nat) (p:Place)
 | opaq
 | func (f:FuncId) (first captured:List AVal)
 | nilf
abbrev a3e:=List (List AVal)
def a3i:Nat:=1099511627777
def b4t(T:TypeId)(n:Nat)(es:List AVal):AVal:=if T=a3i then .opaq else .dead T n es
def isL:List AVal→Option (TypeId×List AVal)
 | [.own U _ es]=>some (U,es)
 | _=>none
def a7n:Place→Option Nat
 | .cell (.par k) off=>if off=a3i then some k else none
 | _=>none
def e6p(q:Place):Place:=match a7n q with
 | some k=>.tmp k
 | none=>q
def cellsOf:AVal→List AVal
 | .agg cs=>cs
 | v=>[v]
def a5x :AVal→Option (List AVal)
 | .slice es=>some es
 | .full es=>some es
 | .view _ _ es _=>some es
 | .own T _ es=>if T=a3i then none else some es
 | .dead _ _ es=>some es
 | _=>none
def strip1:AVal→AVal
 | .full es=>.slice es
 | .view _ _ es _=>.slice es
 | .own T _ es=>if T=a3i then .opaq else .slice es
 | .dead _ _ es=>.slice es
 | .mview _ _=>.opaq
 | v=>v
def strip2:AVal→AVal
 | .agg cs=>.agg (cs.map strip1)
 | v=>strip1 v
def strip:AVal→AVal
 | .tup vs=>.tup (vs.map strip2)
 | v=>strip2 v
def a4g(n:Nat):AVal→AVal
 | .own T _ es=>.own T n es
 | v=>strip1 v
def a3n:AVal→AVal
 | .own T _ es=>.own T 0 es
 | v=>strip1 v
def c7n:AVal→List BName
 | .ptr b _=>[b]
 | _=>[]
def a1h:AVal→List BName
 | .ptr b _=>[b]
 | .func _ first cap=>(first++cap).flatMap c7n
 | _=>[]
def a5c:AVal→List BName
 | .agg cs=>cs.flatMap a1h
 | v=>a1h v
def names:AVal→List BName
 | .tup vs=>vs.flatMap a5c
 | v=>a5c v
def c9n:AVal→Bool
 | .int _ _=>true
 | .bool _=>true
 | .str _=>true
 | .slice _=>true
 | .nilp=>true
 | .pmap _=>true
 | .nilm=>true
 | _=>false
def e6u:AVal→Bool
 | .agg cs=>cs.all c9n
 | v=>c9n v
def b8s:AVal→Bool
 | .ptr _ _=>true
 | .nilf=>true
 | v=>c9n v
def a0i{α:Type}:List (Nat×α)→Nat→Option α
 | [],_=>none
 | (k,v)::r,j=>if k=j then some v else a0i r j
def a7v{α:Type}:List (Nat×α)→Nat→α→List (Nat×α)
 | [],j,x=>[(j,x)]
 | (k,v)::r,j,x=>if k=j then (k,x)::r else (k,v)::a7v r j x
def b6p{α:Type}:List (Nat×α)→Nat→List (Nat×α)
 | [],_=>[]
 | (k,v)::r,j=>if k=j then b6p r j else (k,v)::b6p r j
structure St where
 tm:List (Nat×AVal)
 pb:a3e
 lb:List (Nat×List AVal)
 ver:Nat
structure Env where
 P:Program
 frz:FuncId→List (Nat×List (Nat×TypeId))
 live:FuncId→Nat→Option (List Nat×List Nat)
 keep:FuncId→Bool
 drw:FuncId→Nat→Option (List (Nat×Nat))
 mkm:TypeId→Nat→Option Nat→Bool
 lend:FuncId→List (Nat×Nat)
 prim:FuncId→Option (List AVal→a3e→Option (AVal×a3e))
 cln:FuncId→Option TypeId
 rvs:FuncId→Option TypeId
 xop:FuncId→List (Nat×Nat)
 gift:FuncId→Option (Nat×TypeId)
 nbx:FuncId→Bool
theorem j4r:∃n:Nat,n=1099511627776:=⟨_,rfl⟩
noncomputable def a2s:Nat:=j4r.choose
theorem a9a:a2s=1099511627776:=j4r.choose_spec
def a1d(P:Program)(t:TypeId):Nat:=P.cellsOf t
def b2v(P:Program)(t:TypeId):Option Bool:=
 match P.underlying t with
 | some (.struct _)=>some true
 | some (.array _ _)=>some true
 | some _=>some false
 | none=>none
def d2u(P:Program)(t:TypeId):Bool:=
 match P.underlying t with
 | some .bool=>true
 | _=>false
def g1g(P:Program)(t:TypeId):Bool:=
 match P.underlying t with
 | some (.pointer _)=>true
 | _=>false
def a1g(P:Program)(t:TypeId):Option TypeId:=
 match P.underlying t with
 | some (.slice e)=>if e=a3i then none else some e
 | _=>none
def a1j(P:Program)(t:TypeId)(i:Nat):Option (Nat×Nat):=
 match P.underlying t with
 | some (.struct fs)=>(fs[i]?).map fun f=>(f.offset,P.cellsOf f.type)
 | _=>none
def j5b(P:Program)(t:TypeId):Option (Nat×Nat):=
 match P.underlying t with
 | some (.array n e)=>some (n,P.cellsOf e)
 | _=>none
def a1x(P:Program)(t:TypeId)(i:Nat):Option (Nat×Nat):=
 match P.underlying t with
 | some (.struct fs)=>(fs[i]?).map fun f=>(f.offset,P.cellsOf f.type)
 | some (.array _ e)=>some (i*P.cellsOf e,P.cellsOf e)
 | _=>none
def c4h(P:Program)(t:TypeId):Option IntKind:=
 match P.underlying t with
 | some (.int k)=>some k
 | _=>none
def f1k(P:Program)(t:TypeId):Option (TypeId×TypeId):=
 match P.underlying t with
 | some (.map k e)=>some (k,e)
 | _=>none
def a3l(P:Program)(t:TypeId):Bool:=
 match P.underlying t with
 | some .string=>true
 | _=>false
def a3f(P:Program)(t:TypeId):Bool:=
 match P.underlying t with
 | some (.struct fs)=>fs.toList.all fun f=>(P.info? f.type).isSome
 | some (.array _ e)=>(P.info? e).isSome
 | _=>false
def b6j(P:Program):Nat→TypeId→List TypeId
 | 0,_=>[]
 | n+1,t=>
  match P.underlying t with
  | some (.struct fs)=>fs.toList.flatMap fun f=>b6j P n f.type
  | some (.slice e)=>[e]
  | _=>[0]
def d2k(T:TypeId):Value→Option AVal
 | .int k n=>some (.int k n)
 | .bool b=>some (.bool b)
 | .string s=>some (.str s.data.toList)
 | .slice none 0 0=>if T=a3i then none else some (.own T 0 [])
 | .pointer none=>some .nilp
 | .map none=>some .nilm
 | .nilFunc=>some .nilf
 | _=>none
def a8h:List TypeId→List Value→Option (List AVal)
 | _,[]=>some []
 | ts,v::vs=>(d2k (ts.headD 0) v).bind fun c=>(a8h ts.tail vs).map (c:: ·)
def a9v(P:Program)(t:TypeId):Option Nat:=((P.info? t).bind (·.zero)).map (·.cells.size)
def a6u(P:Program)(t:TypeId):Option (List AVal):=
 ((P.info? t).bind (·.zero)).bind fun z=>a8h (b6j P 8 t) z.cells.toList
def a7u:Value→Option AVal
 | .int k n=>some (.int k n)
 | .bool b=>some (.bool b)
 | .string s=>some (.str s.data.toList)
 | .slice none 0 0=>some (.slice [])
 | .pointer none=>some .nilp
 | .map none=>some .nilm
 | .nilFunc=>some .nilf
 | _=>none
def d2a:Value→Option AVal
 | .slice none 0 0=>some (.own 0 0 [])
 | .agg cs=>(cs.toList.mapM a7u).map .agg
 | v=>a7u v
def rd(s:St):Operand→Option AVal
 | .tmp k=>a0i s.tm k
 | .const v=>d2a v
 | .func f=>some (.func f [] [])
 | .global _=>none
def St.put(s:St)(k:Nat)(v:AVal):St:={s with tm:=a7v s.tm k v}
def St.drop(s:St)(k:Nat):St:={s with tm:=b6p s.tm k}
def St.putD(s:St)(k:Option Nat)(v:AVal):St:=
 match k with
 | some k=>s.put k v
 | none=>s
def St.box(s:St):BName→Option (List AVal)
 | .par n=>s.pb[n]?
 | .loc k=>a0i s.lb k
def St.setBox(s:St):BName→List AVal→St
 | .par n,cs=>{s with pb:=s.pb.set n cs}
 | .loc k,cs=>{s with lb:=a7v s.lb k cs}
def mvV(n:Nat)(p:Place):AVal:=if a7n p=none then .opaq else .mview n p
def b8z(s:St):Operand→Option AVal
 | .tmp k=>(a0i s.tm k).bind fun
  | .own T n es=>some (if T=a3i then (if (isL es).isSome=true then .mview n (.cell (.par k) a3i) else .mview n (.tmp k)) else .view T n es (.tmp k))
  | .dead T n es=>some (.view T n es (.tmp k))
  | .view _ _ es _=>some (.slice es)
  | .mview n p=>some (mvV n p)
  | v=>some v
 | x=>(rd s x).map strip
def b8p(s:St):Operand→Option (AVal×St)
 | .tmp k=>(a0i s.tm k).bind fun
  | .own T n es=>some (.own T n es,s.put k (b4t T n es))
  | .dead _ _ es=>some (.slice es,s)
  | v=>some (v,s)
 | x=>(rd s x).map fun v=>(strip v,s)
def b9e:Operand→Bool
 | .const (.slice none 0 0)=>true
 | _=>false
def b5f(cs:List AVal)(off:Nat)(xs:List AVal):List AVal:=cs.take off++(xs++cs.drop (off+xs.length))
def d0w:AVal→AVal
 | .view _ _ es _=>.slice es
 | .mview _ _=>.opaq
 | v=>v
def a9q(b:BName)(off:Nat):AVal→AVal
 | .own T n es=>if T=a3i then (if (isL es).isSome=true then .opaq else .mview n (.cell b off)) else .view T n es (.cell b off)
 | .dead T n es=>.view T n es (.cell b off)
 | .view _ _ es _=>.slice es
 | .mview _ _=>.opaq
 | v=>v
def a8o(E:Env)(s:St)(T:TypeId):AVal→Option AVal
 | .ptr b off=>(s.box b).bind fun cs=>(b2v E.P T).bind fun t=>
  if off<a2s then (if t then (if off+a1d E.P T≤cs.length then some (.agg (((cs.drop off).take (a1d E.P T)).map strip1)) else none)
   else (cs[off]?).map (a9q b off)) else none
 | .pel e off=>(b2v E.P T).bind fun t=>
  if t then (if off+a1d E.P T≤e.length then some (.agg ((e.drop off).take (a1d E.P T))) else none)
  else (e[off]?).map d0w
 | _=>none
def c4k:AVal→Bool
 | .tup _=>false
 | .opaq=>false
 | .mview _ _=>false
 | _=>true
def b5d(E:Env)(s:St)(n:Nat)(T:TypeId)(x:AVal):AVal→Option St
 | .ptr b off=>(s.box b).bind fun cs=>
  if (cellsOf x).length=a1d E.P T∧0<a1d E.P T∧off+a1d E.P T≤cs.length∧c4k x=true∧off<a2s then some (s.setBox b (b5f cs off ((cellsOf x).map (a4g n)))) else none
 | _=>none
def d1o(E:Env)(S:TypeId)(i:Nat):AVal→Option AVal
 | .ptr b off=>(a1j E.P S i).bind fun f=>if f.2=0 then none else if off+f.1<a2s then some (.ptr b (off+f.1)) else none
 | .pel e off=>(a1j E.P S i).bind fun f=>if f.2=0 then none else some (.pel e (off+f.1))
 | _=>none
def f7a(E:Env)(T:TypeId)(i:Int):AVal→Option AVal
 | .ptr b off=>if a2s≤off then (a1g E.P T).bind fun e=>if 0≤i∧i<((off - a2s:Nat):Int)∧a1d E.P e≠0∧i.toNat*a1d E.P e<a2s then some (.ptr b (i.toNat*a1d E.P e)) else none
  else (j5b E.P T).bind fun f=>if 0≤i∧i<f.1∧f.2≠0∧off+i.toNat*f.2<a2s then some (.ptr b (off+i.toNat*f.2)) else none
 | .pel e off=>(j5b E.P T).bind fun f=>if 0≤i∧i<f.1∧f.2≠0 then some (.pel e (off+i.toNat*f.2)) else none
 | _=>none
def e4n(E:Env)(T:TypeId)(x:AVal):AVal→Option AVal
 | .int _ i=>match a5x x with
  | some es=>(a1g E.P T).bind fun e=>
   if 0≤i then (es[i.toNat]?).bind fun v=>if (cellsOf v).length=a1d E.P e then some (.pel (cellsOf v) 0) else none
   else none
  | none=>f7a E T i x
 | _=>none
def e4m(E:Env)(T:TypeId):AVal→AVal→Option AVal
 | .str s,.int _ i=>if 0≤i∧a3l E.P T=true then (s[i.toNat]?).map fun b=>.int .u8 b.toNat else none
 | _,_=>none
def c8d(size:Nat)(es:List AVal):Bool:=
 decide (0<size)&&(match es.head? with
  | none=>true
  | some e=>decide ((cellsOf e).length=size))
def a9e(s:St)(d:Nat):Option Operand→Option Nat
 | none=>some d
 | some x=>(rd s x).bind fun
  | .int _ i=>if 0≤i then some i.toNat else none
  | _=>none
def b8c(E:Env)(s:St)(T:TypeId)(x:AVal)(lo hi mx:Option Operand):Option AVal:=
 match x with
 | .str b=>(a9e s b.length hi).bind fun h=>(a9e s 0 lo).bind fun l=>
  if mx.isNone∧a3l E.P T=true∧l≤h∧h≤b.length then some (.str ((b.take h).drop l)) else none
 | v=>(a5x v).bind fun es=>(a9e s es.length hi).bind fun h=>(a9e s 0 lo).bind fun l=>
  (a1g E.P T).bind fun e=>if l≤h∧h≤es.length∧c8d (a1d E.P e) es=true then (match mx with
    | none=>some (.slice ((es.take h).drop l))
    | some m=>(a9e s 0 (some m)).bind fun m=>if hi.isSome∧m=h then some (.full ((es.take h).drop l)) else none) else none
def e4k(op:BinOp)(k:IntKind)(a b:Int):Option AVal:=
 match op with
 | .add=>some (.int k (k.wrap (a+b)))
 | .sub=>some (.int k (k.wrap (a - b)))
 | .mul=>some (.int k (k.wrap (a*b)))
 | .eql=>some (.bool (a==b))
 | .neq=>some (.bool (a !=b))
 | .lss=>some (.bool (decide (a<b)))
 | .leq=>some (.bool (decide (a≤b)))
 | .gtr=>some (.bool (decide (a>b)))
 | .geq=>some (.bool (decide (a≥b)))
 | .quo=>if b=0 then none else some (.int k (k.wrap (a.tdiv b)))
 | .rem=>if b=0 then none else some (.int k (a.tmod b))
 | _=>none
def a1y:Nat:=4611686018427387904
def e2c(op:BinOp)(a b:List UInt8):Option AVal:=
 match op with
 | .add=>if a.length+b.length≤a1y then some (.str (a++b)) else none
 | .eql=>some (.bool (a==b))
 | .neq=>some (.bool (!(a==b)))
 | _=>none
def eqB(op:BinOp)(r:Bool):Option AVal:=
 match op with
 | .eql=>some (.bool r)
 | .neq=>some (.bool (!r))
 | _=>none
def j5l(E:Env)(T:TypeId)(op:BinOp):AVal→AVal→Option AVal
 | .int k a,.int k' b=>if k=k' then e4k op k a b else none
 | .str a,.str b=>e2c op a b
 | .bool a,.bool b=>if d2u E.P T then eqB op (a==b) else none
 | .nilp,.nilp=>if g1g E.P T then eqB op true else none
 | .ptr _ off,.nilp=>if g1g E.P T=true∧off<a2s then eqB op false else none
 | .nilm,.nilm=>if (f1k E.P T).isSome then eqB op true else none
 | .pmap _,.nilm=>if (f1k E.P T).isSome then eqB op false else none
 | .mview _ q,.nilm=>if (f1k E.P T).isSome=true∧a7n q=none then eqB op false else none
 | _,_=>none
def j5f:AVal→Option AVal
 | .bool b=>some (.bool (!b))
 | _=>none
def bytesOf:List AVal→Option (List UInt8)
 | []=>some []
 | .int .u8 n::r=>(bytesOf r).map (UInt8.ofNat n.toNat:: ·)
 | _::_=>none
def g9p(E:Env)(src dst:TypeId):AVal→Option AVal
 | .int _ n=>if (E.P.underlying src).isSome then (c4h E.P dst).map fun k=>.int k (k.wrap n) else none
 | .str s=>if (E.P.underlying src).isSome∧a3l E.P dst=true then some (.str s) else none
 | v=>(a5x v).bind fun es=>if a3l E.P dst=true∧(a1g E.P src).bind (c4h E.P)=some .u8 then (bytesOf es).map .str else none
def j5i(E:Env)(T:Option TypeId):AVal→Option AVal
 | .str s=>if T.map (a3l E.P)=some true then some (.int .i64 s.length) else none
 | .ptr _ off=>if a2s≤off∧(T.bind (a1g E.P)).isSome=true then some (.int .i64 ((off - a2s:Nat):Int)) else none
 | v=>(a5x v).bind fun es=>if (T.bind (a1g E.P)).isSome then some (.int .i64 es.length) else none
def j5h:AVal→AVal→Option AVal
 | .int k a,.int k' b=>if k=k' then some (.int k (if b>a then b else a)) else none
 | _,_=>none
def j5g:AVal→AVal→Option AVal
 | .int k a,.int k' b=>if k=k' then some (.int k (if b<a then b else a)) else none
 | _,_=>none
def j4a:AVal→Option AVal
 | .ptr b off=>if off<a2s then some (.ptr b off) else none
 | .pel e off=>some (.pel e off)
 | .func f a b=>some (.func f a b)
 | _=>none
def c5n(i:Nat):AVal→Option AVal
 | .tup vs=>vs[i]?
 | _=>none
def c9u(E:Env)(T:TypeId)(s:St):List AVal→List (Nat×Operand)→Option (List AVal)
 | cs,[]=>some cs
 | cs,(i,x)::r=>(rd s x).bind fun v=>(a1x E.P T i).bind fun f=>
  if (cellsOf v).length=f.2∧f.1+f.2≤cs.length∧c4k v=true then c9u E T s (b5f cs f.1 ((cellsOf v).map strip1)) r else none
def b8k(s:St)(size:Nat):Nat→List (Nat×Operand)→Option (List AVal)
 | _,[]=>some []
 | j,(i,x)::r=>if i=j then (rd s x).bind fun v=>if e6u (strip2 v)=true∧(cellsOf (strip2 v)).length=size then (b8k s size (j+1) r).map (strip2 v:: ·) else none else none
def a9z(s:St):List Operand→Option (List AVal)
 | []=>some []
 | x::r=>(rd s x).bind fun v=>(a9z s r).map (strip v:: ·)
def b4n(s:St)(T:TypeId):Operand→Option (List AVal×St×Bool)
 | .tmp k=>(a0i s.tm k).bind fun
  | .own U n es=>if U=T then some (es,s.put k (.dead U n es),false) else none
  | .full es=>some (es,s,true)
  | .view _ n _ p=>(match p with
   | .tmp j=>(a0i s.tm j).bind fun
    | .own U' n' es'=>if U'=T∧n'=n then some (es',s.put j (.dead U' n' es'),false) else none
    | _=>none
   | .cell b off=>(s.box b).bind fun cs=>(cs[off]?).bind fun
    | .own U' n' es'=>if U'=T∧n'=n then some (es',s.setBox b (cs.set off (.dead U' n' es')),false) else none
    | _=>none)
  | _=>none
 | x=>if b9e x then some ([],s,false) else none
def d4b(E:Env)(T:Option TypeId):AVal→Option (List AVal)
 | .str s=>if T.map (a3l E.P)=some true then some (s.map fun b=>.int .u8 b.toNat) else none
 | v=>if (T.bind (a1g E.P)).isSome then a5x v else none
def a0s:Nat:=4294967296
def c0a(s:St):Nat→List BName→List BName→Option (List BName)
 | 0,_,_=>none
 | _+1,[],seen=>some seen
 | n+1,b::r,seen=>if seen.contains b then c0a s n r seen else
  (s.box b).bind fun cs=>c0a s n (r++cs.flatMap a1h) (seen++[b])
def i8h(ρ:BName→BName):AVal→AVal
 | .ptr b off=>.ptr (ρ b) off
 | v=>v
def c5e(ρ:BName→BName):AVal→AVal
 | .ptr b off=>.ptr (ρ b) off
 | .func f a c=>.func f (a.map (i8h ρ)) (c.map (i8h ρ))
 | v=>v
def i8g(ρ:BName→BName):AVal→AVal
 | .agg cs=>.agg (cs.map (c5e ρ))
 | v=>c5e ρ v
def ren(ρ:BName→BName):AVal→AVal
 | .tup vs=>.tup (vs.map (i8g ρ))
 | v=>i8g ρ v
def c1y(ns:List BName)(b:BName):BName:=.par (ns.idxOf b)
def b2k(ns:List BName):BName→BName
 | .par i=>ns.getD i (.par i)
 | b=>b
def a7o(s:St):List BName→Option a3e
 | []=>some []
 | b::r=>(s.box b).bind fun cs=>(a7o s r).map (cs:: ·)
def a3t(s:St):List BName→a3e→Option St
 | [],[]=>some s
 | b::r,cs::q=>a3t (s.setBox b cs) r q
 | _,_=>none
def j5d(n:Nat):AVal→AVal
 | .own T _ es=>.own T n es
 | v=>v
def b8v(n:Nat):AVal→AVal
 | .own T _ es=>.own T n es
 | .view _ _ es _=>.slice es
 | v=>v
def b8a(D:FuncId→List AVal→a3e→Option (AVal×a3e))(s:St)(n:Nat)(dst:Option Nat)(args:List AVal):AVal→Option St
 | .func f first cap=>
  let as:=first++(args++cap)
  match as.flatMap names with
  | []=>(D f as []).bind fun r=>match r.2 with
   | []=>some (s.putD dst (b8v n r.1))
   | _::_=>none
  | b::bs=>(c0a s 100 (b::bs) []).bind fun ns=>(a7o s ns).bind fun H=>
   (D f (as.map (ren (c1y ns))) (H.map (·.map fun c=>c5e (c1y ns) (a4g 0 c)))).bind fun r=>
     (a3t s ns (r.2.map (·.map fun c=>c5e (b2k ns) (a4g n c)))).map fun s'=>s'.putD dst (b8v n (ren (b2k ns) r.1))
 | _=>none
def c5s:AVal→Option (List AVal)
 | .agg cs=>some cs
 | .tup _=>none
 | .opaq=>none
 | .mview _ _=>none
 | .own T _ es=>if T=a3i then none else some [.slice es]
 | v=>some [strip1 v]
def d4c(s:St)(n:Nat)(dst:Option Nat)(cs:List AVal):Option St:=
 match dst with
 | some k=>match a0i s.lb k with
  | none=>some ({s with lb:=a7v s.lb k (cs.map (a4g n))}.put k (.ptr (.loc k) 0))
  | some _=>none
 | none=>none
def g1h(s:St)(n:Nat)(dst:Option Nat)(off:Nat)(cs:List AVal):Option St:=
 match dst with
 | some k=>match a0i s.lb k with
  | none=>some ({s with lb:=a7v s.lb k (cs.map (a4g n))}.put k (.ptr (.loc k) off))
  | some _=>none
 | none=>none
def c9i:Nat→List AVal→List AVal
 | 0,_=>[]
 | n+1,z=>z++c9i n z
def g7b(E:Env)(s:St)(n:Nat)(dst:Option Nat)(T:TypeId):AVal→AVal→Option St
 | .int .i64 l,.int .i64 c=>(a1g E.P T).bind fun e=>(a6u E.P e).bind fun z=>
  if l=c∧0≤l∧l≤1073741824∧E.P.bytesOf e≤32768∧z.length=a1d E.P e∧0<a1d E.P e then g1h s n dst (a2s+l.toNat) (c9i l.toNat z) else none
 | _,_=>none
def St.at(s:St):Place→Option AVal
 | .tmp k=>a0i s.tm k
 | .cell b off=>(s.box b).bind fun cs=>cs[off]?
def St.setAt(s:St)(p:Place)(v:AVal):Option St:=
 match p with
 | .tmp k=>some (s.put k v)
 | .cell b off=>(s.box b).map fun cs=>s.setBox b (cs.set off v)
def c4l:AVal→AVal→Option Bool
 | .str a,.str b=>some (a==b)
 | .int k a,.int k' b=>if k=k' then some (a==b) else none
 | _,_=>none
def c9t(k:AVal):List AVal→Option (Option AVal)
 | []=>some none
 | .tup [k',v]::r=>(c4l k k').bind fun b=>if b then some (some v) else c9t k r
 | _::_=>none
def f1j(k v:AVal):List AVal→Option (List AVal)
 | []=>some [.tup [k,v]]
 | .tup [k',v']::r=>(c4l k k').bind fun b=>if b then some (.tup [k,v]::r) else (f1j k v r).map (.tup [k',v']:: ·)
 | _::_=>none
def c0j(s:St):Operand→Option (Place×Nat×List AVal)
 | .tmp k=>(a0i s.tm k).bind fun
  | .own T n es=>if T=a3i∧isL es=none then some (.tmp k,n,es) else none
  | .mview n p=>if a7n p=none then (s.at p).bind fun
   | .own T n' es=>if T=a3i∧n'=n∧isL es=none then some (p,n,es) else none
   | _=>none else none
  | _=>none
 | _=>none
def d8k(s:St)(x:Operand):Option (List AVal):=
 match rd s x with
 | some .nilm=>some []
 | some (.pmap es)=>some es
 | _=>(c0j s x).map fun r=>r.2.2
def f1q(P:Program)(T:TypeId):Value→Option AVal
 | .agg x=>(a8h (b6j P 8 T) x.toList).map fun cs=>.agg (cs.map strip1)
 | z=>(a8h (b6j P 8 T) [z]).bind fun
  | [c]=>some (strip1 c)
  | _=>none
def d9j(E:Env)(T:TypeId):Option AVal:=((E.P.info? T).bind (·.zero)).bind (f1q E.P T)
def b2l(E:Env)(T:TypeId)(es:List AVal)(k:AVal)(ok:Bool):Option AVal:=
 (f1k E.P T).bind fun t=>(if isKey E t.1 k then c9t k es else none).bind fun r=>match r with
   | some v=>some (if ok then .tup [v,.bool true] else v)
   | none=>(d9j E t.2).map fun v=>if ok then .tup [v,.bool false] else v
where isKey (E:Env) (t:TypeId):AVal→Bool
 | .str _=>a3l E.P t
 | .int k _=>decide (c4h E.P t=some k)
 | _=>false
def c6a(E:Env)(s:St)(T:TypeId)(x:Operand)(k v:AVal):Option St:=
 (f1k E.P T).bind fun t=>(c0j s x).bind fun r=>if b2l.isKey E t.1 k=true∧e6u v=true then (f1j k v r.2.2).bind fun es=>s.setAt r.1 (.own a3i r.2.1 es) else none
def b4p(t:Bool)(size:Nat):Nat→List AVal→List AVal
 | 0,_=>[]
 | n+1,cs=>(if t then .agg (cs.take size) else cs.headD .nilp)::b4p t size n (cs.drop size)
def b2d(b:BName):List (Nat×AVal)→List (Nat×AVal)
 | []=>[]
 | (k,v)::r=>if (names v).contains b then b6p (b2d b r) k else (k,v)::b2d b r
def d6v(b:BName)(cs:List AVal):Bool:= !(cs.flatMap a1h).contains b
def j5j(E:Env)(s:St)(k:Nat)(T:TypeId):Option St:=
 (a0i s.tm k).bind fun
   | .ptr (.loc j) off=>(a0i s.lb j).bind fun cs=>(a1g E.P T).bind fun e=>(b2v E.P e).bind fun t=>
    if a2s≤off∧0<a1d E.P e∧cs.length=(off - a2s)*a1d E.P e∧(t=true∨a1d E.P e=1)∧(cs.map strip1).all c9n=true∧
     s.pb.all (d6v (.loc j))=true∧(b6p s.lb j).all (fun x=>d6v (.loc j) x.2)=true then
     some {s with tm:=a7v (b2d (.loc j) s.tm) k (.slice (b4p t (a1d E.P e) (off - a2s) (cs.map strip1))),lb:=b6p s.lb j} else none
   | .own U n es=>if U=a3i then (match isL es with
    | some r=>some (s.put k (.own r.1 n r.2))
    | none=>some (s.put k (.pmap es))) else some s
   | .pmap _=>some s
   | .slice _=>some s
   | _=>none
def d1l(E:Env):List (Nat×TypeId)→St→Option St
 | [],s=>some s
 | (k,T)::r,s=>(j5j E s k T).bind (d1l E r)
def i8l(E:Env)(f:FuncId)(id:Nat)(s:St):Option St:=
 match a0i (E.frz f) id with
 | none=>some s
 | some l=>d1l E l s
def opF(E:Env)(D:FuncId→List AVal→a3e→Option (AVal×a3e))(n:Nat)(o:Oper)(s:St):Option St:=
 match o.op with
 | .move x=>if b9e x then (a1g E.P o.type).map fun T=>s.putD o.dst (.own T n []) else (b8z s x).map (s.putD o.dst)
 | .assign x=>if b9e x then (a1g E.P o.type).map fun T=>s.putD o.dst (.own T n []) else (b8p s x).map fun r=>r.2.putD o.dst (j5d n r.1)
 | .pick c a b=>(rd s c).bind fun
  | .bool t=>if t then (rd s a).map fun v=>s.putD o.dst (strip v) else (rd s b).map fun v=>s.putD o.dst (strip v)
  | _=>none
 | .alloc T=>(a6u E.P T).bind fun cs=>d4c s n o.dst cs
 | .box _ x=>(rd s x).bind fun v=>(c5s v).bind fun cs=>d4c s n o.dst cs
 | .build T ps=>(a6u E.P T).bind fun cs=>(c9u E T s cs ps.toList).bind fun cs=>if a3f E.P T then some (s.putD o.dst (.agg cs)) else none
 | .buildSlice T m ps=>(a1g E.P T).bind fun e=>(b8k s (a1d E.P e) 0 ps.toList).bind fun es=>
  if es.length=m∧0<a1d E.P e∧m*a1d E.P e≤16777216∧(a9v E.P e).isSome=true then some (s.putD o.dst (.own e n es)) else none
 | .load T a=>(rd s a).bind fun p=>(a8o E s T p).map (s.putD o.dst)
 | .store T a x=>(rd s a).bind fun p=>if b9e x then (a1g E.P T).bind fun U=>b5d E s n T (.own U 0 []) p else (b8p s x).bind fun r=>b5d E r.2 n T r.1 p
 | .nilCheck x=>(rd s x).bind fun v=>(j4a v).map (s.putD o.dst)
 | .binOp op T x y _=>(rd s x).bind fun a=>(rd s y).bind fun b=>(j5l E T op a b).map (s.putD o.dst)
 | .unOp .not _ x=>(rd s x).bind fun a=>(j5f a).map (s.putD o.dst)
 | .convert src dst x=>(rd s x).bind fun a=>(g9p E src dst a).map (s.putD o.dst)
 | .makeFunc (.func f) first cap=>(a9z s first.toList).bind fun a=>(a9z s cap.toList).bind fun c=>if a.all b8s&&c.all b8s then some (s.putD o.dst (.func f a c)) else none
 | .fieldAddr S x i=>(rd s x).bind fun a=>(d1o E S i a).map (s.putD o.dst)
 | .indexAddr T x i=>(rd s x).bind fun a=>(rd s i).bind fun j=>(e4n E T a j).map (s.putD o.dst)
 | .index T x i=>(rd s x).bind fun a=>(rd s i).bind fun j=>(e4m E T a j).map (s.putD o.dst)
 | .slice T x lo hi mx=>(rd s x).bind fun a=>(b8c E s T a lo hi mx).map (s.putD o.dst)
 | .extract x i=>(rd s x).bind fun a=>((c5n i a).map strip).map (s.putD o.dst)
 | .call {callee:=.value g,args,.. }=>(rd s g).bind fun c=>(a9z s args.toList).bind fun as=>b8a D s n o.dst as c
 | .call {callee:=.builtin b,args,argTypes}=>
  match b,args.toList with
  | .len,[x]=>(rd s x).bind fun a=>(j5i E (argTypes[0]?) a).map (s.putD o.dst)
  | .max,[x,y]=>(rd s x).bind fun a=>(rd s y).bind fun c=>(j5h a c).map (s.putD o.dst)
  | .min,[x,y]=>(rd s x).bind fun a=>(rd s y).bind fun c=>(j5g a c).map (s.putD o.dst)
  | .append,[x,y]=>((argTypes[0]?).bind (a1g E.P)).bind fun T=>(rd s y).bind fun v=>(d4b E (argTypes[1]?) v).bind fun news=>(b4n s T x).bind fun r=>
   if r.1.length+news.length≤a0s∧c8d (a1d E.P T) news=true∧E.P.bytesOf T≤32768∧a9v E.P T=some (a1d E.P T)∧(r.2.2&&news.isEmpty)=false∧(r.2.2&& !c8d (a1d E.P T) r.1)=false∧argTypes.size=2 then
    some (r.2.1.putD o.dst (.own T n (r.1++news))) else none
  | _,_=>none
 | .makeSlice T l c=>(rd s l).bind fun x=>(rd s c).bind fun y=>g7b E s n o.dst T x y
 | .makeMap T none=>if a1d E.P a3i=0 then some (s.putD o.dst (if E.mkm T n o.dst then .own a3i n [] else .pmap [])) else none
 | .lookup T x i ok=>(d8k s x).bind fun es=>(rd s i).bind fun k=>(b2l E T es k ok).map (s.putD o.dst)
 | .mapUpdate T m i x=>(rd s i).bind fun k=>(rd s x).bind fun v=>c6a E s T m k (strip2 v)
 | _=>none
def e0s(ds:List (Option Nat))(j:Nat):Option Nat:=(ds[j]?).bind fun d=>d
def b4x(ds:List (Option Nat))(o:Oper)(s:St):Option Bool:=
 match o.guard with
 | none=>some true
 | some (j,want)=>(e0s ds j).bind fun k=>(a0i s.tm k).bind fun
  | .bool b=>some (b==want)
  | .tup []=>some false
  | _=>none
def c1q(E:Env)(D:FuncId→List AVal→a3e→Option (AVal×a3e))(ds:List (Option Nat)):Nat→List Oper→St→Option St
 | _,[],s=>some s
 | n,o::os,s=>(b4x ds o s).bind fun w=>
  if w then (opF E D n o s).bind (c1q E D ds (n+1) os) else c1q E D ds (n+1) os (s.putD o.dst (.tup []))
def e0b(E:Env)(s:St):ResultVar→Option AVal
 | .tmp t=>(a0i s.tm t).map strip
 | .cell t T=>(a0i s.tm t).bind fun p=>(a8o E s T p).map strip
def b6y(E:Env)(s:St):List ResultVar→Option (List AVal)
 | []=>some []
 | r::rs=>(e0b E s r).bind fun v=>if c4k v=true then (b6y E s rs).map (v:: ·) else none
def j5e:List AVal→AVal
 | [v]=>v
 | vs=>.tup vs
def c9r:BName→Bool
 | .par _=>true
 | .loc _=>false
def a0t(E:Env)(f:FuncId):Option (List ResultVar):=(E.P.funcs[f]?).map (·.results.toList)
def g7q(s:St):List ResultVar→Option AVal
 | [.tmp t]=>(a0i s.tm t).bind fun
  | .own T _ es=>some (.own T 0 es)
  | .view T n _ p=>(match p with
   | .tmp j=>(a0i s.tm j).bind fun
    | .own T' n' es'=>if T'=T∧n'=n then some (.own T' 0 es') else none
    | _=>none
   | .cell (.loc k) off=>(a0i s.lb k).bind fun cs=>(cs[off]?).bind fun
    | .own T' n' es'=>if T'=T∧n'=n then some (.own T' 0 es') else none
    | _=>none
   | _=>none)
  | _=>none
 | _=>none
def e7j:List BName→Option Nat
 | []=>none
 | .loc j::_=>some j
 | .par _::r=>e7j r
def c7g(j n:Nat):BName→BName
 | .loc i=>if i=j then .par n else .loc i
 | b=>b
def c7z(s:St)(v:AVal):Option (AVal×a3e):=
 (e7j (names v)).bind fun j=>(a0i s.lb j).bind fun cs=>
   if (names v).all (fun b=>c9r (c7g j s.pb.length b))&&(s.pb.all (fun cs=>(cs.flatMap a1h).all c9r)&&(cs.flatMap a1h).all c9r) then some (ren (c7g j s.pb.length) v,s.pb.map (·.map a3n)++[cs.map a3n]) else none
def b3x(E:Env)(f:FuncId)(s:St):Option (AVal×a3e):=
 (a0t E f).bind fun rs=>(if E.keep f then g7q s rs else (b6y E s rs).map j5e).bind fun v=>
   if (names v).all c9r&&s.pb.all (fun cs=>(cs.flatMap a1h).all c9r) then some (v,s.pb.map (·.map a3n)) else if E.nbx f=true then c7z s v else none
def e4d(acc:List Nat)(o:Oper):Nat:=
 o.after.toList.foldl (fun m e=>if Region.binds .any e then m|||2 ^ e.on|||acc.getD e.on 0 else m) 0
def b5x:List Nat→List Oper→List Nat
 | acc,[]=>acc
 | acc,o::r=>b5x (acc++[e4d acc o]) r
def a8f(xs:List Operand):List Nat:=xs.filterMap fun
 | .tmp t=>some t
 | _=>none
def a8t(ds:List (Option Nat))(o:Oper):List Nat:=
 a8f o.op.operands.toList++(match o.guard with
  | some (j,_)=>(gslot' ds j).toList
  | none=>[])
where gslot' (ds:List (Option Nat)) (j:Nat):Option Nat:=(ds[j]?).bind fun d=>d
def d4d(l:List Oper)(x:Operand):List Nat:=(a8f [x]).flatMap fun t=>l.flatMap fun p=>if p.dst=some t then (match p.op with
 | .move y=>a8f [y]
 | _=>[]) else []
def b6a(l:List Oper)(o:Oper):List Nat:=
 match o.op with
 | .lookup _ x _ _=>a8f [x]++d4d l x
 | .mapUpdate _ x _ _=>a8f [x]++d4d l x
 | .assign x=>a8f [x]
 | .store _ _ x=>a8f [x]
 | .call {callee:=.builtin .append,args,.. }=>
  match args.toList with
  | [x,_]=>a8f [x]++(a8f [x]).flatMap fun t=>l.flatMap fun p=>if p.dst=some t then (match p.op with
   | .move y=>a8f [y]
   | _=>[]) else []
  | _=>[]
 | _=>[]
def a1b(l:List Oper)(o:Oper):List Nat:=o.dst.toList++b6a l o
inductive Kind where
 | plain
 | reads
 | news
 | writes
 | other
 deriving DecidableEq
def a2h(o:Oper):Kind:=
 match o.op with
 | .move _=>.plain
 | .assign _=>.plain
 | .pick _ _ _=>.plain
 | .alloc _=>.news
 | .box _ _=>.news
 | .build _ _=>.plain
 | .buildSlice _ _ _=>.plain
 | .load _ _=>.reads
 | .store _ _ _=>.writes
 | .nilCheck _=>.plain
 | .binOp _ _ _ _ _=>.plain
 | .unOp _ _ _=>.plain
 | .convert _ _ _=>.plain
 | .makeFunc _ _ _=>.plain
 | .fieldAddr _ _ _=>.plain
 | .indexAddr _ _ _=>.plain
 | .index _ _ _=>.plain
 | .slice _ _ _ _ _=>.plain
 | .extract _ _=>.plain
 | .call {callee:=.value _,.. }=>.writes
 | .call {callee:=.builtin .append,.. }=>.writes
 | .call {callee:=.builtin .len,.. }=>.plain
 | .call {callee:=.builtin .max,.. }=>.plain
 | .call {callee:=.builtin .min,.. }=>.plain
 | .lookup _ _ _ _=>.writes
 | .mapUpdate _ _ _ _=>.writes
 | _=>.other
def k1y(xs ys:List Nat):Bool:=xs.all fun x=> !ys.contains x
def e9w:Op→Bool
 | .move _=>true
 | .load _ _=>true
 | .buildSlice _ _ _=>true
 | .slice _ _ _ _ _=>true
 | .call {callee:=.builtin .append,.. }=>true
 | .call {callee:=.value _,.. }=>true
 | _=>false
def e4u:Op→Bool
 | .move _=>true
 | .load _ _=>true
 | _=>false
def c7r(o:Oper):Option Nat:=
 match o.op with
 | .lookup _ (.tmp t) _ _=>some t
 | .mapUpdate _ (.tmp t) _ _=>some t
 | _=>none
def e7i(l:List Oper)(j:Nat)(o:Oper):Bool:=
 match c7r o with
 | some t=>(List.range j).any fun p=>(match l[p]? with
  | some q=>decide (q.dst=some t)&&e4u q.op
  | none=>false)&&(List.range j).all fun i=>decide (i=p)||(match l[i]? with
   | some q=> !(a1b l q).contains t
   | none=>true)
 | none=>true
def f1g(l:List Oper)(j:Nat)(o:Oper):Bool:=
 match o.op with
 | .call {callee:=.builtin .append,args,.. }=>
  match args.toList with
  | [.tmp t,_]=>(List.range j).any fun p=>(match l[p]? with
   | some q=>decide (q.dst=some t)&&e9w q.op
   | none=>false)&&(List.range j).all fun i=>decide (i=p)||(match l[i]? with
    | some q=> !(a1b l q).contains t
    | none=>true)
  | _=>true
 | _=>true
def c9d(l:List Oper)(ps:List (Nat×Nat))(i j:Nat)(oi oj:Oper):Bool:=
 k1y (a1b l oi) (a8t (l.map (·.dst)) oj++a1b l oj)&&(k1y (a1b l oj) (a8t (l.map (·.dst)) oi)&&
 (!(decide (a2h oi=.writes)&&decide (a2h oj=.writes))&&
 ((!(decide (a2h oi=.reads)&&decide (a2h oj=.writes))||ps.contains (i,j))&&
 (!(decide (a2h oi=.writes)&&decide (a2h oj=.reads))||ps.contains (j,i)))))
def d4u(ps:List (Nat×Nat))(l:List Oper):Bool:=
 let ms:=b5x [] l
 (List.range l.length).all fun j=>match l[j]? with
   | some oj=>decide (a2h oj≠ .other)&&((f1g l j oj&&e7i l j oj)&&((oj.after.toList.all fun e=> !Region.binds .any e||decide (e.on<j))&&(List.range j).all fun i=>(ms.getD j 0).testBit i||(match l[i]? with
    | some oi=>c9d l ps i j oi oj
    | none=>false)))
   | none=>true
def d4n(o:Oper):Option (Nat×Nat×Nat×TypeId×TypeId):=
 match o.dst,o.guard,o.op with
 | some d,none,.call {callee:=.builtin .append,args,argTypes}=>
  match args.toList,argTypes.toList with
  | [.tmp x,.tmp z],[t,t2]=>some (d,x,z,t,t2)
  | _,_=>none
 | _,_,_=>none
def e9o(o:Oper):Option (Nat×TypeId×Nat×Nat):=
 match o.dst,o.guard,o.op with
 | some p,none,.indexAddr t (.tmp d) (.tmp i)=>some (p,t,d,i)
 | _,_,_=>none
def e0u(o:Oper):Option (TypeId×Nat×Nat):=
 match o.dst,o.guard,o.op with
 | none,none,.store t (.tmp p) (.tmp v)=>some (t,p,v)
 | _,_,_=>none
def g8b(o:Oper):Option (Nat×Nat):=
 match o.dst,o.guard,o.op with
 | some r,none,.nilCheck (.tmp x)=>some (r,x)
 | _,_,_=>none
def g8c(o:Oper):Option (Nat×TypeId×Nat×Nat):=
 match o.dst,o.guard,o.op with
 | some p,none,.fieldAddr t (.tmp x) i=>some (p,t,x,i)
 | _,_,_=>none
def g8d(o:Oper):Option (Nat×FuncId×List Operand):=
 match o.dst,o.guard,o.op with
 | some d,none,.call {callee:=.value (.func f),args,.. }=>some (d,f,args.toList)
 | _,_,_=>none
def f7t:AVal→Bool
 | .int _ _=>true
 | .bool _=>true
 | .str _=>true
 | _=>false
def f7r:AVal→Bool
 | .tup vs=>vs.all f7t
 | v=>f7t v
def d7o(D:FuncId→List AVal→a3e→Option (AVal×a3e))(s:St)(d d':Nat)(es:List AVal)(args:List Operand)(f:FuncId):Option St:=
 (a9z (s.put d (.slice es)) args).bind fun as=>if (as.flatMap names).isEmpty=true then (D f as []).bind fun q=>if q.2.isEmpty=true∧f7r q.1=true then some ((s.drop d).put d' q.1) else none else none
def i8i:AVal→Bool
 | .own T _ es=> !(decide (T=a3i)&&(isL es).isSome)
 | _=>true
def d4a(s:St):Bool:=s.tm.all (fun x=>i8i x.2)&&(s.pb.all (fun cs=>cs.all i8i)&&s.lb.all (fun x=>x.2.all i8i))
def c2v(E:Env)(D:FuncId→List AVal→a3e→Option (AVal×a3e))(s:St)(ap cl:Oper):Option St:=
 match d4n ap,g8d cl with
 | some (d,x,z,t,t2),some (d',f,args)=>(a1g E.P t).bind fun T=>(a0i s.tm z).bind fun v=>(d4b E (some t2) v).bind fun news=>(b4n s T (.tmp x)).bind fun r=>
  if r.1.length+news.length≤a0s∧c8d (a1d E.P T) news=true∧E.P.bytesOf T≤32768∧a9v E.P T=some (a1d E.P T)∧(r.2.2&&news.isEmpty)=false∧(r.2.2&& !c8d (a1d E.P T) r.1)=false∧d4a s=true then
   d7o D s d d' (r.1++news) args f else none
 | _,_=>none
def f4f(E:Env)(D:FuncId→List AVal→a3e→Option (AVal×a3e))(m:Option Nat)(ds:List (Option Nat))(n:Nat)(l:List Oper)(s:St):Option St:=
 match m with
 | none=>c1q E D ds n l s
 | some m=>(c1q E D ds n (l.take m) s).bind fun s1=>match l.drop m with
  | ap::cl::r=>(c2v E D s1 ap cl).bind fun s2=>c1q E D ds (n+m+2) r s2
  | _=>none
def k1m(E:Env)(T:TypeId)(es:List AVal):Bool:=c8d (a1d E.P T) es&&(decide (0<es.length)&&(decide (es.length≤1073741824)&&(decide (E.P.bytesOf T≤32768)&&decide (a9v E.P T=some (a1d E.P T)))))
def h5i(_:Env)(_:St)(_:Nat)(_:Option Nat)(_:TypeId)(_:List AVal):Option St:=none
def j3u(s:St):Operand→Option (Nat×Nat×TypeId×List AVal)
 | .tmp k=>(a0i s.tm k).bind fun
  | .mview n p=>(a7n p).bind fun j=>(a0i s.tm j).bind fun
   | .own T n' es=>if T=a3i∧n'=n then (isL es).map fun r=>(j,n,r.1,r.2) else none
   | _=>none
  | _=>none
 | _=>none
def k2n(_:Env)(_:St)(_:Nat)(_:Option Nat)(_:TypeId)(_:List AVal)(_:Operand):Option St:=none
def k2j(_:St)(_:Option Nat)(_:TypeId)(_:Operand):Option St:=none
def e0t(_:FuncId→List AVal→a3e→Option (AVal×a3e))(_:St)(_:Nat)(_:Option Nat)(_:FuncId)(_:Nat)(_:TypeId)(_:List Operand):Option St:=none
def c8x(D:FuncId→List AVal→a3e→Option (AVal×a3e))(s:St)(n:Nat)(dst:Option Nat)(as:List AVal)(f:FuncId):Option St:=
 (c0a s 100 (as.flatMap names) []).bind fun ns=>(a7o s ns).bind fun H=>
   (D f (as.map (ren (c1y ns))) (H.map (·.map fun c=>c5e (c1y ns) (a4g 0 c)))).bind fun r=>
     if r.2.length=ns.length then (a3t s ns (r.2.map (·.map fun c=>c5e (b2k ns) (a4g n c)))).map fun s'=>s'.putD dst (b8v n (ren (b2k ns) r.1))
     else match dst with
      | none=>none
      | some k=>match a0i s.lb k with
       | some _=>none
       | none=>(a3t {s with lb:=a7v s.lb k []} (ns++[.loc k]) (r.2.map (·.map fun c=>c5e (b2k (ns++[.loc k])) (a4g n c)))).map fun s'=>s'.putD dst (b8v n (ren (b2k (ns++[.loc k])) r.1))
def xF(E:Env)(D:FuncId→List AVal→a3e→Option (AVal×a3e))(n:Nat)(o:Oper)(s:St):Option St:=
 match o.guard with
 | some _=>none
 | none=>match o.op with
  | .call {callee:=.value (.func g),args,.. }=>(match E.gift g with
   | some (i,T)=>e0t D s n o.dst g i T args.toList
   | none=>if E.nbx g=true then (a9z s args.toList).bind fun as=>c8x D s n o.dst as g else match args.toList with
   | [x]=>(match E.cln g with
    | some T=>(rd s x).bind fun v=>(a5x v).bind fun es=>h5i E s n o.dst T es
    | none=>(E.rvs g).bind fun T=>k2j s o.dst T x)
   | _=>none)
  | .call {callee:=.builtin b,args,argTypes}=>(match b,args.toList with
   | .append,[x,y]=>((argTypes[0]?).bind (a1g E.P)).bind fun T=>(rd s y).bind fun v=>(d4b E (argTypes[1]?) v).bind fun news=>if argTypes.size=2 then k2n E s n o.dst T news x else none
   | _,_=>none)
  | _=>none
def mbF(E:Env)(n:Nat)(o1 o2 o3:Oper)(s:St):Option St:=
 match o1.guard,o2.guard,o3.guard,o1.op,o1.dst,o2.op,o2.dst,o3.op,o3.dst with
 | none,none,none,.makeMap _ none,some ka,.build S ps,some kb,.box _ (.tmp kb'),some kc=>
  (match ps.toList with
  | [(0,x),(1,.tmp ka')]=>(rd (s.put ka (.own a3i n [])) x).bind fun v=>
   if ka'=ka∧kb'=kb∧ka≠kb∧ka≠kc∧kb≠kc∧a1d E.P a3i=0∧a3f E.P S=true∧a1x E.P S 0=some (0,1)∧a1x E.P S 1=some (1,1)∧(a6u E.P S).map List.length=some 2∧(cellsOf v).length=1∧c4k v=true then
    (g1h ((s.put ka (.own a3i n [])).drop kb) (n+2) (some kc) 0 ((cellsOf v).map strip1++[.opaq])).bind fun s2=>(s2.box (.loc kc)).map fun cs=>(s2.setBox (.loc kc) (cs.set 1 (.own a3i (n+1) []))).put ka .opaq
   else none
  | _=>none)
 | _,_,_,_,_,_,_,_,_=>none
def k2k(o:Oper):Bool:=
 match o.op with
 | .makeMap _ none=>true
 | _=>false
def f1m(E:Env)(D:FuncId→List AVal→a3e→Option (AVal×a3e))(k m:Option Nat)(ds:List (Option Nat))(n:Nat)(l:List Oper)(s:St):Option St:=
 match k with
 | none=>f4f E D m ds n l s
 | some k=>(c1q E D ds n (l.take k) s).bind fun s1=>match l.drop k with
  | o::r=>if k2k o then (match r with
   | o2::o3::r'=>(mbF E (n+k) o o2 o3 s1).bind fun s2=>c1q E D ds (n+k+3) r' s2
   | _=>none) else (xF E D (n+k) o s1).bind fun s2=>c1q E D ds (n+k+1) r s2
  | _=>none
def i8q(m n:Nat):Array Bool:=(Array.range n).map fun i=>decide (i<m)
def h4g(ops:Array Oper)(m:Nat)(ap ix st nc fa sh:Oper):Bool:=
 match d4n ap,e9o ix,e0u st,g8b nc,g8c fa,e0u sh with
 | some (d,x,z,_,_),some (p,_,d1,i),some (_,p1,v),some (r,y),some (q,_,r1,_),some (_,q1,d2)=>
  decide (d1=d∧p1=p∧r1=r∧q1=q∧d2=d)&&decide (d≠i∧d≠v∧p≠v∧r≠v∧q≠v∧r≠p∧q≠p∧d≠p∧d≠x∧d≠z∧y≠d∧y≠p∧r≠d∧q≠d)
 | _,_,_,_,_,_=>false
def f3q(ops:Array Oper)(m:Nat):Bool:=
 let l0:=i8q m ops.size
 let l1:=l0.setIfInBounds m true
 let l2:=l1.setIfInBounds (m+1) true
 let l3:=l2.setIfInBounds (m+3) true
 let l4:=l3.setIfInBounds (m+4) true
 decide (Region.ready .any ops l0=[m])&&(Region.ready .any ops l1).contains (m+1)&&Region.free .any ops l1 (m+1)&&(Region.ready .any ops l2).contains (m+3)&&Region.free .any ops l2 (m+3)&&
 (Region.ready .any ops l3).contains (m+4)&&Region.free .any ops l3 (m+4)&&decide (Region.ready .any ops l4=[m+2,m+5])&&decide (Region.ready .any ops (l4.setIfInBounds (m+2) true)=[m+5])&&
 decide (Region.ready .any ops (l4.setIfInBounds (m+5) true)=[m+2])&&(Region.ready .any ops ((l4.setIfInBounds (m+2) true).setIfInBounds (m+5) true)).isEmpty&&
 (Region.ready .any ops ((l4.setIfInBounds (m+5) true).setIfInBounds (m+2) true)).isEmpty&&Region.noSelect ops
def e0r(ops:Array Oper):Bool:=
 let m:=ops.size - 6
 d4u [] (ops.toList.take m)&&((List.range 6).all fun k=>match ops[m+k]? with
  | some o=>(List.range m).all fun i=>o.after.toList.any fun e=>Region.binds .any e&&decide (e.on=i)
  | none=>false)&&f3q ops m&&(match ops.toList.drop m with
  | [ap,ix,st,nc,fa,sh]=>h4g ops m ap ix st nc fa sh
  | _=>false)
def e4g(E:Env)(n:Nat)(ap ix st:Oper)(s:St):Option St:=
 match d4n ap,e9o ix,e0u st with
 | some (d,x,z,t,t2),some (p,t',_,i),some (U,_,v)=>(a1g E.P t).bind fun T=>(a0i s.tm v).bind fun val=>(a0i s.tm z).bind fun zv=>(d4b E (some t2) zv).bind fun news=>(a0i s.tm i).bind fun iv=>(b4n s T (.tmp x)).bind fun r=>
  match iv with
  | .int _ k=>if k=r.1.length∧r.1.length+1≤a0s∧news.length=1∧c8d (a1d E.P T) news=true∧E.P.bytesOf T≤32768∧a9v E.P T=some (a1d E.P T)∧r.2.2=false∧
   e6u (strip2 val)=true∧(cellsOf (strip2 val)).length=a1d E.P T∧a1d E.P U=a1d E.P T∧a1g E.P t'=some T then some ((r.2.1.put d (.own T n (r.1++[strip2 val]))).drop p) else none
  | _=>none
 | _,_,_=>none
def c4j(N:Nat)(o:Oper):Bool:=
 (match o.dst with
 | some k=>decide (k<N)
 | none=>true)&&
 (match o.op,o.dst with
 | .store _ _ _,some _=>false
 | .mapUpdate _ _ _ _,some _=>false
 | _,_=>true)
def b2e(E:Env)(N:Nat)(f:FuncId):Code→Bool
 | .seq a b=>b2e E N f a&&b2e E N f b
 | .cond _ a b=>b2e E N f a&&b2e E N f b
 | .block _ c=>b2e E N f c
 | .loop c=>b2e E N f c
 | .region id ops d=>ops.toList.all (c4j N)&&(!d||(match E.drw f id with
  | some ps=>d4u ps ops.toList
  | none=>e0r ops))
 | _=>true
def k2m(E:Env)(f:FuncId)(fn:Func):Bool:=
 !(fn.name== "runtime.NumGoroutine")&&(match fn.body with
 | some c=>b2e E fn.ntmps f c
 | none=>false)
def b8e{α:Type}(al:List (Nat×α)):List Nat→List (Nat×α)
 | []=>[]
 | k::r=>match a0i al k with
  | some v=>(k,v)::b8e al r
  | none=>b8e al r
def b5e:AVal→AVal
 | .agg cs=>.agg (cs.map strip1)
 | .full es=>.full es
 | v=>a3n v
def b0i(lb:List (Nat×List AVal)):BName→Bool
 | .par _=>true
 | .loc k=>(a0i lb k).isSome
def c4z(L B:List Nat)(s:St):Option St:=
 let tm:=(b8e s.tm L).map fun x=>(x.1,b5e x.2)
 let lb:=(b8e s.lb B).map fun x=>(x.1,x.2.map a3n)
 let pb:=s.pb.map (·.map a3n)
 if tm.all (fun x=>(names x.2).all (b0i lb))&&(lb.all (fun x=>(x.2.flatMap a1h).all (b0i lb))&&pb.all (fun cs=>(cs.flatMap a1h).all (b0i lb))) then some ⟨tm,pb,lb,1⟩ else none
def c2y(E:Env)(f:FuncId)(s:St):List Item→Option St
 | .inBlock id::_=>match E.live f id with
  | some (L,B)=>c4z L B s
  | none=>some s
 | _=>some s
def d1g:Nat→List AVal→List (Nat×AVal)
 | _,[]=>[]
 | k,v::r=>(k,v)::d1g (k+1) r
def b1u(as:List AVal)(H:a3e):St:=⟨d1g 0 as,H,[],1⟩
end
end Go.Av
namespace Go.Av
abbrev Den:=FuncId→List AVal→a3e→Option (AVal×a3e)
def a0k(E:Env)(g:FuncId):Option Code:=(E.P.funcs[g]?).bind fun fn=>if k2m E g fn=true then fn.body else none
noncomputable def b1e (E:Env) (D:Den) (ds:List (Option Nat)):Nat→List Oper→St→Option (List St)
 | _,[],s=>some [s]
 | n,o::os,s=>(b4x ds o s).bind fun w=>
  (if w then opF E D n o s else some (s.putD o.dst (.tup []))).bind fun s'=>(b1e E D ds (n+1) os s').map (s:: ·)
def e3p(E:Env)(l:List Oper)(tr:List St)(p:Nat×Nat):Prop:=
 match l[p.1]?,tr[p.1]?,tr[p.2]?,tr[p.2+1]? with
 | some o,some s,some a,some b=>(match o.op with
  | .load T x=>(rd s x).bind (a8o E a T)=(rd s x).bind (a8o E b T)
  | _=>False)
 | _,_,_,_=>False
def c7a(E:Env)(l:List Oper)(tr:List St):List (Nat×Nat)→Prop
 | []=>True
 | p::ps=>e3p E l tr p∧c7a E l tr ps
open Classical in
noncomputable def b6e (E:Env) (D:Den) (ps:List (Nat×Nat)) (l:List Oper) (ds:List (Option Nat)) (s:St):Option St:=
 match ps with
 | []=>c1q E D ds s.ver l s
 | _::_=>(b1e E D ds s.ver l s).bind fun tr=>if c7a E l tr ps then tr.getLast? else none
noncomputable def b8g (E:Env) (D:Den) (l:List Oper) (ds:List (Option Nat)) (s:St):Option St:=
 (c1q E D ((l.take (l.length - 6)).map (·.dst)) s.ver (l.take (l.length - 6)) s).bind fun s1=>match l.drop (l.length - 6) with
   | [ap,ix,st,nc,fa,sh]=>(e4g E (s.ver+(l.length - 6)) ap ix st s1).bind fun s3=>c1q E D ds (s.ver+(l.length - 6)+3) [nc,fa,sh] s3
   | _=>none
noncomputable def a9k (E:Env) (D:Den) (f:FuncId) (id:Nat) (ops:Array Oper) (d:Bool) (s:St):Option St:=
 (if d then (match E.drw f id with
   | some ps=>b6e E D ps ops.toList (ops.toList.map fun o=>o.dst) s
   | none=>b8g E D ops.toList (ops.toList.map fun o=>o.dst) s)
   else f1m E D (a0i (E.xop f) id) (a0i (E.lend f) id) (ops.toList.map fun o=>o.dst) s.ver ops.toList s).map fun s'=>{s' with ver:=s.ver+ops.size}
def a8y(E:Env)(R:FuncId→List Item→St→Option (AVal×a3e)):Den:=fun g as H=>
 match E.prim g with
 | some p=>p as H
 | none=>(a0k E g).bind fun c=>R g [.code c] (b1u as H)
noncomputable def b0w (E:Env):Nat→FuncId→List Item→St→Option (AVal×a3e)
 | 0,_,_,_=>none
 | n+1,f,K,s=>
  match K with
  | []=>b3x E f s
  | .code .ret::_=>b3x E f s
  | .code .skip::k=>b0w E n f k s
  | .inBlock _::k=>b0w E n f k s
  | .code (.seq a b)::k=>b0w E n f (.code a:: .code b::k) s
  | .code (.cond c a b)::k=>(rd s c).bind fun
   | .bool t=>if t then b0w E n f (.code a::k) s else b0w E n f (.code b::k) s
   | _=>none
  | .code (.block id c)::k=>b0w E n f (.code c:: .inBlock id::k) s
  | .code (.loop c)::k=>(c2y E f s k).bind (b0w E n f (.code c:: .inLoop c::k))
  | .inLoop c::k=>(c2y E f s k).bind (b0w E n f (.code c:: .inLoop c::k))
  | .code (.exit id)::k=>(exitTo id k).bind fun k'=>b0w E n f k' s
  | .code (.region id ops d)::k=>(i8l E f id s).bind fun s=>(a9k E (a8y E (b0w E n)) f id ops d s).bind (b0w E n f k)
  | _=>none
def Le(D D':Den):Prop:=∀f as H r,D f as H=some r→D' f as H=some r
theorem bind_some{α β:Type}{x:Option α}{f:α→Option β}{r:β}(h:x.bind f=some r):∃a,x=some a∧f a=some r:=by
 cases x with
 | none=>cases h
 | some a=>exact⟨a,rfl,h⟩
theorem map_some{α β:Type}{x:Option α}{f:α→β}{r:β}(h:x.map f=some r):∃a,x=some a∧f a=r:=by
 cases x with
 | none=>cases h
 | some a=>exact⟨a,rfl,by injection h⟩
theorem g9z{D D':Den}(h:Le D D'){s:St}{n:Nat}{dst:Option Nat}{as:List AVal}{c:AVal}{s':St}(hc:b8a D s n dst as c=some s'):
 b8a D' s n dst as c=some s':=by
 cases c with
 | func f first cap=>
  simp only[b8a] at hc⊢;split at hc
  · rename_i hn;obtain⟨r,h1,h2⟩:=bind_some hc;rw[h _ _ _ _ h1];exact h2
  · rename_i b bs hn;obtain⟨ns,h1,hc⟩:=bind_some hc;obtain⟨H,h2,hc⟩:=bind_some hc;obtain⟨r,h3,hc⟩:=bind_some hc;rw[h1,Option.bind_some,h2,Option.bind_some,h _ _ _ _ h3];exact hc
 | _=>cases hc
theorem h4o{E:Env}{D D':Den}(h:Le D D'){n:Nat}{o:Oper}{s s':St}(hc:opF E D n o s=some s'):opF E D' n o s=some s':=by
 unfold opF at hc⊢;split at hc<;>(try exact hc)
 rename_i g args _ _;obtain⟨c,h1,hc⟩:=bind_some hc;obtain⟨as,h2,hc⟩:=bind_some hc;rw[h1,Option.bind_some,h2,Option.bind_some];exact g9z h hc
theorem b1k{E:Env}{D D':Den}(h:Le D D'){ops:List (Option Nat)}:∀(l:List Oper) (n:Nat) (s s':St),c1q E D ops n l s=some s'→c1q E D' ops n l s=some s'
 | [],_,_,_,hc=>hc
 | o::os,n,s,s',hc=>by
  simp only[c1q] at hc⊢;obtain⟨w,h1,hc⟩:=bind_some hc;rw[h1,Option.bind_some];cases w with
  | true=>
   simp only[if_true] at hc⊢;obtain⟨s1,h2,hc⟩:=bind_some hc;rw[h4o h h2,Option.bind_some];exact b1k h os _ _ _ hc
  | false=>
   simp only[Bool.false_eq_true,if_false] at hc⊢;exact b1k h os _ _ _ hc
theorem c6g{E:Env}{D D':Den}(h:Le D D'){ops:List (Option Nat)}:∀(l:List Oper) (n:Nat) (s:St) (tr:List St),b1e E D ops n l s=some tr→b1e E D' ops n l s=some tr
 | [],_,_,_,hc=>hc
 | o::os,n,s,tr,hc=>by
  simp only[b1e] at hc⊢;obtain⟨w,h1,hc⟩:=bind_some hc;obtain⟨s1,h2,hc⟩:=bind_some hc;obtain⟨tr',h3,rfl⟩:=map_some hc;rw[h1,Option.bind_some];cases w with
  | true=>
   simp only[if_true] at h2⊢;rw[h4o h h2,Option.bind_some,c6g h os _ _ _ h3];rfl
  | false=>
   simp only[Bool.false_eq_true,if_false] at h2⊢;rw[h2,Option.bind_some,c6g h os _ _ _ h3];rfl
theorem f9m{E:Env}{D D':Den}(h:Le D D'){ps:List (Nat×Nat)}{l:List Oper}{ds:List (Option Nat)}{s s':St}(hc:b6e E D ps l ds s=some s'):b6e E D' ps l ds s=some s':=by
 unfold b6e at hc⊢;cases ps with
 | nil=>exact b1k h _ _ _ _ hc
 | cons p ps=>
  simp only at hc⊢;obtain⟨tr,h1,hc⟩:=bind_some hc;rw[c6g h _ _ _ _ h1,Option.bind_some];exact hc
theorem f7g{E:Env}{D D':Den}(h:Le D D'){l:List Oper}{ds:List (Option Nat)}{s s':St}(hc:b8g E D l ds s=some s'):b8g E D' l ds s=some s':=by
 unfold b8g at hc⊢;obtain⟨s1,h1,hc⟩:=bind_some hc;rw[b1k h _ _ _ _ h1,Option.bind_some];split at hc
 · obtain⟨s3,h2,hc⟩:=bind_some hc;simp only[h2,Option.bind_some];exact b1k h _ _ _ _ hc
 · cases hc
theorem g7k{D D':Den}(h:Le D D'){s s':St}{d d':Nat}{es:List AVal}{args:List Operand}{f:FuncId}(hc:d7o D s d d' es args f=some s'):d7o D' s d d' es args f=some s':=by
 unfold d7o at hc⊢;obtain⟨as,h1,hc⟩:=bind_some hc;rw[h1,Option.bind_some];split at hc
 · rename_i hn;obtain⟨q,h2,hc⟩:=bind_some hc;rw[if_pos hn,h _ _ _ _ h2];exact hc
 · cases hc
theorem g7j{E:Env}{D D':Den}(h:Le D D'){s s':St}{ap cl:Oper}(hc:c2v E D s ap cl=some s'):c2v E D' s ap cl=some s':=by
 unfold c2v at hc⊢;split at hc
 · obtain⟨T,h1,hc⟩:=bind_some hc;obtain⟨v,h2,hc⟩:=bind_some hc;obtain⟨news,h3,hc⟩:=bind_some hc;obtain⟨r,h4,hc⟩:=bind_some hc;simp only[h1,h2,h3,h4,Option.bind_some];split at hc
   · rename_i hn;rw[if_pos hn];exact g7k h hc
   · cases hc
 · cases hc
theorem i4s{E:Env}{D D':Den}(h:Le D D'){m:Option Nat}{ds:List (Option Nat)}{l:List Oper}{n:Nat}{s s':St}(hc:f4f E D m ds n l s=some s'):f4f E D' m ds n l s=some s':=by
 unfold f4f at hc⊢;split at hc
 · exact b1k h _ _ _ _ hc
 · obtain⟨s1,h1,hc⟩:=bind_some hc;simp only[b1k h _ _ _ _ h1,Option.bind_some];split at hc
   · obtain⟨s2,h2,hc⟩:=bind_some hc;simp only[g7j h h2,Option.bind_some];exact b1k h _ _ _ _ hc
   · cases hc
theorem g8a{D D':Den}(h:Le D D'){s s':St}{n:Nat}{dst:Option Nat}{g:FuncId}{i:Nat}{T:TypeId}{args:List Operand}(hc:e0t D s n dst g i T args=some s'):e0t D' s n dst g i T args=some s':=by cases hc
theorem g9y{D D':Den}(h:Le D D'){s s':St}{n:Nat}{dst:Option Nat}{as:List AVal}{f:FuncId}(hc:c8x D s n dst as f=some s'):c8x D' s n dst as f=some s':=by
 unfold c8x at hc⊢;obtain⟨ns,h1,hc⟩:=bind_some hc;obtain⟨H,h2,hc⟩:=bind_some hc;obtain⟨r,h3,hc⟩:=bind_some hc;rw[h1,Option.bind_some,h2,Option.bind_some,h _ _ _ _ h3];exact hc
theorem j5p{E:Env}{D D':Den}(h:Le D D'){n:Nat}{o:Oper}{s s':St}(hc:xF E D n o s=some s'):xF E D' n o s=some s':=by
 unfold xF at hc⊢;split at hc
 · cases hc
 · rename_i hg;split at hc
   · rename_i g args ats ho;split at hc
     · rename_i i T hi;exact g8a h hc
     · rename_i hi;split at hc
       · rename_i hb;rw[if_pos hb];obtain⟨as,h1,hc⟩:=bind_some hc;rw[h1,Option.bind_some];exact g9y h hc
       · rename_i hb;rw[if_neg hb];exact hc
   · rename_i ho;exact hc
   · cases hc
theorem i4r{E:Env}{D D':Den}(h:Le D D'){k m:Option Nat}{ds:List (Option Nat)}{l:List Oper}{n:Nat}{s s':St}(hc:f1m E D k m ds n l s=some s'):f1m E D' k m ds n l s=some s':=by
 unfold f1m at hc⊢;split at hc
 · exact i4s h hc
 · obtain⟨s1,h1,hc⟩:=bind_some hc;simp only[b1k h _ _ _ _ h1,Option.bind_some];split at hc
   · rename_i hd;split at hc
     · rename_i hmk;rw[if_pos hmk];split at hc
       · obtain⟨s2,h2,hc⟩:=bind_some hc;simp only[h2,Option.bind_some];exact b1k h _ _ _ _ hc
       · cases hc
     · rename_i hmk;rw[if_neg hmk];obtain⟨s2,h2,hc⟩:=bind_some hc;simp only[j5p h h2,Option.bind_some];exact b1k h _ _ _ _ hc
   · cases hc
theorem d0k{E:Env}{D D':Den}(h:Le D D'){f:FuncId}{id:Nat}{ops:Array Oper}{d:Bool}{s s':St}(hc:a9k E D f id ops d s=some s'):a9k E D' f id ops d s=some s':=by
 obtain⟨s1,h1,rfl⟩:=map_some hc;unfold a9k;cases d with
 | true=>
  simp only[if_true] at h1⊢;split at h1
  · rw[f9m h h1];rfl
  · rw[f7g h h1];rfl
 | false=>
  simp only[Bool.false_eq_true,if_false] at h1⊢;rw[i4r h h1];rfl
theorem e5e{E:Env}{R R':FuncId→List Item→St→Option (AVal×a3e)}(h:∀f K s r,R f K s=some r→R' f K s=some r):Le (a8y E R) (a8y E R'):=by
 intro f as H r hr;unfold a8y at hr⊢;cases hp:E.prim f with
 | some p=>rw[hp] at hr;exact hr
 | none=>
  rw[hp] at hr;obtain⟨c,h1,hr⟩:=bind_some hr;simp only[h1,Option.bind_some];exact h _ _ _ _ hr
theorem d6k(E:Env):∀(n:Nat) (f:FuncId) (K:List Item) (s:St) (r:AVal×a3e),b0w E n f K s=some r→b0w E (n+1) f K s=some r
 | 0,_,_,_,_,h=>by cases h
 | n+1,f,K,s,r,h=>by
  have ih:=d6k E n;unfold b0w at h⊢;split at h
  · exact h
  · exact h
  · exact ih _ _ _ _ h
  · exact ih _ _ _ _ h
  · exact ih _ _ _ _ h
  · obtain⟨v,h1,h⟩:=bind_some h;simp only[h1,Option.bind_some];cases v with
    | bool t=>
     cases t
     · simp only[Bool.false_eq_true,if_false] at h⊢;exact ih _ _ _ _ h
     · simp only[if_true] at h⊢;exact ih _ _ _ _ h
    | _=>cases h
  · exact ih _ _ _ _ h
  · obtain⟨s1,h1,h⟩:=bind_some h;simp only[h1,Option.bind_some];exact ih _ _ _ _ h
  · obtain⟨s1,h1,h⟩:=bind_some h;simp only[h1,Option.bind_some];exact ih _ _ _ _ h
  · obtain⟨k',h1,h⟩:=bind_some h;simp only[h1,Option.bind_some];exact ih _ _ _ _ h
  · obtain⟨s0,h0,h⟩:=bind_some h;obtain⟨s1,h1,h⟩:=bind_some h;simp only[h0,Option.bind_some,d0k (e5e ih) h1];exact ih _ _ _ _ h
  · cases h
theorem d3i(E:Env){n m:Nat}(h:n≤m){f:FuncId}{K:List Item}{s:St}{r:AVal×a3e}(hr:b0w E n f K s=some r):b0w E m f K s=some r:=by
 induction h with
 | refl=>exact hr
 | step _ ih=>exact d6k E _ _ _ _ _ ih
open Classical in
noncomputable def run (E:Env) (f:FuncId) (K:List Item) (s:St):Option (AVal×a3e):=
 if h:∃n r,b0w E n f K s=some r then some h.choose_spec.choose else none
theorem a5a{E:Env}{f:FuncId}{K:List Item}{s:St}{r:AVal×a3e}:run E f K s=some r↔∃n,b0w E n f K s=some r:=by
 constructor
 · intro h;unfold run at h;split at h
   · rename_i hx;refine⟨hx.choose,?_⟩;have:=hx.choose_spec.choose_spec;injection h with h;rw[←h];exact this
   · cases h
 · rintro⟨n,hn⟩;have hx:∃n r,b0w E n f K s=some r:=⟨n,r,hn⟩
   unfold run;rw[dif_pos hx];have h2:=hx.choose_spec.choose_spec;have a:=d3i E (Nat.le_max_left n hx.choose) hn;have b:=d3i E (Nat.le_max_right n hx.choose) h2;rw[a] at b;exact b.symm
theorem h8y{E:Env}{f g:FuncId}{K L:List Item}{s t:St}(h:∀r,run E f K s=some r↔run E g L t=some r):run E f K s=run E g L t:=by
 cases hr:run E g L t with
 | some r=>exact (h r).2 hr
 | none=>
  cases hl:run E f K s with
  | none=>rfl
  | some r=>rw[(h r).1 hl] at hr;cases hr
theorem c7b{α:Type}{x y:Option α}(h:∀r,x=some r↔y=some r):x=y:=by
 cases hy:y with
 | some r=>exact (h r).2 hy
 | none=>
  cases hx:x with
  | none=>rfl
  | some r=>rw[(h r).1 hx] at hy;cases hy
noncomputable def den (E:Env):Den:=a8y E (run E)
theorem i5s{E:Env}(n:Nat):Le (a8y E (b0w E n)) (den E):=e5e fun _ _ _ _ h=>a5a.2 ⟨n,h⟩
theorem c1e{E:Env}{f:FuncId}{as:List AVal}{H:a3e}{r:AVal×a3e}(h:den E f as H=some r):∃n,∀m,n≤m→a8y E (b0w E m) f as H=some r:=by
 unfold den a8y at h;cases hp:E.prim f with
 | some p=>rw[hp] at h;exact⟨0,fun m _=>by unfold a8y;rw[hp];exact h⟩
 | none=>
  rw[hp] at h;obtain⟨c,h1,h⟩:=bind_some h;obtain⟨n,hn⟩:=a5a.1 h;exact⟨n,fun m hm=>by unfold a8y;rw[hp];simp only[h1,Option.bind_some];exact d3i E hm hn⟩
theorem f0w{E:Env}{s:St}{n:Nat}{dst:Option Nat}{as:List AVal}{c:AVal}{s':St}(hc:b8a (den E) s n dst as c=some s'):
 ∃k,∀m,k≤m→b8a (a8y E (b0w E m)) s n dst as c=some s':=by
 cases c with
 | func f first cap=>
  simp only[b8a] at hc⊢;split at hc
  · obtain⟨r,h1,h2⟩:=bind_some hc;obtain⟨k,hk⟩:=c1e h1;exact⟨k,fun m hm=>by rw[hk m hm];exact h2⟩
  · obtain⟨ns,h1,hc⟩:=bind_some hc;obtain⟨H,h2,hc⟩:=bind_some hc;obtain⟨r,h3,hc⟩:=bind_some hc;obtain⟨k,hk⟩:=c1e h3;exact⟨k,fun m hm=>by rw[h1,Option.bind_some,h2,Option.bind_some,hk m hm];exact hc⟩
 | _=>cases hc
theorem e3s{E:Env}{n:Nat}{o:Oper}{s s':St}(hc:opF E (den E) n o s=some s'):∃k,∀m,k≤m→opF E (a8y E (b0w E m)) n o s=some s':=by
 unfold opF at hc⊢;split at hc<;>(try exact⟨0,fun _ _=>hc⟩)
 obtain⟨c,h1,hc⟩:=bind_some hc;obtain⟨as,h2,hc⟩:=bind_some hc;obtain⟨k,hk⟩:=f0w hc;exact⟨k,fun m hm=>by rw[h1,Option.bind_some,h2,Option.bind_some];exact hk m hm⟩
theorem a7g{E:Env}{ops:List (Option Nat)}:∀(l:List Oper) (n:Nat) (s s':St),c1q E (den E) ops n l s=some s'→∃k,∀m,k≤m→c1q E (a8y E (b0w E m)) ops n l s=some s'
 | [],_,_,_,hc=>⟨0,fun _ _=>hc⟩
 | o::os,n,s,s',hc=>by
  simp only[c1q] at hc⊢;obtain⟨w,h1,hc⟩:=bind_some hc;cases w with
  | true=>
   simp only[if_true] at hc;obtain⟨s1,h2,hc⟩:=bind_some hc;obtain⟨k1,hk1⟩:=e3s h2;obtain⟨k2,hk2⟩:=a7g os _ _ _ hc;exact⟨max k1 k2,fun m hm=>by
    rw[h1,Option.bind_some];simp only[if_true];rw[hk1 m (by omega),Option.bind_some];exact hk2 m (by omega)⟩
  | false=>
   simp only[Bool.false_eq_true,if_false] at hc;obtain⟨k2,hk2⟩:=a7g os _ _ _ hc;exact⟨k2,fun m hm=>by
    rw[h1,Option.bind_some];simp only[Bool.false_eq_true,if_false];exact hk2 m (by omega)⟩
theorem c6h{E:Env}{ops:List (Option Nat)}:∀(l:List Oper) (n:Nat) (s:St) (tr:List St),b1e E (den E) ops n l s=some tr→∃k,∀m,k≤m→b1e E (a8y E (b0w E m)) ops n l s=some tr
 | [],_,_,_,hc=>⟨0,fun _ _=>hc⟩
 | o::os,n,s,tr,hc=>by
  simp only[b1e] at hc⊢;obtain⟨w,h1,hc⟩:=bind_some hc;obtain⟨s1,h2,hc⟩:=bind_some hc;obtain⟨tr',h3,rfl⟩:=map_some hc;obtain⟨k2,hk2⟩:=c6h os _ _ _ h3;cases w with
  | true=>
   simp only[if_true] at h2;obtain⟨k1,hk1⟩:=e3s h2;exact⟨max k1 k2,fun m hm=>by
    rw[h1,Option.bind_some];simp only[if_true];rw[hk1 m (by omega),Option.bind_some,hk2 m (by omega)];rfl⟩
  | false=>
   simp only[Bool.false_eq_true,if_false] at h2;exact⟨k2,fun m hm=>by
    rw[h1,Option.bind_some];simp only[Bool.false_eq_true,if_false];rw[h2,Option.bind_some,hk2 m hm];rfl⟩
theorem e1b{E:Env}{ps:List (Nat×Nat)}{l:List Oper}{ds:List (Option Nat)}{s s':St}(hc:b6e E (den E) ps l ds s=some s'):
 ∃k,∀m,k≤m→b6e E (a8y E (b0w E m)) ps l ds s=some s':=by
 unfold b6e at hc⊢;cases ps with
 | nil=>exact a7g _ _ _ _ hc
 | cons p ps=>
  simp only at hc⊢;obtain⟨tr,h1,hc⟩:=bind_some hc;obtain⟨k,hk⟩:=c6h _ _ _ _ h1;exact⟨k,fun m hm=>by rw[hk m hm,Option.bind_some];exact hc⟩
theorem e0q{E:Env}{l:List Oper}{ds:List (Option Nat)}{s s':St}(hc:b8g E (den E) l ds s=some s'):
 ∃k,∀m,k≤m→b8g E (a8y E (b0w E m)) l ds s=some s':=by
 unfold b8g at hc⊢;obtain⟨s1,h1,hc⟩:=bind_some hc;obtain⟨k1,hk1⟩:=a7g _ _ _ _ h1;split at hc
 · obtain⟨s3,h2,hc⟩:=bind_some hc;obtain⟨k2,hk2⟩:=a7g _ _ _ _ hc;exact⟨max k1 k2,fun m hm=>by rw[hk1 m (by omega),Option.bind_some];simp only[h2,Option.bind_some];exact hk2 m (by omega)⟩
 · cases hc
theorem e9d{E:Env}{s s':St}{ap cl:Oper}(hc:c2v E (den E) s ap cl=some s'):∃k,∀m,k≤m→c2v E (a8y E (b0w E m)) s ap cl=some s':=by
 unfold c2v at hc;split at hc
 · rename_i k1 k2;obtain⟨T,h1,hc⟩:=bind_some hc;obtain⟨v,h2,hc⟩:=bind_some hc;obtain⟨news,h3,hc⟩:=bind_some hc;obtain⟨r,h4,hc⟩:=bind_some hc;split at hc
   · rename_i hn;unfold d7o at hc;obtain⟨as,h6,hc⟩:=bind_some hc;split at hc
     · rename_i hm;obtain⟨q,h7,hc⟩:=bind_some hc;obtain⟨k,hk⟩:=c1e h7;refine⟨k,fun m hm'=>?_⟩;unfold c2v;simp only[k1,k2,h1,h2,h3,h4,Option.bind_some];rw[if_pos hn];unfold d7o;simp only[h6,Option.bind_some];rw[if_pos hm,hk m hm'];exact hc
     · cases hc
   · cases hc
 · cases hc
theorem f4e{E:Env}{m:Option Nat}{ds:List (Option Nat)}{l:List Oper}{n:Nat}{s s':St}(hc:f4f E (den E) m ds n l s=some s'):∃k,∀j,k≤j→f4f E (a8y E (b0w E j)) m ds n l s=some s':=by
 unfold f4f at hc;split at hc
 · exact a7g _ _ _ _ hc
 · obtain⟨s1,h1,hc⟩:=bind_some hc;obtain⟨k1,hk1⟩:=a7g _ _ _ _ h1;split at hc
   · rename_i hd;obtain⟨s2,h2,hc⟩:=bind_some hc;obtain⟨k2,hk2⟩:=e9d h2;obtain⟨k3,hk3⟩:=a7g _ _ _ _ hc;refine⟨max k1 (max k2 k3),fun j hj=>?_⟩;unfold f4f;simp only[hk1 j (by omega),Option.bind_some,hd,hk2 j (by omega),hk3 j (by omega)]
   · cases hc
theorem e9m{E:Env}{s s':St}{n:Nat}{dst:Option Nat}{g:FuncId}{i:Nat}{T:TypeId}{args:List Operand}(hc:e0t (den E) s n dst g i T args=some s'):∃k,∀m,k≤m→e0t (a8y E (b0w E m)) s n dst g i T args=some s':=by cases hc
theorem f0v{E:Env}{s s':St}{n:Nat}{dst:Option Nat}{as:List AVal}{f:FuncId}(hc:c8x (den E) s n dst as f=some s'):∃k,∀m,k≤m→c8x (a8y E (b0w E m)) s n dst as f=some s':=by
 unfold c8x at hc;obtain⟨ns,h1,hc⟩:=bind_some hc;obtain⟨H,h2,hc⟩:=bind_some hc;obtain⟨r,h3,hc⟩:=bind_some hc;obtain⟨k,hk⟩:=c1e h3;exact⟨k,fun m hm=>by unfold c8x;rw[h1,Option.bind_some,h2,Option.bind_some,hk m hm];exact hc⟩
theorem h5r{E:Env}{n:Nat}{o:Oper}{s s':St}(hc:xF E (den E) n o s=some s'):∃k,∀m,k≤m→xF E (a8y E (b0w E m)) n o s=some s':=by
 unfold xF at hc;split at hc
 · cases hc
 · rename_i hg;split at hc
   · rename_i g args ats ho;split at hc
     · rename_i i T hi;obtain⟨k,hk⟩:=e9m hc;exact⟨k,fun m hm=>by unfold xF;simp only[hg,ho,hi];exact hk m hm⟩
     · rename_i hi;split at hc
       · rename_i hb;obtain⟨as,h1,hc⟩:=bind_some hc;obtain⟨k,hk⟩:=f0v hc;exact⟨k,fun m hm=>by unfold xF;simp only[hg,ho,hi];rw[if_pos hb,h1,Option.bind_some];exact hk m hm⟩
       · rename_i hb;exact⟨0,fun m _=>by unfold xF;simp only[hg,ho,hi];rw[if_neg hb];exact hc⟩
   · rename_i ho;exact⟨0,fun m _=>by unfold xF;simp only[hg,ho];exact hc⟩
   · cases hc
theorem f4d{E:Env}{k m:Option Nat}{ds:List (Option Nat)}{l:List Oper}{n:Nat}{s s':St}(hc:f1m E (den E) k m ds n l s=some s'):∃q,∀j,q≤j→f1m E (a8y E (b0w E j)) k m ds n l s=some s':=by
 unfold f1m at hc;split at hc
 · exact f4e hc
 · obtain⟨s1,h1,hc⟩:=bind_some hc;obtain⟨k1,hk1⟩:=a7g _ _ _ _ h1;split at hc
   · rename_i hd;split at hc
     · rename_i hmk;split at hc
       · obtain⟨s2,h2,hc⟩:=bind_some hc;obtain⟨k3,hk3⟩:=a7g _ _ _ _ hc;refine⟨max k1 k3,fun j hj=>?_⟩;unfold f1m;simp only[hk1 j (by omega),Option.bind_some,hd,hmk,if_true,h2,hk3 j (by omega)]
       · cases hc
     · rename_i hmk;obtain⟨s2,h2,hc⟩:=bind_some hc;obtain⟨k2,hk2⟩:=h5r h2;obtain⟨k3,hk3⟩:=a7g _ _ _ _ hc;refine⟨max k1 (max k2 k3),fun j hj=>?_⟩;unfold f1m;simp only[hk1 j (by omega),Option.bind_some,hd];rw[if_neg hmk];simp only[hk2 j (by omega),Option.bind_some,hk3 j (by omega)]
   · cases hc
theorem d6m{E:Env}{f:FuncId}{id:Nat}{ops:Array Oper}{d:Bool}{s s':St}(hc:a9k E (den E) f id ops d s=some s'):
 ∃k,∀m,k≤m→a9k E (a8y E (b0w E m)) f id ops d s=some s':=by
 obtain⟨s1,h1,rfl⟩:=map_some hc;cases d with
 | true=>
  simp only[if_true] at h1;split at h1
  · rename_i ps h2;obtain⟨k,hk⟩:=e1b h1;exact⟨k,fun m hm=>by unfold a9k;simp only[if_true,h2];rw[hk m hm];rfl⟩
  · rename_i h2;obtain⟨k,hk⟩:=e0q h1;exact⟨k,fun m hm=>by unfold a9k;simp only[if_true,h2];rw[hk m hm];rfl⟩
 | false=>
  simp only[Bool.false_eq_true,if_false] at h1;obtain⟨k,hk⟩:=f4d h1;exact⟨k,fun m hm=>by unfold a9k;simp only[Bool.false_eq_true,if_false];rw[hk m hm];rfl⟩
section
variable{E:Env}{f:FuncId}{k:List Item}{s:St}
theorem b6w{K:List Item}{L:List Item}{t:St}(h:∀n,b0w E (n+1) f K s=b0w E n f L t):run E f K s=run E f L t:=
 h8y fun r=>by
  rw[a5a,a5a];constructor
  · rintro⟨n,hn⟩;cases n with
    | zero=>cases hn
    | succ n=>exact⟨n,by rw[←h];exact hn⟩
  · rintro⟨n,hn⟩;exact⟨n+1,by rw[h];exact hn⟩
theorem h8x:run E f [] s=b3x E f s:=c7b fun r=>by
 rw[a5a];constructor
 · rintro⟨n,hn⟩;cases n with
   | zero=>cases hn
   | succ n=>exact hn
 · intro h;exact⟨1,h⟩
theorem h8w:run E f (.code .ret::k) s=b3x E f s:=c7b fun r=>by
 rw[a5a];constructor
 · rintro⟨n,hn⟩;cases n with
   | zero=>cases hn
   | succ n=>exact hn
 · intro h;exact⟨1,h⟩
theorem g2o:run E f (.code .skip::k) s=run E f k s:=b6w fun _=>rfl
theorem d9x{id:Nat}:run E f (.inBlock id::k) s=run E f k s:=b6w fun _=>rfl
theorem h8v{a b:Code}:run E f (.code (.seq a b)::k) s=run E f (.code a:: .code b::k) s:=b6w fun _=>rfl
theorem f3j{id:Nat}{c:Code}:run E f (.code (.block id c)::k) s=run E f (.code c:: .inBlock id::k) s:=b6w fun _=>rfl
theorem g2r{c:Operand}{a b:Code}:run E f (.code (.cond c a b)::k) s=
 (match rd s c with|some (.bool t)=>if t=true then run E f (.code a::k) s else run E f (.code b::k) s|_=>none):=c7b fun r=>by
 rw[a5a];constructor
 · rintro⟨n,hn⟩;cases n with
   | zero=>cases hn
   | succ n=>
    obtain⟨v,h1,hn⟩:=bind_some hn;rw[h1];cases v with
    | bool t=>
     cases t
     · exact a5a.2 ⟨n,hn⟩
     · exact a5a.2 ⟨n,hn⟩
    | _=>cases hn
 · intro h;split at h
   · rename_i t ht;cases t
     · obtain⟨n,hn⟩:=a5a.1 h;exact⟨n+1,by simp only[b0w,ht,Option.bind_some];exact hn⟩
     · obtain⟨n,hn⟩:=a5a.1 h;exact⟨n+1,by simp only[b0w,ht,Option.bind_some];exact hn⟩
   · cases h
theorem g2q{id:Nat}:run E f (.code (.exit id)::k) s=(match exitTo id k with|some k'=>run E f k' s|none=>none):=c7b fun r=>by
 rw[a5a];constructor
 · rintro⟨n,hn⟩;cases n with
   | zero=>cases hn
   | succ n=>
    obtain⟨v,h1,hn⟩:=bind_some hn;rw[h1];exact a5a.2 ⟨n,hn⟩
 · intro h;split at h
   · rename_i k' hk;obtain⟨n,hn⟩:=a5a.1 h;exact⟨n+1,by simp only[b0w,hk,Option.bind_some];exact hn⟩
   · cases h
theorem d3f{c:Code}{s':St}(h:c2y E f s k=some s'):run E f (.code (.loop c)::k) s=run E f (.code c:: .inLoop c::k) s':=b6w fun n=>by
 simp[b0w,h]
theorem c2f{c:Code}{s':St}(h:c2y E f s k=some s'):run E f (.inLoop c::k) s=run E f (.code c:: .inLoop c::k) s':=b6w fun n=>by
 simp[b0w,h]
theorem e6j{id:Nat}{ops:Array Oper}{d:Bool}:run E f (.code (.region id ops d)::k) s=(i8l E f id s).bind fun s=>(a9k E (den E) f id ops d s).bind (run E f k):=c7b fun r=>by
 rw[a5a];constructor
 · rintro⟨n,hn⟩;cases n with
   | zero=>cases hn
   | succ n=>
    obtain⟨s0,h0,hn⟩:=bind_some hn;obtain⟨s1,h1,h2⟩:=bind_some hn;rw[h0,Option.bind_some,d0k (i5s n) h1,Option.bind_some];exact a5a.2 ⟨n,h2⟩
 · intro h;obtain⟨s0,h0,h⟩:=bind_some h;obtain⟨s1,h1,h2⟩:=bind_some h;obtain⟨k1,hk1⟩:=d6m h1;obtain⟨n,hn⟩:=a5a.1 h2;refine⟨max k1 n+1,?_⟩;show ((i8l E f id s).bind fun s=>(a9k E (a8y E (b0w E (max k1 n))) f id ops d s).bind (b0w E (max k1 n) f k))=some r
   rw[h0,Option.bind_some,hk1 _ (Nat.le_max_left _ _),Option.bind_some];exact d3i E (Nat.le_max_right _ _) hn
theorem a0d{g:FuncId}{as:List AVal}{H:a3e}(hp:E.prim g=none):den E g as H=(a0k E g).bind fun c=>run E g [.code c] (b1u as H):=by
 unfold den a8y;rw[hp]
end
end Go.Av
namespace Go.Av
abbrev Vis:=Nat→Nat→Prop
abbrev a5m:=BName→Option Nat
abbrev a7a:=Place→Nat→Option Value
mutual
def a1t(w:World)(V:Vis):AVal→Value→Prop
 | .int k n,v=>v=.int k n
 | .bool b,v=>v=.bool b
 | .str s,v=>v=.string ⟨s.toArray⟩
 | .nilp,v=>v=.pointer none
 | .slice es,v=>∃A c,v=.slice A es.length c∧es.length≤c∧(es=[]∨∃g o sz,A=some ⟨g,o,none⟩∧0<sz∧b0v w V sz g o es)
 | .nilm,v=>v=.map none
 | .pmap es,v=>∃g ents cl,v=.map (some g)∧V g 0∧w.heap[g]? =some (.map ents cl)∧a4v w V es ents.toList
 | _,_=>False
def b0v(w:World)(V:Vis)(sz g:Nat):Nat→List AVal→Prop
 | _,[]=>True
 | o,.agg cs::es=>(cs.length=sz∧a3b w V g o cs)∧b0v w V sz g (o+sz) es
 | o,e::es=>(1=sz∧V g o∧∃x,w.cell? ⟨g,o,none⟩=some x∧a1t w V e x)∧b0v w V sz g (o+sz) es
def a3b(w:World)(V:Vis)(g:Nat):Nat→List AVal→Prop
 | _,[]=>True
 | o,c::cs=>(V g o∧∃x,w.cell? ⟨g,o,none⟩=some x∧a1t w V c x)∧a3b w V g (o+1) cs
def a4v(w:World)(V:Vis):List AVal→List MapEntry→Prop
 | [],[]=>True
 | .tup [k,.agg cs]::es,m::ms=>(a1t w V k m.key∧∃x,m.val=.agg x∧c4p w V cs x.toList)∧a4v w V es ms
 | .tup [k,v]::es,m::ms=>(a1t w V k m.key∧a1t w V v m.val)∧a4v w V es ms
 | _,_=>False
def c4p(w:World)(V:Vis):List AVal→List Value→Prop
 | [],[]=>True
 | c::cs,x::xs=>a1t w V c x∧c4p w V cs xs
 | _,_=>False
end
theorem a2y{w:World}{V:Vis}{sz g o:Nat}{e:AVal}{es:List AVal}:
 b0v w V sz g o (e::es)↔((cellsOf e).length=sz∧a3b w V g o (cellsOf e))∧b0v w V sz g (o+sz) es:=by
 cases e<;>simp[b0v,a3b,cellsOf]
structure KeepC (w w':World) (g o:Nat):Prop where
 cell:w'.cell? ⟨g,o,none⟩=w.cell? ⟨g,o,none⟩
 map:∀e c,w.heap[g]? =some (.map e c)→w'.heap[g]? =some (.map e c)
def a3x(w:World)(V:Vis)(w':World)(V':Vis):Prop:=∀g o,V g o→V' g o∧KeepC w w' g o
theorem KeepC.refl(w:World)(g o:Nat):KeepC w w g o:=⟨rfl,fun _ _ h=>h⟩
theorem KeepC.of{w w':World}{g o:Nat}(h:w'.heap[g]? =w.heap[g]?):KeepC w w' g o:=⟨by simp only[World.cell?];rw[h],fun _ _ h'=>h.trans h'⟩
theorem a3x.refl(w:World)(V:Vis):a3x w V w V:=fun _ _ h=>⟨h,.refl _ _ _⟩
theorem a3x.trans{w w' w'':World}{V V' V'':Vis}(h:a3x w V w' V')(k:a3x w' V' w'' V''):a3x w V w'' V'':=
 fun g o hv=>⟨(k g o (h g o hv).1).1,(k g o (h g o hv).1).2.cell.trans (h g o hv).2.cell,fun e c hm=>(k g o (h g o hv).1).2.map e c ((h g o hv).2.map e c hm)⟩
def a5g:AVal→List AVal
 | .agg cs=>cs
 | .tup cs=>cs
 | .slice es=>es
 | .full es=>es
 | .view _ _ es _=>es
 | .own _ _ es=>es
 | .dead _ _ es=>es
 | .pel e _=>e
 | .func _ a b=>a++b
 | .pmap es=>kids2 es
 | _=>[]
where kids2:List AVal→List AVal
 | []=>[]
 | .tup vs::es=>vs++kids2 es
 | _::es=>kids2 es
theorem b5g{b:AVal}:∀ {es:List AVal},b∈a5g.kids2 es→SizeOf.sizeOf b<SizeOf.sizeOf es
 | [],h=>by cases h
 | e::es,h=>by
  cases e<;>simp only[a5g.kids2] at h<;>try (have:=b5g h;simp+arith;omega)
  rcases List.mem_append.1 h with h|h
  · have:=List.sizeOf_lt_of_mem h;simp+arith;omega
  · have:=b5g h;simp+arith;omega
theorem c6o{a b:AVal}(h:b∈a5g a):SizeOf.sizeOf b<SizeOf.sizeOf a:=by
 cases a with
 | func f x y=>
  simp only[a5g] at h;rcases List.mem_append.1 h with h|h
  · have:=List.sizeOf_lt_of_mem h;simp+arith;omega
  · have:=List.sizeOf_lt_of_mem h;simp+arith;omega
 | pmap es=>
  have:=b5g (show b∈a5g.kids2 es from h);simp+arith;omega
 | _=>
  simp only[a5g] at h
  first
   | (have:=List.sizeOf_lt_of_mem h;simp+arith;omega)
   | cases h
theorem AVal.ind{M:AVal→Prop}(h:∀a,(∀b,b∈a5g a→M b)→M a)(a:AVal):M a:=
 h a fun b _=>AVal.ind h b
termination_by SizeOf.sizeOf a
decreasing_by exact c6o (by assumption)
theorem g7p{w w':World}{V V':Vis}(h:a3x w V w' V')(a:AVal):
 (∀v,a1t w V a v→a1t w' V' a v)∧(∀g o,a3b w V g o (cellsOf a)→a3b w' V' g o (cellsOf a))∧∀l,c4p w V (cellsOf a) l→c4p w' V' (cellsOf a) l:=by
 induction a using AVal.ind with
 | h a ih=>
  have one:(∀v,a1t w V a v→a1t w' V' a v)→(∀g o,a3b w V g o [a]→a3b w' V' g o [a])∧∀l,c4p w V [a] l→c4p w' V' [a] l:=by
   intro h1;refine⟨fun g o hc=>?_,fun l hl=>?_⟩
   · simp only[a3b] at hc⊢;obtain⟨⟨hv,x,hx,hr⟩,_⟩:=hc;exact⟨⟨(h g o hv).1,x,((h g o hv).2.cell).trans hx,h1 x hr⟩,trivial⟩
   · cases l with
     | nil=>simp[c4p] at hl
     | cons x l=>
      cases l with
      | nil=>simp only[c4p] at hl⊢;exact⟨h1 x hl.1,trivial⟩
      | cons y l=>simp[c4p] at hl
  cases a with
  | slice es=>
   have first:∀v,a1t w V (.slice es) v→a1t w' V' (.slice es) v:=by
    intro v hr;simp only[a1t] at hr⊢;obtain⟨A,c,hv,hc,hrow⟩:=hr;refine⟨A,c,hv,hc,hrow.imp id ?_⟩;clear hrow;rintro⟨g,o,sz,hA,hsz,hrow⟩;refine⟨g,o,sz,hA,hsz,?_⟩;clear hv hc hA one
    induction es generalizing o with
    | nil=>simp[b0v]
    | cons e es ih2=>
     rw[a2y] at hrow⊢;exact⟨⟨hrow.1.1,(ih e (by simp[a5g])).2.1 g o hrow.1.2⟩,ih2 (fun b hb=>ih b (by simp[a5g] at hb⊢;exact .inr hb)) _ hrow.2⟩
   exact⟨first,one first⟩
  | agg cs=>
   refine⟨fun v hr=>by simp[a1t] at hr,?_,?_⟩
   rotate_left
   · intro l hl;simp only[cellsOf] at hl⊢;clear one
     induction cs generalizing l with
     | nil=>cases l with
      | nil=>trivial
      | cons x l=>simp[c4p] at hl
     | cons c cs ih2=>
      cases l with
      | nil=>simp[c4p] at hl
      | cons x l=>
       simp only[c4p] at hl⊢;exact⟨(ih c (by simp[a5g])).1 x hl.1,ih2 (fun b hb=>ih b (by simp[a5g] at hb⊢;exact .inr hb)) l hl.2⟩
   intro g o hc;simp only[cellsOf] at hc⊢;clear one
   induction cs generalizing o with
   | nil=>simp[a3b]
   | cons c cs ih2=>
    simp only[a3b] at hc⊢;obtain⟨⟨hv,x,hx,hr⟩,hc2⟩:=hc;exact⟨⟨(h g o hv).1,x,((h g o hv).2.cell).trans hx,(ih c (by simp[a5g])).1 x hr⟩,ih2 (fun b hb=>ih b (by simp[a5g] at hb⊢;exact .inr hb)) _ hc2⟩
  | pmap es=>
   have ents:∀(es:List AVal) (ms:List MapEntry),(∀b,b∈a5g.kids2 es→((∀v,a1t w V b v→a1t w' V' b v)∧(∀g o,a3b w V g o (cellsOf b)→a3b w' V' g o (cellsOf b))∧∀l,c4p w V (cellsOf b) l→c4p w' V' (cellsOf b) l))→
    a4v w V es ms→a4v w' V' es ms:=by
    intro es
    induction es with
    | nil=>intro ms _ he;cases ms with
     | nil=>trivial
     | cons m ms=>simp[a4v] at he
    | cons e es ih2=>
     intro ms hk he;cases ms with
     | nil=>simp[a4v] at he
     | cons m ms=>
      cases e<;>try (simp[a4v] at he;done)
      rename_i vs
      match vs,he,hk with
      | [],he,_=>simp[a4v] at he
      | [_],he,_=>simp[a4v] at he
      | _::_::_::_,he,_=>simp[a4v] at he
      | [k,v],he,hk=>
       have hkk:=hk k (by simp[a5g.kids2]);have hkv:=hk v (by simp[a5g.kids2]);have tl:=fun h=>ih2 ms (fun b hb=>hk b (by simp[a5g.kids2,hb])) h;cases v
       case agg cs=>
        simp only[a4v] at he⊢;obtain⟨⟨h1,x,h2,h3⟩,h4⟩:=he;exact⟨⟨hkk.1 _ h1,x,h2,hkv.2.2 _ h3⟩,tl h4⟩
       all_goals
        simp only[a4v] at he⊢;exact⟨⟨hkk.1 _ he.1.1,hkv.1 _ he.1.2⟩,tl he.2⟩
   have first:∀v,a1t w V (.pmap es) v→a1t w' V' (.pmap es) v:=by
    intro v hr;simp only[a1t] at hr⊢;obtain⟨g,en,cl,hv,hg,hh,he⟩:=hr;exact⟨g,en,cl,hv,(h g 0 hg).1,(h g 0 hg).2.map _ _ hh,ents es en.toList ih he⟩
   exact⟨first,one first⟩
  | nilm=>exact⟨fun v hr=>by simpa [a1t] using hr,one fun v hr=>by simpa [a1t] using hr⟩
  | int _ _=>exact⟨fun v hr=>by simpa [a1t] using hr,one fun v hr=>by simpa [a1t] using hr⟩
  | bool _=>exact⟨fun v hr=>by simpa [a1t] using hr,one fun v hr=>by simpa [a1t] using hr⟩
  | str _=>exact⟨fun v hr=>by simpa [a1t] using hr,one fun v hr=>by simpa [a1t] using hr⟩
  | nilp=>exact⟨fun v hr=>by simpa [a1t] using hr,one fun v hr=>by simpa [a1t] using hr⟩
  | _=>exact⟨fun v hr=>by simp[a1t] at hr,one fun v hr=>by simp[a1t] at hr⟩
theorem a1t.keep{w w':World}{V V':Vis}(h:a3x w V w' V'){a:AVal}{v:Value}(hr:a1t w V a v):a1t w' V' a v:=(g7p h a).1 v hr
theorem a3b.keep{w w':World}{V V':Vis}(h:a3x w V w' V'){g o:Nat}{cs:List AVal}(hr:a3b w V g o cs):a3b w' V' g o cs:=(g7p h (.agg cs)).2.1 g o hr
theorem b0v.keep{w w':World}{V V':Vis}(h:a3x w V w' V'){sz g:Nat}:∀ {o:Nat} {es:List AVal},b0v w V sz g o es→b0v w' V' sz g o es
 | _,[],_=>by simp[b0v]
 | o,e::es,hr=>by
  rw[a2y] at hr⊢;exact⟨⟨hr.1.1,(g7p h e).2.1 g o hr.1.2⟩,b0v.keep h hr.2⟩
theorem c4p.keep{w w':World}{V V':Vis}(h:a3x w V w' V'){cs:List AVal}{l:List Value}(hr:c4p w V cs l):c4p w' V' cs l:=(g7p h (.agg cs)).2.2 l hr
theorem a4v.keep{w w':World}{V V':Vis}(h:a3x w V w' V'):∀ {es:List AVal} {ms:List MapEntry},a4v w V es ms→a4v w' V' es ms
 | [],[],_=>trivial
 | .tup [k,.agg cs]::es,m::ms,hr=>by
  simp only[a4v] at hr⊢;obtain⟨⟨h1,x,h2,h3⟩,h4⟩:=hr;exact⟨⟨h1.keep h,x,h2,h3.keep h⟩,a4v.keep h h4⟩
 | [],_::_,hr=>by simp[a4v] at hr
 | _::_,[],hr=>by simp[a4v] at hr
 | e::es,m::ms,hr=>by
  cases e<;>try (simp[a4v] at hr;done)
  rename_i vs
  match vs,hr with
  | [],he=>simp[a4v] at he
  | [_],he=>simp[a4v] at he
  | _::_::_::_,he=>simp[a4v] at he
  | [k,v],he=>
   cases v
   case agg cs=>
    simp only[a4v] at he⊢;obtain⟨⟨h1,x,h2,h3⟩,h4⟩:=he;exact⟨⟨h1.keep h,x,h2,h3.keep h⟩,a4v.keep h h4⟩
   all_goals
    simp only[a4v] at he⊢;exact⟨⟨he.1.1.keep h,he.1.2.keep h⟩,a4v.keep h he.2⟩
def a3r{α β:Type}(R:α→β→Prop):List α→List β→Prop
 | [],[]=>True
 | a::as,b::bs=>R a b∧a3r R as bs
 | _,_=>False
theorem a3r.imp{α β:Type}{R R':α→β→Prop}(h:∀a b,R a b→R' a b):∀ {l:List α} {m:List β},a3r R l m→a3r R' l m
 | [],[],_=>trivial
 | _::_,_::_,hr=>⟨h _ _ hr.1,a3r.imp h hr.2⟩
 | [],_::_,hr=>hr.elim
 | _::_,[],hr=>hr.elim
theorem a3r.length{α β:Type}{R:α→β→Prop}:∀ {l:List α} {m:List β},a3r R l m→l.length=m.length
 | [],[],_=>rfl
 | _::_,_::_,hr=>by simp[a3r.length hr.2]
 | [],_::_,hr=>hr.elim
 | _::_,[],hr=>hr.elim
theorem a3r.get{α β:Type}{R:α→β→Prop}:∀ {l:List α} {m:List β} {i:Nat} {a:α},a3r R l m→l[i]? =some a→∃b,m[i]? =some b∧R a b
 | _::_,_::_,0,_,hr,h=>by simp at h⊢;exact h▸hr.1
 | _::_,_::_,_+1,_,hr,h=>by simpa using a3r.get hr.2 (by simpa using h)
 | [],[],_,_,_,h=>by simp at h
 | [],_::_,_,_,hr,_=>hr.elim
 | _::_,[],_,_,hr,_=>hr.elim
theorem a3r.of_get{α β:Type}{R:α→β→Prop}:∀ {l:List α} {m:List β},l.length=m.length→(∀(i:Nat) (a:α),l[i]? =some a→∃b,m[i]? =some b∧R a b)→a3r R l m
 | [],[],_,_=>trivial
 | a::l,b::m,hl,h=>by
  refine⟨?_,a3r.of_get (by simpa using hl) fun i a' ha=>by simpa using h (i+1) a' (by simpa using ha)⟩;obtain⟨b',hb,hr⟩:=h 0 a (by simp);simp at hb;exact hb▸hr
 | [],_::_,hl,_=>by simp at hl
 | _::_,[],hl,_=>by simp at hl
theorem a3r.append{α β:Type}{R:α→β→Prop}:∀ {l:List α} {m:List β} {l':List α} {m':List β},a3r R l m→a3r R l' m'→a3r R (l++l') (m++m')
 | [],[],_,_,_,h=>h
 | _::_,_::_,_,_,hr,h=>⟨hr.1,a3r.append hr.2 h⟩
 | [],_::_,_,_,hr,_=>hr.elim
 | _::_,[],_,_,hr,_=>hr.elim
theorem a3r.take{α β:Type}{R:α→β→Prop}:∀(n:Nat) {l:List α} {m:List β},a3r R l m→a3r R (l.take n) (m.take n)
 | 0,_,_,_=>by simp[a3r]
 | _+1,[],[],_=>trivial
 | n+1,_::_,_::_,hr=>⟨hr.1,a3r.take n hr.2⟩
 | _+1,[],_::_,hr=>hr.elim
 | _+1,_::_,[],hr=>hr.elim
theorem a3r.drop{α β:Type}{R:α→β→Prop}:∀(n:Nat) {l:List α} {m:List β},a3r R l m→a3r R (l.drop n) (m.drop n)
 | 0,_,_,h=>by simpa using h
 | _+1,[],[],_=>trivial
 | n+1,_::_,_::_,hr=>by simpa using a3r.drop n hr.2
 | _+1,[],_::_,hr=>hr.elim
 | _+1,_::_,[],hr=>hr.elim
theorem a3r.map_left{α β γ:Type}{R:α→β→Prop}{R':γ→β→Prop}{f:α→γ}(h:∀a b,R a b→R' (f a) b):∀ {l:List α} {m:List β},a3r R l m→a3r R' (l.map f) m
 | [],[],_=>trivial
 | _::_,_::_,hr=>⟨h _ _ hr.1,a3r.map_left h hr.2⟩
 | [],_::_,hr=>hr.elim
 | _::_,[],hr=>hr.elim
def i8d(v:Value):Prop:=v=.nilFunc∨v=.nilIface∨∃t x,v=.iface t x
def d9i(g off:Nat)(v:Value):Prop:=if off<a2s then v=.pointer (some ⟨g,off,none⟩) else ∃c,off - a2s≤c∧v=.slice (some ⟨g,0,none⟩) (off - a2s) c
theorem a6e{g off:Nat}{v:Value}(h:off<a2s):d9i g off v↔v=.pointer (some ⟨g,off,none⟩):=by unfold d9i;rw[if_pos h]
theorem d3o{g off:Nat}{v:Value}(h:a2s≤off):d9i g off v↔∃c,off - a2s≤c∧v=.slice (some ⟨g,0,none⟩) (off - a2s) c:=by unfold d9i;rw[if_neg (by omega)]
theorem c6x(g:Nat):d9i g 0 (.pointer (some ⟨g,0,none⟩)):=(a6e (by rw[a9a];decide)).2 rfl
theorem d9i.cells{g off:Nat}{v:Value}(h:d9i g off v):v.cells= #[v]:=by
 unfold d9i at h;split at h
 · subst h;rfl
 · obtain⟨c,_,rfl⟩:=h;rfl
theorem d9i.one{g off:Nat}{v:Value}(h:d9i g off v):v.oneCell'=true:=by
 unfold d9i at h;split at h
 · subst h;rfl
 · obtain⟨c,_,rfl⟩:=h;rfl
def Opq(v:Value):Prop:=(∃g,v=.map (some g))∨∃A l c,v=.slice A l c
def c9j(w:World)(V:Vis)(μ:a5m):AVal→Value→Prop
 | .ptr b off,v=>∃g,μ b=some g∧d9i g off v
 | .nilf,v=>i8d v
 | a,v=>a1t w V a v
def a3k(w:World)(V:Vis)(μ:a5m):AVal→Value→Prop
 | .ptr b off,v=>∃g,μ b=some g∧d9i g off v
 | .func f first cap,v=>∃x y,v=.func (.func f) x y∧a3r (c9j w V μ) first x.toList∧a3r (c9j w V μ) cap y.toList
 | .nilf,v=>i8d v
 | .own T _ es,v=>T≠a3i∧es=[]∧v=.slice none 0 0
 | .pel e off,v=>∃g o,v=.pointer (some ⟨g,o+off,none⟩)∧a3b w V g o e
 | .opaq,v=>Opq v
 | a,v=>a1t w V a v
def b2r(w:World)(V:Vis)(μ:a5m):AVal→Value→Prop
 | .agg cs,v=>∃x,v=.agg x∧a3r (a3k w V μ) cs x.toList
 | a,v=>a3k w V μ a v
def a4r(w:World)(V:Vis)(μ:a5m):AVal→Value→Prop
 | .tup vs,v=>∃x,v=.tuple x∧a3r (b2r w V μ) vs x.toList
 | a,v=>b2r w V μ a v
def ownBlock:Value→Option Nat
 | .slice (some a) _ _=>some a.block
 | .map (some g)=>some g
 | _=>none
def b7w(w:World)(V:Vis)(sz:Nat):List AVal→List Value→Prop
 | [],vs=>vs=[]
 | e::es,vs=>(cellsOf e).length=sz∧∃xs ys,vs=xs++ys∧a3r (a1t w V) (cellsOf e) xs∧b7w w V sz es ys
def d9f(P:Program)(w:World)(V:Vis)(T:TypeId)(es:List AVal)(v:Value):Prop:=
 P.cellsOf T=0∧∃g ents cl,v=.map (some g)∧w.heap[g]? =some (.map ents cl)∧a4v w V es ents.toList
def e1q(P:Program)(w:World)(V:Vis)(es:List AVal)(v:Value):Prop:=
 P.cellsOf a3i=0∧∃U m fs g c cur,es=[.own U m fs]∧U≠a3i∧v=.slice (some ⟨g,0,none⟩) fs.length c∧fs.length≤c∧w.heap[g]? =some (.cells cur U (0,0))∧
  cur.size=c*P.cellsOf U∧0<P.cellsOf U∧b7w w V (P.cellsOf U) fs (cur.toList.take (fs.length*P.cellsOf U))
def j5n(P:Program)(w:World)(V:Vis)(T:TypeId)(es:List AVal)(v:Value):Prop:=
 (es=[]∧v=.slice none 0 0)∨∃g c cur,v=.slice (some ⟨g,0,none⟩) es.length c∧es.length≤c∧w.heap[g]? =some (.cells cur T (0,0))∧
   cur.size=c*P.cellsOf T∧0<P.cellsOf T∧b0v w V (P.cellsOf T) g 0 es
def a2t(P:Program)(w:World)(V:Vis)(T:TypeId)(es:List AVal)(v:Value):Prop:=
 if T=a3i then d9f P w V T es v∨e1q P w V es v else j5n P w V T es v
def c1p(P:Program)(w:World)(V:Vis)(μ:a5m)(γ:a7a)(p:Place):AVal→Value→Prop
 | .own T n es,v=>a2t P w V T es v∧γ p n=some v
 | .dead _ n es,v=>a1t w V (.slice es) v∧γ p n=some v
 | .view _ n es q,v=>a1t w V (.slice es) v∧γ q n=some v
 | .full es,v=>a1t w V (.slice es) v∧∃A,v=.slice A es.length es.length
 | .mview n q,v=>γ (e6p q) n=some v∧(a7n q=none→∃g,v=.map (some g))∧Opq v
 | a,v=>a4r w V μ a v
def b2m(P:Program)(w:World)(V:Vis)(μ:a5m)(γ:a7a)(p:Place):AVal→Value→Prop
 | .own T n es,v=>a2t P w V T es v∧γ p n=some v
 | .dead _ n es,v=>a1t w V (.slice es) v∧γ p n=some v
 | a,v=>a3k w V μ a v
theorem b2m.repS{P:Program}{w:World}{V:Vis}{μ:a5m}{γ:a7a}{p:Place}{a:AVal}{v:Value}(h:b2m P w V μ γ p a v):c1p P w V μ γ p a v:=by
 cases a<;>first|exact h|exact absurd h (by simp[b2m,a3k,a1t])
structure SRel (P:Program) (Q:Nat→Prop) (s:St) (a:Act) (w:World) (V:Vis) (μ:a5m) (γ:a7a):Prop where
 tm:∀k v,a0i s.tm k=some v→∃x,a.tmps[k]? =some x∧c1p P w V μ γ (.tmp k) v x
 bx:∀b cs,s.box b=some cs→∃g T cur,μ b=some g∧w.heap[g]? =some (.cells cur T (0,0))∧cs.length≤cur.size∧
  ∀i c,cs[i]? =some c→∃x,cur[i]? =some x∧b2m P w V μ γ (.cell b i) c x
 dom:∀b g,μ b=some g→∃cs,s.box b=some cs
 inj:∀b b' g,μ b=some g→μ b'=some g→b=b'
 visb:∀b g,μ b=some g→∀o,¬V g o
 vis:∀g o,V g o→g<w.heap.size
 ow:∀p T n es x g,s.at p=some (.own T n es)→γ p n=some x→ownBlock x=some g→(∀b,μ b≠some g)∧∀o,V g o→o<es.length*P.cellsOf T
 ow2:∀p p' T n es T' n' es' x x' g,s.at p=some (.own T n es)→s.at p'=some (.own T' n' es')→γ p n=some x→γ p' n'=some x'→
  ownBlock x=some g→ownBlock x'=some g→p=p'
 gq:∀p n,γ p n≠none→Q n
structure Tch where
 p:Nat→Prop
 m:a5m
 S:Nat→Prop
 F:World→Prop
instance:CoeFun Tch (fun _=>Nat→Prop):=⟨Tch.p⟩
structure Sealed (T0:Tch) (w0:World):Prop where
 lt:∀g,T0.S g→g<w0.heap.size
 no:∀g,T0.S g→¬T0 g
 fact:T0.F w0
 cong:∀w w':World,(∀g,T0.S g→w'.heap[g]? =w.heap[g]?)→T0.F w→T0.F w'
structure Fr (w0:World) (V0:Vis) (T0:Tch) (w:World) (V:Vis):Prop where
 os:w.os=w0.os
 tape:w.tape=w0.tape
 output:w.output=w0.output
 size:w0.heap.size≤w.heap.size
 keep:∀g,g<w0.heap.size→¬T0 g→w.heap[g]? =w0.heap[g]?
 vkeep:a3x w0 V0 w V
 vnew:∀g o,V g o→V0 g o∨w0.heap.size≤g∨T0 g
 sl:Sealed T0 w0
structure Loc (w0:World) (T0:Tch) (s:St) (μ:a5m) (γ:a7a):Prop where
 box:∀b g,μ b=some g→T0 g∨w0.heap.size≤g
 par:∀i,μ (.par i)=T0.m (.par i)
 own:∀p T n es x g,s.at p=some (.own T n es)→γ p n=some x→ownBlock x=some g→T0 g∨w0.heap.size≤g
def Sim(P:Program)(w0:World)(V0:Vis)(T0:Tch)(Q:Nat→Prop)(s:St)(a:Act)(w:World):Prop:=
 a.defers=[]∧∃V μ γ,SRel P Q s a w V μ γ∧Fr w0 V0 T0 w V∧Loc w0 T0 s μ γ
theorem a1r{α:Type}(l:List (Nat×α))(k j:Nat)(v:α):a0i (a7v l k v) j=if k=j then some v else a0i l j:=by
 induction l with
 | nil=>simp[a7v,a0i]
 | cons x r ih=>
  obtain⟨i,u⟩:=x
  by_cases h:i=k
  · subst h
    by_cases h2:i=j
    · simp[a7v,a0i,h2]
    · simp[a7v,a0i,h2]
  · by_cases h2:i=j
    · subst h2;simp[a7v,a0i,h,Ne.symm h]
    · simp[a7v,a0i,h,h2,ih]
end Go.Av
namespace Go.Av
def BLe(μ μ':a5m):Prop:=∀b g,μ b=some g→μ' b=some g
theorem BLe.refl(μ:a5m):BLe μ μ:=fun _ _ h=>h
def GLe(γ γ':a7a):Prop:=∀p n x,γ p n=some x→γ' p n=some x
theorem GLe.refl(γ:a7a):GLe γ γ:=fun _ _ _ h=>h
section
variable{P:Program}{w w':World}{V V':Vis}{μ μ':a5m}{γ γ':a7a}
theorem c9j.keep(h:a3x w V w' V')(hm:BLe μ μ'){a:AVal}{v:Value}(hr:c9j w V μ a v):c9j w' V' μ' a v:=by
 cases a with
 | ptr b off=>obtain⟨g,h1,h2⟩:=hr;exact⟨g,hm _ _ h1,h2⟩
 | nilf=>exact hr
 | _=>exact a1t.keep h hr
theorem a3k.keep(h:a3x w V w' V')(hm:BLe μ μ'){a:AVal}{v:Value}(hr:a3k w V μ a v):a3k w' V' μ' a v:=by
 cases a with
 | ptr b off=>obtain⟨g,h1,h2⟩:=hr;exact⟨g,hm _ _ h1,h2⟩
 | func f x y=>
  obtain⟨u,z,h1,h2,h3⟩:=hr;exact⟨u,z,h1,h2.imp fun _ _=>c9j.keep h hm,h3.imp fun _ _=>c9j.keep h hm⟩
 | nilf=>exact hr
 | own T n es=>exact hr
 | pel e off=>obtain⟨g,o,h1,h2⟩:=hr;exact⟨g,o,h1,a3b.keep h h2⟩
 | opaq=>exact hr
 | _=>exact a1t.keep h hr
theorem b2r.keep(h:a3x w V w' V')(hm:BLe μ μ'){a:AVal}{v:Value}(hr:b2r w V μ a v):b2r w' V' μ' a v:=by
 cases a with
 | agg cs=>obtain⟨x,h1,h2⟩:=hr;exact⟨x,h1,h2.imp fun _ _=>a3k.keep h hm⟩
 | _=>simp only[b2r] at hr⊢;exact a3k.keep h hm hr
theorem a4r.keep(h:a3x w V w' V')(hm:BLe μ μ'){a:AVal}{v:Value}(hr:a4r w V μ a v):a4r w' V' μ' a v:=by
 cases a with
 | tup cs=>obtain⟨x,h1,h2⟩:=hr;exact⟨x,h1,h2.imp fun _ _=>b2r.keep h hm⟩
 | _=>simp only[a4r] at hr⊢;exact b2r.keep h hm hr
theorem b7w.keep(h:a3x w V w' V'){sz:Nat}:∀ {es:List AVal} {vs:List Value},b7w w V sz es vs→b7w w' V' sz es vs
 | [],_,hr=>hr
 | e::es,_,⟨h1,xs,ys,h2,h3,h4⟩=>⟨h1,xs,ys,h2,h3.imp fun _ _=>a1t.keep h,b7w.keep h h4⟩
theorem a2t.keep(h:a3x w V w' V'){T:TypeId}{es:List AVal}{v:Value}(hb:∀g,ownBlock v=some g→w'.heap[g]? =w.heap[g]?)(hr:a2t P w V T es v):a2t P w' V' T es v:=by
 unfold a2t at hr⊢;split at hr
 · rename_i hT;rw[if_pos hT];rcases hr with⟨h1,g,e,c,h2,h3,h4⟩| ⟨h1,U,m,fs,g,c,cur,h2,h3,h4,h5,h6,h7,h8,h9⟩
   · exact .inl ⟨h1,g,e,c,h2,(hb g (by rw[h2];rfl)).trans h3,h4.keep h⟩
   · exact .inr ⟨h1,U,m,fs,g,c,cur,h2,h3,h4,h5,(hb g (by rw[h4];rfl)).trans h6,h7,h8,h9.keep h⟩
 · rename_i hT;rw[if_neg hT];rcases hr with hr| ⟨g,c,cur,h1,h2,h3,h4,h5,h6⟩
   · exact .inl hr
   · exact .inr ⟨g,c,cur,h1,h2,(hb g (by rw[h1];rfl)).trans h3,h4,h5,b0v.keep h h6⟩
theorem c1p.keep(h:a3x w V w' V')(hm:BLe μ μ')(hg:GLe γ γ'){p:Place}{a:AVal}{v:Value}(hb:∀T n es g,a=.own T n es→ownBlock v=some g→w'.heap[g]? =w.heap[g]?)
 (hr:c1p P w V μ γ p a v):c1p P w' V' μ' γ' p a v:=by
 cases a with
 | own T n es=>exact⟨hr.1.keep h (fun g hg=>hb T n es g rfl hg),hg _ _ _ hr.2⟩
 | dead T n es=>exact⟨a1t.keep h hr.1,hg _ _ _ hr.2⟩
 | view T n es q=>exact⟨a1t.keep h hr.1,hg _ _ _ hr.2⟩
 | full es=>exact⟨a1t.keep h hr.1,hr.2⟩
 | mview n q=>exact⟨hg _ _ _ hr.1,hr.2⟩
 | _=>simp only[c1p] at hr⊢;exact a4r.keep h hm hr
theorem b2m.keep(h:a3x w V w' V')(hm:BLe μ μ')(hg:GLe γ γ'){p:Place}{a:AVal}{v:Value}(hb:∀T n es g,a=.own T n es→ownBlock v=some g→w'.heap[g]? =w.heap[g]?)
 (hr:b2m P w V μ γ p a v):b2m P w' V' μ' γ' p a v:=by
 cases a with
 | own T n es=>exact⟨hr.1.keep h (fun g hg=>hb T n es g rfl hg),hg _ _ _ hr.2⟩
 | dead T n es=>exact⟨a1t.keep h hr.1,hg _ _ _ hr.2⟩
 | _=>simp only[b2m] at hr⊢;exact a3k.keep h hm hr
end
section
variable{P:Program}{Q Q':Nat→Prop}{s:St}{a:Act}{w w':World}{V V':Vis}{μ:a5m}{γ γ':a7a}
theorem SRel.conc_own(h:SRel P Q s a w V μ γ){p:Place}{T n es}(hp:s.at p=some (.own T n es)):∃x,γ p n=some x∧a2t P w V T es x:=by
 cases p with
 | tmp k=>
  obtain⟨x,_,hr⟩:=h.tm k _ hp;exact⟨x,hr.2,hr.1⟩
 | cell b off=>
  simp only[St.at] at hp;obtain⟨cs,h1,h2⟩:=bind_some hp;obtain⟨g,U,cur,_,_,_,hc⟩:=h.bx b cs h1;obtain⟨x,_,hr⟩:=hc off _ h2;exact⟨x,hr.2,hr.1⟩
theorem SRel.world(h:SRel P Q s a w V μ γ)(hk:a3x w V w' V')(hb:∀b g,μ b=some g→w'.heap[g]? =w.heap[g]?)
 (ho:∀p T n es x g,s.at p=some (.own T n es)→γ p n=some x→ownBlock x=some g→w'.heap[g]? =w.heap[g]?)
 (hv:∀g o,V' g o→V g o∨((∀b,μ b≠some g)∧∀p T n es x,s.at p=some (.own T n es)→γ p n=some x→ownBlock x≠some g))
 (hvis:∀g o,V' g o→g<w'.heap.size):SRel P Q s a w' V' μ γ where
 tm k v hv':=by
  obtain⟨x,h1,h2⟩:=h.tm k v hv';exact⟨x,h1,h2.keep hk (BLe.refl _) (GLe.refl _) fun T n es g e hg=>by
   subst e;exact ho (.tmp k) T n es x g hv' h2.2 hg⟩
 bx b cs hcs:=by
  obtain⟨g,T,cur,h1,h2,h3,h4⟩:=h.bx b cs hcs;refine⟨g,T,cur,h1,(hb b g h1).trans h2,h3,fun i c hc=>?_⟩;obtain⟨x,h5,h6⟩:=h4 i c hc;exact⟨x,h5,h6.keep hk (BLe.refl _) (GLe.refl _) fun T n es g e hg=>by
   subst e;exact ho (.cell b i) T n es x g (by simp[St.at,hcs,hc]) h6.2 hg⟩
 dom:=h.dom
 inj:=h.inj
 visb b g hg o hv':=by
  rcases hv g o hv' with h1|h1
  · exact h.visb b g hg o h1
  · exact h1.1 b hg
 vis:=hvis
 ow p T n es x g hp hx hg:=by
  refine⟨(h.ow p T n es x g hp hx hg).1,fun o hv'=>?_⟩;rcases hv g o hv' with h1|h1
  · exact (h.ow p T n es x g hp hx hg).2 o h1
  · exact absurd hg (h1.2 p T n es x hp hx)
 ow2:=h.ow2
 gq:=h.gq
theorem b3g{s:St}{k:Nat}{v:AVal}{p:Place}:(s.put k v).at p=if p=.tmp k then some v else s.at p:=by
 cases p with
 | tmp j=>
  simp only[St.at,St.put,a1r,Place.tmp.injEq]
  by_cases h:k=j
  · simp[h]
  · simp[h,Ne.symm h]
 | cell b off=>simp[St.at,St.put,St.box]
theorem b9l{s:St}{k:Nat}{v:AVal}{b:BName}:(s.put k v).box b=s.box b:=by cases b<;>rfl
theorem SRel.put(h:SRel P Q s a w V μ γ){k:Nat}(hk:k<a.tmps.size){v:AVal}{x:Value}(hg:GLe γ γ')(hq:∀p n,γ' p n≠none→Q' n)
 (hr:c1p P w V μ γ' (.tmp k) v x)
 (hown:∀T n es g,v=.own T n es→ownBlock x=some g→(∀b,μ b≠some g)∧(∀o,V g o→o<es.length*P.cellsOf T)∧
   ∀p' T' n' es' x',p'≠ .tmp k→s.at p'=some (.own T' n' es')→γ p' n'=some x'→ownBlock x'≠some g):
 SRel P Q' (s.put k v) (a.put (some k) x) w V μ γ' where
 tm j u hu:=by
  simp only[St.put,a1r] at hu
  by_cases hj:k=j
  · subst hj;simp at hu;subst hu;exact⟨x,by simp[Act.put,hk],hr⟩
  · simp only[hj,if_false] at hu;obtain⟨y,h1,h2⟩:=h.tm j u hu;exact⟨y,by simp only[Act.put];rw[Array.getElem?_setIfInBounds_ne hj];exact h1,h2.keep (a3x.refl _ _) (BLe.refl _) hg fun _ _ _ _ _ _=>rfl⟩
 bx b cs hcs:=by
  rw[b9l] at hcs;obtain⟨g,T,cur,h1,h2,h3,h4⟩:=h.bx b cs hcs;refine⟨g,T,cur,h1,h2,h3,fun i c hc=>?_⟩;obtain⟨y,h5,h6⟩:=h4 i c hc;exact⟨y,h5,h6.keep (a3x.refl _ _) (BLe.refl _) hg fun _ _ _ _ _ _=>rfl⟩
 dom b g hb:=by rw[b9l];exact h.dom b g hb
 inj:=h.inj
 visb:=h.visb
 vis:=h.vis
 ow p T n es y g hp hy hyg:=by
  rw[b3g] at hp
  by_cases hpk:p=.tmp k
  · subst hpk;simp at hp;subst hp;have:y=x:=by
     have:=hr.2;rw[this] at hy;injection hy with hy;exact hy.symm
    subst this;exact⟨(hown T n es g rfl hyg).1,(hown T n es g rfl hyg).2.1⟩
  · simp only[hpk,if_false] at hp;obtain⟨z,hz,_⟩:=h.conc_own hp;have:y=z:=by have:=hg _ _ _ hz;rw[this] at hy;injection hy with hy;exact hy.symm
    subst this;exact h.ow p T n es y g hp hz hyg
 ow2 p p' T n es T' n' es' y y' g hp hp' hy hy' hyg hyg':=by
  have key:∀(p:Place) (T n es y),(s.put k v).at p=some (.own T n es)→γ' p n=some y→p≠ .tmp k→s.at p=some (.own T n es)∧γ p n=some y:=by
   intro p T n es y hp hy hne;rw[b3g] at hp;simp only[hne,if_false] at hp;obtain⟨z,hz,_⟩:=h.conc_own hp;have:y=z:=by have:=hg _ _ _ hz;rw[this] at hy;injection hy with hy;exact hy.symm
   subst this;exact⟨hp,hz⟩
  have self:∀T n es y,(s.put k v).at (.tmp k)=some (.own T n es)→γ' (.tmp k) n=some y→v=.own T n es∧y=x:=by
   intro T n es y hp hy;rw[b3g] at hp;simp at hp;subst hp;refine⟨rfl,?_⟩;have:=hr.2;rw[this] at hy;injection hy with hy;exact hy.symm
  by_cases e:p=.tmp k
  · by_cases e':p'=.tmp k
    · rw[e,e']
    · subst e;obtain⟨h1,h2⟩:=self T n es y hp hy;subst h1;subst h2;obtain⟨h3,h4⟩:=key p' T' n' es' y' hp' hy' e';exact absurd hyg' ((hown T n es g rfl hyg).2.2 p' T' n' es' y' e' h3 h4)
  · obtain⟨h3,h4⟩:=key p T n es y hp hy e
    by_cases e':p'=.tmp k
    · subst e';obtain⟨h1,h2⟩:=self T' n' es' y' hp' hy';subst h1;subst h2;exact absurd hyg ((hown T' n' es' g rfl hyg').2.2 p T n es y e h3 h4)
    · obtain⟨h5,h6⟩:=key p' T' n' es' y' hp' hy' e';exact h.ow2 p p' T n es T' n' es' y y' g h3 h5 h4 h6 hyg hyg'
 gq:=hq
end
end Go.Av
namespace Go.Av
def b2q(w:World)(V:Vis)(μ:a5m):AVal→Value→Prop
 | .own T _ es,v=>(T=a3i→Opq v)∧(T≠a3i→a1t w V (.slice es) v)
 | .mview _ q,v=>(a7n q=none→∃g,v=.map (some g))∧Opq v
 | .dead _ _ es,v=>a1t w V (.slice es) v
 | .view _ _ es _,v=>a1t w V (.slice es) v
 | .full es,v=>a1t w V (.slice es) v∧∃A,v=.slice A es.length es.length
 | a,v=>a4r w V μ a v
section
variable{P:Program}{Q:Nat→Prop}{s:St}{a:Act}{w:World}{V:Vis}{μ:a5m}{γ:a7a}
theorem a2t.ofS{T:TypeId}{es:List AVal}{v:Value}(hT:T≠a3i)(h:j5n P w V T es v):a2t P w V T es v:=by
 unfold a2t;rw[if_neg hT];exact h
theorem a2t.toS{T:TypeId}{es:List AVal}{v:Value}(h:a2t P w V T es v)(hT:T≠a3i):j5n P w V T es v:=by
 unfold a2t at h;rw[if_neg hT] at h;exact h
theorem a2t.toM{es:List AVal}{v:Value}(h:a2t P w V a3i es v):d9f P w V a3i es v∨e1q P w V es v:=by
 unfold a2t at h;rw[if_pos rfl] at h;exact h
theorem a2t.ofM{es:List AVal}{v:Value}(h:d9f P w V a3i es v):a2t P w V a3i es v:=by
 unfold a2t;rw[if_pos rfl];exact .inl h
theorem a2t.map{es:List AVal}{v:Value}(h:a2t P w V a3i es v)(hl:isL es=none):d9f P w V a3i es v:=by
 rcases h.toM with h| ⟨_,U,m,fs,g,c,cur,rfl,_⟩
 · exact h
 · cases hl
theorem a2t.list{es:List AVal}{v:Value}{r:TypeId×List AVal}(h:a2t P w V a3i es v)(hl:isL es=some r):e1q P w V es v:=by
 rcases h.toM with⟨_,g,e,c,_,_,h⟩|h
 · exfalso;unfold isL at hl;split at hl
   · generalize e.toList=ms at h;cases ms<;>simp[a4v] at h
   · cases hl
 · exact h
theorem a2t.slice{T:TypeId}{es:List AVal}{v:Value}(h':a2t P w V T es v)(hT:T≠a3i):a1t w V (.slice es) v:=by
 simp only[a1t];have h:=h'.toS hT;rcases h with⟨rfl,rfl⟩| ⟨g,c,cur,h1,h2,h3,h4,h5,h6⟩
 · exact⟨none,0,rfl,Nat.le_refl _,.inl rfl⟩
 · exact⟨_,c,h1,h2,.inr ⟨g,0,_,rfl,h5,h6⟩⟩
theorem a2t.opq{es:List AVal}{v:Value}(h:a2t P w V a3i es v):Opq v:=by
 rcases h.toM with⟨_,g,_,_,hg,_⟩| ⟨_,U,m,fs,g,c,cur,_,_,hv,_⟩
 · exact .inl ⟨g,hg⟩
 · exact .inr ⟨_,_,_,hv⟩
theorem a2t.read{T:TypeId}{es:List AVal}{v:Value}(h:a2t P w V T es v):(T=a3i→Opq v)∧(T≠a3i→a1t w V (.slice es) v):=
 ⟨fun hT=>by subst hT;exact h.opq,fun hT=>h.slice hT⟩
theorem c1p.read{p:Place}{v:AVal}{x:Value}(h:c1p P w V μ γ p v x):b2q w V μ v x:=by
 cases v with
 | own T n es=>exact h.1.read
 | dead T n es=>exact h.1
 | view T n es q=>exact h.1
 | full es=>exact h
 | mview n q=>exact h.2
 | _=>exact h
theorem c1g{v:Value}{c:AVal}(h:a7u v=some c):a3k w V μ c v:=by
 unfold a7u at h;split at h<;>first|(cases h;done)|(injection h with h;subst h;simp[a3k,a1t,i8d])
 all_goals exact⟨none,0,rfl,Nat.le_refl _,.inl rfl⟩
theorem d7g{α β:Type}{f:α→Option β}:∀ {l:List α} {m:List β},l.mapM f=some m→a3r (fun b a=>f a=some b) m l
 | [],m,h=>by
  simp at h;subst h;trivial
 | a::l,m,h=>by
  simp only[List.mapM_cons] at h;obtain⟨b,h1,h⟩:=bind_some h;obtain⟨bs,h2,h⟩:=bind_some h;have h':b::bs=m:=by injection h
  subst h';exact⟨h1,d7g h2⟩
theorem f0q{v:Value}{c:AVal}(h:d2a v=some c):b2q w V μ c v:=by
 unfold d2a at h;split at h
 · injection h with h;subst h;exact⟨fun e=>absurd e (by decide),fun _=>⟨none,0,rfl,Nat.le_refl _,.inl rfl⟩⟩
 · obtain⟨cs,h1,rfl⟩:=map_some h;exact⟨_,rfl,(d7g h1).imp fun _ _=>c1g⟩
 · have h1:a3k w V μ c v:=c1g h;unfold a7u at h;split at h<;>first|(cases h;done)|(injection h with h;subst h;exact h1)
theorem SRel.rd(h:SRel P Q s a w V μ γ){x:Operand}{v:AVal}(hv:rd s x=some v):b2q w V μ v (a.eval x):=by
 cases x with
 | tmp k=>
  obtain⟨y,h1,h2⟩:=h.tm k v hv;simp only[Act.eval,Array.getD_eq_getD_getElem?,h1,Option.getD_some];exact h2.read
 | const c=>exact f0q hv
 | func f=>
  simp only[Av.rd] at hv;injection hv with hv;subst hv;exact⟨#[],#[],rfl,trivial,trivial⟩
 | global g=>cases hv
theorem a4y{T:TypeId}{n:Nat}{es:List AVal}:strip1 (.own T n es)=if T=a3i then .opaq else .slice es:=rfl
theorem a3k.ownS{T:TypeId}{n:Nat}{es:List AVal}{x:Value}(h:(T=a3i→Opq x)∧(T≠a3i→a1t w V (.slice es) x)):a3k w V μ (Av.strip1 (.own T n es)) x:=by
 rw[a4y];split
 · exact h.1 (by assumption)
 · exact h.2 (by assumption)
theorem a3k.strip1{v:AVal}{x:Value}(h:a3k w V μ v x):a3k w V μ (strip1 v) x:=by
 cases v with
 | own T n es=>obtain⟨_,rfl,rfl⟩:=h;exact a3k.ownS ⟨fun e=>absurd e (by assumption),fun _=>⟨none,0,rfl,Nat.le_refl _,.inl rfl⟩⟩
 | mview n q=>exact absurd h (by simp[a3k,a1t])
 | full es=>exact absurd h (by simp[a3k,a1t])
 | view _ _ _ _=>exact absurd h (by simp[a3k,a1t])
 | dead _ _ _=>exact absurd h (by simp[a3k,a1t])
 | _=>exact h
theorem a3k.r2{v:AVal}{x:Value}(h:a3k w V μ v x)(ha:∀cs,v≠ .agg cs):b2r w V μ v x:=by
 cases v<;>first|exact h|exact absurd rfl (ha _)
theorem b2r.r3{v:AVal}{x:Value}(h:b2r w V μ v x)(ha:∀cs,v≠ .tup cs):a4r w V μ v x:=by
 cases v<;>first|exact h|exact absurd rfl (ha _)
theorem b1v{T:TypeId}{n:Nat}{es:List AVal}:∀cs,strip1 (.own T n es)≠ .agg cs:=by
 intro cs;rw[a4y];split<;>simp
theorem b5c{T:TypeId}{n:Nat}{es:List AVal}:∀cs,strip1 (.own T n es)≠ .tup cs:=by
 intro cs;rw[a4y];split<;>simp
theorem b2r.strip2{v:AVal}{x:Value}(h:b2r w V μ v x):b2r w V μ (strip2 v) x:=by
 cases v with
 | agg cs=>obtain⟨y,h1,h2⟩:=h;exact⟨y,h1,a3r.map_left (f:=Av.strip1) (fun _ _=>a3k.strip1) h2⟩
 | own T n es=>exact (a3k.strip1 (v:=.own T n es) h).r2 b1v
 | mview n q=>exact absurd h (by simp[b2r,a3k,a1t])
 | full es=>exact absurd h (by simp[b2r,a3k,a1t])
 | view _ _ _ _=>exact absurd h (by simp[b2r,a3k,a1t])
 | dead _ _ _=>exact absurd h (by simp[b2r,a3k,a1t])
 | _=>exact h
theorem b2q.strip{v:AVal}{x:Value}(h:b2q w V μ v x):a4r w V μ (strip v) x:=by
 cases v with
 | tup vs=>obtain⟨y,h1,h2⟩:=h;exact⟨y,h1,a3r.map_left (f:=Av.strip2) (fun _ _=>b2r.strip2) h2⟩
 | agg cs=>obtain⟨y,h1,h2⟩:=h;exact⟨y,h1,a3r.map_left (f:=Av.strip1) (fun _ _=>a3k.strip1) h2⟩
 | own T n es=>exact ((a3k.ownS (n:=n) h).r2 b1v).r3 b5c
 | mview n q=>exact h.2
 | full es=>exact h.1
 | view _ _ _ _=>exact h
 | dead _ _ _=>exact h
 | _=>exact h
theorem b2q.strip2{v:AVal}{x:Value}(h:b2q w V μ v x)(ht:∀vs,v≠ .tup vs):b2r w V μ (Av.strip2 v) x:=by
 cases v with
 | tup vs=>exact absurd rfl (ht vs)
 | agg cs=>obtain⟨y,h1,h2⟩:=h;exact⟨y,h1,a3r.map_left (f:=Av.strip1) (fun _ _=>a3k.strip1) h2⟩
 | own T n es=>exact (a3k.ownS (n:=n) h).r2 b1v
 | mview n q=>exact h.2
 | full es=>exact h.1
 | view _ _ _ _=>exact h
 | dead _ _ _=>exact h
 | _=>exact h
def a1k:AVal→Bool
 | .own _ _ _=>false
 | .dead _ _ _=>false
 | .view _ _ _ _=>false
 | .full _=>false
 | .mview _ _=>false
 | _=>true
theorem d6p{T:TypeId}{n:Nat}{es:List AVal}:a1k (strip1 (.own T n es))=true:=by rw[a4y];split<;>rfl
theorem a3d(v:AVal):a1k (strip v)=true:=by cases v<;>first|rfl|exact d6p (n:=0)
theorem a4r.repS{p:Place}{v:AVal}{x:Value}(hp:a1k v=true)(h:a4r w V μ v x):c1p P w V μ γ p v x:=by
 cases v<;>first|exact h|cases hp
theorem d1w{v:AVal}{β:Type}{f:List AVal→Option β}{u:β}(h:(a5x v).bind f=some u):a5x v=some ((a5x v).getD []):=by
 cases he:a5x v with
 | none=>rw[he] at h;cases h
 | some _=>rfl
theorem a5w{v:AVal}{x:Value}{es:List AVal}(h:b2q w V μ v x)(he:a5x v=some es):a1t w V (.slice es) x:=by
 cases v<;>simp only[a5x] at he<;>first|(cases he;done)|(injection he with he;subst he)|skip
 case slice=>exact h
 case full=>exact h.1
 case view=>exact h
 case dead=>exact h
 case own T n es=>
  split at he
  · cases he
  · injection he with he;subst he;exact h.2 (by assumption)
end
section
variable{E:Env}{w0:World}{V0:Vis}{T0:Tch}{Q Q':Nat→Prop}{s:St}{a:Act}{w:World}{V:Vis}{μ:a5m}{γ:a7a}
def QLe(Q Q':Nat→Prop):Prop:=∀n,Q n→Q' n
theorem b5h(hd:a.defers=[])(h:SRel E.P Q s a w V μ γ)(hf:Fr w0 V0 T0 w V)(hl:Loc w0 T0 s μ γ)(hQ:QLe Q Q'){v:AVal}{x:Value}{dst:Option Nat}
 (hdst:∀k,dst=some k→k<a.tmps.size) (hp:a1k v=true) (hr:a4r w V μ v x):Sim E.P w0 V0 T0 Q' (s.putD dst v) (a.put dst x) w:=by
 cases dst with
 | none=>exact⟨hd,V,μ,γ,{h with gq:=fun p n hn=>hQ n (h.gq p n hn)},hf,hl⟩
 | some k=>
  refine⟨hd,V,μ,γ,?_,hf,?_⟩
  · exact h.put (hdst k rfl) (GLe.refl _) (fun p n hn=>hQ n (h.gq p n hn)) (hr.repS hp) (fun T n es g e=>by subst e;cases hp)
  · refine⟨hl.box,hl.par,fun p T n es y g hat hy hg=>?_⟩;show T0 g∨_
    simp only[St.putD] at hat
    rw[b3g] at hat
    by_cases hpk:p=.tmp k
    · simp only[hpk,if_true] at hat
      injection hat with hat;subst hat;cases hp
    · simp only[hpk,if_false] at hat
      exact hl.own p T n es y g hat hy hg
theorem c4w(hd:a.defers=[])(h:SRel E.P Q s a w V μ γ)(hf:Fr w0 V0 T0 w V)(hl:Loc w0 T0 s μ γ)(hQ:QLe Q Q'){v:AVal}{x:Value}{dst:Option Nat}
 (hdst:∀k,dst=some k→k<a.tmps.size) (hp:∀T n es,v≠ .own T n es) (hr:∀k,dst=some k→c1p E.P w V μ γ (.tmp k) v x):Sim E.P w0 V0 T0 Q' (s.putD dst v) (a.put dst x) w:=by
 cases dst with
 | none=>exact⟨hd,V,μ,γ,{h with gq:=fun p n hn=>hQ n (h.gq p n hn)},hf,hl⟩
 | some k=>
  refine⟨hd,V,μ,γ,?_,hf,?_⟩
  · exact h.put (hdst k rfl) (GLe.refl _) (fun p n hn=>hQ n (h.gq p n hn)) (hr k rfl) (fun T n es g e=>absurd e (hp T n es))
  · refine⟨hl.box,hl.par,fun p T n es y g hat hy hg=>?_⟩;simp only[St.putD] at hat
    rw[b3g] at hat
    by_cases hpk:p=.tmp k
    · simp only[hpk,if_true] at hat
      injection hat with hat;exact absurd hat (hp T n es)
    · simp only[hpk,if_false] at hat
      exact hl.own p T n es y g hat hy hg
theorem a9s{o:Oper}{P:Program}{K:Act→World→Prop}{X:Exit→Act→World→Prop}{x:Value}{w':World}(hrun:(execOp a.eval o).run P w=.ok (.value x) w')(hK:K (a.put o.dst x) w'):
 o.wp P a w K X:=by
 unfold Oper.wp;rw[hrun];exact hK
theorem c9y{o:Oper}{P:Program}{K:Act→World→Prop}{X:Exit→Act→World→Prop}{w':World}(hrun:(execOp a.eval o).run P w=.ok .skip w')(hK:K (a.put o.dst undef) w'):
 o.wp P a w K X:=by
 unfold Oper.wp;rw[hrun];exact hK
end
end Go.Av
namespace Go.Av
section
variable{E:Env}{w0:World}{V0:Vis}{T0:Tch}{Q Q':Nat→Prop}{s:St}{a:Act}{w:World}{V:Vis}{μ:a5m}{γ:a7a}
theorem a2t.nil{P:Program}{T:TypeId}(hT:T≠a3i):a2t P w V T [] (.slice none 0 0):=.ofS hT (.inl ⟨rfl,rfl⟩)
theorem b3n{P:Program}{t e:TypeId}(h:a1g P t=some e):e≠a3i:=by
 unfold a1g at h;split at h
 · split at h
   · cases h
   · injection h with h;subst h;assumption
 · cases h
theorem b3o(hd:a.defers=[])(h:SRel E.P Q s a w V μ γ)(hf:Fr w0 V0 T0 w V)(hl:Loc w0 T0 s μ γ)(hQ:QLe Q Q'){n:Nat}(hn:¬Q n)(hn':Q' n){T:TypeId}{es:List AVal}{x:Value}{dst:Option Nat}
 (hdst:∀k,dst=some k→k<a.tmps.size) (hr:a2t E.P w V T es x)
 (hb:∀k g,dst=some k→ownBlock x=some g→(∀b,μ b≠some g)∧(∀o,V g o→o<es.length*E.P.cellsOf T)∧
   (∀p' T' n' es' x',p'≠ .tmp k→s.at p'=some (.own T' n' es')→γ p' n'=some x'→ownBlock x'≠some g)∧(T0 g∨w0.heap.size≤g)):
 Sim E.P w0 V0 T0 Q' (s.putD dst (.own T n es)) (a.put dst x) w:=by
 have hq:∀p m,γ p m≠none→Q' m:=fun p m hm=>hQ m (h.gq p m hm);cases dst with
 | none=>exact⟨hd,V,μ,γ,{h with gq:=hq},hf,hl⟩
 | some k=>
  have hfresh:∀p,γ p n=none:=fun p=>by
   cases hp:γ p n with
   | none=>rfl
   | some y=>exact absurd (h.gq p n (by simp[hp])) hn
  let γ':a7a:=fun p m=>if p=.tmp k∧m=n then some x else γ p m
  have hg:GLe γ γ':=fun p m y hy=>by
   have:¬(p=.tmp k∧m=n):=by rintro⟨rfl,rfl⟩;rw[hfresh] at hy;cases hy
   simp only[γ',this,if_false];exact hy
  refine⟨hd,V,μ,γ',?_,hf,?_⟩
  · refine h.put (hdst k rfl) hg (fun p m hm=>?_) ⟨hr,by simp[γ']⟩ (fun T' n' es' g e hg'=>?_)
    · by_cases hm':p=.tmp k∧m=n
      · rw[hm'.2];exact hn'
      · simp only[γ',hm',if_false] at hm;exact hq p m hm
    · injection e with e1 e2 e3;subst e1;subst e2;subst e3;exact⟨(hb k g rfl hg').1,(hb k g rfl hg').2.1,(hb k g rfl hg').2.2.1⟩
  · refine⟨hl.box,hl.par,fun p T' n' es' y g hat hy hyg=>?_⟩;simp only[St.putD] at hat
    rw[b3g] at hat
    by_cases hpk:p=.tmp k
    · simp only[hpk,if_true] at hat
      injection hat with hat;injection hat with e1 e2 e3;subst e2;have:y=x:=by simp only[γ',hpk,and_self,if_true] at hy;injection hy with hy;exact hy.symm
      subst this;exact (hb k g rfl hyg).2.2.2
    · simp only[hpk,if_false] at hat
      have:γ p n'=some y:=by simpa [γ',hpk] using hy
      exact hl.own p T' n' es' y g hat this hyg
theorem Sim.intro(hd:a.defers=[])(h:SRel E.P Q s a w V μ γ)(hf:Fr w0 V0 T0 w V)(hl:Loc w0 T0 s μ γ):Sim E.P w0 V0 T0 Q s a w:=⟨hd,V,μ,γ,h,hf,hl⟩
theorem a9m{x:Operand}(h:b9e x=true):a.eval x=.slice none 0 0:=by
 unfold b9e at h;split at h
 · rfl
 · cases h
theorem f4r(h:SRel E.P Q s a w V μ γ){x:Operand}{v:AVal}(hv:b8z s x=some v):
 (∀T n es,v≠ .own T n es)∧∀p,c1p E.P w V μ γ p v (a.eval x):=by
 cases x with
 | tmp k=>
  simp only[b8z] at hv;obtain⟨u,h1,h2⟩:=bind_some hv;obtain⟨y,h3,h4⟩:=h.tm k u h1;have he:a.eval (.tmp k)=y:=by simp[Act.eval,Array.getD_eq_getD_getElem?,h3]
  rw[he];cases u<;>simp only at h2<;>injection h2 with h2<;>subst h2
  case own T n es=>
   by_cases hT:T=a3i
   · subst hT;rw[if_pos rfl]
     by_cases hl:(isL es).isSome=true
     · rw[if_pos hl];have e1:e6p (.cell (.par k) a3i)=.tmp k:=by simp[e6p,a7n]
       have e2:a7n (.cell (.par k) a3i)=some k:=by simp[a7n]
       exact⟨(fun _ _ _ e=>by cases e),fun p=>⟨by rw[e1];exact h4.2,fun e=>(by rw[e2] at e;cases e),h4.1.opq⟩⟩
     · rw[if_neg hl];obtain⟨_,g,_,_,hg,_⟩:=h4.1.map (by simpa using hl);exact⟨(fun _ _ _ e=>by cases e),fun p=>⟨h4.2,fun _=>⟨g,hg⟩,h4.1.opq⟩⟩
   · rw[if_neg hT];exact⟨(fun _ _ _ e=>by cases e),fun p=>⟨h4.1.slice hT,h4.2⟩⟩
  case dead T n es=>exact⟨(fun _ _ _ e=>by cases e),fun p=>⟨h4.1,h4.2⟩⟩
  case view T n es q=>exact⟨(fun _ _ _ e=>by cases e),fun p=>h4.1⟩
  case mview n q=>
   unfold mvV
   by_cases hq:a7n q=none
   · rw[if_pos hq];exact⟨(fun _ _ _ e=>by cases e),fun p=>h4.2.2⟩
   · rw[if_neg hq];exact⟨(fun _ _ _ e=>by cases e),fun p=>h4⟩
  all_goals exact⟨(fun _ _ _ e=>by cases e),fun p=>h4⟩
 | const c=>
  simp only[b8z] at hv;obtain⟨u,h1,rfl⟩:=map_some hv;exact⟨(fun T n es e=>by have:=a3d u;rw[e] at this;cases this),fun p=>(h.rd h1).strip.repS (a3d u)⟩
 | func f=>
  simp only[b8z] at hv;obtain⟨u,h1,rfl⟩:=map_some hv;exact⟨(fun T n es e=>by have:=a3d u;rw[e] at this;cases this),fun p=>(h.rd h1).strip.repS (a3d u)⟩
 | global g=>simp[b8z,rd] at hv
theorem g2d(hd:a.defers=[])(h:SRel E.P Q s a w V μ γ)(hf:Fr w0 V0 T0 w V)(hl:Loc w0 T0 s μ γ)(hQ:QLe Q Q'){n:Nat}(hn:¬Q n)(hn':Q' n){o:Oper}(hdst:∀k,o.dst=some k→k<a.tmps.size)
 {x:Operand} (ho:o.op=.move x) {s':St} (hs:(if b9e x then (a1g E.P o.type).map fun T=>s.putD o.dst (.own T n []) else (b8z s x).map (s.putD o.dst))=some s') {X:Exit→Act→World→Prop}:
 o.wp E.P a w (Sim E.P w0 V0 T0 Q' s') X:=by
 have hrun:(execOp a.eval o).run E.P w=.ok (.value (a.eval x)) w:=by simp[execOp,ho]
 refine a9s hrun ?_
 by_cases hx:b9e x=true
 · simp only[hx,if_true] at hs;obtain⟨T,h1,rfl⟩:=map_some hs;rw[a9m hx];exact b3o hd h hf hl hQ hn hn' hdst (.nil (b3n h1)) (fun k g _ hg=>by cases hg)
 · simp only[hx] at hs;obtain⟨v,h1,rfl⟩:=map_some hs;obtain⟨h2,h3⟩:=f4r h h1;exact c4w hd h hf hl hQ hdst h2 (fun k _=>h3 _)
theorem d6q{v:AVal}(h:a1k v=true):∀T n es,v≠ .own T n es:=fun T n es e=>by rw[e] at h;cases h
theorem b0q(hd:a.defers=[])(h:SRel E.P Q s a w V μ γ)(hf:Fr w0 V0 T0 w V)(hl:Loc w0 T0 s μ γ)(hQ:QLe Q Q'){o:Oper}(hdst:∀k,o.dst=some k→k<a.tmps.size)
 {v:AVal} {x:Value} (hp:a1k v=true) (hr:a4r w V μ v x) (hrun:(execOp a.eval o).run E.P w=.ok (.value x) w) {X:Exit→Act→World→Prop}:
 o.wp E.P a w (Sim E.P w0 V0 T0 Q' (s.putD o.dst v)) X:=
 a9s hrun (b5h hd h hf hl hQ hdst hp hr)
theorem c5a{b:Bool}{x:Value}(h:b2q w V μ (.bool b) x):x=.bool b:=h
theorem b0g{k:IntKind}{n:Int}{x:Value}(h:b2q w V μ (.int k n) x):x=.int k n:=h
theorem b8u{b:List UInt8}{x:Value}(h:b2q w V μ (.str b) x):x=.string ⟨b.toArray⟩:=h
theorem e2n{o:Oper}{c x y:Operand}(ho:o.op=.pick c x y){t:Bool}(hc:a.eval c=.bool t){P:Program}:(execOp a.eval o).run P w=.ok (.value (if t then a.eval x else a.eval y)) w:=by
 simp[execOp,ho,hc,asBool]
theorem g2a(hd:a.defers=[])(h:SRel E.P Q s a w V μ γ)(hf:Fr w0 V0 T0 w V)(hl:Loc w0 T0 s μ γ)(hQ:QLe Q Q'){o:Oper}(hdst:∀k,o.dst=some k→k<a.tmps.size)
 {c x y:Operand} (ho:o.op=.pick c x y) {s':St} (hs:((rd s c).bind fun
  | .bool t=>if t then (rd s x).map fun v=>s.putD o.dst (strip v) else (rd s y).map fun v=>s.putD o.dst (strip v)
  | _=>none)=some s') {X:Exit→Act→World→Prop}:o.wp E.P a w (Sim E.P w0 V0 T0 Q' s') X:=by
 obtain⟨v,h1,hs⟩:=bind_some hs;cases v<;>simp only at hs<;>(try cases hs)
 rename_i t;have hc:=c5a (h.rd h1);cases t
 · simp only[Bool.false_eq_true,if_false] at hs;obtain⟨v,h2,rfl⟩:=map_some hs;exact b0q hd h hf hl hQ hdst (a3d v) (h.rd h2).strip (by rw[e2n ho hc];rfl)
 · simp only[if_true] at hs;obtain⟨v,h2,rfl⟩:=map_some hs;exact b0q hd h hf hl hQ hdst (a3d v) (h.rd h2).strip (by rw[e2n ho hc];rfl)
theorem c2c(hd:a.defers=[])(h:SRel E.P Q s a w V μ γ)(hf:Fr w0 V0 T0 w V)(hl:Loc w0 T0 s μ γ)(hQ:QLe Q Q'){o:Oper}(hdst:∀k,o.dst=some k→k<a.tmps.size)
 {x:Operand} {F:AVal→Option AVal} (hF:∀v u y,b2q w V μ v y→a.eval x=y→F v=some u→a1k u=true∧∃z,a4r w V μ u z∧(execOp a.eval o).run E.P w=.ok (.value z) w)
 {s':St} (hs:((rd s x).bind fun v=>(F v).map (s.putD o.dst))=some s') {X:Exit→Act→World→Prop}:o.wp E.P a w (Sim E.P w0 V0 T0 Q' s') X:=by
 obtain⟨v,h1,hs⟩:=bind_some hs;obtain⟨u,h2,rfl⟩:=map_some hs;obtain⟨h3,z,h4,h5⟩:=hF v u _ (h.rd h1) rfl h2;exact b0q hd h hf hl hQ hdst h3 h4 h5
theorem c6p(hd:a.defers=[])(h:SRel E.P Q s a w V μ γ)(hf:Fr w0 V0 T0 w V)(hl:Loc w0 T0 s μ γ)(hQ:QLe Q Q'){o:Oper}(hdst:∀k,o.dst=some k→k<a.tmps.size)
 {x y:Operand} {F:AVal→AVal→Option AVal} (hF:∀v v' u z z',b2q w V μ v z→a.eval x=z→b2q w V μ v' z'→a.eval y=z'→F v v'=some u→a1k u=true∧∃q,a4r w V μ u q∧(execOp a.eval o).run E.P w=.ok (.value q) w)
 {s':St} (hs:((rd s x).bind fun v=>(rd s y).bind fun v'=>(F v v').map (s.putD o.dst))=some s') {X:Exit→Act→World→Prop}:o.wp E.P a w (Sim E.P w0 V0 T0 Q' s') X:=by
 obtain⟨v,h1,hs⟩:=bind_some hs;obtain⟨v',h1',hs⟩:=bind_some hs;obtain⟨u,h2,rfl⟩:=map_some hs;obtain⟨h3,z,h4,h5⟩:=hF v v' u _ _ (h.rd h1) rfl (h.rd h1') rfl h2;exact b0q hd h hf hl hQ hdst h3 h4 h5
end
section
variable{E:Env}{a:Act}{w:World}{V:Vis}{μ:a5m}
theorem e5k{o:Oper}{x:Operand}(ho:o.op=.nilCheck x)(v u:AVal)(y:Value)(hr:b2q w V μ v y)(he:a.eval x=y)(hF:j4a v=some u):
 a1k u=true∧∃z,a4r w V μ u z∧(execOp a.eval o).run E.P w=.ok (.value z) w:=by
 cases v<;>simp only[j4a] at hF<;>(try cases hF)
 case ptr b off=>
  split at hF
  · rename_i hlt;injection hF with hF;subst hF;refine⟨rfl,y,hr,?_⟩;obtain⟨g,_,hy⟩:=hr;rw[a6e hlt] at hy;subst hy;simp[execOp,ho,he]
  · cases hF
 case pel e off=>
  refine⟨rfl,y,hr,?_⟩;obtain⟨g,o',rfl,_⟩:=hr;simp[execOp,ho,he]
 case func f c d=>
  refine⟨rfl,y,hr,?_⟩;obtain⟨g,o',rfl,_⟩:=hr;simp[execOp,ho,he]
theorem h0a{o:Oper}{T:TypeId}{x:Operand}(ho:o.op=.unOp .not T x)(v u:AVal)(y:Value)(hr:b2q w V μ v y)(he:a.eval x=y)(hF:j5f v=some u):
 a1k u=true∧∃z,a4r w V μ u z∧(execOp a.eval o).run E.P w=.ok (.value z) w:=by
 cases v<;>simp only[j5f] at hF<;>(try cases hF)
 have hy:=c5a hr;exact⟨rfl,_,rfl,by simp[execOp,ho,he,hy,Op.unary]⟩
theorem d9c{o:Oper}{i:Nat}{x:Operand}(ho:o.op=.extract x i)(v u:AVal)(y:Value)(hr:b2q w V μ v y)(he:a.eval x=y)(hF:(c5n i v).map strip=some u):
 a1k u=true∧∃z,a4r w V μ u z∧(execOp a.eval o).run E.P w=.ok (.value z) w:=by
 obtain⟨c,hG,rfl⟩:=map_some hF;clear hF;cases v<;>simp only[c5n] at hG<;>(try cases hG)
 obtain⟨vs,rfl,h2⟩:=hr;obtain⟨z,h3,h4⟩:=h2.get hG;refine⟨a3d c,z,?_,?_⟩
 · have:b2r w V μ (strip2 c) z:=b2r.strip2 h4;cases c<;>first|exact this|exact this.r3 (b5c (n:=0))|exact absurd h4 (by simp[b2r,a3k,a1t])
 · have h5:vs[i]? =some z:=by simpa using h3
   simp[execOp,ho,he,Instr.extract,h5]
end
end Go.Av
namespace Go.Av
section
variable{E:Env}{a:Act}{w:World}{V:Vis}{μ:a5m}
theorem a0e{P:Program}{t:TypeId}{d:TypeDesc}(h:P.underlying t=some d):(underlying t).run P w=.ok d w:=by
 simp[underlying,h]
theorem a8u{P:Program}{t:TypeId}(h:P.cellsOf t≠0):∃i,P.info? t=some i∧i.size=P.cellsOf t:=by
 unfold Program.cellsOf at h⊢;cases hi:P.info? t with
 | none=>simp[hi] at h
 | some i=>exact⟨i,rfl,by simp⟩
theorem a6d{P:Program}{t:TypeId}(h:P.cellsOf t≠0):(Go.sizeOf t).run P w=.ok (P.cellsOf t) w:=by
 obtain⟨i,h1,h2⟩:=a8u h;simp[Go.sizeOf,typeInfo,h1,h2]
theorem a2z{P:Program}{t e:TypeId}(h:a1g P t=some e):P.underlying t=some (.slice e):=by
 unfold a1g at h;split at h
 · rename_i x hx;split at h
   · cases h
   · injection h with h;rw[hx,h]
 · cases h
theorem b5b{P:Program}{t:TypeId}{m:TypeId×TypeId}(h:f1k P t=some m):P.underlying t=some (.map m.1 m.2):=by
 unfold f1k at h;split at h
 · rename_i k e hx;injection h with h;rw[hx,←h]
 · cases h
theorem a7d{P:Program}{t:TypeId}(h:a3l P t=true):P.underlying t=some .string:=by
 unfold a3l at h;split at h
 · assumption
 · cases h
theorem e6b{P:Program}{t:TypeId}(h:d2u P t=true):P.underlying t=some .bool:=by
 unfold d2u at h;split at h
 · assumption
 · cases h
theorem c6l{P:Program}{t:TypeId}{k:IntKind}(h:c4h P t=some k):P.underlying t=some (.int k):=by
 unfold c4h at h;split at h
 · rename_i x hx;injection h with h;rw[hx,h]
 · cases h
theorem d5y{P:Program}{t:TypeId}(h:g1g P t=true):∃e,P.underlying t=some (.pointer e):=by
 unfold g1g at h;split at h
 · exact⟨_,by assumption⟩
 · cases h
theorem c6m{P:Program}{t:TypeId}{i:Nat}{f:Nat×Nat}(h:a1j P t i=some f):∃fs fd,P.underlying t=some (.struct fs)∧fs[i]? =some fd∧f=(fd.offset,P.cellsOf fd.type):=by
 unfold a1j at h;split at h
 · rename_i fs hfs;obtain⟨fd,h1,h2⟩:=map_some h;exact⟨fs,fd,hfs,h1,h2.symm⟩
 · cases h
theorem d5z{P:Program}{t:TypeId}{f:Nat×Nat}(h:j5b P t=some f):∃n e,P.underlying t=some (.array n e)∧f=(n,P.cellsOf e):=by
 unfold j5b at h;split at h
 · rename_i n e hx;injection h with h;exact⟨n,e,hx,h.symm⟩
 · cases h
theorem e6k{P:Program}{op:BinOp}{T:TypeId}{k:IntKind}{x y:Int}{u:AVal}(h:e4k op k x y=some u):∃z,a4r w V μ u z∧a1k u=true∧(binOp op T (.int k x) (.int k y)).run P w=.ok z w:=by
 cases op<;>simp only[e4k] at h<;>(try cases h)<;>
  first
   | exact⟨_,rfl,rfl,by simp[binOp,Op.intArith,Op.intCmp]⟩
   | skip
 · split at h
   · cases h
   · rename_i hy;injection h with h;subst h;exact⟨_,rfl,rfl,by simp[binOp,Op.intDiv,hy]⟩
 · split at h
   · cases h
   · rename_i hy;injection h with h;subst h;exact⟨_,rfl,rfl,by simp[binOp,Op.intDiv,hy]⟩
theorem d9y{P:Program}{op:BinOp}{T:TypeId}{x y:Operand}{b c:Value}(h:∀cs,b≠ .agg cs)(h2:b≠ .nilIface):(eqGuard op T x y b c).run P w=.ok () w:=by
 unfold eqGuard;cases op<;>cases b<;>first|rfl|exact absurd rfl (h _)|exact absurd rfl h2
theorem d3g{P:Program}{T e:TypeId}{x:Addr}(d:Nat)(h:P.underlying T=some (.pointer e)):(Op.equalIn (d+1) T (.pointer (some x)) (.pointer none)).run P w=.ok false w:=by
 unfold Op.equalIn;simp only[Sem.run_bind,a0e h,Result.andThen_ok];rfl
theorem c9m{P:Program}{T e:TypeId}(d:Nat)(h:P.underlying T=some (.pointer e)):(Op.equalIn (d+1) T (.pointer none) (.pointer none)).run P w=.ok true w:=by
 unfold Op.equalIn;simp only[Sem.run_bind,a0e h,Result.andThen_ok];rfl
theorem c6t{P:Program}{T e:TypeId}{x:Addr}(h:P.underlying T=some (.pointer e)):(Op.equal T (.pointer (some x)) (.pointer none)).run P w=.ok false w:=d3g 9999 h
theorem c3w{P:Program}{T e:TypeId}(h:P.underlying T=some (.pointer e)):(Op.equal T (.pointer none) (.pointer none)).run P w=.ok true w:=c9m 9999 h
theorem c1m{T:TypeId}{x:Option Addr}:binOp .eql T (.pointer x) (.pointer none)=(do pure (.bool (←Op.equal T (.pointer x) (.pointer none)))):=by cases x<;>rfl
theorem c1l{T:TypeId}{x:Option Addr}:binOp .neq T (.pointer x) (.pointer none)=(do pure (.bool (!(←Op.equal T (.pointer x) (.pointer none))))):=by cases x<;>rfl
theorem d3h{P:Program}{T k e:TypeId}{p:Option Nat}(d:Nat)(h:P.underlying T=some (.map k e)):(Op.equalIn (d+1) T (.map p) (.map none)).run P w=.ok p.isNone w:=by
 cases p<;>(unfold Op.equalIn;simp only[Sem.run_bind,a0e h,Result.andThen_ok];rfl)
theorem a9j{P:Program}{T k e:TypeId}{p:Option Nat}(h:P.underlying T=some (.map k e)):(Op.equal T (.map p) (.map none)).run P w=.ok p.isNone w:=d3h 9999 h
theorem b4f{T:TypeId}{x:Option Nat}:binOp .eql T (.map x) (.map none)=(do pure (.bool (←Op.equal T (.map x) (.map none)))):=by cases x<;>rfl
theorem b4e{T:TypeId}{x:Option Nat}:binOp .neq T (.map x) (.map none)=(do pure (.bool (!(←Op.equal T (.map x) (.map none))))):=by cases x<;>rfl
theorem e6i{P:Program}{op:BinOp}{T:TypeId}{x y:List UInt8}{u:AVal}(h:e2c op x y=some u):∃z,a4r w V μ u z∧a1k u=true∧(binOp op T (.string ⟨x.toArray⟩) (.string ⟨y.toArray⟩)).run P w=.ok z w:=by
 cases op<;>simp only[e2c] at h<;>(try cases h)
 · split at h
   · rename_i hlt;injection h with h;subst h;refine⟨_,rfl,rfl,?_⟩;have hm:¬(((x.length+y.length:Nat):Int)>IntKind.i64.max):=by
      have:IntKind.i64.max=9223372036854775807:=by decide
      rw[this];unfold a1y at hlt;omega
     have hsz:∀l:List UInt8,(ByteArray.mk l.toArray).size=l.length:=fun l=>by simp[ByteArray.size]
     simp only[binOp,Op.stringOp,hsz,hm,if_false];simp only[Sem.run_pure]
     congr 1
   · cases h
 · exact⟨_,rfl,rfl,by simp[binOp,Op.stringOp]⟩
 · exact⟨_,rfl,rfl,by simp[binOp,Op.stringOp]⟩
theorem c2g{P:Program}{op:BinOp}{T:TypeId}{r:Bool}{b c:Value}{u:AVal}(h:eqB op r=some u)(he:(binOp .eql T b c).run P w=.ok (.bool r) w)(hn:(binOp .neq T b c).run P w=.ok (.bool (!r)) w):
 ∃z,a4r w V μ u z∧a1k u=true∧(binOp op T b c).run P w=.ok z w:=by
 cases op<;>simp only[eqB] at h<;>(try cases h)
 · exact⟨_,rfl,rfl,he⟩
 · exact⟨_,rfl,rfl,hn⟩
theorem h0e{o:Oper}{op:BinOp}{T U:TypeId}{x y:Operand}(ho:o.op=.binOp op T x y U)(v v' u:AVal)(z z':Value)(hr:b2q w V μ v z)(he:a.eval x=z)(hr':b2q w V μ v' z')(he':a.eval y=z')(hF:j5l E T op v v'=some u):
 a1k u=true∧∃q,a4r w V μ u q∧(execOp a.eval o).run E.P w=.ok (.value q) w:=by
 have fin:∀b c,z=b→z'=c→(∀cs,b≠ .agg cs)→b≠ .nilIface→(∃q,a4r w V μ u q∧a1k u=true∧(binOp op T b c).run E.P w=.ok q w)→
  a1k u=true∧∃q,a4r w V μ u q∧(execOp a.eval o).run E.P w=.ok (.value q) w:=by
  rintro b c rfl rfl h1 h2 ⟨q,h3,h4,h5⟩;exact⟨h4,q,h3,by simp[execOp,ho,he,he',d9y h1 h2,h5]⟩
 cases v<;>cases v'<;>simp only[j5l] at hF<;>(try cases hF)
 case int.int k b k' c=>
  split at hF
  · rename_i hk;subst hk;exact fin _ _ hr hr' (by simp) (by simp) (e6k hF)
  · cases hF
 case bool.bool b c=>
  split at hF
  · rename_i hT;have hu:=e6b hT;exact fin _ _ hr hr' (by simp) (by simp) (c2g hF (run_eql_bool _ _ _ _ hu) (run_neq_bool _ _ _ _ hu))
  · cases hF
 case str.str b c=>exact fin _ _ hr hr' (by simp) (by simp) (e6i hF)
 case ptr.nilp b off=>
  split at hF
  · rename_i hT;obtain⟨e,hu⟩:=d5y hT.1;obtain⟨g,_,hz⟩:=hr;rw[a6e hT.2] at hz;exact fin _ _ hz hr' (by simp) (by simp) (c2g hF (by rw[c1m];simp[c6t hu]) (by rw[c1l];simp[c6t hu]))
  · cases hF
 case nilm.nilm=>
  split at hF
  · rename_i hT;obtain⟨m,hm⟩:=Option.isSome_iff_exists.1 hT;have hu:=b5b hm;exact fin _ _ hr hr' (by simp) (by simp) (c2g hF (by rw[b4f];simp[a9j hu]) (by rw[b4e];simp[a9j hu]))
  · cases hF
 case pmap.nilm es=>
  split at hF
  · rename_i hT;obtain⟨m,hm⟩:=Option.isSome_iff_exists.1 hT;have hu:=b5b hm;obtain⟨g,_,_,hz,_⟩:=(show a1t w V (.pmap es) z from hr)
    exact fin _ _ hz hr' (by simp) (by simp) (c2g hF (by rw[b4f];simp[a9j hu]) (by rw[b4e];simp[a9j hu]))
  · cases hF
 case mview.nilm=>
  split at hF
  · rename_i hT;obtain⟨m,hm⟩:=Option.isSome_iff_exists.1 hT.1;have hu:=b5b hm;obtain⟨g,hz⟩:=hr.1 hT.2;exact fin _ _ hz hr' (by simp) (by simp) (c2g hF (by rw[b4f];simp[a9j hu]) (by rw[b4e];simp[a9j hu]))
  · cases hF
 case nilp.nilp=>
  split at hF
  · rename_i hT;obtain⟨e,hu⟩:=d5y hT;exact fin _ _ hr hr' (by simp) (by simp) (c2g hF (by rw[c1m];simp[c3w hu]) (by rw[c1l];simp[c3w hu]))
  · cases hF
theorem d3c(l:List UInt8):(ByteArray.mk l.toArray).size=l.length:=by simp[ByteArray.size]
theorem h0d{o:Oper}{x:Operand}{ats:Array TypeId}(ho:o.op=.call {callee:=.builtin .len,args:= #[x],argTypes:=ats})(v u:AVal)(y:Value)(hr:b2q w V μ v y)(he:a.eval x=y)(hF:j5i E (ats[0]?) v=some u):
 a1k u=true∧∃z,a4r w V μ u z∧(execOp a.eval o).run E.P w=.ok (.value z) w:=by
 have sl:∀es,a5x v=some es→((a5x v).bind fun es=>if ((ats[0]?).bind (a1g E.P)).isSome then some (AVal.int .i64 es.length) else none)=some u→
  a1k u=true∧∃z,a4r w V μ u z∧(execOp a.eval o).run E.P w=.ok (.value z) w:=by
  intro es hes hu;rw[hes,Option.bind_some] at hu;split at hu
  · rename_i hT;injection hu with hu;subst hu;cases ht:ats[0]? with
    | none=>simp[ht] at hT
    | some t=>
     rw[ht] at hT;simp only[Option.bind_some] at hT;obtain⟨e,hte⟩:=Option.isSome_iff_exists.1 hT;have h1:=a5w hr hes;simp only[a1t] at h1;obtain⟨A,c,rfl,_⟩:=h1;exact⟨rfl,_,rfl,by simp[execOp,ho,he,resolve,invoke,builtin,Builtin.len_,ht,a0e (a2z hte),goInt]⟩
  · cases hu
 cases v<;>simp only[j5i] at hF<;>first|exact sl _ rfl hF|(cases hF;done)|skip
 case own T n es=>
  have hq:a5x (.own T n es)=some ((a5x (.own T n es)).getD []):=by
   cases h:a5x (.own T n es) with
   | none=>rw[h] at hF;cases hF
   | some _=>rfl
  exact sl (es:=(a5x (.own T n es)).getD []) hq hF
 case ptr b off=>
  split at hF
  · rename_i hT;injection hF with hF;subst hF;cases ht:ats[0]? with
    | none=>simp[ht] at hT
    | some t=>
     rw[ht] at hT;simp only[Option.bind_some] at hT;obtain⟨e,hte⟩:=Option.isSome_iff_exists.1 hT.2;obtain⟨g,_,hy⟩:=hr;rw[d3o hT.1] at hy;obtain⟨cp,_,hy⟩:=hy;exact⟨rfl,_,rfl,by simp[execOp,ho,he,hy,resolve,invoke,builtin,Builtin.len_,ht,a0e (a2z hte),goInt]⟩
  · cases hF
 split at hF
 · rename_i hT;injection hF with hF;subst hF;cases ht:ats[0]? with
   | none=>simp[ht] at hT
   | some t=>
    rw[ht] at hT;simp only[Option.map_some] at hT;have hT':a3l E.P t=true:=by injection hT
    have h1:=b8u hr;subst h1;exact⟨rfl,_,rfl,by simp[execOp,ho,he,resolve,invoke,builtin,Builtin.len_,ht,a0e (a7d hT'),goInt,d3c]⟩
 · cases hF
theorem h0c{o:Oper}{x y:Operand}{ats:Array TypeId}(ho:o.op=.call {callee:=.builtin .max,args:= #[x,y],argTypes:=ats})(v v' u:AVal)(z z':Value)(hr:b2q w V μ v z)(he:a.eval x=z)(hr':b2q w V μ v' z')(he':a.eval y=z')(hF:j5h v v'=some u):
 a1k u=true∧∃q,a4r w V μ u q∧(execOp a.eval o).run E.P w=.ok (.value q) w:=by
 cases v<;>cases v'<;>simp only[j5h] at hF<;>(try cases hF)
 split at hF
 · rename_i hk;subst hk;injection hF with hF;subst hF;have h1:=b0g hr;have h2:=b0g hr';subst h1;subst h2;exact⟨rfl,_,rfl,by simp[execOp,ho,he,he',resolve,invoke,builtin,run_max_int2]⟩
 · cases hF
theorem h0b{o:Oper}{x y:Operand}{ats:Array TypeId}(ho:o.op=.call {callee:=.builtin .min,args:= #[x,y],argTypes:=ats})(v v' u:AVal)(z z':Value)(hr:b2q w V μ v z)(he:a.eval x=z)(hr':b2q w V μ v' z')(he':a.eval y=z')(hF:j5g v v'=some u):
 a1k u=true∧∃q,a4r w V μ u q∧(execOp a.eval o).run E.P w=.ok (.value q) w:=by
 cases v<;>cases v'<;>simp only[j5g] at hF<;>(try cases hF)
 split at hF
 · rename_i hk;subst hk;injection hF with hF;subst hF;have h1:=b0g hr;have h2:=b0g hr';subst h1;subst h2;exact⟨rfl,_,rfl,by simp[execOp,ho,he,he',resolve,invoke,builtin,run_min_int2]⟩
 · cases hF
theorem a6i(g o n:Nat):(⟨g,o,none⟩:Addr).add n=⟨g,o+n,none⟩:=by
 unfold Addr.add;split
 · rename_i h;subst h;rfl
 · rfl
theorem d2h{o:Oper}{S:TypeId}{x:Operand}{i:Nat}(ho:o.op=.fieldAddr S x i)(v u:AVal)(y:Value)(hr:b2q w V μ v y)(he:a.eval x=y)(hF:d1o E S i v=some u):
 a1k u=true∧∃z,a4r w V μ u z∧(execOp a.eval o).run E.P w=.ok (.value z) w:=by
 have fin:∀g off fs (fd:Field),E.P.underlying S=some (.struct fs)→fs[i]? =some fd→E.P.cellsOf fd.type≠0→y=.pointer (some ⟨g,off,none⟩)→
  (execOp a.eval o).run E.P w=.ok (.value (.pointer (some ⟨g,off+fd.offset,none⟩))) w:=by
  intro g off fs fd h1 h2 h3 h4;simp[execOp,ho,he,h4,Instr.fieldAt,a0e h1,h2,Instr.sureAddr,fieldPlace,a6d h3,h3,a6i]
 cases v<;>simp only[d1o] at hF<;>(try cases hF)
 case ptr b off=>
  obtain⟨f,h1,h2⟩:=bind_some hF;obtain⟨fs,fd,h3,h4,rfl⟩:=c6m h1;simp only at h2;split at h2
  · cases h2
  · rename_i hz;split at h2
    · rename_i hlt;injection h2 with h2;subst h2;obtain⟨g,hg,hy⟩:=hr;rw[a6e (by omega)] at hy;exact⟨rfl,_,⟨g,hg,(a6e hlt).2 rfl⟩,fin g off fs fd h3 h4 hz hy⟩
    · cases h2
 case pel e off=>
  obtain⟨f,h1,h2⟩:=bind_some hF;obtain⟨fs,fd,h3,h4,rfl⟩:=c6m h1;simp only at h2;split at h2
  · cases h2
  · rename_i hz;injection h2 with h2;subst h2;obtain⟨g,p,hy,hc⟩:=hr;exact⟨rfl,_,⟨g,p,by rw[←Nat.add_assoc],hc⟩,fin g (p+off) fs fd h3 h4 hz hy⟩
theorem f3l{sz g:Nat}:∀ {o:Nat} {es:List AVal} {i:Nat} {e:AVal},b0v w V sz g o es→es[i]? =some e→(cellsOf e).length=sz∧a3b w V g (o+i*sz) (cellsOf e)
 | _,[],_,_,_,h=>by simp at h
 | o,e'::es,0,e,hr,h=>by
  rw[a2y] at hr;simp at h;subst h;simpa using hr.1
 | o,e'::es,i+1,e,hr,h=>by
  rw[a2y] at hr;have:=f3l hr.2 (i:=i) (by simpa using h);refine⟨this.1,?_⟩;have e1:o+(i+1)*sz=o+sz+i*sz:=by rw[Nat.succ_mul];omega
  rw[e1];exact this.2
theorem f0y{o:Oper}{T:TypeId}{x i:Operand}(ho:o.op=.indexAddr T x i)(v v' u:AVal)(z z':Value)(hr:b2q w V μ v z)(he:a.eval x=z)(hr':b2q w V μ v' z')(he':a.eval i=z')(hF:e4n E T v v'=some u):
 a1k u=true∧∃q,a4r w V μ u q∧(execOp a.eval o).run E.P w=.ok (.value q) w:=by
 cases v'<;>simp only[e4n] at hF<;>(try cases hF)
 rename_i k n;split at hF
 · rename_i es h1;obtain⟨e,h2,hF⟩:=bind_some hF;split at hF
   · rename_i hn;obtain⟨el,h3,hF⟩:=bind_some hF;split at hF
     · rename_i hsz;injection hF with hF;subst hF;have h4:=a5w hr h1;simp only[a1t] at h4;obtain⟨A,c,hv,hc,hrow⟩:=h4;have hlt:n.toNat<es.length:=by
        rcases Nat.lt_or_ge n.toNat es.length with h|h
        · exact h
        · rw[List.getElem?_eq_none h] at h3;cases h3
       rcases hrow with rfl| ⟨g,p,sz,rfl,hpos,hrow⟩
       · simp at hlt
       · obtain⟨h5,h6⟩:=f3l hrow h3;have hsz':E.P.cellsOf e=sz:=hsz.symm.trans h5;have hne:E.P.cellsOf e≠0:=by omega
         have hy:=b0g hr';have hin:0≤n∧n<(es.length:Int):=⟨hn,by omega⟩
         refine⟨rfl,.pointer (some ⟨g,p+n.toNat*sz,none⟩),⟨g,p+n.toNat*sz,rfl,h6⟩,?_⟩;simp[execOp,ho,he,he',hv,hy,Instr.indexAt,asIntOf,a0e (a2z h2),hin,a6d hne,a6i,hsz']
     · cases hF
   · cases hF
 · rename_i hne0;clear hne0;have hy:=b0g hr';have fin:∀g off (m:Nat) e,E.P.underlying T=some (.array m e)→0≤n∧n<(m:Int)→E.P.cellsOf e≠0→z=.pointer (some ⟨g,off,none⟩)→
    (execOp a.eval o).run E.P w=.ok (.value (.pointer (some ⟨g,off+n.toNat*E.P.cellsOf e,none⟩))) w:=by
    intro g off m e h1 h2 h3 h4;simp[execOp,ho,he,he',h4,hy,Instr.indexAt,asIntOf,a0e h1,Instr.sureAddr,h2,a6d h3,a6i]
   cases v<;>simp only[f7a] at hF<;>(try cases hF)
   case ptr b off=>
    obtain⟨g,hg,hzz⟩:=hr;split at hF
    · rename_i hbs;obtain⟨e,h2,hF⟩:=bind_some hF;split at hF
      · rename_i hz;injection hF with hF;subst hF;obtain⟨z1,z2,z3,z4⟩:=hz;rw[d3o hbs] at hzz;obtain⟨cp,_,hzz⟩:=hzz;refine⟨rfl,_,⟨g,hg,(a6e z4).2 rfl⟩,?_⟩;have hne:E.P.cellsOf e≠0:=z3;simp[execOp,ho,he,he',hzz,hy,Instr.indexAt,asIntOf,a0e (a2z h2),z1,z2,a6d hne,a6i,a1d]
      · cases hF
    · rename_i hbs;obtain⟨f,h1,h2⟩:=bind_some hF;obtain⟨m,e,h3,rfl⟩:=d5z h1;split at h2
      · rename_i hz;injection h2 with h2;subst h2;rw[a6e (by omega)] at hzz;exact⟨rfl,_,⟨g,hg,(a6e hz.2.2.2).2 rfl⟩,fin g off m e h3 ⟨hz.1,hz.2.1⟩ hz.2.2.1 hzz⟩
      · cases h2
   case pel e off=>
    obtain⟨f,h1,h2⟩:=bind_some hF;obtain⟨m,e',h3,rfl⟩:=d5z h1;split at h2
    · rename_i hz;injection h2 with h2;subst h2;obtain⟨g,p,hy,hc⟩:=hr;exact⟨rfl,_,⟨g,p,by rw[←Nat.add_assoc],hc⟩,fin g (p+off) m e' h3 ⟨hz.1,hz.2.1⟩ hz.2.2 hy⟩
    · cases h2
theorem e1g{o:Oper}{T:TypeId}{x i:Operand}(ho:o.op=.index T x i)(v v' u:AVal)(z z':Value)(hr:b2q w V μ v z)(he:a.eval x=z)(hr':b2q w V μ v' z')(he':a.eval i=z')(hF:e4m E T v v'=some u):
 a1k u=true∧∃q,a4r w V μ u q∧(execOp a.eval o).run E.P w=.ok (.value q) w:=by
 cases v<;>cases v'<;>simp only[e4m] at hF<;>(try cases hF)
 rename_i b k n;split at hF
 · rename_i hn;obtain⟨c,h1,h2⟩:=map_some hF;subst h2;have h3:=b8u hr;have h4:=b0g hr';have hg:(ByteArray.mk b.toArray)[n.toNat]? =some c:=by
    have hlt:n.toNat<b.length:=by
     rcases Nat.lt_or_ge n.toNat b.length with h|h
     · exact h
     · rw[List.getElem?_eq_none h] at h1;cases h1
    rw[ByteArray.getElem?_lt' _ _ (by simpa [d3c] using hlt)];rw[List.getElem?_eq_getElem hlt] at h1;injection h1 with h1;rw[←h1];rfl
   exact⟨rfl,_,rfl,by simp[execOp,ho,he,he',h3,h4,Instr.index,asIntOf,a0e (a7d hn.2),hn.1,hg]⟩
 · cases hF
end
end Go.Av
namespace Go.Av
section
variable{E:Env}{a:Act}{w:World}{V:Vis}{μ:a5m}
theorem c8y:∀ {es:List AVal} {bs:List UInt8},bytesOf es=some bs→∃ns:List Int,es=ns.map (AVal.int .u8)∧bs=ns.map fun n=>UInt8.ofNat n.toNat
 | [],_,h=>by
  simp only[bytesOf] at h;injection h with h;exact⟨[],rfl,h.symm⟩
 | e::es,bs,h=>by
  unfold bytesOf at h;split at h
  · rename_i heq;cases heq
  · rename_i n r heq;injection heq with h1 h2;subst h1;subst h2;obtain⟨bs',h3,rfl⟩:=map_some h;obtain⟨ns,rfl,rfl⟩:=c8y h3;exact⟨n::ns,rfl,rfl⟩
  · cases h
theorem e2r{sz g:Nat}{k:IntKind}:∀ {ns:List Int} {o:Nat},b0v w V sz g o (ns.map (AVal.int k))→ns=[]∨(sz=1∧∀j n,ns[j]? =some n→w.cell? ⟨g,o+j,none⟩=some (.int k n))
 | [],_,_=>.inl rfl
 | n::ns,o,h=>by
  right
  rw[List.map_cons,a2y] at h;obtain⟨⟨h1,h2⟩,h3⟩:=h;simp only[cellsOf,List.length_cons,List.length_nil] at h1;subst h1;refine⟨rfl,fun j m hj=>?_⟩;cases j with
  | zero=>
   simp at hj;subst hj;simp only[cellsOf,a3b] at h2;obtain⟨⟨_,x,hx,hr⟩,_⟩:=h2;simp only[a1t] at hr;subst hr;exact hx
  | succ j=>
   rcases e2r h3 with h4| ⟨_,h4⟩
   · subst h4;simp at hj
   · have:=h4 j m (by simpa using hj);rw[show o+(j+1)=o+1+j by omega];exact this
theorem d1m:∀(ns:List Int) (l:List UInt8),ns.foldl (fun (r:ByteArray) n=>r.push (UInt8.ofNat n.toNat)) ⟨l.toArray⟩=⟨(l++ns.map fun n=>UInt8.ofNat n.toNat).toArray⟩
 | [],l=>by simp
 | n::ns,l=>by
  rw[List.foldl_cons];have:(ByteArray.mk l.toArray).push (UInt8.ofNat n.toNat)=⟨(l++[UInt8.ofNat n.toNat]).toArray⟩:=by
   apply ByteArray.ext;simp[ByteArray.push]
  rw[this,d1m ns];simp
theorem g0h{o:Oper}{src dst:TypeId}{x:Operand}(ho:o.op=.convert src dst x)(v u:AVal)(y:Value)(hr:b2q w V μ v y)(he:a.eval x=y)(hF:g9p E src dst v=some u):
 a1k u=true∧∃z,a4r w V μ u z∧(execOp a.eval o).run E.P w=.ok (.value z) w:=by
 have sl:∀es,a5x v=some es→((a5x v).bind fun es=>if a3l E.P dst=true∧(a1g E.P src).bind (c4h E.P)=some .u8 then (bytesOf es).map AVal.str else none)=some u→
  a1k u=true∧∃z,a4r w V μ u z∧(execOp a.eval o).run E.P w=.ok (.value z) w:=by
  intro es hes hu;rw[hes,Option.bind_some] at hu;split at hu
  · rename_i hT;obtain⟨bs,h1,rfl⟩:=map_some hu;obtain⟨e,h2,h3⟩:=bind_some hT.2;obtain⟨ns,rfl,rfl⟩:=c8y h1;have h4:=a5w hr hes;simp only[a1t] at h4;obtain⟨A,c,hy,hc,hrow⟩:=h4;refine⟨rfl,_,rfl,?_⟩;have hconv:(convert src dst y).run E.P w=.ok (.string ⟨(ns.map fun n=>UInt8.ofNat n.toNat).toArray⟩) w:=by
     rw[hy,run_convert_bytes_string w src dst e A _ c (a2z h2) (c6l h3) (a7d hT.1)];rcases hrow with h5| ⟨g,p,sz,rfl,hpos,hrow⟩
     · have:ns=[]:=by simpa using h5
       subst this;cases A with
       | none=>simp[Conv.bytesToString];rfl
       | some A=>rw[run_bytesToString w A _ c [] (by simp[loadCells,loadCellsFrom])];rfl
     · have hl:(loadCells ⟨g,p,none⟩ (ns.map (AVal.int .u8)).length).run E.P w=.ok (ns.map (Value.int .u8)).toArray w:=by
        have:=run_loadCells_list (P:=E.P) w ⟨g,p,none⟩ (ns.map (Value.int .u8)) (fun j v hv=>by
         rw[a6i];rcases e2r hrow with h5| ⟨_,h5⟩
         · subst h5;simp at hv
         · rw[List.getElem?_map] at hv;obtain⟨n,h6,rfl⟩:=map_some hv;exact h5 j n h6)
        simpa using this
       rw[run_bytesToString w _ _ c ns hl];have:=d1m ns [];simp only[List.nil_append] at this;rw[←this];rfl
    simp[execOp,ho,he,hconv]
  · cases hu
 cases v<;>simp only[g9p] at hF<;>first|exact sl _ rfl hF|(cases hF;done)|exact sl _ (d1w hF) hF|skip
 case int k n=>
  split at hF
  · rename_i hs;obtain⟨k',h1,rfl⟩:=map_some hF;obtain⟨d,h2⟩:=Option.isSome_iff_exists.1 hs;have hy:=b0g hr;exact⟨rfl,_,rfl,by simp[execOp,ho,he,hy,convert,a0e h2,a0e (c6l h1),Conv.intToInt]⟩
  · cases hF
 case str b=>
  split at hF
  · rename_i hs;injection hF with hF;subst hF;obtain⟨d,h2⟩:=Option.isSome_iff_exists.1 hs.1;have hy:=b8u hr;exact⟨rfl,_,rfl,by simp[execOp,ho,he,hy,convert,a0e h2,a0e (a7d hs.2)]⟩
  · cases hF
end
section
variable{E:Env}{w0:World}{V0:Vis}{T0:Tch}{Q Q':Nat→Prop}{s:St}{a:Act}{w:World}{V:Vis}{μ:a5m}{γ:a7a}
theorem b5o(h:SRel E.P Q s a w V μ γ):∀ {xs:List Operand} {vs:List AVal},a9z s xs=some vs→a3r (a4r w V μ) vs (xs.map a.eval)
 | [],vs,hv=>by simp only[a9z] at hv;injection hv with hv;subst hv;trivial
 | x::xs,vs,hv=>by
  simp only[a9z] at hv;obtain⟨v,h1,hv⟩:=bind_some hv;obtain⟨vs',h2,rfl⟩:=map_some hv;exact⟨(h.rd h1).strip,b5o h h2⟩
theorem i3b{v:AVal}{x:Value}(h:a4r w V μ v x)(hs:b8s v=true):c9j w V μ v x:=by
 cases v<;>first|exact h|cases hs
theorem d5l:∀ {vs:List AVal} {xs:List Value},a3r (a4r w V μ) vs xs→vs.all b8s=true→a3r (c9j w V μ) vs xs
 | [],[],_,_=>trivial
 | v::vs,x::xs,h,hs=>by
  simp only[List.all_cons,Bool.and_eq_true] at hs;exact⟨i3b h.1 hs.1,d5l h.2 hs.2⟩
 | [],_::_,h,_=>h.elim
 | _::_,[],h,_=>h.elim
theorem d6g(hd:a.defers=[])(h:SRel E.P Q s a w V μ γ)(hf:Fr w0 V0 T0 w V)(hl:Loc w0 T0 s μ γ)(hQ:QLe Q Q'){o:Oper}(hdst:∀k,o.dst=some k→k<a.tmps.size)
 {f:FuncId} {first cap:Array Operand} (ho:o.op=.makeFunc (.func f) first cap) {s':St}
 (hs:((a9z s first.toList).bind fun x=>(a9z s cap.toList).bind fun c=>if x.all b8s&&c.all b8s then some (s.putD o.dst (.func f x c)) else none)=some s') {X:Exit→Act→World→Prop}:
 o.wp E.P a w (Sim E.P w0 V0 T0 Q' s') X:=by
 obtain⟨x,h1,hs⟩:=bind_some hs;obtain⟨c,h2,hs⟩:=bind_some hs;split at hs
 · rename_i hc;simp only[Bool.and_eq_true] at hc;injection hs with hs;subst hs;refine b0q hd h hf hl hQ hdst rfl (x:=.func (.func f) (first.map a.eval) (cap.map a.eval)) ?_ (by simp[execOp,ho,Instr.makeFunc]);exact⟨_,_,rfl,by simpa using d5l (b5o h h1) hc.1,by simpa using d5l (b5o h h2) hc.2⟩
 · cases hs
theorem g0k(h:SRel E.P Q s a w V μ γ){d n:Nat}{x:Option Operand}(hb:a9e s d x=some n):
 (x=none∧n=d)∨∃y k,x=some y∧a.eval y=.int k (n:Int):=by
 cases x with
 | none=>simp only[a9e] at hb;injection hb with hb;exact .inl ⟨rfl,hb.symm⟩
 | some y=>
  right
  simp only[a9e] at hb;obtain⟨v,h1,hb⟩:=bind_some hb;cases v<;>simp only at hb<;>(try cases hb)
  rename_i k i;split at hb
  · rename_i hi;injection hb with hb;have:=b0g (h.rd h1);exact⟨y,k,rfl,by rw[this,←hb];congr 1;omega⟩
  · cases hb
theorem d6j{P:Program}{k:IntKind}{n y:Nat}{c:BoundsCode}(h:n≤y):(Instr.sliceBound (.int k (n:Int)) y c).run P w=.ok n w:=by
 simp[Instr.sliceBound,asIntOf,h]
theorem d2f{g:Nat}:∀ {cs:List AVal} {o n:Nat},a3b w V g o cs→a3b w V g o (cs.take n)
 | _,_,0,_=>by simp[a3b]
 | [],_,_+1,_=>by simp[a3b]
 | c::cs,o,n+1,h=>by
  simp only[List.take_succ_cons,a3b] at h⊢;exact⟨h.1,d2f h.2⟩
theorem c3f{g:Nat}:∀ {cs:List AVal} {o n:Nat},a3b w V g o cs→a3b w V g (o+n) (cs.drop n)
 | _,_,0,h=>by simpa using h
 | [],_,_+1,_=>by simp[a3b]
 | c::cs,o,n+1,h=>by
  simp only[List.drop_succ_cons,a3b] at h⊢;have:=c3f (n:=n) h.2;rw[show o+(n+1)=o+1+n by omega];exact this
theorem e2p{sz g:Nat}:∀ {es:List AVal} {o n:Nat},b0v w V sz g o es→b0v w V sz g o (es.take n)
 | _,_,0,_=>by simp[b0v]
 | [],_,_+1,_=>by simp[b0v]
 | e::es,o,n+1,h=>by
  rw[a2y] at h;rw[List.take_succ_cons,a2y];exact⟨h.1,e2p h.2⟩
theorem e2s{sz g:Nat}:∀ {es:List AVal} {o n:Nat},b0v w V sz g o es→b0v w V sz g (o+n*sz) (es.drop n)
 | _,_,0,h=>by simpa using h
 | [],_,_+1,_=>by simp[b0v]
 | e::es,o,n+1,h=>by
  rw[a2y] at h;rw[List.drop_succ_cons];have:=e2s (n:=n) h.2;rw[show o+(n+1)*sz=o+sz+n*sz by rw[Nat.succ_mul];omega];exact this
theorem b6x{sz g:Nat}:∀ {es es':List AVal} {o:Nat},b0v w V sz g o es→b0v w V sz g (o+es.length*sz) es'→b0v w V sz g o (es++es')
 | [],es',o,_,h=>by simpa using h
 | e::es,es',o,h,h'=>by
  rw[a2y] at h;rw[List.cons_append,a2y];refine⟨h.1,b6x h.2 ?_⟩;rw[List.length_cons,show o+(es.length+1)*sz=o+sz+es.length*sz by rw[Nat.succ_mul];omega] at h';exact h'
theorem b5k{P:Program}{T e:TypeId}{A:Option Addr}{len cap l h m:Nat}{lo hi mx:Option Value}(ht:P.underlying T=some (.slice e))(hsz:P.cellsOf e≠0)
 (hb:(Instr.sliceBounds true len cap lo hi mx).run P w=.ok (l,h,m) w):
 (Instr.sliceAt T (.slice A len cap) lo hi mx).run P w=.ok (.slice (if m=l then A else A.map (·.add (l*P.cellsOf e))) (h - l) (m - l)) w:=by
 simp[Instr.sliceAt,a0e ht,Instr.slice,hb,a6d hsz]
theorem c6v{P:Program}{b:Bool}{len cap l h:Nat}{lo hi:Option Value}(hh:(hi=none∧h=len)∨∃k,hi=some (.int k (h:Int)))(hlo:(lo=none∧l=0)∨∃k,lo=some (.int k (l:Int)))(h1:l≤h)(h2:h≤cap):
 (Instr.sliceBounds b len cap lo hi none).run P w=.ok (l,h,cap) w:=by
 unfold Instr.sliceBounds;rcases hh with⟨rfl,rfl⟩| ⟨k,rfl⟩<;>rcases hlo with⟨rfl,rfl⟩| ⟨k',rfl⟩<;>simp[d6j,h1,h2]
theorem d9z{P:Program}{len cap l h:Nat}{lo:Option Value}{k k2:IntKind}(hlo:(lo=none∧l=0)∨∃k,lo=some (.int k (l:Int)))(h1:l≤h)(h2:h≤cap):
 (Instr.sliceBounds true len cap lo (some (.int k (h:Int))) (some (.int k2 (h:Int)))).run P w=.ok (l,h,h) w:=by
 unfold Instr.sliceBounds;rcases hlo with⟨rfl,rfl⟩| ⟨k',rfl⟩<;>simp[d6j,h1,h2]
theorem b6m(h:SRel E.P Q s a w V μ γ){d n:Nat}{x:Option Operand}(hb:a9e s d x=some n):
 (x.map a.eval=none∧n=d)∨∃k,x.map a.eval=some (.int k (n:Int)):=by
 rcases g0k h hb with⟨rfl,rfl⟩| ⟨y,k,rfl,hy⟩
 · exact .inl ⟨rfl,rfl⟩
 · exact .inr ⟨k,by simp[hy]⟩
theorem d6d{es:List AVal}{A:Option Addr}{c l h sz m:Nat}(hc:es.length≤c)(hrow:es=[]∨∃g o sz',A=some ⟨g,o,none⟩∧0<sz'∧b0v w V sz' g o es)(hl:l≤h)(hh:h≤es.length)(hm:h≤m)
 (hsz:∀e,es.head? =some e→(cellsOf e).length=sz):a1t w V (.slice ((es.take h).drop l)) (.slice (if m=l then A else A.map (·.add (l*sz))) (h - l) (m - l)):=by
 have hlen:((es.take h).drop l).length=h - l:=by simp;omega
 simp only[a1t];refine⟨_,m - l,by rw[hlen],by omega,?_⟩
 by_cases hml:m=l
 · left
   have:((es.take h).drop l).length=0:=by omega
   exact List.eq_nil_of_length_eq_zero this
 · rcases hrow with rfl| ⟨g,o,sz',rfl,hpos,hrow⟩
   · left;simp
   · cases es with
     | nil=>left;simp
     | cons e es=>
      right
      have h1:(cellsOf e).length=sz':=by rw[a2y] at hrow;exact hrow.1.1
      have h2:sz=sz':=(hsz e rfl).symm.trans h1;subst h2;refine⟨g,o+l*sz,sz,by simp[hml,a6i],hpos,e2s (e2p hrow)⟩
theorem f0x(h:SRel E.P Q s a w V μ γ){o:Oper}{T:TypeId}{x:Operand}{lo hi mx:Option Operand}(ho:o.op=.slice T x lo hi mx)(v u:AVal)(y:Value)(hr:b2q w V μ v y)(he:a.eval x=y)
 (hF:b8c E s T v lo hi mx=some u):(∀T n es,u≠ .own T n es)∧∃z,(∀p,c1p E.P w V μ γ p u z)∧(execOp a.eval o).run E.P w=.ok (.value z) w:=by
 have hrun:∀z,(Instr.sliceAt T y (lo.map a.eval) (hi.map a.eval) (mx.map a.eval)).run E.P w=.ok z w→(execOp a.eval o).run E.P w=.ok (.value z) w:=by
  intro z hz;simp[execOp,ho,he,hz]
 have sl:∀es,a5x v=some es→((a5x v).bind fun es=>(a9e s es.length hi).bind fun h=>(a9e s 0 lo).bind fun l=>
  (a1g E.P T).bind fun e=>if l≤h∧h≤es.length∧c8d (a1d E.P e) es=true then (match mx with
  | none=>some (AVal.slice ((es.take h).drop l))
  | some m=>(a9e s 0 (some m)).bind fun m=>if hi.isSome∧m=h then some (.full ((es.take h).drop l)) else none) else none)=some u→
  (∀T n es,u≠ .own T n es)∧∃z,(∀p,c1p E.P w V μ γ p u z)∧(execOp a.eval o).run E.P w=.ok (.value z) w:=by
  intro es hes hu;rw[hes,Option.bind_some] at hu;obtain⟨hh,h1,hu⟩:=bind_some hu;obtain⟨ll,h2,hu⟩:=bind_some hu;obtain⟨e,h3,hu⟩:=bind_some hu;split at hu
  · rename_i hc;obtain⟨hc1,hc2,hc3⟩:=hc;unfold c8d at hc3;simp only[Bool.and_eq_true,decide_eq_true_eq] at hc3;have hsz:E.P.cellsOf e≠0:=by have:=hc3.1;unfold a1d at this;omega
    have hhd:∀e',es.head? =some e'→(cellsOf e').length=E.P.cellsOf e:=by
     intro e' he';have:=hc3.2;rw[he'] at this;exact of_decide_eq_true this
    have h4:=a5w hr hes;simp only[a1t] at h4;obtain⟨A,c,hy,hcap,hrow⟩:=h4;have b1:=b6m h h1;have b2:=b6m h h2;cases mx with
    | none=>
     simp only at hu;injection hu with hu;subst hu;have hrr:=hrun _ (by rw[hy];exact b5k (a2z h3) hsz (c6v b1 b2 hc1 (Nat.le_trans hc2 hcap)));exact⟨(fun _ _ _ e=>by cases e),_,fun p=>d6d hcap hrow hc1 hc2 (Nat.le_trans hc2 hcap) hhd,hrr⟩
    | some m=>
     simp only at hu;obtain⟨m',h5,hu⟩:=bind_some hu;split at hu
     · rename_i hm;injection hu with hu;subst hu;obtain⟨hm1,rfl⟩:=hm;have b3:=b6m h h5;obtain⟨hi',rfl⟩:=Option.isSome_iff_exists.1 hm1;have b1':∃k,a.eval hi'=.int k (m':Int):=by
        rcases b1 with⟨h6,_⟩| ⟨k,h6⟩
        · cases h6
        · exact⟨k,by simpa using h6⟩
       have b3':∃k,a.eval m=.int k (m':Int):=by
        rcases b3 with⟨h6,_⟩| ⟨k,h6⟩
        · cases h6
        · exact⟨k,by simpa using h6⟩
       obtain⟨k1,hk1⟩:=b1';obtain⟨k2,hk2⟩:=b3';have hrr:=hrun _ (by
        rw[hy];simp only[Option.map_some,hk1,hk2];exact b5k (a2z h3) hsz (d9z b2 hc1 (Nat.le_trans hc2 hcap)))
       refine⟨(fun _ _ _ e=>by cases e),_,fun p=>?_,hrr⟩
       · refine⟨d6d hcap hrow hc1 hc2 (Nat.le_refl _) hhd,?_⟩;have hlen:((es.take m').drop ll).length=m' - ll:=by simp;omega
         exact⟨_,by rw[hlen]⟩
     · cases hu
  · cases hu
 cases v<;>simp only[b8c] at hF<;>first|exact sl _ rfl hF|(simp only[a5x,Option.bind_none] at hF;cases hF;done)|exact sl _ (d1w hF) hF|skip
 case str b=>
  obtain⟨hh,h1,hF⟩:=bind_some hF;obtain⟨ll,h2,hF⟩:=bind_some hF;split at hF
  · rename_i hc;injection hF with hF;subst hF;obtain⟨c1,c2,c3,c4⟩:=hc;have hmx:mx=none:=by cases mx<;>first|rfl|cases c1
    subst hmx;have hy:=b8u hr;have hb:=c6v (P:=E.P) (w:=w) (b:=false) (len:=b.length) (cap:=b.length) (b6m h h1) (b6m h h2) c3 c4;have hx:(ByteArray.mk b.toArray).extract ll hh=⟨((b.take hh).drop ll).toArray⟩:=by
     apply ByteArray.ext;simp only[ByteArray.data_extract,List.extract_toArray,List.extract_eq_take_drop];rw[List.drop_take]
    have hrr:=hrun (.string ⟨((b.take hh).drop ll).toArray⟩) (by
     rw[hy];simp only[Option.map_none] at hb⊢;simp[Instr.sliceAt,a0e (a7d c2),Instr.slice,d3c,hb,hx])
    exact⟨(fun _ _ _ e=>by cases e),_,fun p=>rfl,hrr⟩
  · cases hF
end
end Go.Av
namespace Go.Av
section
variable{E:Env}{w0:World}{V0:Vis}{T0:Tch}{Q Q':Nat→Prop}{s:St}{a:Act}{w:World}{V:Vis}{μ:a5m}{γ:a7a}
theorem e1z{P:Program}{T:TypeId}{t:Bool}(h:b2v P T=some t):(isAgg T).run P w=.ok t w∧∃i,P.info? T=some i∧i.size=P.cellsOf T:=by
 unfold b2v at h;have hi:∀d,P.underlying T=some d→∃i,P.info? T=some i∧i.size=P.cellsOf T:=by
  intro d hd;unfold Program.underlying at hd;unfold Program.cellsOf;cases hx:P.info? T with
  | none=>rw[hx] at hd;cases hd
  | some i=>exact⟨i,rfl,rfl⟩
 split at h
 · rename_i fs hu;injection h with h;subst h;exact⟨by simp[isAgg,a0e hu],hi _ hu⟩
 · rename_i n e hu;injection h with h;subst h;exact⟨by simp[isAgg,a0e hu],hi _ hu⟩
 · rename_i d h1 h2 hu;injection h with h;subst h;refine⟨?_,hi _ hu⟩;cases d<;>first|exact absurd rfl (h1 _)|exact absurd rfl (h2 _ _)|simp[isAgg,a0e hu]
 · cases h
theorem a8s{P:Program}{T:TypeId}(h:∃i,P.info? T=some i∧i.size=P.cellsOf T):(Go.sizeOf T).run P w=.ok (P.cellsOf T) w:=by
 obtain⟨i,h1,h2⟩:=h;simp[Go.sizeOf,typeInfo,h1,h2]
theorem a5t{g:Nat}{cur:Array Value}{T:TypeId}(h:w.heap[g]? =some (.cells cur T (0,0)))(i:Nat):w.cell? ⟨g,i,none⟩=cur[i]? :=by
 simp[World.cell?,h]
theorem f1a{g:Nat}{cur:Array Value}{T:TypeId}(h:w.heap[g]? =some (.cells cur T (0,0)))(i:Nat):w.frozen? ⟨g,i,none⟩=false:=by
 simp[World.frozen?,h]
theorem b2m.strip1{p:Place}{c:AVal}{x:Value}(h:b2m E.P w V μ γ p c x):a3k w V μ (Av.strip1 c) x:=by
 cases c with
 | own T n es=>exact a3k.ownS h.1.read
 | dead T n es=>exact h.1
 | mview _ _=>exact absurd h (by simp[b2m,a3k,a1t])
 | full es=>exact absurd h (by simp[b2m,a3k,a1t])
 | view _ _ _ _=>exact absurd h (by simp[b2m,a3k,a1t])
 | _=>exact h
theorem c1j{g:Nat}:∀ {cs:List AVal} {o:Nat},a3b w V g o cs→∃xs:List Value,xs.length=cs.length∧(∀j x,xs[j]? =some x→w.cell? ⟨g,o+j,none⟩=some x)∧a3r (a1t w V) cs xs
 | [],_,_=>⟨[],rfl,by simp,trivial⟩
 | c::cs,o,h=>by
  simp only[a3b] at h;obtain⟨⟨_,x,hx,hr⟩,h2⟩:=h;obtain⟨xs,h3,h4,h5⟩:=c1j h2;refine⟨x::xs,by simp[h3],fun j y hy=>?_,hr,h5⟩;cases j with
  | zero=>simp at hy;subst hy;exact hx
  | succ j=>
   have:=h4 j y (by simpa using hy);rw[show o+(j+1)=o+1+j by omega];exact this
theorem a1t.rep1{c:AVal}{x:Value}(h:a1t w V c x):a3k w V μ c x:=by
 cases c<;>first|exact h|exact absurd h (by simp[a1t])
theorem b5m{P:Program}{T:TypeId}{g o:Nat}{xs:List Value}(ht:b2v P T=some true)(hl:xs.length=P.cellsOf T)(hx:∀j x,xs[j]? =some x→w.cell? ⟨g,o+j,none⟩=some x):
 (loadVar T ⟨g,o,none⟩).run P w=.ok (.agg xs.toArray) w:=by
 obtain⟨h1,h2⟩:=e1z (w:=w) ht;have:=run_loadCells_list (P:=P) w ⟨g,o,none⟩ xs (fun j v hv=>by rw[a6i];exact hx j v hv);simp[loadVar,h1,a8s h2,←hl,this]
theorem b5l{P:Program}{T:TypeId}{ad:Addr}{x:Value}(ht:b2v P T=some false)(hx:w.cell? ad=some x):(loadVar T ad).run P w=.ok x w:=by
 obtain⟨h1,h2⟩:=e1z (w:=w) ht;simp[loadVar,h1,hx]
theorem e4i(h:SRel E.P Q s a w V μ γ){T:TypeId}{v u:AVal}{y:Value}(hr:b2q w V μ v y)(hF:a8o E s T v=some u):
 (∀T n es,u≠ .own T n es)∧∃z,(∀p,c1p E.P w V μ γ p u z)∧(Instr.loadAt T y).run E.P w=.ok z w:=by
 cases v<;>simp only[a8o] at hF<;>(try cases hF)
 case ptr b off=>
  obtain⟨cs,h1,hF⟩:=bind_some hF;obtain⟨t,h2,hF⟩:=bind_some hF;obtain⟨g,hg,hy⟩:=hr;obtain⟨g',U,cur,hg',hheap,hsz,hcells⟩:=h.bx b cs h1;have:g'=g:=by rw[hg] at hg';injection hg' with hg';exact hg'.symm
  subst this;split at hF
  · rename_i hlt;rw[a6e hlt] at hy;cases t with
    | true=>
     simp only[if_true] at hF;split at hF
     · rename_i hle;injection hF with hF;subst hF;have hxs:a3r (a3k w V μ) (((cs.drop off).take (a1d E.P T)).map Av.strip1) ((cur.toList.drop off).take (a1d E.P T)):=by
        have ecl:((cur.toList.take cs.length).drop off).take (a1d E.P T)=(cur.toList.drop off).take (a1d E.P T):=by
         rw[List.drop_take,List.take_take,Nat.min_eq_left (by omega)]
        rw[←ecl];refine a3r.map_left (R:=fun c x=>a3k w V μ (Av.strip1 c) x) (fun _ _ h=>h) (a3r.take _ (a3r.drop _ ?_));refine a3r.of_get (by simp;omega) fun i c hc=>?_;obtain⟨x,hx,hrx⟩:=hcells i c hc;exact⟨x,by rw[List.getElem?_take,if_pos (List.getElem?_eq_some_iff.1 hc).1];simpa using hx,hrx.strip1⟩
       refine⟨(fun _ _ _ e=>by cases e),.agg ((cur.toList.drop off).take (a1d E.P T)).toArray,(fun p=>⟨_,rfl,by simpa using hxs⟩),?_⟩;rw[hy];simp only[Instr.loadAt,Instr.sureAddr,Sem.run_bind,Sem.run_pure,Result.andThen_ok];refine b5m h2 ?_ fun j x hx=>?_
       · have:cs.length≤cur.toList.length:=by simpa using hsz
         simp only[List.length_take,List.length_drop];unfold a1d at hle⊢;omega
       · rw[a5t hheap];rw[List.getElem?_take] at hx;split at hx
         · rw[List.getElem?_drop] at hx;simpa using hx
         · cases hx
     · cases hF
    | false=>
     simp only[Bool.false_eq_true,if_false] at hF;obtain⟨c,hc,hF⟩:=map_some hF;obtain⟨x,hx,hrx⟩:=hcells off c hc;have hrun:(Instr.loadAt T y).run E.P w=.ok x w:=by
      rw[hy];simp only[Instr.loadAt,Instr.sureAddr,Sem.run_bind,Sem.run_pure,Result.andThen_ok];exact b5l h2 (by rw[a5t hheap];exact hx)
     subst hF;have own:∀T' n es,b2m E.P w V μ γ (.cell b off) (.own T' n es) x→(∀T m fs,a9q b off (.own T' n es)≠ .own T m fs)∧∃z,(∀p,c1p E.P w V μ γ p (a9q b off (.own T' n es)) z)∧(Instr.loadAt T y).run E.P w=.ok z w:=by
      intro T' n es hrx;simp only[a9q]
      by_cases hT:T'=a3i
      · subst hT;rw[if_pos rfl]
        by_cases hl:(isL es).isSome=true
        · rw[if_pos hl];exact⟨(fun _ _ _ e=>by cases e),x,(fun p=>hrx.1.opq),hrun⟩
        · rw[if_neg hl];obtain⟨_,g,_,_,hg,_⟩:=hrx.1.map (by simpa using hl);have e0:off≠a3i:=by rw[a9a] at hlt;unfold a3i;omega
          have e1:a7n (.cell b off)=none:=by cases b<;>simp[a7n,e0]
          have e2:e6p (.cell b off)=.cell b off:=by unfold e6p;rw[e1]
          exact⟨(fun _ _ _ e=>by cases e),x,(fun p=>⟨by rw[e2];exact hrx.2,fun _=>⟨g,hg⟩,hrx.1.opq⟩),hrun⟩
      · rw[if_neg hT];exact⟨(fun _ _ _ e=>by cases e),x,(fun p=>⟨hrx.1.slice hT,hrx.2⟩),hrun⟩
     cases c<;>simp only[a9q]
     case own=>exact own _ _ _ hrx
     case mview _ _=>exact absurd hrx (by simp[b2m,a3k,a1t])
     case dead T' n es=>exact⟨(fun _ _ _ e=>by cases e),x,(fun p=>⟨hrx.1,hrx.2⟩),hrun⟩
     case full es=>exact absurd hrx (by simp[b2m,a3k,a1t])
     case view _ _ _ _=>exact absurd hrx (by simp[b2m,a3k,a1t])
     case agg _=>exact absurd hrx (by simp[b2m,a3k,a1t])
     case tup _=>exact absurd hrx (by simp[b2m,a3k,a1t])
     all_goals exact⟨(fun _ _ _ e=>by cases e),x,(fun p=>hrx),hrun⟩
  · cases hF
 case pel e off=>
  obtain⟨t,h2,hF⟩:=bind_some hF;obtain⟨g,o,hy,hc⟩:=hr;cases t with
  | true=>
   simp only[if_true] at hF;split at hF
   · rename_i hle;injection hF with hF;subst hF;obtain⟨xs,h3,h4,h5⟩:=c1j (d2f (n:=a1d E.P T) (c3f (n:=off) hc));refine⟨(fun _ _ _ e=>by cases e),.agg xs.toArray,(fun p=>⟨_,rfl,by simpa using h5.imp fun _ _=>a1t.rep1⟩),?_⟩;rw[hy];simp only[Instr.loadAt,Instr.sureAddr,Sem.run_bind,Sem.run_pure,Result.andThen_ok];refine b5m h2 ?_ h4;rw[h3];simp only[List.length_take,List.length_drop];unfold a1d at hle⊢;omega
   · cases hF
  | false=>
   simp only[Bool.false_eq_true,if_false] at hF;obtain⟨xs,h3,h4,h5⟩:=c1j (c3f (n:=off) hc);obtain⟨u,hu,rfl⟩:=map_some hF;have h6:(e.drop off)[0]? =some u:=by simpa using hu
   obtain⟨x,h7,h8⟩:=h5.get h6;have hnv:d0w u=u:=by cases u<;>first|rfl|exact absurd h8 (by simp[a1t])
   rw[hnv];refine⟨(fun _ _ _ e=>by subst e;simp[a1t] at h8),x,(fun p=>?_),?_⟩
   · cases u<;>first|exact h8|exact absurd h8 (by simp[a1t])
   · rw[hy];simp only[Instr.loadAt,Instr.sureAddr,Sem.run_bind,Sem.run_pure,Result.andThen_ok];exact b5l h2 (h4 0 x h7)
theorem g2f(hd:a.defers=[])(h:SRel E.P Q s a w V μ γ)(hf:Fr w0 V0 T0 w V)(hl:Loc w0 T0 s μ γ)(hQ:QLe Q Q'){o:Oper}(hdst:∀k,o.dst=some k→k<a.tmps.size)
 {T:TypeId} {x:Operand} (ho:o.op=.load T x) {s':St} (hs:((rd s x).bind fun p=>(a8o E s T p).map (s.putD o.dst))=some s') {X:Exit→Act→World→Prop}:
 o.wp E.P a w (Sim E.P w0 V0 T0 Q' s') X:=by
 obtain⟨v,h1,hs⟩:=bind_some hs;obtain⟨u,h2,rfl⟩:=map_some hs;obtain⟨h3,z,h4,h5⟩:=e4i h (h.rd h1) h2;exact a9s (by simp[execOp,ho,h5]) (c4w hd h hf hl hQ hdst h3 fun k _=>h4 _)
theorem f2w(hd:a.defers=[])(h:SRel E.P Q s a w V μ γ)(hf:Fr w0 V0 T0 w V)(hl:Loc w0 T0 s μ γ)(hQ:QLe Q Q'){o:Oper}(hdst:∀k,o.dst=some k→k<a.tmps.size)
 {T:TypeId} {x:Operand} {lo hi mx:Option Operand} (ho:o.op=.slice T x lo hi mx) {s':St} (hs:((rd s x).bind fun v=>(b8c E s T v lo hi mx).map (s.putD o.dst))=some s') {X:Exit→Act→World→Prop}:
 o.wp E.P a w (Sim E.P w0 V0 T0 Q' s') X:=by
 obtain⟨v,h1,hs⟩:=bind_some hs;obtain⟨u,h2,rfl⟩:=map_some hs;obtain⟨h3,z,h4,h5⟩:=f0x h ho v u _ (h.rd h1) rfl h2;exact a9s h5 (c4w hd h hf hl hQ hdst h3 fun k _=>h4 _)
end
end Go.Av
namespace Go.Av
section
variable{P:Program}{Q Q':Nat→Prop}{s:St}{a:Act}{w w':World}{V V':Vis}{μ μ':a5m}{γ γ':a7a}
theorem g0j{s:St}{k:Nat}{cs:List AVal}{b:BName}:({s with lb:=a7v s.lb k cs}:St).box b=if b=.loc k then some cs else s.box b:=by
 cases b with
 | par n=>simp[St.box]
 | loc j=>
  simp only[St.box,a1r,BName.loc.injEq]
  by_cases h:k=j
  · simp[h]
  · simp[h,Ne.symm h]
theorem h3v{s:St}{k:Nat}{cs:List AVal}{p:Place}:({s with lb:=a7v s.lb k cs}:St).at p=(match p with
 | .cell (.loc j) off=>if j=k then cs[off]? else s.at p
 | _=>s.at p):=by
 cases p with
 | tmp j=>rfl
 | cell b off=>
  simp only[St.at,g0j];cases b with
  | par n=>simp
  | loc j=>
   by_cases h:j=k
   · simp[h]
   · simp[h]
theorem SRel.addBox(h:SRel P Q s a w V μ γ){k g:Nat}{cs:List AVal}{cur:Array Value}{T:TypeId}(hk:a0i s.lb k=none)(hm:μ'=fun b=>if b=.loc k then some g else μ b)(hg:GLe γ γ')
 (hq:∀p n,γ' p n≠none→Q' n) (hheap:w.heap[g]? =some (.cells cur T (0,0))) (hfree:∀b,μ b≠some g) (hV:∀o,¬V g o)
 (hown:∀p T n es x,s.at p=some (.own T n es)→γ p n=some x→ownBlock x≠some g) (hsz:cs.length≤cur.size)
 (hc:∀i c,cs[i]? =some c→∃x,cur[i]? =some x∧b2m P w V μ' γ' (.cell (.loc k) i) c x)
 (hnil:∀i T n es x,cs[i]? =some (.own T n es)→γ' (.cell (.loc k) i) n=some x→ownBlock x=none):
 SRel P Q' {s with lb:=a7v s.lb k cs} a w V μ' γ':=by
 have hnone:μ (.loc k)=none:=by
  cases hx:μ (.loc k) with
  | none=>rfl
  | some g'=>
   obtain⟨cs',h1⟩:=h.dom _ _ hx;simp only[St.box] at h1;rw[hk] at h1;cases h1
 have hle:BLe μ μ':=by
  intro b g' hb;rw[hm];have:b≠ .loc k:=by rintro rfl;rw[hnone] at hb;cases hb
  simp[this,hb]
 have key:∀(p:Place) T n es y,({s with lb:=a7v s.lb k cs}:St).at p=some (.own T n es)→γ' p n=some y→(ownBlock y=none)∨(s.at p=some (.own T n es)∧γ p n=some y):=by
  intro p T n es y hp hy;rw[h3v] at hp;have old:s.at p=some (.own T n es)→s.at p=some (.own T n es)∧γ p n=some y:=by
   intro hp;obtain⟨z,hz,_⟩:=h.conc_own hp;have:=hg _ _ _ hz;rw[this] at hy;injection hy with hy;subst hy;exact⟨hp,hz⟩
  cases p with
  | tmp j=>exact .inr (old hp)
  | cell b off=>
   cases b with
   | par m=>exact .inr (old hp)
   | loc j=>
    simp only at hp
    by_cases hj:j=k
    · subst hj;simp only[if_true] at hp;exact .inl (hnil off T n es y hp hy)
    · simp only[hj,if_false] at hp;exact .inr (old hp)
 constructor
 · intro j v hv;obtain⟨x,h1,h2⟩:=h.tm j v hv;exact⟨x,h1,h2.keep (a3x.refl _ _) hle hg fun _ _ _ _ _ _=>rfl⟩
 · intro b cs' hb;rw[g0j] at hb
   by_cases hbk:b=.loc k
   · subst hbk;simp only[if_true] at hb;injection hb with hb;subst hb;exact⟨g,T,cur,by rw[hm];simp,hheap,hsz,hc⟩
   · simp only[hbk,if_false] at hb;obtain⟨g',T',cur',h1,h2,h3,h4⟩:=h.bx b cs' hb;refine⟨g',T',cur',hle _ _ h1,h2,h3,fun i c hi=>?_⟩;obtain⟨x,h5,h6⟩:=h4 i c hi;exact⟨x,h5,h6.keep (a3x.refl _ _) hle hg fun _ _ _ _ _ _=>rfl⟩
 · intro b g' hb;rw[hm] at hb;simp only[g0j]
   by_cases hbk:b=.loc k
   · simp[hbk]
   · simp only[hbk,if_false] at hb⊢;exact h.dom b g' hb
 · intro b b' g' hb hb';rw[hm] at hb hb'
   by_cases hbk:b=.loc k<;>by_cases hbk':b'=.loc k
   · rw[hbk,hbk']
   · simp only[hbk,if_true] at hb;simp only[hbk',if_false] at hb';injection hb with hb;subst hb;exact absurd hb' (hfree _)
   · simp only[hbk,if_false] at hb;simp only[hbk',if_true] at hb';injection hb' with hb';subst hb';exact absurd hb (hfree _)
   · simp only[hbk,if_false] at hb;simp only[hbk',if_false] at hb';exact h.inj b b' g' hb hb'
 · intro b g' hb o hv;rw[hm] at hb
   by_cases hbk:b=.loc k
   · simp only[hbk,if_true] at hb;injection hb with hb;subst hb;exact hV o hv
   · simp only[hbk,if_false] at hb;exact h.visb b g' hb o hv
 · exact h.vis
 · intro p T' n es x g' hp hx hg';rcases key p T' n es x hp hx with h1| ⟨h1,h2⟩
   · rw[h1] at hg';cases hg'
   · refine⟨fun b hb=>?_,(h.ow p T' n es x g' h1 h2 hg').2⟩;rw[hm] at hb
     by_cases hbk:b=.loc k
     · simp only[hbk,if_true] at hb;injection hb with hb;subst hb;exact hown p T' n es x h1 h2 hg'
     · simp only[hbk,if_false] at hb;exact (h.ow p T' n es x g' h1 h2 hg').1 b hb
 · intro p p' T' n es T'' n' es' x x' g' hp hp' hx hx' hg' hg'';rcases key p T' n es x hp hx with h1| ⟨h1,h2⟩
   · rw[h1] at hg';cases hg'
   · rcases key p' T'' n' es' x' hp' hx' with h3| ⟨h3,h4⟩
     · rw[h3] at hg'';cases hg''
     · exact h.ow2 p p' T' n es T'' n' es' x x' g' h1 h3 h2 h4 hg' hg''
 · exact hq
end
section
variable{E:Env}{w0:World}{V0:Vis}{T0:Tch}{Q Q':Nat→Prop}{s:St}{a:Act}{w w':World}{V V':Vis}{μ μ':a5m}{γ γ':a7a}
theorem a6p{o:Obj}{g:Nat}(h:g<w.heap.size):(w.alloc o).heap[g]? =w.heap[g]? :=Go.RowKit.Below.heap_alloc w o g h
theorem a5z{o:Obj}:(w.alloc o).heap[w.heap.size]? =some o:=by show (w.heap.push o)[w.heap.size]? =_;simp
theorem a7i{o:Obj}(hv:∀g o,V g o→g<w.heap.size):a3x w V (w.alloc o) V:=fun g p hg=>⟨hg,.of (a6p (hv g p hg))⟩
theorem b2a(h:SRel E.P Q s a w V μ γ){p:Place}{T n es x g}(hp:s.at p=some (.own T n es))(hx:γ p n=some x)(hg:ownBlock x=some g):g<w.heap.size:=by
 obtain⟨y,hy,ho⟩:=h.conc_own hp;rw[hy] at hx;injection hx with hx;subst hx
 by_cases hT:T=a3i
 · subst hT;rcases ho.toM with⟨_,g',e,c,rfl,hh,_⟩| ⟨_,U,m,fs,g',c,cur,_,_,rfl,_,hh,_⟩
   · simp only[ownBlock] at hg;injection hg with hg;subst hg;exact (Array.getElem?_eq_some_iff.1 hh).1
   · simp only[ownBlock] at hg;injection hg with hg;subst hg;exact (Array.getElem?_eq_some_iff.1 hh).1
 rcases ho.toS hT with⟨_,rfl⟩| ⟨g',c,cur,rfl,_,hh,_⟩
 · cases hg
 · simp only[ownBlock] at hg;injection hg with hg;subst hg;exact (Array.getElem?_eq_some_iff.1 hh).1
theorem b2g(h:SRel E.P Q s a w V μ γ){b:BName}{g:Nat}(hb:μ b=some g):g<w.heap.size:=by
 obtain⟨cs,hcs⟩:=h.dom b g hb;obtain⟨g',T,cur,h1,h2,_⟩:=h.bx b cs hcs;rw[hb] at h1;injection h1 with h1;subst h1;exact (Array.getElem?_eq_some_iff.1 h2).1
theorem SRel.alloc(h:SRel E.P Q s a w V μ γ)(o:Obj):SRel E.P Q s a (w.alloc o) V μ γ:=
 h.world (a7i h.vis) (fun _ _ hb=>a6p (b2g h hb)) (fun _ _ _ _ _ _ hp hx hg=>a6p (b2a h hp hx hg)) (fun _ _ hv=>.inl hv)
  (fun g o hv=>by have:=h.vis g o hv;simp;omega)
theorem Fr.alloc(h:Fr w0 V0 T0 w V)(hv:∀g o,V g o→g<w.heap.size)(o:Obj):Fr w0 V0 T0 (w.alloc o) V where
 os:=h.os
 tape:=h.tape
 output:=h.output
 size:=by have:=h.size;simp;omega
 keep g hg ht:=(a6p (by have:=h.size;omega)).trans (h.keep g hg ht)
 vkeep:=h.vkeep.trans (a7i hv)
 vnew:=h.vnew
 sl:=h.sl
theorem b8r{n:Nat}{cs:List AVal}{xs:List Value}(h:a3r (a3k w V μ) cs xs)(hle:BLe μ μ'){k:Nat}
 (hγ:∀i x,xs[i]? =some x→γ' (.cell (.loc k) i) n=some x) (i:Nat) (c:AVal) (hc:(cs.map (a4g n))[i]? =some c):
 ∃x,xs[i]? =some x∧b2m E.P w V μ' γ' (.cell (.loc k) i) c x:=by
 rw[List.getElem?_map] at hc;obtain⟨c0,h1,rfl⟩:=map_some hc;obtain⟨x,h2,h3⟩:=h.get h1;refine⟨x,h2,?_⟩;have h4:a3k w V μ' c0 x:=h3.keep (a3x.refl _ _) hle;cases c0 with
 | own T m es=>
  obtain⟨hT,rfl,rfl⟩:=h3;exact⟨.nil hT,hγ i _ h2⟩
 | mview _ _=>exact absurd h3 (by simp[a3k,a1t])
 | full es=>exact absurd h3 (by simp[a3k,a1t])
 | view _ _ _ _=>exact absurd h3 (by simp[a3k,a1t])
 | dead _ _ _=>exact absurd h3 (by simp[a3k,a1t])
 | _=>exact h4
theorem a7r{n:Nat}{cs:List AVal}{i:Nat}{T m es}(hc:(cs.map (a4g n))[i]? =some (.own T m es)):m=n∧∃m',cs[i]? =some (.own T m' es):=by
 rw[List.getElem?_map] at hc;obtain⟨c0,h1,h2⟩:=map_some hc;cases c0<;>simp only[a4g,Av.strip1] at h2<;>(try cases h2)
 exact⟨rfl,_,h1⟩
theorem b7k(h:SRel E.P Q s a w V μ γ){n:Nat}(hn:¬Q n)(p:Place):γ p n=none:=by
 cases hp:γ p n with
 | none=>rfl
 | some y=>exact absurd (h.gq p n (by simp[hp])) hn
theorem f2x(hd:a.defers=[])(h:SRel E.P Q s a w V μ γ)(hf:Fr w0 V0 T0 w V)(hl:Loc w0 T0 s μ γ)(hQ:QLe Q Q'){n:Nat}(hn:¬Q n)(hn':Q' n){o:Oper}(hdst:∀k,o.dst=some k→k<a.tmps.size)
 {T:TypeId} {cs:List AVal} {cells:Array Value} (hc:a3r (a3k w V μ) cs cells.toList) {s':St} (hs:d4c s n o.dst cs=some s')
 (hrun:(execOp a.eval o).run E.P w=.ok (.value (.pointer (some ⟨w.heap.size,0,none⟩))) (w.alloc (.cells cells T))) {X:Exit→Act→World→Prop}:
 o.wp E.P a w (Sim E.P w0 V0 T0 Q' s') X:=by
 refine a9s hrun ?_;unfold d4c at hs;split at hs
 · rename_i k hk;rw[hk];split at hs
   · rename_i hnone;injection hs with hs;subst hs;have h1:=h.alloc (.cells cells T)
     let μ':a5m:=fun b=>if b=.loc k then some w.heap.size else μ b
     let γ':a7a:=fun p m=>match p with
      | .cell (.loc j) i=>if j=k∧m=n then cells[i]? else γ p m
      | p=>γ p m
     have hg:GLe γ γ':=by
      intro p m x hx;have hne:m≠n:=by rintro rfl;rw[b7k h hn] at hx;cases hx
      cases p with
      | tmp j=>exact hx
      | cell b i=>cases b<;>simp[γ',hne,hx]
     have hq:∀p m,γ' p m≠none→Q' m:=by
      intro p m hm;cases p with
      | tmp j=>exact hQ m (h.gq _ m hm)
      | cell b i=>
       cases b with
       | par j=>exact hQ m (h.gq _ m hm)
       | loc j=>
        by_cases hj:j=k∧m=n
        · rw[hj.2];exact hn'
        · simp only[γ',hj,if_false] at hm;exact hQ m (h.gq _ m hm)
     have hle:BLe μ μ':=by
      intro b g hb;have:b≠ .loc k:=by
       rintro rfl;obtain⟨cs',h2⟩:=h.dom _ _ hb;simp only[St.box] at h2;rw[hnone] at h2;cases h2
      simp[μ',this,hb]
     have hγc:∀i x,cells.toList[i]? =some x→γ' (.cell (.loc k) i) n=some x:=fun i x hx=>by simpa [γ'] using hx
     have hc':a3r (a3k (w.alloc (.cells cells T)) V μ) cs cells.toList:=hc.imp fun _ _ h3=>h3.keep (a7i h.vis) (BLe.refl _);have h2:SRel E.P Q' {s with lb:=a7v s.lb k (cs.map (a4g n))} a (w.alloc (.cells cells T)) V μ' γ':=by
      refine h1.addBox (T:=T) (cur:=cells) (g:=w.heap.size) hnone rfl hg hq a5z (fun b hb=>?_) (fun o hv=>?_) (fun p T' m es x hp hx hgx=>?_) ?_ (fun i c hi=>?_) (fun i T' m es x hi hx=>?_)
      · have:=b2g h hb;omega
      · have:=h.vis _ _ hv;omega
      · have:=b2a h hp hx hgx;omega
      · have:=hc.length;simp at this⊢;omega
      · have:=b8r (E:=E) hc' hle hγc i c hi;simpa using this
      · obtain⟨rfl,m',h3⟩:=a7r hi;obtain⟨y,h4,h5⟩:=hc.get h3;have h6:=hγc i y h4;rw[h6] at hx;injection hx with hx;subst hx;rw[h5.2.2];rfl
     refine⟨hd,V,μ',γ',?_,hf.alloc h.vis _,?_⟩
     · exact h2.put (hdst k hk) (GLe.refl _) h2.gq ⟨w.heap.size,by simp[μ'],c6x _⟩ (fun T' m es g e=>by cases e)
     · constructor
       · intro b g hb
         by_cases hbk:b=.loc k
         · simp only[μ',hbk,if_true] at hb;injection hb with hb;subst hb;exact .inr hf.size
         · simp only[μ',hbk,if_false] at hb;exact hl.box b g hb
       · intro i;have:BName.par i≠ .loc k:=by intro e;cases e
         simp only[μ',this,if_false];exact hl.par i
       · intro p T' m es x g hp hx hgx;rw[b3g] at hp
         by_cases hpk:p=.tmp k
         · simp[hpk] at hp
         · simp only[hpk,if_false] at hp;rw[h3v] at hp;have old:s.at p=some (.own T' m es)→T0 g∨w0.heap.size≤g:=by
            intro hp;obtain⟨z,hz,_⟩:=h.conc_own hp;have:=hg _ _ _ hz;rw[this] at hx;injection hx with hx;subst hx;exact hl.own p T' m es _ g hp hz hgx
           cases p with
           | tmp j=>exact old hp
           | cell b off=>
            cases b with
            | par j=>exact old hp
            | loc j=>
             simp only at hp
             by_cases hj:j=k
             · subst hj;simp only[if_true] at hp;obtain⟨rfl,m',h3⟩:=a7r hp;obtain⟨y,h4,h5⟩:=hc.get h3;have h6:=hγc off y h4;rw[h6] at hx;injection hx with hx;subst hx;rw[h5.2.2] at hgx;cases hgx
             · simp only[hj,if_false] at hp;exact old hp
   · cases hs
 · cases hs
theorem d5p{T:TypeId}{v:Value}{c:AVal}(h:d2k T v=some c):a3k w V μ c v:=by
 unfold d2k at h;split at h<;>first|(cases h;done)|(injection h with h;subst h;simp[a3k,a1t,i8d];done)|skip
 split at h
 · cases h
 · rename_i hT;injection h with h;subst h;exact⟨hT,rfl,rfl⟩
theorem c0s:∀ {vs:List Value} {ts:List TypeId} {cs:List AVal},a8h ts vs=some cs→a3r (a3k w V μ) cs vs
 | [],ts,cs,h=>by simp only[a8h] at h;injection h with h;subst h;trivial
 | v::vs,ts,cs,h=>by
  simp only[a8h] at h;obtain⟨c,h1,h⟩:=bind_some h;obtain⟨cs',h2,rfl⟩:=map_some h;exact⟨d5p h1,c0s h2⟩
theorem b9n{P:Program}{T:TypeId}{cs:List AVal}(h:a6u P T=some cs):∃z i,P.info? T=some i∧i.zero=some z∧a3r (a3k w V μ) cs z.cells.toList:=by
 unfold a6u at h;obtain⟨z,h1,h2⟩:=bind_some h;obtain⟨i,h3,h4⟩:=bind_some h1;exact⟨z,i,h3,h4,c0s h2⟩
theorem f3a(hd:a.defers=[])(h:SRel E.P Q s a w V μ γ)(hf:Fr w0 V0 T0 w V)(hl:Loc w0 T0 s μ γ)(hQ:QLe Q Q'){n:Nat}(hn:¬Q n)(hn':Q' n){o:Oper}(hdst:∀k,o.dst=some k→k<a.tmps.size)
 {T:TypeId} (ho:o.op=.alloc T) {s':St} (hs:((a6u E.P T).bind fun cs=>d4c s n o.dst cs)=some s') {X:Exit→Act→World→Prop}:o.wp E.P a w (Sim E.P w0 V0 T0 Q' s') X:=by
 obtain⟨cs,h1,hs⟩:=bind_some hs;obtain⟨z,i,h2,h3,h4⟩:=b9n (w:=w) (V:=V) (μ:=μ) h1;refine f2x (T:=T) hd h hf hl hQ hn hn' hdst h4 hs ?_;simp[execOp,ho,Instr.alloc,zeroValue,typeInfo,h2,h3,newVar,newRow]
theorem h8t(hd:a.defers=[])(h:SRel E.P Q s a w V μ γ)(hf:Fr w0 V0 T0 w V)(hl:Loc w0 T0 s μ γ)(hQ:QLe Q Q'){n:Nat}(hn:¬Q n)(hn':Q' n){o:Oper}(hdst:∀k,o.dst=some k→k<a.tmps.size)
 {T:TypeId} {x:Operand} (ho:o.op=.box T x) {s':St} (hs:((rd s x).bind fun v=>(c5s v).bind fun cs=>d4c s n o.dst cs)=some s') {X:Exit→Act→World→Prop}:o.wp E.P a w (Sim E.P w0 V0 T0 Q' s') X:=by
 obtain⟨v,h1,hs⟩:=bind_some hs;obtain⟨cs,h2,hs⟩:=bind_some hs;have hr:=h.rd h1;have hc:a3r (a3k w V μ) cs (a.eval x).cells.toList:=by
  generalize a.eval x=y at hr;cases v<;>simp only[c5s] at h2<;>(try cases h2)
  case agg=>obtain⟨z,rfl,hz⟩:=hr;exact hz
  case own=>
   split at h2
   · cases h2
   · rename_i hT;injection h2 with h2;subst h2;have:=hr.2 hT;simp only[a1t] at this;obtain⟨A,c,hy,hh⟩:=this;subst hy;exact⟨hr.2 hT,trivial⟩
  case pmap=>
   obtain⟨g,e,c,hy,hh⟩:=(show a1t w V (.pmap _) y from hr)
   subst hy;exact⟨hr,trivial⟩
  case nilm=>have:y=.map none:=hr;subst this;exact⟨hr,trivial⟩
  case dead=>
   have:=a5w hr rfl;simp only[a1t] at this;obtain⟨A,c,hy,hh⟩:=this;subst hy;exact⟨hr,trivial⟩
  case view=>
   have:=a5w hr rfl;simp only[a1t] at this;obtain⟨A,c,hy,hh⟩:=this;subst hy;exact⟨hr,trivial⟩
  case full=>
   have:=a5w hr rfl;simp only[a1t] at this;obtain⟨A,c,hy,hh⟩:=this;subst hy;exact⟨hr.1,trivial⟩
  case slice=>
   have:=a5w hr rfl;simp only[a1t] at this;obtain⟨A,c,hy,hh⟩:=this;subst hy;exact⟨hr,trivial⟩
  case int=>have:=b0g hr;subst this;exact⟨rfl,trivial⟩
  case bool=>have:=c5a hr;subst this;exact⟨rfl,trivial⟩
  case str=>have:=b8u hr;subst this;exact⟨rfl,trivial⟩
  case ptr=>obtain⟨g,hg,hp⟩:=hr;rw[hp.cells];exact⟨⟨g,hg,hp⟩,trivial⟩
  case pel=>obtain⟨g,o',rfl,hc⟩:=hr;exact⟨⟨g,o',rfl,hc⟩,trivial⟩
  case nilp=>have:y=.pointer none:=hr;subst this;exact⟨rfl,trivial⟩
  case func=>obtain⟨u,z,rfl,h3⟩:=hr;exact⟨⟨u,z,rfl,h3⟩,trivial⟩
  case nilf=>rcases (show i8d y from hr) with rfl|rfl| ⟨u,z,rfl⟩<;>exact⟨(by first|exact .inl rfl|exact .inr (.inl rfl)|exact .inr (.inr ⟨_,_,rfl⟩)),trivial⟩
 refine f2x (T:=T) hd h hf hl hQ hn hn' hdst hc hs ?_;simp[execOp,ho,Instr.box,newVar,newRow]
end
end Go.Av
namespace Go.Av
structure OnlyBlock (g:Nat) (w w':World):Prop where
 os:w'.os=w.os
 tape:w'.tape=w.tape
 output:w'.output=w.output
 size:w'.heap.size=w.heap.size
 other:∀k,k≠g→w'.heap[k]? =w.heap[k]?
theorem OnlyBlock.refl(g:Nat)(w:World):OnlyBlock g w w:=⟨rfl,rfl,rfl,rfl,fun _ _=>rfl⟩
theorem OnlyBlock.trans{g:Nat}{w w' w'':World}(h:OnlyBlock g w w')(k:OnlyBlock g w' w''):OnlyBlock g w w'':=
 ⟨k.os.trans h.os,k.tape.trans h.tape,k.output.trans h.output,k.size.trans h.size,fun i hi=>(k.other i hi).trans (h.other i hi)⟩
theorem a7s{P:Program}{g o:Nat}{T:TypeId}:∀(vs:List Value) (i:Nat) (w:World) (cur:Array Value),w.heap[g]? =some (.cells cur T (0,0))→(∀v∈vs,v.oneCell'=true)→
 o+i+vs.length≤cur.size→∃w' cur',(storeCells ⟨g,o,none⟩ vs i).run P w=.ok () w'∧OnlyBlock g w w'∧w'.heap[g]? =some (.cells cur' T (0,0))∧
  cur'.size=cur.size∧(∀j,cur'[j]? =if o+i≤j∧j<o+i+vs.length then vs[j - (o+i)]? else cur[j]?)
 | [],i,w,cur,hh,_,_=>⟨w,cur,by simp[storeCells],.refl _ _,hh,rfl,fun j=>by
  have:¬(o+i≤j∧j<o+i+0):=by omega
  simp only[List.length_nil,this,if_false]⟩
 | v::vs,i,w,cur,hh,h1,hsz=>by
  simp only[List.length_cons] at hsz;have hcell:w.cell? ⟨g,o+i,none⟩=some cur[o+i]:=by rw[a5t hh];exact Array.getElem?_eq_getElem (by omega)
  have hfr:=f1a hh (o+i)
  let w1:=w.setCell ⟨g,o+i,none⟩ v
  have hh1:w1.heap[g]? =some (.cells (cur.setIfInBounds (o+i) v) T (0,0)):=by
   simp only[w1,World.setCell];rw[Array.getElem?_modify];simp[hh]
  have hob:OnlyBlock g w w1:=⟨rfl,rfl,rfl,by simp[w1],fun k hk=>by
   simp only[w1,World.setCell,Array.getElem?_modify];rw[if_neg (Ne.symm hk)]⟩
  obtain⟨w',cur',h2,h3,h4,h5,h6⟩:=a7s (P:=P) (o:=o) vs (i+1) w1 (cur.setIfInBounds (o+i) v) hh1 (fun u hu=>h1 u (List.mem_cons_of_mem _ hu)) (by simp;omega);refine⟨w',cur',?_,hob.trans h3,h4,by rw[h5];simp,fun j=>?_⟩
  · simp only[storeCells,Sem.run_bind,a6i];rw[run_store P w _ v _ (h1 v (by simp)),hcell];simp only[hfr];exact h2
  · rw[h6 j]
    by_cases hj:j=o+i
    · subst hj;have e1:¬(o+(i+1)≤o+i∧o+i<o+(i+1)+vs.length):=by omega
      have e2:o+i≤o+i∧o+i<o+i+(vs.length+1):=by omega
      simp only[e1,if_false,List.length_cons,e2,and_self,if_true,Nat.sub_self,List.getElem?_cons_zero];rw[Array.getElem?_setIfInBounds_self_of_lt (by omega)]
    · rw[Array.getElem?_setIfInBounds_ne (Ne.symm hj)]
      by_cases hj2:o+(i+1)≤j∧j<o+(i+1)+vs.length
      · have e2:o+i≤j∧j<o+i+(vs.length+1):=by omega
        simp only[hj2,and_self,if_true,List.length_cons,e2];rw[show j - (o+i)=(j - (o+(i+1)))+1 by omega,List.getElem?_cons_succ]
      · have e2:¬(o+i≤j∧j<o+i+(vs.length+1)):=by omega
        simp only[hj2,if_false,List.length_cons,e2]
section
variable{P:Program}{Q Q':Nat→Prop}{s:St}{a:Act}{w w':World}{V V':Vis}{μ μ':a5m}{γ γ':a7a}
theorem a6s{s:St}{b:BName}{cs0 cs:List AVal}(h:s.box b=some cs0)(b':BName):(s.setBox b cs).box b'=if b'=b then some cs else s.box b':=by
 cases b with
 | par n=>
  cases b' with
  | par m=>
   simp only[St.setBox,St.box,BName.par.injEq] at h⊢
   by_cases hm:m=n
   · subst hm;have hlt:m<s.pb.length:=(List.getElem?_eq_some_iff.1 h).1;simp[hlt]
   · rw[List.getElem?_set_ne (Ne.symm hm)];simp[hm]
  | loc m=>simp[St.setBox,St.box]
 | loc n=>
  cases b' with
  | par m=>simp[St.setBox,St.box]
  | loc m=>
   simp only[St.setBox,St.box,a1r,BName.loc.injEq]
   by_cases hm:n=m
   · simp[hm]
   · simp[hm,Ne.symm hm]
theorem c1n{s:St}{b:BName}{cs0 cs:List AVal}(h:s.box b=some cs0)(p:Place):(s.setBox b cs).at p=(match p with
 | .cell b' off=>if b'=b then cs[off]? else s.at p
 | .tmp k=>a0i s.tm k):=by
 cases p with
 | tmp k=>cases b<;>rfl
 | cell b' off=>
  simp only[St.at,a6s h]
  by_cases hb:b'=b
  · simp[hb]
  · simp[hb]
theorem c6k{s:St}{b:BName}{cs:List AVal}:(s.setBox b cs).tm=s.tm:=by cases b<;>rfl
theorem c3v(h:SRel P Q s a w V μ γ){b:BName}{g:Nat}(hb:μ b=some g)(hw:OnlyBlock g w w'):a3x w V w' V:=by
 intro g' o hv;have:g'≠g:=by rintro rfl;exact h.visb b g' hb o hv
 exact⟨hv,.of (hw.other g' this)⟩
theorem SRel.setBox(h:SRel P Q s a w V μ γ){b:BName}{g:Nat}{cs0 cs:List AVal}{cur:Array Value}{T:TypeId}(hb:s.box b=some cs0)(hbg:μ b=some g)(hw:OnlyBlock g w w')
 (hheap:w'.heap[g]? =some (.cells cur T (0,0))) (hsz:cs.length≤cur.size) (hg:GLe γ γ') (hq:∀p n,γ' p n≠none→Q' n)
 (hc:∀i c,cs[i]? =some c→∃x,cur[i]? =some x∧b2m P w' V μ γ' (.cell b i) c x)
 (hown:∀i T n es x g',cs[i]? =some (.own T n es)→γ' (.cell b i) n=some x→ownBlock x=some g'→(∀b',μ b'≠some g')∧(∀o,V g' o→o<es.length*P.cellsOf T)∧
   (∀p' T' n' es' x',(∀j,p'≠ .cell b j)→s.at p'=some (.own T' n' es')→γ p' n'=some x'→ownBlock x'≠some g')∧
   (∀j T' n' es' x',j≠i→cs[j]? =some (.own T' n' es')→γ' (.cell b j) n'=some x'→ownBlock x'≠some g')):
 SRel P Q' (s.setBox b cs) a w' V μ γ':=by
 have hk:a3x w V w' V:=c3v h hbg hw;have hgo:∀p T n es x g',s.at p=some (.own T n es)→γ p n=some x→ownBlock x=some g'→w'.heap[g']? =w.heap[g']? :=by
  intro p T n es x g' hp hx hg';refine hw.other g' ?_;rintro rfl;exact (h.ow p T n es x g' hp hx hg').1 b hbg
 have key:∀(p:Place) T n es y,(s.setBox b cs).at p=some (.own T n es)→γ' p n=some y→(∃i,p=.cell b i∧cs[i]? =some (.own T n es))∨((∀j,p≠ .cell b j)∧s.at p=some (.own T n es)∧γ p n=some y):=by
  intro p T n es y hp hy;have old:s.at p=some (.own T n es)→s.at p=some (.own T n es)∧γ p n=some y:=by
   intro hp;obtain⟨z,hz,_⟩:=h.conc_own hp;have:=hg _ _ _ hz;rw[this] at hy;injection hy with hy;subst hy;exact⟨hp,hz⟩
  rw[c1n hb] at hp;cases p with
  | tmp k=>exact .inr ⟨by simp,old hp⟩
  | cell b' off=>
   simp only at hp
   by_cases hbb:b'=b
   · subst hbb;simp only[if_true] at hp;exact .inl ⟨off,rfl,hp⟩
   · simp only[hbb,if_false] at hp;exact .inr ⟨fun j e=>hbb (by injection e),old hp⟩
 constructor
 · intro k v hv;rw[c6k] at hv;obtain⟨x,h1,h2⟩:=h.tm k v hv;exact⟨x,h1,h2.keep hk (BLe.refl _) hg fun T n es g' e hg'=>by subst e;exact hgo (.tmp k) T n es x g' hv h2.2 hg'⟩
 · intro b' cs' hb';rw[a6s hb] at hb'
   by_cases hbb:b'=b
   · subst hbb;simp only[if_true] at hb';injection hb' with hb';subst hb';exact⟨g,T,cur,hbg,hheap,hsz,hc⟩
   · simp only[hbb,if_false] at hb';obtain⟨g',U,cur',h1,h2,h3,h4⟩:=h.bx b' cs' hb';have hne:g'≠g:=by rintro rfl;exact hbb (h.inj b' b g' h1 hbg)
     refine⟨g',U,cur',h1,(hw.other g' hne).trans h2,h3,fun i c hi=>?_⟩;obtain⟨x,h5,h6⟩:=h4 i c hi;exact⟨x,h5,h6.keep hk (BLe.refl _) hg fun T n es g'' e hg'=>by subst e;exact hgo (.cell b' i) T n es x g'' (by simp[St.at,hb',hi]) h6.2 hg'⟩
 · intro b' g' hb';rw[a6s hb]
   by_cases hbb:b'=b
   · simp[hbb]
   · simp only[hbb,if_false];exact h.dom b' g' hb'
 · exact h.inj
 · exact h.visb
 · intro g' o hv;rw[hw.size];exact h.vis g' o hv
 · intro p T' n es x g' hp hx hg';rcases key p T' n es x hp hx with⟨i,rfl,hi⟩| ⟨_,h1,h2⟩
   · exact⟨(hown i T' n es x g' hi hx hg').1,(hown i T' n es x g' hi hx hg').2.1⟩
   · exact h.ow p T' n es x g' h1 h2 hg'
 · intro p p' T1 n es T2 n' es' x x' g' hp hp' hx hx' hg' hg'';rcases key p T1 n es x hp hx with⟨i,rfl,hi⟩| ⟨hne,h1,h2⟩
   · rcases key p' T2 n' es' x' hp' hx' with⟨j,rfl,hj⟩| ⟨hne',h3,h4⟩
     · by_cases hij:j=i
       · rw[hij]
       · exact absurd hg'' ((hown i T1 n es x g' hi hx hg').2.2.2 j T2 n' es' x' hij hj hx')
     · exact absurd hg'' ((hown i T1 n es x g' hi hx hg').2.2.1 p' T2 n' es' x' hne' h3 h4)
   · rcases key p' T2 n' es' x' hp' hx' with⟨j,rfl,hj⟩| ⟨hne',h3,h4⟩
     · exact absurd hg' ((hown j T2 n' es' x' g' hj hx' hg'').2.2.1 p T1 n es x hne h1 h2)
     · exact h.ow2 p p' T1 n es T2 n' es' x x' g' h1 h3 h2 h4 hg' hg''
 · exact hq
theorem e5f{T:TypeId}{n:Nat}{es:List AVal}(T':TypeId)(n':Nat)(es':List AVal):b4t T n es≠ .own T' n' es':=by
 unfold b4t;split<;>simp
theorem f9t{p:Place}{T:TypeId}{n:Nat}{es:List AVal}{x:Value}(h:c1p P w V μ γ p (.own T n es) x):c1p P w V μ γ p (b4t T n es) x:=by
 unfold b4t;split
 · exact h.1.read.1 (by assumption)
 · exact⟨h.1.slice (by assumption),h.2⟩
theorem c5q{T:TypeId}{n:Nat}{es:List AVal}(h:T≠a3i):b4t T n es=.dead T n es:=if_neg h
theorem SRel.demote(h:SRel P Q s a w V μ γ){j:Nat}{T:TypeId}{n:Nat}{es:List AVal}(hj:a0i s.tm j=some (.own T n es)):SRel P Q (s.put j (b4t T n es)) a w V μ γ:=by
 obtain⟨x,h1,h2⟩:=h.tm j _ hj;have hlt:j<a.tmps.size:=(Array.getElem?_eq_some_iff.1 h1).1;have:=h.put (γ':=γ) (Q':=Q) hlt (v:=b4t T n es) (x:=x) (GLe.refl _) h.gq (f9t h2) (fun _ _ _ _ e=>absurd e (e5f _ _ _));have ha:a.put (some j) x=a:=by
  simp only[Act.put];have:a.tmps.setIfInBounds j x=a.tmps:=by
   apply Array.ext_getElem?;intro i
   by_cases hi:j=i
   · subst hi;rw[Array.getElem?_setIfInBounds_self_of_lt hlt];exact h1.symm
   · rw[Array.getElem?_setIfInBounds_ne hi]
  rw[this]
 rw[ha] at this;exact this
theorem d8n{j:Nat}{T:TypeId}{n:Nat}{es:List AVal}{p:Place}{T' n' es'}(h:(s.put j (b4t T n es)).at p=some (.own T' n' es')):p≠ .tmp j∧s.at p=some (.own T' n' es'):=by
 rw[b3g] at h
 by_cases hp:p=.tmp j
 · simp only[hp,if_true] at h;injection h with h;exact absurd h (e5f _ _ _)
 · simp only[hp,if_false] at h;exact⟨hp,h⟩
end
end Go.Av
namespace Go.Av
section
variable{E:Env}{w0:World}{V0:Vis}{T0:Tch}{Q Q':Nat→Prop}{s:St}{a:Act}{w w':World}{V V':Vis}{μ μ':a5m}{γ γ':a7a}
theorem a1t.one{c:AVal}{x:Value}(h:a1t w V c x):x.oneCell'=true:=by
 cases c<;>simp only[a1t] at h
 case slice es=>obtain⟨A,c,rfl,_⟩:=h;rfl
 case pmap es=>obtain⟨g,e,c,rfl,_⟩:=h;rfl
 all_goals first|(subst h;rfl)|exact h.elim
theorem a3k.one{c:AVal}{x:Value}(h:a3k w V μ c x):x.oneCell'=true:=by
 cases c
 case ptr=>obtain⟨g,_,hp⟩:=h;exact hp.one
 case func=>obtain⟨u,z,rfl,_⟩:=h;rfl
 case nilf=>rcases (show i8d x from h) with rfl|rfl| ⟨u,z,rfl⟩<;>rfl
 case own=>obtain⟨_,_,rfl⟩:=h;rfl
 case opaq=>rcases h with⟨_,rfl⟩| ⟨_,_,_,rfl⟩<;>rfl
 case pel=>obtain⟨g,o,rfl,_⟩:=h;rfl
 all_goals exact a1t.one h
theorem g0x:∀ {cs:List AVal} {xs:List Value},a3r (a3k w V μ) cs xs→∀v∈xs,v.oneCell'=true
 | [],[],_,_,h=>by cases h
 | _::_,x::xs,hr,v,h=>by
  rcases List.mem_cons.1 h with rfl|h
  · exact hr.1.one
  · exact g0x hr.2 v h
 | [],_::_,hr,_,_=>hr.elim
 | _::_,[],hr,_,_=>hr.elim
theorem d0e{cs xs:List AVal}{off:Nat}(h:off+xs.length≤cs.length)(i:Nat):(b5f cs off xs)[i]? =if off≤i∧i<off+xs.length then xs[i - off]? else cs[i]? :=by
 unfold b5f
 by_cases h1:i<off
 · rw[List.getElem?_append_left (by simp;omega),List.getElem?_take_of_lt h1];have:¬(off≤i∧i<off+xs.length):=by omega
   simp[this]
 · rw[List.getElem?_append_right (by simp;omega)];have e1:(cs.take off).length=off:=by simp;omega
   rw[e1]
   by_cases h2:i<off+xs.length
   · rw[List.getElem?_append_left (by omega)];have:off≤i∧i<off+xs.length:=by omega
     simp[this]
   · rw[List.getElem?_append_right (by omega),List.getElem?_drop];have:¬(off≤i∧i<off+xs.length):=by omega
     simp only[this,if_false]
     congr 1;omega
theorem b9w{cs xs:List AVal}{off:Nat}(h:off+xs.length≤cs.length):(b5f cs off xs).length=cs.length:=by
 unfold b5f;simp;omega
theorem b5j{P:Program}{T:TypeId}{g o:Nat}{v:Value}{U:TypeId}{cur:Array Value}(hh:w.heap[g]? =some (.cells cur U (0,0)))(hT:P.cellsOf T≠0)(hl:v.cells.size=P.cellsOf T)
 (h1:∀x∈v.cells.toList,x.oneCell'=true) (hsz:o+P.cellsOf T≤cur.size):∃w' cur',(storeVar T ⟨g,o,none⟩ v).run P w=.ok () w'∧OnlyBlock g w w'∧w'.heap[g]? =some (.cells cur' U (0,0))∧
   cur'.size=cur.size∧(∀j,cur'[j]? =if o≤j∧j<o+v.cells.toList.length then v.cells.toList[j - o]? else cur[j]?):=by
 obtain⟨w',cur',h2,h3,h4,h5,h6⟩:=a7s (P:=P) (o:=o) v.cells.toList 0 w cur hh h1 (by simp[hl];omega);refine⟨w',cur',?_,h3,h4,h5,fun j=>by simpa using h6 j⟩;simp[storeVar,a6d hT,hl,h2]
theorem Fr.only(h:Fr w0 V0 T0 w V){g:Nat}(hg:T0 g∨w0.heap.size≤g)(hw:OnlyBlock g w w')(hk:a3x w V w' V):Fr w0 V0 T0 w' V where
 os:=hw.os.trans h.os
 tape:=hw.tape.trans h.tape
 output:=hw.output.trans h.output
 size:=by rw[hw.size];exact h.size
 keep k hk' ht:=by
  have:k≠g:=by rintro rfl;rcases hg with h1|h1;exact ht h1;omega
  exact (hw.other k this).trans (h.keep k hk' ht)
 vkeep:=h.vkeep.trans hk
 vnew:=h.vnew
 sl:=h.sl
theorem b1g(hd:a.defers=[])(h:SRel E.P Q s a w V μ γ)(hf:Fr w0 V0 T0 w V)(hl:Loc w0 T0 s μ γ)(hQ:QLe Q Q'){n:Nat}(hn:¬Q n)(hn':Q' n){o:Oper}(hdst:o.dst=none)
 {b:BName} {off g:Nat} {cs cells:List AVal} {T:TypeId} {v:Value} (hb:s.box b=some cs) (hbg:μ b=some g) (hT:0<E.P.cellsOf T) (hlen:cells.length=E.P.cellsOf T) (hle:off+E.P.cellsOf T≤cs.length)
 (hc:∀γ'':a7a,GLe γ γ''→∀i c,cells[i]? =some c→∃x,v.cells.toList[i]? =some x∧x.oneCell'=true∧(γ'' (.cell b (off+i)) n=some x→b2m E.P w V μ γ'' (.cell b (off+i)) c x)) (hvl:v.cells.toList.length=cells.length)
 (hst:∀(i:Nat) (U:TypeId) (m:Nat) (es:List AVal),cells[i]? =some (AVal.own U m es)→m=n)
 (hin:∀(i:Nat) (U:TypeId) (m:Nat) (es:List AVal) (x:Value) (g':Nat),cells[i]? =some (AVal.own U m es)→v.cells.toList[i]? =some x→ownBlock x=some g'→(∀b,μ b≠some g')∧(∀o,V g' o→o<es.length*E.P.cellsOf U)∧
   (∀p' T' n' es' x',s.at p'=some (.own T' n' es')→γ p' n'=some x'→ownBlock x'≠some g')∧(T0 g'∨w0.heap.size≤g')∧cells.length=1)
 (hrun:∀w',(storeVar T ⟨g,off,none⟩ v).run E.P w=.ok () w'→(execOp a.eval o).run E.P w=.ok .skip w') {X:Exit→Act→World→Prop}:
 o.wp E.P a w (Sim E.P w0 V0 T0 Q' (s.setBox b (b5f cs off cells))) X:=by
 obtain⟨g',U,cur,hbg',hheap,hsz,hcells⟩:=h.bx b cs hb;have:g'=g:=by rw[hbg] at hbg';injection hbg' with e;exact e.symm
 subst this;have hone:∀x∈v.cells.toList,x.oneCell'=true:=by
  intro x hx;obtain⟨i,hi⟩:=List.mem_iff_getElem?.1 hx;have hlt:i<cells.length:=by rw[←hvl];exact (List.getElem?_eq_some_iff.1 hi).1
  obtain⟨y,h1,h2,_⟩:=hc γ (GLe.refl _) i cells[i] (List.getElem?_eq_getElem hlt);rw[hi] at h1;injection h1 with h1;subst h1;exact h2
 have hlen':v.cells.size=E.P.cellsOf T:=by have:=hvl.trans hlen;simpa using this
 obtain⟨w',cur',hr,hob,hheap',hsz',hcur'⟩:=b5j (P:=E.P) (T:=T) (o:=off) (v:=v) hheap (by omega) hlen' hone (by omega);refine c9y (hrun w' hr) ?_;have hput:a.put o.dst undef=a:=by rw[hdst];rfl
 rw[hput]
 let γ':a7a:=fun p m=>match p with
  | .cell b' i=>if b'=b∧m=n then cur'[i]? else γ p m
  | p=>γ p m
 have hg:GLe γ γ':=by
  intro p m x hx;have hne:m≠n:=by rintro rfl;rw[b7k h hn] at hx;cases hx
  cases p with
  | tmp j=>exact hx
  | cell b' i=>simp[γ',hne,hx]
 have hq:∀p m,γ' p m≠none→Q' m:=by
  intro p m hm;cases p with
  | tmp j=>exact hQ m (h.gq _ m hm)
  | cell b' i=>
   by_cases hj:b'=b∧m=n
   · rw[hj.2];exact hn'
   · simp only[γ',hj,if_false] at hm;exact hQ m (h.gq _ m hm)
 have hkeep:=c3v h hbg hob;have hspl:=d0e (cs:=cs) (xs:=cells) (off:=off) (by rw[hlen];exact hle);have hvc:∀i x,v.cells.toList[i]? =some x→cur'[off+i]? =some x:=by
  intro i x hx;have hlt:i<v.cells.toList.length:=(List.getElem?_eq_some_iff.1 hx).1;rw[hcur'];have:off≤off+i∧off+i<off+v.cells.toList.length:=by omega
  simp only[this,and_self,if_true,Nat.add_sub_cancel_left];exact hx
 have hinr:∀i c,(b5f cs off cells)[i]? =some c→(∃j,i=off+j∧cells[j]? =some c)∨(¬(off≤i∧i<off+v.cells.toList.length)∧cs[i]? =some c):=by
  intro i c hi;rw[hspl] at hi
  by_cases hin':off≤i∧i<off+cells.length
  · simp only[hin',and_self,if_true] at hi;exact .inl ⟨i - off,by omega,hi⟩
  · simp only[hin',if_false] at hi;exact .inr ⟨by rw[hvl];exact hin',hi⟩
 have hgo:∀p T n es x g',s.at p=some (.own T n es)→γ p n=some x→ownBlock x=some g'→w'.heap[g']? =w.heap[g']? :=by
  intro p T n es x g'' hp hx hg';refine hob.other g'' ?_;rintro rfl;exact (h.ow p T n es x g'' hp hx hg').1 b hbg
 refine⟨hd,V,μ,γ',h.setBox hb hbg hob hheap' (by rw[hsz',b9w (by rw[hlen];exact hle)];exact hsz) hg hq (fun i c hi=>?_) (fun i T' m es x g'' hi hx hgx=>?_),hf.only (hl.box b g' hbg) hob hkeep,?_⟩
 · rcases hinr i c hi with⟨j,rfl,hj⟩| ⟨hni,hi'⟩
   · obtain⟨x,h1,_,h2⟩:=hc γ' hg j c hj;have h3:=hvc j x h1;refine⟨x,h3,(h2 (by simp[γ',h3])).keep hkeep (BLe.refl _) (GLe.refl _) fun U' m' es' g2 e hg2=>?_⟩;subst e;obtain⟨h4,_⟩:=hin j U' m' es' x g2 hj h1 hg2;exact hob.other g2 (fun e=>h4 b (e▸hbg))
   · obtain⟨x,h1,h2⟩:=hcells i c hi';refine⟨x,by rw[hcur'];simp only[hni,if_false];exact h1,h2.keep hkeep (BLe.refl _) hg fun U' m' es' g2 e hg2=>?_⟩;subst e;exact hgo (.cell b i) U' m' es' x g2 (by simp[St.at,hb,hi']) h2.2 hg2
 · rcases hinr i _ hi with⟨j,rfl,hj⟩| ⟨hni,hi'⟩
   · have hm:=hst j T' m es hj;subst hm;have hlt:j<cells.length:=(List.getElem?_eq_some_iff.1 hj).1;have hx':v.cells.toList[j]? =some x:=by
      have h0:v.cells.toList[j]? =some (v.cells.toList[j]'(by omega)):=List.getElem?_eq_getElem (by omega);have h1:=hvc j _ h0;have h2:cur'[off+j]? =some x:=by simpa [γ'] using hx
      rw[h1] at h2;injection h2 with h2;rw[h0,h2]
     obtain⟨h4,h5,h6,_,h8⟩:=hin j T' m es x g'' hj hx' hgx;refine⟨h4,h5,fun p' T2 n2 es2 x2 _ hp2 hx2=>h6 p' T2 n2 es2 x2 hp2 hx2,fun j2 T2 n2 es2 x2 hne hj2 hx2 hg2=>?_⟩;rcases hinr j2 _ hj2 with⟨j3,rfl,hj3⟩| ⟨_,hi3⟩
     · have:j3<cells.length:=(List.getElem?_eq_some_iff.1 hj3).1;exact hne (by omega)
     · obtain⟨y,hy,hoy⟩:=h.conc_own (p:=.cell b j2) (T:=T2) (n:=n2) (es:=es2) (by simp[St.at,hb,hi3]);have:=hg _ _ _ hy;rw[this] at hx2;injection hx2 with hx2;subst hx2;exact h6 (.cell b j2) T2 n2 es2 _ (by simp[St.at,hb,hi3]) hy hg2
   · have hat:s.at (.cell b i)=some (.own T' m es):=by simp[St.at,hb,hi']
     obtain⟨y,hy,hoy⟩:=h.conc_own hat
     have:=hg _ _ _ hy;rw[this] at hx;injection hx with hx;subst hx;refine⟨(h.ow _ T' m es _ g'' hat hy hgx).1,(h.ow _ T' m es _ g'' hat hy hgx).2,fun p' T2 n2 es2 x2 hne hp2 hx2 hg2=>?_,fun j2 T2 n2 es2 x2 hne hj2 hx2 hg2=>?_⟩
     · exact hne i (h.ow2 p' (.cell b i) T2 n2 es2 T' m es x2 _ g'' hp2 hat hx2 hy hg2 hgx)
     · rcases hinr j2 _ hj2 with⟨j3,rfl,hj3⟩| ⟨_,hi3⟩
       · have hm:=hst j3 T2 n2 es2 hj3;subst hm;have hlt:j3<cells.length:=(List.getElem?_eq_some_iff.1 hj3).1;have hx':v.cells.toList[j3]? =some x2:=by
          have h0:v.cells.toList[j3]? =some (v.cells.toList[j3]'(by omega)):=List.getElem?_eq_getElem (by omega);have h1:=hvc j3 _ h0;have h2:cur'[off+j3]? =some x2:=by simpa [γ'] using hx2
          rw[h1] at h2;injection h2 with h2;rw[h0,h2]
         obtain⟨_,_,h6,_,_⟩:=hin j3 T2 n2 es2 x2 g'' hj3 hx' hg2;exact h6 (.cell b i) T' m es _ hat hy hgx
       · have hat2:s.at (.cell b j2)=some (.own T2 n2 es2):=by simp[St.at,hb,hi3]
         obtain⟨y2,hy2,_⟩:=h.conc_own hat2;have:=hg _ _ _ hy2;rw[this] at hx2;injection hx2 with hx2;subst hx2;have:=h.ow2 (.cell b j2) (.cell b i) T2 n2 es2 T' m es _ _ g'' hat2 hat hy2 hy hg2 hgx;injection this with _ e;exact hne e
 · constructor
   · exact hl.box
   · exact hl.par
   · intro p T' m es x g'' hp hx hgx;rw[c1n hb] at hp;have old:s.at p=some (.own T' m es)→T0 g''∨w0.heap.size≤g'':=by
      intro hp;obtain⟨z,hz,_⟩:=h.conc_own hp;have:=hg _ _ _ hz;rw[this] at hx;injection hx with hx;subst hx;exact hl.own p T' m es _ g'' hp hz hgx
     cases p with
     | tmp k=>exact old hp
     | cell b' i=>
      simp only at hp
      by_cases hbb:b'=b
      · subst hbb;simp only[if_true] at hp;rcases hinr i _ hp with⟨j,rfl,hj⟩| ⟨_,hi'⟩
        · have hm:=hst j T' m es hj;subst hm;have hlt:j<cells.length:=(List.getElem?_eq_some_iff.1 hj).1;have hx':v.cells.toList[j]? =some x:=by
           have h0:v.cells.toList[j]? =some (v.cells.toList[j]'(by omega)):=List.getElem?_eq_getElem (by omega);have h1:=hvc j _ h0;have h2:cur'[off+j]? =some x:=by simpa [γ'] using hx
           rw[h1] at h2;injection h2 with h2;rw[h0,h2]
          exact (hin j T' m es x g'' hj hx' hgx).2.2.2.1
        · exact old (by simp[St.at,hb,hi'])
      · simp only[hbb,if_false] at hp;exact old hp
end
end Go.Av
namespace Go.Av
section
variable{E:Env}{w0:World}{V0:Vis}{T0:Tch}{Q Q':Nat→Prop}{s:St}{a:Act}{w w':World}{V V':Vis}{μ μ':a5m}{γ γ':a7a}
theorem a3k.stampB{n:Nat}{c:AVal}{x:Value}{p:Place}(h:a3k w V μ c x)(hγ:γ p n=some x):b2m E.P w V μ γ p (a4g n c) x:=by
 cases c with
 | own T m es=>obtain⟨hT,rfl,rfl⟩:=h;exact⟨.nil hT,hγ⟩
 | mview _ _=>exact absurd h (by simp[a3k,a1t])
 | full es=>exact absurd h (by simp[a3k,a1t])
 | view _ _ _ _=>exact absurd h (by simp[a3k,a1t])
 | dead _ _ _=>exact absurd h (by simp[a3k,a1t])
 | _=>exact h
theorem a9i{es:List AVal}{y:Value}(h:a1t w V (.slice es) y):y.cells= #[y]:=by
 simp only[a1t] at h;obtain⟨A,c,rfl,_⟩:=h;rfl
def e5h:AVal→List AVal
 | .agg cs=>cs
 | v=>[strip1 v]
theorem d8z{v:AVal}{y:Value}(hr:b2q w V μ v y)(hn:c4k v=true)(hown:∀T n es,v≠ .own T n es):
 a3r (a3k w V μ) (e5h v) y.cells.toList:=by
 cases v
 case agg=>obtain⟨z,rfl,hz⟩:=hr;exact hz
 case own=>exact absurd rfl (hown _ _ _)
 case tup=>cases hn
 case dead=>have h1:=a5w hr rfl;rw[a9i h1];exact⟨h1,trivial⟩
 case view=>have h1:=a5w hr rfl;rw[a9i h1];exact⟨h1,trivial⟩
 case full=>have h1:=a5w hr rfl;rw[a9i h1];exact⟨h1,trivial⟩
 case slice=>have h1:=a5w hr rfl;rw[a9i h1];exact⟨h1,trivial⟩
 case int=>have:=b0g hr;subst this;exact⟨rfl,trivial⟩
 case bool=>have:=c5a hr;subst this;exact⟨rfl,trivial⟩
 case str=>have:=b8u hr;subst this;exact⟨rfl,trivial⟩
 case ptr=>obtain⟨g,hg,hp⟩:=hr;rw[hp.cells];exact⟨⟨g,hg,hp⟩,trivial⟩
 case pel=>obtain⟨g,o',rfl,hc⟩:=hr;exact⟨⟨g,o',rfl,hc⟩,trivial⟩
 case nilp=>have:y=.pointer none:=hr;subst this;exact⟨rfl,trivial⟩
 case func=>obtain⟨u,z,rfl,h3⟩:=hr;exact⟨⟨u,z,rfl,h3⟩,trivial⟩
 case pmap=>obtain⟨g,e,c,rfl,hh⟩:=(show a1t w V (.pmap _) y from hr);exact⟨hr,trivial⟩
 case nilm=>have:y=.map none:=hr;subst this;exact⟨hr,trivial⟩
 case mview=>cases hn
 case opaq=>cases hn
 case nilf=>rcases (show i8d y from hr) with rfl|rfl| ⟨u,z,rfl⟩<;>exact⟨(by first|exact .inl rfl|exact .inr (.inl rfl)|exact .inr (.inr ⟨_,_,rfl⟩)),trivial⟩
theorem d3a{n:Nat}{v:AVal}(hown:∀T n es,v≠ .own T n es):
 (cellsOf v).map (a4g n)=(e5h v).map (a4g n):=by
 cases v<;>first|rfl|exact absurd rfl (hown _ _ _)
theorem b6u{T:TypeId}{x p:AVal}{s':St}{n:Nat}(h:b5d E s n T x p=some s'):∃b off cs,p=.ptr b off∧s.box b=some cs∧(cellsOf x).length=E.P.cellsOf T∧0<E.P.cellsOf T∧
 off+E.P.cellsOf T≤cs.length∧(c4k x=true∧off<a2s)∧s'=s.setBox b (b5f cs off ((cellsOf x).map (a4g n))):=by
 cases p<;>simp only[b5d] at h<;>(try cases h)
 obtain⟨cs,h1,h⟩:=bind_some h;split at h
 · rename_i hc;injection h with h;exact⟨_,_,cs,rfl,h1,hc.1,hc.2.1,hc.2.2.1,hc.2.2.2,h.symm⟩
 · cases h
theorem c6q(hd:a.defers=[])(h:SRel E.P Q s a w V μ γ)(hf:Fr w0 V0 T0 w V)(hl:Loc w0 T0 s μ γ)(hQ:QLe Q Q'){n:Nat}(hn:¬Q n)(hn':Q' n){o:Oper}(hdst:o.dst=none)
 {T:TypeId} {ad x:Operand} (ho:o.op=.store T ad x) {p v:AVal} (hp:b2q w V μ p (a.eval ad)) (hv:b2q w V μ v (a.eval x)) (hown:∀T n es,v≠ .own T n es) {s':St} (hs:b5d E s n T v p=some s')
 {X:Exit→Act→World→Prop}:o.wp E.P a w (Sim E.P w0 V0 T0 Q' s') X:=by
 obtain⟨b,off,cs,rfl,hb,hlen,hT,hle,⟨hnt,hlt⟩,rfl⟩:=b6u hs;obtain⟨g,hbg,hy⟩:=hp;rw[a6e hlt] at hy;have hall:=d8z hv hnt hown;rw[d3a hown];have hcl:(e5h v).length=(cellsOf v).length:=by cases v<;>rfl
 refine b1g (g:=g) (T:=T) (v:=a.eval x) hd h hf hl hQ hn hn' hdst hb hbg hT (by rw[List.length_map,hcl];exact hlen) hle (fun γ'' hg i c hc=>?_) (by rw[List.length_map];exact hall.length.symm) (fun i U m es hc=>(a7r hc).1) (fun i U m es z g' hc hz hgz=>?_) (fun w' hr=>?_)
 · rw[List.getElem?_map] at hc;obtain⟨c0,h1,rfl⟩:=map_some hc;obtain⟨z,h2,h3⟩:=hall.get h1;exact⟨z,h2,h3.one,fun hγ=>h3.stampB hγ⟩
 · obtain⟨_,m',h1⟩:=a7r hc;obtain⟨z',h2,h3⟩:=hall.get h1;rw[h2] at hz;injection hz with hz;subst hz;rw[h3.2.2] at hgz;cases hgz
 · simp[execOp,ho,hy,Instr.storeAt,Instr.sureAddr,hr]
theorem c6n{x:Operand}{r:AVal×St}(h:b8p s x=some r):(∃k T m es,x=.tmp k∧a0i s.tm k=some (.own T m es)∧r=(.own T m es,s.put k (b4t T m es)))∨
 (r.2=s∧(∀T n es,r.1≠ .own T n es)∧(∀T n es,r.1≠ .dead T n es)∧((∃k v,x=.tmp k∧a0i s.tm k=some v∧(r.1=v∨∃T n es,v=.dead T n es∧r.1=.slice es))∨∃v,rd s x=some v∧r.1=strip v)):=by
 cases x with
 | tmp k=>
  simp only[b8p] at h;obtain⟨v,h1,h2⟩:=bind_some h;cases v<;>simp only at h2<;>injection h2 with h2<;>subst h2
  case own=>exact .inl ⟨k,_,_,_,rfl,h1,rfl⟩
  case dead=>exact .inr ⟨rfl,(fun _ _ _ e=>by cases e),(fun _ _ _ e=>by cases e),.inl ⟨k,_,rfl,h1,.inr ⟨_,_,_,rfl,rfl⟩⟩⟩
  all_goals exact .inr ⟨rfl,(fun _ _ _ e=>by cases e),(fun _ _ _ e=>by cases e),.inl ⟨k,_,rfl,h1,.inl rfl⟩⟩
 | const c=>
  simp only[b8p] at h;obtain⟨v,h1,rfl⟩:=map_some h;exact .inr ⟨rfl,d6q (a3d v),(fun T n es e=>by have:=a3d v;simp only at e;rw[e] at this;cases this),.inr ⟨v,h1,rfl⟩⟩
 | func c=>
  simp only[b8p] at h;obtain⟨v,h1,rfl⟩:=map_some h;exact .inr ⟨rfl,d6q (a3d v),(fun T n es e=>by have:=a3d v;simp only at e;rw[e] at this;cases this),.inr ⟨v,h1,rfl⟩⟩
 | global g=>simp[b8p,rd] at h
theorem a4r.repR{v:AVal}{x:Value}(h:a4r w V μ v x)(hp:a1k v=true):b2q w V μ v x:=by
 cases v<;>first|exact h|cases hp
theorem f2i(h:SRel E.P Q s a w V μ γ){x:Operand}{r:AVal×St}(ht:(∃k v,x=.tmp k∧a0i s.tm k=some v∧(r.1=v∨∃T n es,v=.dead T n es∧r.1=.slice es))∨∃v,rd s x=some v∧r.1=strip v):b2q w V μ r.1 (a.eval x):=by
 rcases ht with⟨k,v,rfl,hk,he| ⟨T,n,es,rfl,he⟩⟩| ⟨v,hv,he⟩
 · rw[he];exact h.rd (x:=.tmp k) hk
 · rw[he];have h1:b2q w V μ (.dead T n es) (a.eval (.tmp k)):=h.rd (x:=.tmp k) hk;exact h1
 · rw[he];exact (h.rd hv).strip.repR (a3d v)
theorem b5t(h:SRel E.P Q s a w V μ γ)(hl:Loc w0 T0 s μ γ){k:Nat}{T:TypeId}{m:Nat}{es:List AVal}(hk:a0i s.tm k=some (.own T m es)):
 a2t E.P w V T es (a.eval (.tmp k))∧∀g,ownBlock (a.eval (.tmp k))=some g→(∀b,μ b≠some g)∧(∀o,V g o→o<es.length*E.P.cellsOf T)∧
  (∀p' T' n' es' x',(s.put k (b4t T m es)).at p'=some (.own T' n' es')→γ p' n'=some x'→ownBlock x'≠some g)∧(T0 g∨w0.heap.size≤g):=by
 obtain⟨y,h1,h2⟩:=h.tm k _ hk;have he:a.eval (.tmp k)=y:=by simp[Act.eval,Array.getD_eq_getD_getElem?,h1]
 rw[he];refine⟨h2.1,fun g hg=>?_⟩;have hat:s.at (.tmp k)=some (.own T m es):=hk;refine⟨(h.ow _ T m es y g hat h2.2 hg).1,(h.ow _ T m es y g hat h2.2 hg).2,fun p' T' n' es' x' hp' hx' hg'=>?_,hl.own _ T m es y g hat h2.2 hg⟩;obtain⟨hne,hp⟩:=d8n hp';exact hne (h.ow2 p' (.tmp k) T' n' es' T m es x' y g hp hat hx' h2.2 hg' hg)
theorem Loc.demote(hl:Loc w0 T0 s μ γ){k:Nat}{T:TypeId}{m:Nat}{es:List AVal}:Loc w0 T0 (s.put k (b4t T m es)) μ γ:=
 ⟨hl.box,hl.par,fun p T' n' es' x g hp hx hg=>hl.own p T' n' es' x g (d8n hp).2 hx hg⟩
theorem f2v(hd:a.defers=[])(h:SRel E.P Q s a w V μ γ)(hf:Fr w0 V0 T0 w V)(hl:Loc w0 T0 s μ γ)(hQ:QLe Q Q'){n:Nat}(hn:¬Q n)(hn':Q' n){o:Oper}(hdst:o.dst=none)
 {T:TypeId} {ad x:Operand} (ho:o.op=.store T ad x) {s':St} (hs:((rd s ad).bind fun p=>if b9e x then (a1g E.P T).bind fun U=>b5d E s n T (.own U 0 []) p else (b8p s x).bind fun r=>b5d E r.2 n T r.1 p)=some s')
 {X:Exit→Act→World→Prop}:o.wp E.P a w (Sim E.P w0 V0 T0 Q' s') X:=by
 obtain⟨p,h1,hs⟩:=bind_some hs;have hp:=h.rd h1
 by_cases hx:b9e x=true
 · simp only[hx,if_true] at hs;obtain⟨U,h2,hs⟩:=bind_some hs;obtain⟨b,off,cs,rfl,hb,hlen,hT,hle,⟨hnt,hlt⟩,rfl⟩:=b6u hs;obtain⟨g,hbg,hy⟩:=hp;rw[a6e hlt] at hy;refine b1g (g:=g) (T:=T) (v:=a.eval x) hd h hf hl hQ hn hn' hdst hb hbg hT (by rw[List.length_map];exact hlen) hle (fun γ'' hg i c hc=>?_) (by rw[a9m hx];rfl) (fun i U m es hc=>(a7r hc).1) (fun i U m es z g' hc hz hgz=>?_) (fun w' hr=>?_)
   · rw[a9m hx];cases i with
     | succ i=>simp[cellsOf] at hc
     | zero=>
      simp[cellsOf] at hc;subst hc;exact⟨_,rfl,rfl,fun hγ=>⟨.nil (b3n h2),hγ⟩⟩
   · rw[a9m hx] at hz;cases i with
     | succ i=>simp[Value.cells] at hz
     | zero=>simp[Value.cells] at hz;subst hz;cases hgz
   · simp[execOp,ho,hy,Instr.storeAt,Instr.sureAddr,hr]
 · simp only[hx] at hs;obtain⟨r,h2,hs⟩:=bind_some hs;rcases c6n h2 with⟨k,U,m,es,rfl,hk,rfl⟩| ⟨hr2,hno,hnd,ht⟩
   · obtain⟨b,off,cs,rfl,hb,hlen,hT,hle,⟨hnt,hlt⟩,rfl⟩:=b6u hs;obtain⟨g,hbg,hy⟩:=hp;rw[a6e hlt] at hy;obtain⟨ho1,ho2⟩:=b5t h hl hk;have hcells:(a.eval (.tmp k)).cells= #[a.eval (.tmp k)]:=by
      by_cases hT:U=a3i
      · rcases ho1.read.1 hT with⟨g',hg'⟩| ⟨_,_,_,hg'⟩<;>(rw[hg'];rfl)
      · exact a9i (ho1.slice hT)
     refine b1g (g:=g) (T:=T) (v:=a.eval (.tmp k)) hd (h.demote hk) hf hl.demote hQ hn hn' hdst hb hbg hT (by rw[List.length_map];exact hlen) hle (fun γ'' hg i c hc=>?_) (by rw[hcells];rfl) (fun i U m es hc=>(a7r hc).1) (fun i U' m' es' z g' hc hz hgz=>?_) (fun w' hr=>?_)
     · rw[hcells];cases i with
       | succ i=>simp[cellsOf] at hc
       | zero=>
        simp[cellsOf] at hc;subst hc;refine⟨_,rfl,?_,fun hγ=>⟨ho1,hγ⟩⟩
        by_cases hT:U=a3i
        · rcases ho1.read.1 hT with⟨g',hg'⟩| ⟨_,_,_,hg'⟩<;>(rw[hg'];rfl)
        · exact a1t.one (ho1.slice hT)
     · rw[hcells] at hz;cases i with
       | succ i=>simp[cellsOf] at hc
       | zero=>
        simp[cellsOf,a4g] at hc;obtain⟨rfl,rfl,rfl⟩:=hc;simp at hz;subst hz;obtain⟨q1,q2,q3,q4⟩:=ho2 g' hgz;exact⟨q1,q2,q3,q4,rfl⟩
     · simp[execOp,ho,hy,Instr.storeAt,Instr.sureAddr,hr]
   · rw[hr2] at hs;exact c6q hd h hf hl hQ hn hn' hdst ho hp (f2i h ht) hno hs
theorem e6g(hd:a.defers=[])(h:SRel E.P Q s a w V μ γ)(hf:Fr w0 V0 T0 w V)(hl:Loc w0 T0 s μ γ)(hQ:QLe Q Q'){n:Nat}(hn:¬Q n)(hn':Q' n){o:Oper}(hdst:∀k,o.dst=some k→k<a.tmps.size)
 {x:Operand} (ho:o.op=.assign x) {s':St} (hs:(if b9e x then (a1g E.P o.type).map fun T=>s.putD o.dst (.own T n []) else (b8p s x).map fun r=>r.2.putD o.dst (j5d n r.1))=some s') {X:Exit→Act→World→Prop}:
 o.wp E.P a w (Sim E.P w0 V0 T0 Q' s') X:=by
 have hrun:(execOp a.eval o).run E.P w=.ok (.value (a.eval x)) w:=by simp[execOp,ho]
 refine a9s hrun ?_
 by_cases hx:b9e x=true
 · simp only[hx,if_true] at hs;obtain⟨T,h1,rfl⟩:=map_some hs;rw[a9m hx];exact b3o hd h hf hl hQ hn hn' hdst (.nil (b3n h1)) (fun k g _ hg=>by cases hg)
 · simp only[hx] at hs;obtain⟨r,h2,rfl⟩:=map_some hs;rcases c6n h2 with⟨k,U,m,es,rfl,hk,rfl⟩| ⟨hr2,hno,hnd,ht⟩
   · obtain⟨ho1,ho2⟩:=b5t h hl hk;refine b3o hd (h.demote hk) hf hl.demote hQ hn hn' hdst ho1 (fun k' g _ hg=>?_);obtain⟨q1,q2,q3,q4⟩:=ho2 g hg;exact⟨q1,q2,fun p' T' n' es' x' _ hp hx=>q3 p' T' n' es' x' hp hx,q4⟩
   · have hrecv:j5d n r.1=r.1:=by
      generalize r.1=v at hno;cases v<;>first|rfl|exact absurd rfl (hno _ _ _)
     rw[hrecv,hr2];refine c4w hd h hf hl hQ hdst hno (fun j _=>?_);rcases ht with⟨k,v,rfl,hk,he| ⟨T,n,es,rfl,he⟩⟩| ⟨v,hv,he⟩
     · obtain⟨y,h3,h4⟩:=h.tm k _ hk;have hy:a.eval (.tmp k)=y:=by simp[Act.eval,Array.getD_eq_getD_getElem?,h3]
       rw[he] at hno hnd⊢;rw[hy];cases v<;>first|exact absurd rfl (hno _ _ _)|exact absurd rfl (hnd _ _ _)|exact h4
     · rw[he];have h1:b2q w V μ (.dead T n es) (a.eval (.tmp k)):=h.rd (x:=.tmp k) hk;exact h1
     · rw[he];exact (h.rd hv).strip.repS (a3d v)
end
end Go.Av
