/- Lists and sets of names; whether all names of a program are as they may be; a type with other names. -/
import Derived.Test.YtjfghnkmladbkaaGreatDoorAvF
import Derived.Test.YtjfghnkmladbkaaGreatDoorAvG
import Derived.Test.YtjfghnkmladbkaaGreatDoorAvI
import Derived.Test.YtjfghnkmladbkaaGreatDoorAvH
namespace Go.Proofs
open Go.Av
set_option maxHeartbeats 16000000
set_option maxRecDepth 100000
theorem a4r(l:List (List UInt8))(i:Nat):(l.map AVal.str)[i]? =(l[i]?).map AVal.str:=by simp
theorem a2a{α:Type}{l:List α}{i:Nat}{x:α}(h:l[i]? =some x):l.drop i=x::l.drop (i+1):=by
 obtain⟨h1,h2⟩:=List.getElem?_eq_some_iff.1 h;rw[List.drop_eq_getElem_cons h1,h2]
theorem a6v{α:Type}{l:List α}{i:Nat}(h:i<l.length):∃x,l[i]? =some x:=⟨l[i],List.getElem?_eq_getElem h⟩
def h2w:List (List UInt8)→List UInt8→Nat→Int
 | [],_,_=> -1
 | x::r,n,i=>if n==x then (i:Int) else h2w r n (i+1)
theorem f6c:∀(l:List (List UInt8)) (n:List UInt8) (i:Nat),decide (h2w l n i≥0)=l.contains n
 | [],n,i=>rfl
 | x::r,n,i=>by
  rw[List.contains_cons];unfold h2w;cases h:n==x
  · simp only[Bool.false_eq_true,if_false,Bool.false_or];exact f6c r n (i+1)
  · simp
theorem f5y(l:List (List UInt8))(n:List UInt8)(hl:l.length<1000000):den E 119 [.slice (l.map .str),.str n] []=some (.int .i64 (h2w l n 0),[]):=by
 rw[a0d g4u,h1r];simp only[go_sem,Tryz.f119,List.length_map];refine a0o (fun i:Nat=>i≤l.length) (fun i=>⟨[(0,.slice (l.map .str)),(1,.str n),(7,.int .i64 l.length),(8,.int .i64 i)],[],[],1⟩) (fun i=>some (.int .i64 (h2w (l.drop i) n i),[])) (fun i=>l.length - i) 0 (Nat.zero_le _) ?_ ?_
 · simp only[go_sem]
 · intro i hi h
   by_cases hlt:i<l.length
   · obtain⟨x,hx⟩:=a6v hlt;rw[a2a hx];have w1:IntKind.i64.wrap ((i:Int)+1)=((i+1:Nat):Int):=a0z (i+1) (by omega);cases hq:n==x
     · simp only[go_sem,a0e,decide_eq_true hlt,a0c,a0i,a4r,hx,hq,h2w];refine h (i+1) _ (by omega) (by omega) ?_;simp only[go_sem,w1]
     · simp only[go_sem,a0e,decide_eq_true hlt,a0c,a0i,a4r,hx,hq,h2w]
   · have hie:i=l.length:=by omega
     subst hie;rw[List.drop_length];simp only[go_sem,a0e,Nat.lt_irrefl,h2w]
theorem a3l(l:List (List UInt8))(n:List UInt8)(hl:l.length<1000000):den E 57 [.slice (l.map .str),.str n] []=some (.bool (l.contains n),[]):=by
 rw[a0d i1n,i5b];have h1:=f5y l n hl;have h2:=f6c l n 0;simp only[go_sem,Tryz.f57,h1,h2]
def twR(all others:List (List UInt8)):List (List UInt8)→Nat→List UInt8×Bool
 | [],_=>([],false)
 | x::r,i=>if (all.take i).contains x||others.contains x then (x,true) else twR all others r (i+1)
def twV(p:List UInt8×Bool):AVal:=.tup [.str p.1,.bool p.2]
theorem b1y(l o:List (List UInt8))(hl:l.length<1000000)(ho:o.length<1000000):den E 203 [.slice (l.map .str),.slice (o.map .str)] []=some (twV (twR l o l 0),[]):=by
 rw[a0d g2z,g9v];simp only[go_sem,Tryz.f203,List.length_map];refine a0o (fun i:Nat=>i≤l.length) (fun i=>⟨[(0,.slice (l.map .str)),(1,.slice (o.map .str)),(8,.slice (l.map .str)),(9,.int .i64 l.length),(10,.int .i64 i)],[],[],1⟩) (fun i=>some (twV (twR l o (l.drop i) i),[])) (fun i=>l.length - i) 0 (Nat.zero_le _) ?_ ?_
 · simp only[go_sem]
 · intro i hi h
   by_cases hlt:i<l.length
   · obtain⟨x,hx⟩:=a6v hlt;rw[a2a hx];have w1:IntKind.i64.wrap ((i:Int)+1)=((i+1:Nat):Int):=a0z (i+1) (by omega);have hsz:∀y,c6q 1 (y::[])=c6q 1 (y::[]):=fun _=>rfl;have e0:(l.map AVal.str).head? =some (.str (l.headD [])):=by
      cases l with
      | nil=>simp at hlt
      | cons a r=>rfl
     have d1:=a3l (l.take i) x (by rw[List.length_take];omega);have d2:=a3l o x ho;rw[List.map_take] at d1;cases hq:(l.take i).contains x
     · cases hq2:o.contains x
       · simp only[go_sem,a0e,decide_eq_true hlt,a0c,a0i,a4r,hx,Nat.zero_le,Nat.le_of_lt hlt,e0,List.length_map,d1,d2,hq,hq2,twR];refine h (i+1) _ (by omega) (by omega) ?_;simp only[go_sem,w1]
       · simp only[go_sem,a0e,decide_eq_true hlt,a0c,a0i,a4r,hx,Nat.zero_le,Nat.le_of_lt hlt,e0,List.length_map,d1,d2,hq,hq2,twR,twV]
     · simp only[go_sem,a0e,decide_eq_true hlt,a0c,a0i,a4r,hx,Nat.zero_le,Nat.le_of_lt hlt,e0,List.length_map,d1,hq,twR,twV]
   · have hie:i=l.length:=by omega
     subst hie;rw[List.drop_length];simp only[go_sem,a0e,Nat.lt_irrefl,twR,twV]
def a4o(l:List (List UInt8)):List AVal:=l.map fun n=>.tup [.str n,.bool true]
theorem g6i(l:List (List UInt8)):isL (a4o l)=none:=by
 cases l with
 | nil=>rfl
 | cons a r=>cases r<;>rfl
attribute [go_sem ↓] g6i
def b2k(l:List (List UInt8))(n:List UInt8):List (List UInt8):=if l.contains n then l else l++[n]
def a0p(b ns:List (List UInt8)):List (List UInt8):=ns.foldl b2k b
theorem b5b(n:List UInt8):∀l,c8i (.str n) (a4o l)=some (if l.contains n then some (.bool true) else none)
 | []=>rfl
 | x::r=>by
  have ih:=b5b n r;unfold a4o at ih⊢;rw[List.map_cons,List.contains_cons];simp only[c8i,c2o,Option.bind_some];cases h:n==x
  · simp only[Bool.false_eq_true,if_false,Bool.false_or];exact ih
  · simp
theorem b8g(n:List UInt8):∀l,e9u (.str n) (.bool true) (a4o l)=some (a4o (b2k l n))
 | []=>rfl
 | x::r=>by
  have ih:=b8g n r;unfold a4o b2k at ih⊢;rw[List.contains_cons,List.map_cons];simp only[e9u,c2o,Option.bind_some];cases h:n==x
  · simp only[Bool.false_eq_true,if_false,Bool.false_or,ih,Option.map_some];cases r.contains n<;>simp
  · have hx:n=x:=by simpa using h
    subst hx;simp
theorem a7f(b ns:List (List UInt8))(hl:ns.length<1000000):den E 239 [.pmap (a4o b),.slice (ns.map .str)] []=some (.pmap (a4o (a0p b ns)),[]):=by
 rw[a0d g2c,g8z];have hc:den E 155 [.pmap (a4o b)] []=some (.own a3n 0 (a4o b),[]):=a8x e0y;simp only[go_sem,Tryz.f239,List.length_map,hc];refine a0o (fun i:Nat=>i≤ns.length) (fun i=>⟨[(0,.own a3n 0 (a4o (a0p b (ns.take i)))),(9,.slice (ns.map .str)),(10,.int .i64 ns.length),(11,.int .i64 i)],[],[],1⟩) (fun _=>some (.pmap (a4o (a0p b ns)),[])) (fun i=>ns.length - i) 0 (Nat.zero_le _) ?_ ?_
 · simp only[go_sem,a0p,List.foldl_nil]
 · intro i hi h
   by_cases hlt:i<ns.length
   · obtain⟨x,hx⟩:=a6v hlt;have w1:IntKind.i64.wrap ((i:Int)+1)=((i+1:Nat):Int):=a0z (i+1) (by omega);have hts:ns.take (i+1)=ns.take i++[x]:=by rw[List.take_add_one,hx];rfl
     simp only[go_sem,a0e,decide_eq_true hlt,a0c,a0i,a4r,hx,b8g];refine h (i+1) _ (by omega) (by omega) ?_;simp only[go_sem,w1,hts,a0p,List.foldl_append,List.foldl_cons,List.foldl_nil]
   · have hie:i=ns.length:=by omega
     subst hie;simp only[go_sem,a0e,Nat.lt_irrefl,List.take_length]
def a9q(n:Nat)(l:List (List UInt8)):AVal:=if l=[] then .nilm else .own a3n n (a4o l)
theorem d2u(n:Nat):a9q n []=.nilm:=rfl
theorem g5q(n:Nat)(a:List UInt8)(r:List (List UInt8)):a9q n (a::r)=.own a3n n (a4o (a::r)):=rfl
theorem f3s(m n:Nat)(l:List (List UInt8)):a3x m (a9q n l)=a9q m l:=by
 unfold a9q;split<;>rfl
theorem a1a(n:Nat)(l:List (List UInt8)):a2q (a9q n l)=a9q 0 l:=by
 unfold a9q;split<;>rfl
theorem a0v(n:Nat)(l:List (List UInt8)):a1f (a9q n l)=[]:=by
 unfold a9q;split<;>rfl
theorem i2p(ρ:BName→BName)(n:Nat)(l:List (List UInt8)):c3h ρ (a9q n l)=a9q n l:=by
 unfold a9q;split<;>rfl
theorem h2q(ρ:BName→BName)(m n:Nat)(l:List (List UInt8)):c3h ρ (a3x m (a9q n l))=a9q m l:=by rw[f3s,i2p]
def a5q(ns:List BName)(c:AVal):AVal:=c3h (b9y ns) (a3x 0 c)
def a3u(ns:List BName)(n:Nat)(c:AVal):AVal:=c3h (b1p ns) (a3x n c)
theorem a1s{D:FuncId→List AVal→a2p→Option (AVal×a2p)}{s:St}{n:Nat}{dst:Option Nat}{args:List AVal}{f:FuncId}{first cap:List AVal}:b6x D s n dst args (.func f first cap)=(match (first++(args++cap)).flatMap names with
 | []=>(D f (first++(args++cap)) []).bind fun r=>match r.2 with
  | []=>some (s.putD dst (b7q n r.1))
  | _::_=>none
 | b::bs=>(b8r s 100 (b::bs) []).bind fun ns=>(a6u s ns).bind fun H=>
  (D f ((first++(args++cap)).map (ren (b9y ns))) (H.map (List.map (a5q ns)))).bind fun r=>
    (a3f s ns (r.2.map (List.map (a3u ns n)))).map fun s'=>s'.putD dst (b7q n (ren (b1p ns) r.1))):=rfl
theorem a7b(ns:List BName)(n:Nat)(l:List (List UInt8)):a5q ns (a9q n l)=a9q 0 l:=by unfold a5q;rw[h2q]
theorem a4f(ns:List BName)(m n:Nat)(l:List (List UInt8)):a3u ns m (a9q n l)=a9q m l:=by unfold a3u;rw[h2q]
def f1r(l:List (List UInt8)):List AVal:=[.own 9 0 (l.map .str),a9q 0 l]
theorem c7u(l:List (List UInt8))(n:List UInt8)(hl:l.length<1000000):den E 237 [.ptr (.par 0) 0,.str n] [f1r l]=some (.tup [],[f1r (b2k l n)]):=by
 rw[a0d g2e,g9b];have ht:l.length+1≤a0l:=by unfold a0l;omega
 cases l with
 | nil=>
  have hu:=b8g n [];have hf:=b5b n [];have e:b2k [] n=[n]:=rfl;rw[e] at hu⊢;unfold a4o at hu hf;simp only[List.map_cons,List.map_nil] at hu hf;have h1:1≤a0l:=by unfold a0l;omega
  simp only[go_sem,Tryz.f237,f1r,d2u,g5q,h1,a4o]
 | cons a r=>
  have hu:=b8g n (a::r);have hf:=b5b n (a::r);cases hc:(a::r).contains n
  · have e:b2k (a::r) n=(a::r)++[n]:=by unfold b2k;rw[hc];rfl
    rw[e] at hu⊢;rw[hc] at hf;have hs:(f1r ((a::r)++[n]))=[.own 9 0 (((a::r)++[n]).map .str),.own a3n 0 (a4o ((a::r)++[n]))]:=rfl;have hs2:(f1r (a::r))=[.own 9 0 ((a::r).map .str),.own a3n 0 (a4o (a::r))]:=rfl;rw[hs,hs2];generalize (a::r)=l at *;simp only[go_sem,Tryz.f237,hu,hf,List.length_map,ht,List.map_append]
  · have e:b2k (a::r) n=a::r:=by unfold b2k;rw[hc];rfl
    rw[e];rw[hc] at hf;have hs2:(f1r (a::r))=[.own 9 0 ((a::r).map .str),.own a3n 0 (a4o (a::r))]:=rfl;rw[hs2];generalize (a::r)=l at *;simp only[go_sem,Tryz.f237,hf]
def b1f(t:Ty)(b acc:List (List UInt8)):List (List UInt8):=if t.kind==1&& !b.contains t.name then b2k acc t.name else acc
mutual
def a0r:Ty→List (List UInt8)→List (List UInt8)→List (List UInt8)
 | .mk k s n a,b,acc=>a4d a (if k==5 then b2k b s else b) (b1f (.mk k s n a) b acc)
def a4d:List Ty→List (List UInt8)→List (List UInt8)→List (List UInt8)
 | [],_,acc=>acc
 | t::r,b,acc=>a4d r b (a0r t b acc)
end
theorem b2y(t:Ty)(b acc:List (List UInt8)):a0r t b acc=a4d t.args (if t.kind==5 then b2k b t.name else b) (b1f t b acc):=by
 cases t;simp only[a0r,Ty.args,Ty.kind,Ty.name];rfl
theorem a4j(b acc:List (List UInt8)):a4d [] b acc=acc:=by simp only[a4d]
theorem a4l(t:Ty)(r:List Ty)(b acc:List (List UInt8)):a4d (t::r) b acc=a4d r b (a0r t b acc):=by simp only[a4d]
theorem i5z(l:List (List UInt8))(n:List UInt8):(b2k l n).length≤l.length+1:=by
 unfold b2k;split
 · omega
 · simp
theorem d6f(t:Ty)(b acc:List (List UInt8)):(b1f t b acc).length≤acc.length+1:=by
 unfold b1f;split
 · exact i5z _ _
 · omega
theorem a3o(t:Ty)(r:List Ty):Ty.szs (t::r)=t.sz+Ty.szs r:=by simp[Ty.szs]
theorem a3p:∀(n:Nat) (t:Ty),t.sz≤n→∀b acc,(a0r t b acc).length≤acc.length+t.sz:=by
 intro n
 induction n with
 | zero=>intro t h;have:=a2s t;omega
 | succ n ih=>
  have hs:∀(l:List Ty) b acc,Ty.szs l≤n→(a4d l b acc).length≤acc.length+Ty.szs l:=by
   intro l
   induction l with
   | nil=>intro b acc _;rw[a4j];omega
   | cons x r ihr=>
    intro b acc hl;rw[a3o] at hl⊢;rw[a4l];have:=ih x (by omega) b acc;have:=ihr b (a0r x b acc) (by omega);omega
  intro t h b acc;have:=a2s t;have h1:=d6f t b acc;have h2:=hs t.args (if t.kind==5 then b2k b t.name else b) (b1f t b acc) (by omega);rw[b2y];omega
theorem e7x(t:Ty)(b acc:List (List UInt8))(h:acc.length<1000000):den E 91 [tyV t,.pmap (a4o b),.ptr (.par 0) 0] [[.own 9 0 (acc.map .str)]]=some (.tup [],[[.own 9 0 ((b1f t b acc).map .str)]]):=by
 rw[a0d i0x,i4n,a0a];have hf:=b5b t.name b;have hc:=a3l acc t.name h;have a1:acc.length+1≤a0l:=by unfold a0l;omega
 unfold b1f b2k;cases h1:t.kind==1
 · simp only[go_sem,Tryz.f91,h1]
 · cases h2:b.contains t.name
   · rw[h2] at hf;cases h3:acc.contains t.name
     · rw[h3] at hc;simp only[go_sem,Tryz.f91,h1,hf,hc,a1,List.length_map,List.map_append]
     · rw[h3] at hc;simp only[go_sem,Tryz.f91,h1,hf,hc]
   · rw[h2] at hf;simp only[go_sem,Tryz.f91,h1,hf]
theorem a4n(t:Ty):t.args.length+1≤t.sz:=by
 have:∀l:List Ty,l.length≤Ty.szs l:=by
  intro l
  induction l with
  | nil=>simp
  | cons x r ih=>rw[a3o,List.length_cons];have:=a2s x;omega
 have:=this t.args;have:=a2s t;omega
theorem a4g(l:List Ty)(i:Nat):(a2i l)[i]? =(l[i]?).map tyV:=by simp[c2t]
theorem f0l:∀(n:Nat) (t:Ty),t.sz≤n→∀(b acc:List (List UInt8)),acc.length+t.sz<1000000→den E 90 [tyV t,.pmap (a4o b),.func 91 [] [.ptr (.par 0) 0]] [[.own 9 0 (acc.map .str)]]=some (.tup [],[[.own 9 0 ((a0r t b acc).map .str)]]):=by
 intro n
 induction n with
 | zero=>intro t h;have:=a2s t;omega
 | succ n ih=>
 intro t hn b acc hm;have hsz:=a2s t;have d0:=e7x t b acc (by omega);have hl0:=d6f t b acc;rw[a0d i0y,i4o,b2y];generalize b1f t b acc=a0 at *;rw[a0a] at d0⊢;obtain⟨b',hb'⟩:∃b',b'=(if t.kind==5 then b2k b t.name else b):=⟨_,rfl⟩
 rw[←hb'];cases h5:t.kind==5
 · rw[h5] at hb';simp only[Bool.false_eq_true,if_false] at hb';subst hb';simp only[go_sem,Tryz.f90,d0,h5,a1q];refine a0o (fun x:Nat×List (List UInt8)=>x.1≤t.args.length∧x.2.length+Ty.szs (t.args.drop x.1)≤a0.length+Ty.szs t.args∧a4d (t.args.drop x.1) b' x.2=a4d t.args b' a0)
    (fun x=>⟨[(1,.pmap (a4o b')),(2,.func 91 [] [.ptr (.par 0) 0]),(21,.slice (a2i t.args)),(22,.int .i64 t.args.length),(23,.int .i64 x.1)],[[.own 9 0 (x.2.map .str)]],[],1⟩)
    (fun _=>some (.tup [],[[.own 9 0 ((a4d t.args b' a0).map .str)]])) (fun x=>t.args.length - x.1) (0,a0) ⟨Nat.zero_le _,by simp,rfl⟩ ?_ ?_
   · simp only[go_sem]
   · rintro⟨i,a1⟩ ⟨hi,ha,hf⟩ h;simp only at hi ha hf h⊢
     by_cases hlt:i<t.args.length
     · obtain⟨x,hx⟩:=a6v hlt;have hxs:=a2w (List.mem_of_getElem? hx);rw[a2a hx,a3o] at ha;rw[a2a hx,a4l] at hf;have w1:IntKind.i64.wrap ((i:Int)+1)=((i+1:Nat):Int):=a0z (i+1) (by have:=a4n t;omega);have d:=ih x (by omega) b' a1 (by omega);have hl:=a3p _ x (Nat.le_refl _) b' a1;generalize a0r x b' a1=a2 at *;rw[a0a] at d;simp only[go_sem,a0e,decide_eq_true hlt,a0c,a0i,a4g,hx,a0a,d];refine h (i+1,a2) _ ⟨by omega,by simp only;omega,hf⟩ (by simp only;omega) ?_;simp only[go_sem,w1]
     · have hie:i=t.args.length:=by omega
       subst hie;rw[List.drop_length,a4j] at hf;subst hf;simp only[go_sem,a0e,Nat.lt_irrefl]
 · rw[h5] at hb';simp only[if_true] at hb';have hc:den E 155 [.pmap (a4o b)] []=some (.own a3n 0 (a4o b),[]):=a8x e0y;have hu:=b8g t.name b;rw[←hb'] at hu;clear hb';simp only[go_sem,Tryz.f90,d0,h5,a1q,hc,hu];refine a0o (fun x:Nat×List (List UInt8)=>x.1≤t.args.length∧x.2.length+Ty.szs (t.args.drop x.1)≤a0.length+Ty.szs t.args∧a4d (t.args.drop x.1) b' x.2=a4d t.args b' a0)
    (fun x=>⟨[(1,.pmap (a4o b')),(2,.func 91 [] [.ptr (.par 0) 0]),(21,.slice (a2i t.args)),(22,.int .i64 t.args.length),(23,.int .i64 x.1)],[[.own 9 0 (x.2.map .str)]],[],1⟩)
    (fun _=>some (.tup [],[[.own 9 0 ((a4d t.args b' a0).map .str)]])) (fun x=>t.args.length - x.1) (0,a0) ⟨Nat.zero_le _,by simp,rfl⟩ ?_ ?_
   · simp only[go_sem]
   · rintro⟨i,a1⟩ ⟨hi,ha,hf⟩ h;simp only at hi ha hf h⊢
     by_cases hlt:i<t.args.length
     · obtain⟨x,hx⟩:=a6v hlt;have hxs:=a2w (List.mem_of_getElem? hx);rw[a2a hx,a3o] at ha;rw[a2a hx,a4l] at hf;have w1:IntKind.i64.wrap ((i:Int)+1)=((i+1:Nat):Int):=a0z (i+1) (by have:=a4n t;omega);have d:=ih x (by omega) b' a1 (by omega);have hl:=a3p _ x (Nat.le_refl _) b' a1;generalize a0r x b' a1=a2 at *;rw[a0a] at d;simp only[go_sem,a0e,decide_eq_true hlt,a0c,a0i,a4g,hx,a0a,d];refine h (i+1,a2) _ ⟨by omega,by simp only;omega,hf⟩ (by simp only;omega) ?_;simp only[go_sem,w1]
     · have hie:i=t.args.length:=by omega
       subst hie;rw[List.drop_length,a4j] at hf;subst hf;simp only[go_sem,a0e,Nat.lt_irrefl]
theorem a6w(t:Ty)(h:t.sz<1000000):den E 32 [tyV t] []=some (.own 9 0 ((a0r t [] []).map .str),[]):=by
 have d:=f0l _ t (Nat.le_refl _) [] [] (by simpa using h);rw[a0d i1v,i5j];rw[show a4o []=[] from rfl] at d;rw[a0a] at d⊢;simp only[List.map_nil] at d;simp only[go_sem,Tryz.f32,d]
theorem f5u(n:Nat):Lib.itoa (n:Int)≠[]:=by
 by_cases h:n<10
 · rw[c6t n h];simp
 · rw[d0s n (by omega)];simp
theorem f8o{a b:Nat}(ha:a<10)(hb:b<10)(h:UInt8.ofNat (48+a)=UInt8.ofNat (48+b)):a=b:=by
 have:=congrArg UInt8.toNat h;simp only[UInt8.toNat_ofNat'] at this;omega
theorem c3p:∀(i j:Nat),Lib.itoa (i:Int)=Lib.itoa (j:Int)→i=j
 | i,j,h=>by
  by_cases hi:i<10
  · rw[c6t i hi] at h
    by_cases hj:j<10
    · rw[c6t j hj] at h;injection h with h _;exact f8o hi hj h
    · rw[d0s j (by omega)] at h;have h2:=congrArg List.length h;have h3:0<(Lib.itoa ((j / 10:Nat):Int)).length:=List.length_pos_iff.2 (f5u _);simp only[List.length_append,List.length_singleton] at h2;omega
  · rw[d0s i (by omega)] at h
    by_cases hj:j<10
    · rw[c6t j hj] at h;have h2:=congrArg List.length h;have h3:0<(Lib.itoa ((i / 10:Nat):Int)).length:=List.length_pos_iff.2 (f5u _);simp only[List.length_append,List.length_singleton] at h2;omega
    · rw[d0s j (by omega)] at h;obtain⟨h1,h2⟩:=List.append_inj' h rfl;have:=c3p (i / 10) (j / 10) h1;injection h2 with h2 _;have:=f8o (Nat.mod_lt _ (by omega)) (Nat.mod_lt _ (by omega)) h2;omega
theorem pig{f:Nat→List UInt8}:∀(n:Nat) (l:List (List UInt8)),(∀i j,i<n→j<n→f i=f j→i=j)→(∀i,i<n→f i∈l)→n≤l.length
 | 0,l,_,_=>Nat.zero_le _
 | n+1,l,hinj,hm=>by
  have h1:=hm n (by omega);have h2:=pig n (l.erase (f n)) (fun i j hi hj=>hinj i j (by omega) (by omega)) (fun i hi=>(List.mem_erase_of_ne (fun e=>by have:=hinj i n (by omega) (by omega) e;omega)).2 (hm i (by omega)));rw[List.length_erase_of_mem h1] at h2;have:0<l.length:=List.length_pos_of_mem h1;omega
theorem e8a(f:Nat→List UInt8)(hinj:∀i j,f i=f j→i=j)(l:List (List UInt8)):∃i,i≤l.length∧l.contains (f i)=false∧∀j,j<i→l.contains (f j)=true:=by
 have ex:∃i,i≤l.length∧l.contains (f i)=false:=by
  refine Classical.byContradiction fun hc=>?_;have:=pig (f:=f) (l.length+1) l (fun i j _ _=>hinj i j) (fun i hi=>by
   have:¬l.contains (f i)=false:=fun h=>hc ⟨i,by omega,h⟩;simpa using this)
  omega
 have key:∀n i,i≤n→i≤l.length→l.contains (f i)=false→∃i,i≤l.length∧l.contains (f i)=false∧∀j,j<i→l.contains (f j)=true:=by
  intro n
  induction n with
  | zero=>intro i h1 h2 h3;exact⟨i,h2,h3,fun j hj=>by omega⟩
  | succ n ih=>
   intro i h1 h2 h3
   by_cases hs:∃j,j<i∧l.contains (f j)=false
   · obtain⟨j,h4,h5⟩:=hs;exact ih j (by omega) (by omega) h5
   · refine⟨i,h2,h3,fun j hj=>?_⟩;cases hq:l.contains (f j)
     · exact absurd ⟨j,hj,hq⟩ hs
     · rfl
 obtain⟨i,h1,h2⟩:=ex;exact key i i (Nat.le_refl _) h1 h2
def b8c(s:List UInt8)(i:Nat):List UInt8:=s.take 1++[95]++Lib.itoa (i:Int)
theorem e3a(s:List UInt8)(i j:Nat)(h:b8c s i=b8c s j):i=j:=by
 unfold b8c at h;exact c3p i j (List.append_cancel_left h)
theorem a9h(n:Nat)(h:n<1000000000):den E 120 [.int .i64 n] []=some (.str (Lib.itoa n),[]):=by
 rw[a8x e1d];unfold d5z;simp only;rw[if_pos (by omega)]
def tyC(t:Ty):List AVal:=[.int .i64 t.kind,.str t.name,.int .i64 t.n,.slice (a2i t.args)]
theorem h3k(t:Ty):(tyC t).length=4:=rfl
def zC:List AVal:=[.int .i64 0,.str [],.int .i64 0,.own 25 0 []]
def a4q(ys:List Ty)(n i:Nat):List AVal:=(ys.take i).flatMap tyC++c3g (n - i) zC
theorem c3e(f:AVal→AVal)(z:List AVal):∀n,(c3g n z).map f=c3g n (z.map f)
 | 0=>rfl
 | n+1=>by rw[c3g,List.map_append,c3e f z n];rfl
theorem b4a:∀l:List Ty,(l.flatMap tyC).length=l.length*4
 | []=>rfl
 | t::l=>by rw[List.flatMap_cons,List.length_append,b4a l,h3k,List.length_cons];omega
theorem a7s{ys:List Ty}{n i:Nat}(h:ys.length=n)(hi:i≤n):(a4q ys n i).length=n*4:=by
 unfold a4q;rw[List.length_append,b4a,c3f,List.length_take];have:zC.length=4:=rfl;rw[this];omega
theorem g0l(t:Ty):(tyC t).map a2q=tyC t:=rfl
theorem d6j:∀l:List Ty,(l.flatMap tyC).map a2q=l.flatMap tyC
 | []=>rfl
 | t::l=>by rw[List.flatMap_cons,List.map_append,g0l,d6j l]
theorem b3e(ys:List Ty)(n i:Nat):(a4q ys n i).map a2q=a4q ys n i:=by
 unfold a4q;rw[List.map_append,d6j,c3e];rfl
theorem b6j(ys:List Ty)(n m:Nat):((c3g n zC).map (a3x m)).map a2q=a4q ys n 0:=by
 rw[c3e,c3e];rfl
theorem d0h:∀l:List Ty,(l.flatMap tyC).flatMap a1f=[]
 | []=>rfl
 | t::l=>by rw[List.flatMap_cons,List.flatMap_append,d0h l];rfl
theorem c9c:∀n,(c3g n zC).flatMap a1f=[]
 | 0=>rfl
 | n+1=>by rw[c3g,List.flatMap_append,c9c n];rfl
theorem a5t(ys:List Ty)(n i:Nat):(a4q ys n i).flatMap a1f=[]:=by
 unfold a4q;rw[List.flatMap_append,d0h,c9c];rfl
theorem b6i{ys:List Ty}{n i:Nat}(hl:ys.length=n){y:Ty}(hy:ys[i]? =some y):
 (a4q ys n i).take (i*4)++(.int .i64 y.kind:: .str y.name:: .int .i64 y.n:: .slice (a2i y.args)::(a4q ys n i).drop (i*4+4))=a4q ys n (i+1):=by
 have hi:i<n:=by have:=(List.getElem?_eq_some_iff.1 hy).1;omega
 unfold a4q;have h1:((ys.take i).flatMap tyC).length=i*4:=by rw[b4a,List.length_take];omega
 have h2:n - i=(n - (i+1))+1:=by omega
 have h3:zC.length=4:=rfl;rw[List.take_left' h1,a4c hy,List.flatMap_append,h2,c3g,←h1,List.drop_length_add_append,←h3,List.drop_left];simp only[List.flatMap_cons,List.flatMap_nil,List.append_nil,tyC,List.append_assoc,List.cons_append,List.nil_append]
theorem b6k{ys:List Ty}{n:Nat}(hl:ys.length=n):a4q ys n n=ys.flatMap tyC:=by
 unfold a4q;rw[List.take_of_length_le (by omega),Nat.sub_self];simp[c3g]
theorem b2e:∀l:List Ty,(l.flatMap tyC).map strip1=l.flatMap tyC
 | []=>rfl
 | t::l=>by rw[List.flatMap_cons,List.map_append,b2e l];rfl
theorem b5a:∀l:List Ty,(l.flatMap tyC).all c5g=true
 | []=>rfl
 | t::l=>by rw[List.flatMap_cons,List.all_append,b5a l];rfl
theorem b0t:∀(l:List Ty),b1j true 4 l.length (l.flatMap tyC)=a2i l
 | []=>by rw[a0f];rfl
 | t::l=>by
  rw[List.length_cons,b1j,List.flatMap_cons,a1c,a0a];have h4:(tyC t).length=4:=rfl;rw[List.take_left' h4,←h4,List.drop_left,h4,b0t l];rfl
theorem d4e(t:Ty)(ys:List Ty)(a b:List UInt8)(hl:ys.length=t.args.length)(hb:t.sz<1000000)
 (hc:∀(i:Nat) (x y:Ty),t.args[i]? =some x→ys[i]? =some y→den E 159 [tyV x,.ptr (.par 0) 0,.ptr (.par 1) 0] [[.str a],[.str b]]=some (tyV y,[[.str a],[.str b]])):
 den E 101 [tyV t,.func 159 [] [.ptr (.par 0) 0,.ptr (.par 1) 0]] [[.str a],[.str b]]=some (tyV (.mk t.kind t.name t.n ys),[[.str a],[.str b]]):=by
 rw[a0d c3k,c4c];have hal:=a4n t;have rl:=a1q t.args;have n0:=b4v t.args.length
 by_cases h0:t.args=[]
 · have hy:ys=[]:=List.eq_nil_of_length_eq_zero (by rw[hl,h0];rfl);subst hy;rw[a3q,a0a];rw[h0] at n0;simp only[go_sem,Tryz.f101,h0,a0f]
 · have h0':¬t.args.length=0:=fun e=>h0 (List.eq_nil_of_length_eq_zero e);rw[decide_eq_false h0'] at n0;rw[a3q,a0a];obtain⟨n,hn⟩:∃n,n=t.args.length:=⟨_,rfl⟩
   rw[←hn] at hl n0 rl;have l1:((n:Int)≤1073741824)=True:=by simp;omega
   have hz:∀m,List.map a2q (List.map (a3x m) (c3g n [.int .i64 0,.str [],.int .i64 0,.own 25 0 []]))=a4q ys n 0:=fun m=>b6j ys n m;obtain⟨fin,hfin⟩:∃fin,fin=(some (.agg [.int .i64 t.kind,.str t.name,.int .i64 t.n,.slice (a2i ys)],[[.str a],[.str b]]):Option (AVal×a2p)):=⟨_,rfl⟩
   try rw[←hn] at hfin
   try rw[←hn]
   rw[←hfin];simp only[go_sem,Tryz.f101,rl,n0,a0c,a0i,l1];refine a3m (fun i=>⟨[(1,.func 159 [] [.ptr (.par 0) 0,.ptr (.par 1) 0]),(2,.ptr (.loc 2) 0),(4,.ptr (.loc 4) 0),(5,.ptr (.loc 16) (a1w+n)),(18,.slice (a2i t.args)),(19,.int .i64 n),(20,.int .i64 i)],[[.str a],[.str b]],[(2,tyC t),(4,zC),(16,a4q ys n i)],1⟩) n ?_ ?_ ?_
   · simp only[go_sem,hz,a5t,tyC,zC]
   · intro i hi h;have hia:i<t.args.length:=by omega
     have hiy:i<ys.length:=by omega
     obtain⟨x,hx⟩:=a6v hia;obtain⟨y,hy⟩:=a6v hiy;have d:=hc i x y hx hy;have hxs:=a2w (List.mem_of_getElem? hx);have hsz:=a2s t;have w1:IntKind.i64.wrap ((i:Int)+1)=((i+1:Nat):Int):=a0z (i+1) (by omega);have i1:((i:Int)<(n:Int))=True:=by simp;omega
     have i2:(i*4<a1w)=True:=by rw[a7d];simp;omega
     have cl:(a4q ys n i).length=n*4:=a7s hl (by omega);have i3:(i*4+4≤n*4)=True:=by simp;omega
     have hput:=b6i hl hy;rw[a0a,a0a] at d;simp only[go_sem,a0c,a0i,a4g,hx,a0a,tyC,zC,d,i1,i2,cl,i3];refine h _ ?_;simp only[go_sem,w1,hput,b3e,a5t,tyC,zC]
   · have cl:(a4q ys n n).length=n*4:=a7s hl (Nat.le_refl _);have ce:=b6k hl;have ch:=b0t ys;rw[hl] at ch;rw[ce] at cl;simp only[go_sem,a0e,Nat.lt_irrefl,true_or,tyC,zC,ce,cl,b2e,b5a,ch,hfin]
theorem d4d(t:Ty)(ys:List Ty)(fr:List AVal)(ns:Nat→Int)(hl:ys.length=t.args.length)(hb:t.sz<1000000)
 (hc:∀(i:Nat) (x y:Ty),t.args[i]? =some x→ys[i]? =some y→den E 214 [tyV x,.ptr (.par 0) 0,.ptr (.par 1) 0] [[.slice fr],[.int .i64 (ns i)]]=some (tyV y,[[.slice fr],[.int .i64 (ns (i+1))]])):
 den E 101 [tyV t,.func 214 [] [.ptr (.par 0) 0,.ptr (.par 1) 0]] [[.slice fr],[.int .i64 (ns 0)]]=some (tyV (.mk t.kind t.name t.n ys),[[.slice fr],[.int .i64 (ns t.args.length)]]):=by
 rw[a0d c3k,c4c];have hal:=a4n t;have rl:=a1q t.args;have n0:=b4v t.args.length
 by_cases h0:t.args=[]
 · have hy:ys=[]:=List.eq_nil_of_length_eq_zero (by rw[hl,h0];rfl);subst hy;rw[a3q,a0a];rw[h0] at n0;simp only[go_sem,Tryz.f101,h0,a0f]
 · have h0':¬t.args.length=0:=fun e=>h0 (List.eq_nil_of_length_eq_zero e);rw[decide_eq_false h0'] at n0;rw[a3q,a0a];obtain⟨n,hn⟩:∃n,n=t.args.length:=⟨_,rfl⟩
   rw[←hn] at hl n0 rl;have l1:((n:Int)≤1073741824)=True:=by simp;omega
   have hz:∀m,List.map a2q (List.map (a3x m) (c3g n [.int .i64 0,.str [],.int .i64 0,.own 25 0 []]))=a4q ys n 0:=fun m=>b6j ys n m;obtain⟨fin,hfin⟩:∃fin,fin=(some (.agg [.int .i64 t.kind,.str t.name,.int .i64 t.n,.slice (a2i ys)],[[.slice fr],[.int .i64 (ns t.args.length)]]):Option (AVal×a2p)):=⟨_,rfl⟩
   try rw[←hn] at hfin
   try rw[←hn]
   rw[←hfin];simp only[go_sem,Tryz.f101,rl,n0,a0c,a0i,l1];refine a3m (fun i=>⟨[(1,.func 214 [] [.ptr (.par 0) 0,.ptr (.par 1) 0]),(2,.ptr (.loc 2) 0),(4,.ptr (.loc 4) 0),(5,.ptr (.loc 16) (a1w+n)),(18,.slice (a2i t.args)),(19,.int .i64 n),(20,.int .i64 i)],[[.slice fr],[.int .i64 (ns i)]],[(2,tyC t),(4,zC),(16,a4q ys n i)],1⟩) n ?_ ?_ ?_
   · simp only[go_sem,hz,a5t,tyC,zC]
   · intro i hi h;have hia:i<t.args.length:=by omega
     have hiy:i<ys.length:=by omega
     obtain⟨x,hx⟩:=a6v hia;obtain⟨y,hy⟩:=a6v hiy;have d:=hc i x y hx hy;have hxs:=a2w (List.mem_of_getElem? hx);have hsz:=a2s t;have w1:IntKind.i64.wrap ((i:Int)+1)=((i+1:Nat):Int):=a0z (i+1) (by omega);have i1:((i:Int)<(n:Int))=True:=by simp;omega
     have i2:(i*4<a1w)=True:=by rw[a7d];simp;omega
     have cl:(a4q ys n i).length=n*4:=a7s hl (by omega);have i3:(i*4+4≤n*4)=True:=by simp;omega
     have hput:=b6i hl hy;rw[a0a,a0a] at d;simp only[go_sem,a0c,a0i,a4g,hx,a0a,tyC,zC,d,i1,i2,cl,i3];refine h _ ?_;simp only[go_sem,w1,hput,b3e,a5t,tyC,zC]
   · have cl:(a4q ys n n).length=n*4:=a7s hl (Nat.le_refl _);have ce:=b6k hl;have ch:=b0t ys;rw[hl] at ch;rw[ce] at cl;simp only[go_sem,a0e,Nat.lt_irrefl,true_or,tyC,zC,ce,cl,b2e,b5a,ch,hfin]
theorem e0n{x y:Ty}{a b:List UInt8}(h:den E 100 [tyV x,.str a,.str b] []=some (tyV y,[])):
 den E 159 [tyV x,.ptr (.par 0) 0,.ptr (.par 1) 0] [[.str a],[.str b]]=some (tyV y,[[.str a],[.str b]]):=by
 rw[a0d g3z,h0u];rw[a0a,a0a] at h⊢;simp only[go_sem,Tryz.f159,h]
theorem b2c(t:Ty)(ys:List Ty)(a b:List UInt8)(hl:ys.length=t.args.length)(hb:t.sz<1000000)
 (hc:∀(i:Nat) (x y:Ty),t.args[i]? =some x→ys[i]? =some y→den E 100 [tyV x,.str a,.str b] []=some (tyV y,[]))
 (h1:(t.kind==1&&t.name==a)=false) (h2:(t.kind==5&&t.name==a)=false) (h3:(t.kind==5&&t.name==b)=false):
 den E 100 [tyV t,.str a,.str b] []=some (tyV (.mk t.kind t.name t.n ys),[]):=by
 have d:=d4e t ys a b hl hb fun i x y hx hy=>e0n (hc i x y hx hy);rw[a0d c3l,c4d];rw[a3q,a0a] at d⊢;cases k1:t.kind==1<;>cases k5:t.kind==5<;>cases na:t.name==a<;>cases nb:t.name==b<;>simp only[k1,k5,na,nb,Bool.and_true,Bool.and_false,Bool.true_eq_false] at h1 h2 h3<;>
 simp only[go_sem,Tryz.f100,k1,k5,na,nb,d]
theorem i0n(t:Ty)(a b:List UInt8)(h1:(t.kind==1)=true)(h2:(t.name==a)=true):den E 100 [tyV t,.str a,.str b] []=some (tyV (.mk t.kind b t.n t.args),[]):=by
 rw[a0d c3l,c4d,a3q,a0a];simp only[go_sem,Tryz.f100,h1,h2]
theorem g1i(t:Ty)(a b:List UInt8)(h0:(t.kind==1)=false)(h1:(t.kind==5)=true)(h2:(t.name==a)=true):den E 100 [tyV t,.str a,.str b] []=some (tyV t,[]):=by
 rw[a0d c3l,c4d,a0a];simp only[go_sem,Tryz.f100,h0,h1,h2]
theorem f2c(t x x' y:Ty)(a b c:List UInt8)(hx:t.args=[x])(h0:(t.kind==1)=false)(h1:(t.kind==5)=true)(h2:(t.name==a)=false)(h3:(t.name==b)=true)(hb:t.sz<300000)(hs:x'.sz=x.sz)
 (hd:den E 98 [.str b,.slice ((a0r x [] []++[a,b]).map .str)] []=some (.str c,[])) (r1:den E 100 [tyV x,.str b,.str c] []=some (tyV x',[])) (r2:den E 100 [tyV x',.str a,.str b] []=some (tyV y,[])):
 den E 100 [tyV t,.str a,.str b] []=some (tyV (.mk 5 c 0 [y]),[]):=by
 have hsz:=a2s t;rw[hx,a1l] at hsz;have d:=d4e (.mk 5 c 0 [x']) [y] a b rfl (by rw[a0y,a1l];omega) fun i u v hu hv=>e0n (by
  cases i with
  | zero=>simp[Ty.args] at hu hv;subst hu hv;exact r2
  | succ i=>simp[Ty.args] at hu)
 have df:=a6w x (by omega);have hle:=a3p _ x (Nat.le_refl _) [] [];have a1:(a0r x [] []).length+2≤a0l:=by unfold a0l;simp at hle;omega
 rw[a0d c3l,c4d];simp only[a3q,a1c,a0f,Ty.kind,Ty.name,Ty.n] at d;simp only[List.map_append,List.map_cons,List.map_nil] at hd;rw[a3q,a1c,a0f];rw[a0a] at r1 r2 d df⊢;rw[a0a y] at r2 d⊢;rw[a0a x'] at r1;rw[hx,a1c,a0f,a0a];simp only[go_sem,Tryz.f100,h0,h1,h2,h3,Int.le_refl,Int.toNat_zero,df,a1,List.length_map,hd,r1,d]
theorem g8h(b:List UInt8)(i:Nat)(h:i<1000000):b8c b i≠[]∧(b8c b i).length≤16:=by
 have:=b0a 5 i (by
  have e:(10:Nat) ^ (5+1)=1000000:=by decide
  omega)
 unfold b8c;refine⟨by simp,?_⟩;rw[List.length_append,List.length_append,List.length_take,List.length_singleton];omega
theorem c8s:∀ {l m:List Ty},m.length=l.length→(∀(i:Nat) (x y:Ty),l[i]? =some x→m[i]? =some y→y.sz=x.sz)→Ty.szs m=Ty.szs l
 | [],[],_,_=>rfl
 | a::l,b::m,h,hs=>by
  rw[a3o,a3o,hs 0 a b rfl rfl,c8s (by simpa using h) fun i x y hx hy=>hs (i+1) x y (by simpa using hx) (by simpa using hy)]
 | [],b::m,h,_=>by simp at h
 | a::l,[],h,_=>by simp at h
theorem c5z{α:Type}{l:List α}{y:α}(h:y∈l):∃i:Nat,l[i]? =some y:=List.mem_iff_getElem?.1 h
def a8j(i:Nat):List UInt8:=120::Lib.itoa (i:Int)
theorem f9h(i j:Nat)(h:a8j i=a8j j):i=j:=c3p i j (by unfold a8j at h;injection h)
theorem c7h(i:Nat)(h:i<1000000000):(a8j i).length≤16∧a8j i≠[]∧1+(Lib.itoa (i:Int)).length≤a1t:=by
 have:=b0a 8 i (by
  have e:(10:Nat) ^ (8+1)=1000000000:=by decide
  omega)
 unfold a8j a1t;exact⟨by simp;omega,by simp,by omega⟩
theorem e1k{x y:Ty}{fr:List AVal}{k k':Nat}(h:den E 151 [tyV x,.slice fr,.int .i64 k] []=some (.tup [tyV y,.int .i64 k'],[])):
 den E 214 [tyV x,.ptr (.par 0) 0,.ptr (.par 1) 0] [[.slice fr],[.int .i64 k]]=some (tyV y,[[.slice fr],[.int .i64 k']]):=by
 rw[a0d g2q,g9m];rw[a0a,a0a] at h⊢;simp only[go_sem,Tryz.f214,h]
theorem b8w(t:Ty)(ys:List Ty)(fr:List AVal)(ks:List Nat)(hl:ys.length=t.args.length)(hb:t.sz<1000000)(hk:(t.kind==5)=false)
 (hc:∀(i:Nat) (x y:Ty),t.args[i]? =some x→ys[i]? =some y→den E 151 [tyV x,.slice fr,.int .i64 (ks.getD i 0:Nat)] []=some (.tup [tyV y,.int .i64 (ks.getD (i+1) 0:Nat)],[])):
 den E 151 [tyV t,.slice fr,.int .i64 (ks.getD 0 0:Nat)] []=some (.tup [tyV (.mk t.kind t.name t.n ys),.int .i64 (ks.getD t.args.length 0:Nat)],[]):=by
 have d:=d4d t ys fr (fun i=>((ks.getD i 0:Nat):Int)) hl hb fun i x y hx hy=>e1k (hc i x y hx hy)
 try simp only at d
 generalize ks.getD t.args.length 0=k' at d⊢;generalize ks.getD 0 0=k0 at d⊢;rw[a0d e0z,e3i];rw[a3q,a0a] at d⊢;simp only[go_sem,Tryz.f151,hk,d]
theorem i2l(t x x' y:Ty)(fr:List (List UInt8))(k m k':Nat)(hx:t.args=[x])(hk:(t.kind==5)=true)(hf:fr.length<1000000)(hkm:k≤m)(hm:m<999999999)
 (h2:fr.contains (a8j m)=false) (h3:∀j,k≤j→j<m→fr.contains (a8j j)=true) (hs:x'.sz<300000)
 (r1:den E 100 [tyV x,.str t.name,.str (a8j m)] []=some (tyV x',[])) (r2:den E 151 [tyV x',.slice (fr.map .str),.int .i64 ((m+1:Nat):Int)] []=some (.tup [tyV y,.int .i64 k'],[])):
 den E 151 [tyV t,.slice (fr.map .str),.int .i64 k] []=some (.tup [tyV (.mk 5 (a8j m) 0 [y]),.int .i64 k'],[]):=by
 have d:=d4d (.mk 5 (a8j m) 0 [x']) [y] (fr.map .str) (fun j=>if j=0 then ((m+1:Nat):Int) else (k':Int)) rfl (by rw[a0y,a1l];omega) fun j u v hu hv=>by
  cases j with
  | zero=>simp[Ty.args] at hu hv;subst hu hv;exact e1k r2
  | succ j=>simp[Ty.args] at hu
 have e1:(Ty.mk 5 (a8j m) 0 [x']).args.length=1:=rfl;rw[e1] at d;simp only[if_true,Nat.one_ne_zero,if_false] at d;simp only[a3q,a1c,a0f,Ty.kind,Ty.name,Ty.n] at d;rw[a0d e0z,e3i];have d0:=a9h k (by omega);have m0:=(c7h k (by omega)).2.2;rw[a3q,a1c,a0f];rw[a0a] at r1 d⊢;rw[a0a y] at d⊢;rw[a0a x'] at r1;rw[hx,a1c,a0f,a0a];obtain⟨fin,hfin⟩:∃fin,fin=(some (.tup [.agg [.int .i64 5,.str (a8j m),.int .i64 0,.slice [.agg [.int .i64 y.kind,.str y.name,.int .i64 y.n,.slice (a2i y.args)]]],.int .i64 k'],[]):Option (AVal×a2p)):=⟨_,rfl⟩
 rw[←hfin];simp only[go_sem,Tryz.f151,hk,d0,m0];refine a0o (fun j:Nat=>k≤j∧j≤m) (fun j=>⟨[(3,.ptr (.loc 3) 0),(4,.ptr (.loc 4) 0),(5,.ptr (.loc 5) 0),(6,.ptr (.loc 6) 0),(8,.str (a8j j))],[],
  [(3,[.int .i64 t.kind,.str t.name,.int .i64 t.n,.slice [.agg [.int .i64 x.kind,.str x.name,.int .i64 x.n,.slice (a2i x.args)]]]),(4,[.slice (fr.map .str)]),(5,[.int .i64 (j:Int)]),(6,[.int .i64 0,.str [],.int .i64 0,.own 25 0 []])],1⟩)
  (fun _=>fin) (fun j=>m - j) k ⟨Nat.le_refl _,hkm⟩ ?_ ?_
 · simp only[go_sem,a8j]
 · intro j hj h;obtain⟨q,w1,hq⟩:∃q:Nat,IntKind.i64.wrap ((j:Int)+1)=(q:Int)∧q=j+1:=⟨j+1,a0z (j+1) (by omega),rfl⟩
   have dc:=a3l fr (a8j j) hf
   by_cases hlt:j<m
   · rw[h3 j hj.1 hlt] at dc;have d1:=a9h q (by omega);have m1:=(c7h q (by omega)).2.2;simp only[go_sem,dc,w1,d1,m1];refine h q _ ⟨by omega,by omega⟩ (by omega) ?_;simp only[go_sem,a8j]
   · have hje:j=m:=by omega
     subst hje;rw[h2] at dc;rw[←hq] at d;simp only[go_sem,dc,w1,Int.le_refl,Int.toNat_zero,r1,d,hfin]
def g5d(o:List (List UInt8)):List (List UInt8)→Nat→Int
 | [],_=> -1
 | x::r,i=>if !o.contains x then (i:Int) else g5d o r (i+1)
def e1h(l o:List (List UInt8)):List UInt8×Bool:=match l.find? fun n=> !o.contains n with
 | none=>([],false)
 | some n=>(n,true)
theorem d5g(o:List (List UInt8)):∀(l:List (List UInt8)) (i:Nat),(g5d o l i= -1∧l.find? (fun n=> !o.contains n)=none)∨∃k n,g5d o l i=((i+k:Nat):Int)∧l[k]? =some n∧l.find? (fun n=> !o.contains n)=some n
 | [],i=>.inl ⟨rfl,rfl⟩
 | x::r,i=>by
  unfold g5d;rw[List.find?_cons];cases h:o.contains x
  · exact .inr ⟨0,x,by simp,rfl,by simp⟩
  · simp only[Bool.not_true,Bool.false_eq_true,if_false];rcases d5g o r (i+1) with⟨h1,h2⟩| ⟨k,n,h1,h2,h3⟩
    · exact .inl ⟨h1,h2⟩
    · exact .inr ⟨k+1,n,by rw[h1];congr 1;omega,by simpa using h2,h3⟩
theorem f2u(o:List (List UInt8))(n:List UInt8)(ho:o.length<1000000):den E 205 [.str n,.ptr (.par 0) 0] [[.slice (o.map .str)]]=some (.bool (!o.contains n),[[.slice (o.map .str)]]):=by
 rw[a0d g2x,g9t];have h1:=a3l o n ho;simp only[go_sem,Tryz.f205,h1]
theorem g6h(l o:List (List UInt8))(hl:l.length<1000000)(ho:o.length<1000000):den E 204 [.slice (l.map .str),.func 205 [] [.ptr (.par 0) 0]] [[.slice (o.map .str)]]=some (.int .i64 (g5d o l 0),[[.slice (o.map .str)]]):=by
 rw[a0d g2y,g9u];simp only[go_sem,Tryz.f204,List.length_map];refine a0o (fun i:Nat=>i≤l.length) (fun i=>⟨[(0,.slice (l.map .str)),(1,.func 205 [] [.ptr (.par 0) 0]),(7,.int .i64 l.length),(8,.int .i64 i)],[[.slice (o.map .str)]],[],1⟩) (fun i=>some (.int .i64 (g5d o (l.drop i) i),[[.slice (o.map .str)]])) (fun i=>l.length - i) 0 (Nat.zero_le _) ?_ ?_
 · simp only[go_sem]
 · intro i hi h
   by_cases hlt:i<l.length
   · obtain⟨x,hx⟩:=a6v hlt;rw[a2a hx];have w1:IntKind.i64.wrap ((i:Int)+1)=((i+1:Nat):Int):=a0z (i+1) (by omega);have d:=f2u o x ho;cases hq:o.contains x
     · simp only[go_sem,a0e,decide_eq_true hlt,a0c,a0i,a4r,hx,hq,d,g5d]
     · simp only[go_sem,a0e,decide_eq_true hlt,a0c,a0i,a4r,hx,hq,d,g5d];refine h (i+1) _ (by omega) (by omega) ?_;simp only[go_sem,w1]
   · have hie:i=l.length:=by omega
     subst hie;rw[List.drop_length];simp only[go_sem,a0e,Nat.lt_irrefl,g5d]
theorem b7s(l o:List (List UInt8))(hl:l.length<1000000)(ho:o.length<1000000):den E 141 [.slice (l.map .str),.slice (o.map .str)] []=some (twV (e1h l o),[]):=by
 rw[a0d g4j,h1g];have h1:=g6h l o hl ho;rcases d5g o l 0 with⟨h2,h3⟩| ⟨k,n,h2,h3,h4⟩
 · rw[h2] at h1;have e:e1h l o=([],false):=by unfold e1h;rw[h3]
   rw[e];simp only[go_sem,Tryz.f141,h1,twV]
 · rw[h2] at h1;have e:e1h l o=(n,true):=by unfold e1h;rw[h4]
   rw[e];have h5:decide (((0+k:Nat):Int)<0)=false:=by simp
   simp only[Nat.zero_add] at h1 h5;simp only[go_sem,Tryz.f141,h1,h5,a0c,a0i,a4r,h3,twV]
end Go.Proofs
namespace Go.Proofs
open Go.Av
set_option maxHeartbeats 16000000
set_option maxRecDepth 100000
section
variable{α:Type}(ext:List (List UInt8)→List (List UInt8)→List (List UInt8))(fa:Ex→List (List UInt8)→α→α)(fb:Al→α→α)
mutual
def a5c:Ex→List (List UInt8)→α→α
 | .mk k s tl t ks al,b,acc=>
  if k==3 then a2c ks (ext b [s]) (fa (.mk k s tl t ks al) b acc)
  else if k==5 then b9v ks b s (fa (.mk k s tl t ks al) b acc)
  else a1m al b (a2c ks b (fa (.mk k s tl t ks al) b acc))
def a2c:List Ex→List (List UInt8)→α→α
 | [],_,acc=>acc
 | e::r,b,acc=>a2c r b (a5c e b acc)
def b9v:List Ex→List (List UInt8)→List UInt8→α→α
 | [],_,_,acc=>acc
 | e::r,b,s,acc=>a2c r (ext b [s]) (a5c e b acc)
def f0g:Al→List (List UInt8)→α→α
 | .mk c vs e,b,acc=>a5c e (ext b vs) (fb (.mk c vs e) acc)
def a1m:List Al→List (List UInt8)→α→α
 | [],_,acc=>acc
 | a::r,b,acc=>a1m r b (f0g a b acc)
end
end
section
variable{α:Type}{ext:List (List UInt8)→List (List UInt8)→List (List UInt8)}{fa:Ex→List (List UInt8)→α→α}{fb:Al→α→α}
theorem b8e(e:Ex)(b:List (List UInt8))(acc:α):a5c ext fa fb e b acc=if e.kind==3 then a2c ext fa fb e.kids (ext b [e.name]) (fa e b acc)
 else if e.kind==5 then b9v ext fa fb e.kids b e.name (fa e b acc)
 else a1m ext fa fb e.alts b (a2c ext fa fb e.kids b (fa e b acc)):=by
 cases e;simp only[a5c,Ex.kind,Ex.name,Ex.kids,Ex.alts];rfl
theorem b5n(a:Al)(b:List (List UInt8))(acc:α):f0g ext fa fb a b acc=a5c ext fa fb a.body (ext b a.vars) (fb a acc):=by
 cases a;simp only[f0g,Al.body,Al.vars]
theorem a3k(b:List (List UInt8))(acc:α):a2c ext fa fb [] b acc=acc:=by simp only[a2c]
theorem a3t(e:Ex)(r:List Ex)(b:List (List UInt8))(acc:α):a2c ext fa fb (e::r) b acc=a2c ext fa fb r b (a5c ext fa fb e b acc):=by simp only[a2c]
theorem a7n(b:List (List UInt8))(acc:α):a1m ext fa fb [] b acc=acc:=by simp only[a1m]
theorem b0j(e:Al)(r:List Al)(b:List (List UInt8))(acc:α):a1m ext fa fb (e::r) b acc=a1m ext fa fb r b (f0g ext fa fb e b acc):=by simp only[a1m]
theorem a8y(e:Ex)(r:List Ex)(b:List (List UInt8))(s:List UInt8)(acc:α):b9v ext fa fb (e::r) b s acc=a2c ext fa fb r (ext b [s]) (a5c ext fa fb e b acc):=by simp only[b9v]
theorem d7o(b:List (List UInt8))(s:List UInt8)(acc:α):b9v ext fa fb [] b s acc=acc:=by simp only[b9v]
theorem b2n(l:List Ex)(x:Ex)(b:List (List UInt8))(acc:α):a2c ext fa fb (l++[x]) b acc=a5c ext fa fb x b (a2c ext fa fb l b acc):=by
 induction l generalizing acc with
 | nil=>rw[List.nil_append,a3t,a3k,a3k]
 | cons e r ih=>rw[List.cons_append,a3t,a3t,ih]
theorem b2o(l:List Al)(x:Al)(b:List (List UInt8))(acc:α):a1m ext fa fb (l++[x]) b acc=f0g ext fa fb x b (a1m ext fa fb l b acc):=by
 induction l generalizing acc with
 | nil=>rw[List.nil_append,b0j,a7n,a7n]
 | cons e r ih=>rw[List.cons_append,b0j,b0j,ih]
theorem a5m(e:Ex)(r:List Ex):Ex.tots (e::r)=e.tot+Ex.tots r:=by simp[Ex.tots]
theorem b3k(a:Al)(r:List Al):Al.tots (a::r)=a.tot+Al.tots r:=by simp[Al.tots]
theorem b6q(a:Al):a.tot=a.body.tot+a.vars.length+1:=by cases a;simp[Al.tot,Al.body,Al.vars]
theorem b3n(e:Ex):1≤e.ty.sz:=by rw[a2s];omega
theorem b2m(m:α→Nat)(h1:∀e b acc,m (fa e b acc)≤m acc+1)(h2:∀a acc,m (fb a acc)≤m acc+a.vars.length+1):∀(n:Nat) (e:Ex),e.tot≤n→∀b acc,m (a5c ext fa fb e b acc)≤m acc+e.tot:=by
 intro n
 induction n with
 | zero=>intro e he;have:=a9p e;have:=b3n e;omega
 | succ n ih=>
  have hks:∀(l:List Ex) b acc,Ex.tots l≤n→m (a2c ext fa fb l b acc)≤m acc+Ex.tots l:=by
   intro l
   induction l with
   | nil=>intro b acc _;rw[a3k];omega
   | cons e r ihr=>
    intro b acc hl;rw[a5m] at hl⊢;rw[a3t];have:=ih e (by omega) b acc;have:=ihr b (a5c ext fa fb e b acc) (by omega);omega
  have hal:∀(l:List Al) b acc,Al.tots l≤n→m (a1m ext fa fb l b acc)≤m acc+Al.tots l:=by
   intro l
   induction l with
   | nil=>intro b acc _;rw[a7n];omega
   | cons e r ihr=>
    intro b acc hl;rw[b3k,b6q] at hl⊢;rw[b0j,b5n];have:=h2 e acc;have:=ih e.body (by omega) (ext b e.vars) (fb e acc);have:=ihr b (a5c ext fa fb e.body (ext b e.vars) (fb e acc)) (by omega);omega
  intro e he b acc;have ht:=a9p e;have hp:=b3n e;have h0:=h1 e b acc;rw[b8e];split
  · have:=hks e.kids (ext b [e.name]) (fa e b acc) (by omega);omega
  · split
    · cases hk:e.kids with
      | nil=>rw[d7o];omega
      | cons x r=>
       rw[hk,a5m] at ht;rw[a8y];have:=ih x (by omega) b (fa e b acc);have:=hks r (ext b [e.name]) (a5c ext fa fb x b (fa e b acc)) (by omega);omega
    · have:=hks e.kids b (fa e b acc) (by omega);have:=hal e.alts b (a2c ext fa fb e.kids b (fa e b acc)) (by omega);omega
end
inductive SX:Ex→Prop
 | mk (e:Ex):(e.kind=1→e.kids=[]∧e.alts=[])→(e.kind=3→(∃x,e.kids=[x])∧e.alts=[])→(e.kind=5→(∃x y,e.kids=[x,y])∧e.alts=[])→(∀x∈e.kids,SX x)→(∀a∈e.alts,SX a.body)→SX e
theorem SX.nam{e:Ex}(h:SX e)(hk:(e.kind==1)=true):e.kids=[]∧e.alts=[]:=by cases h with|mk _ h _ _ _ _=>exact h (by simpa using hk)
theorem SX.lam{e:Ex}(h:SX e)(hk:(e.kind==3)=true):∃x,e.kids=[x]:=by cases h with|mk _ _ h _ _ _=>exact (h (by simpa using hk)).1
theorem SX.lett{e:Ex}(h:SX e)(hk:(e.kind==5)=true):∃x y,e.kids=[x,y]:=by cases h with|mk _ _ _ h _ _=>exact (h (by simpa using hk)).1
theorem SX.kid{e x:Ex}(h:SX e)(hx:x∈e.kids):SX x:=by cases h with|mk _ _ _ _ h _=>exact h x hx
theorem SX.alt{e:Ex}{a:Al}(h:SX e)(hx:a∈e.alts):SX a.body:=by cases h with|mk _ _ _ _ _ h=>exact h a hx
theorem c2w{l:List Ex}{i:Nat}{x:Ex}(h:l[i]? =some x):Ex.tots (l.take i)+x.tot≤Ex.tots l:=by
 induction l generalizing i with
 | nil=>simp at h
 | cons e r ih=>
  cases i with
  | zero=>simp at h;subst h;simp[Ex.tots]
  | succ i=>
   rw[List.take_succ_cons,a5m,a5m];have:=ih (i:=i) (by simpa using h);omega
theorem b6p{l:List Al}{i:Nat}{x:Al}(h:l[i]? =some x):Al.tots (l.take i)+x.tot≤Al.tots l:=by
 induction l generalizing i with
 | nil=>simp at h
 | cons e r ih=>
  cases i with
  | zero=>simp at h;subst h;simp[Al.tots]
  | succ i=>
   rw[List.take_succ_cons,b3k,b3k];have:=ih (i:=i) (by simpa using h);omega
theorem a6y{α:Type}{l:List α}{i:Nat}{x:α}(h:l[i]? =some x):l.take (i+1)=l.take i++[x]:=by rw[List.take_add_one,h];rfl
theorem a8z{α:Type}{ext:List (List UInt8)→List (List UInt8)→List (List UInt8)}{fa:Ex→List (List UInt8)→α→α}{fb:Al→α→α}(m:α→Nat)(h1:∀e b acc,m (fa e b acc)≤m acc+1)(h2:∀a acc,m (fb a acc)≤m acc+a.vars.length+1):
 ∀(l:List Ex) b acc,m (a2c ext fa fb l b acc)≤m acc+Ex.tots l:=by
 intro l
 induction l with
 | nil=>intro b acc;rw[a3k];omega
 | cons e r ih=>
  intro b acc;rw[a3t,a5m];have:=b2m (ext:=ext) m h1 h2 _ e (Nat.le_refl _) b acc;have:=ih b (a5c ext fa fb e b acc);omega
theorem b8f{α:Type}{ext:List (List UInt8)→List (List UInt8)→List (List UInt8)}{fa:Ex→List (List UInt8)→α→α}{fb:Al→α→α}(m:α→Nat)(h1:∀e b acc,m (fa e b acc)≤m acc+1)(h2:∀a acc,m (fb a acc)≤m acc+a.vars.length+1):
 ∀(l:List Al) b acc,m (a1m ext fa fb l b acc)≤m acc+Al.tots l:=by
 intro l
 induction l with
 | nil=>intro b acc;rw[a7n];omega
 | cons e r ih=>
  intro b acc;rw[b0j,b3k,b6q,b5n];have:=h2 e acc;have:=b2m (ext:=ext) m h1 h2 _ e.body (Nat.le_refl _) (ext b e.vars) (fb e acc);have:=ih b (a5c ext fa fb e.body (ext b e.vars) (fb e acc));omega
end Go.Proofs
namespace Go.Proofs
open Go.Av
set_option maxHeartbeats 16000000
set_option maxRecDepth 100000
theorem c3o(e:Ex):e.kids.length+1≤e.tot:=by have:=b2p e.kids;have:=a9p e;have:=b3n e;omega
theorem d7i(l:List (List UInt8))(n:List UInt8):(b2k l n).length≤l.length+1:=by
 unfold b2k;split
 · omega
 · simp
theorem d9l:∀(ns l:List (List UInt8)),(ns.foldl b2k l).length≤l.length+ns.length
 | [],l=>by simp
 | n::r,l=>by
  rw[List.foldl_cons,List.length_cons];have:=d9l r (b2k l n);have:=d7i l n;omega
def faF(e:Ex)(b acc:List (List UInt8)):List (List UInt8):=if e.kind==1&& !b.contains e.name then b2k acc e.name else acc
def fbF(_:Al)(acc:List (List UInt8)):List (List UInt8):=acc
def faC(e:Ex)(_ acc:List (List UInt8)):List (List UInt8):=if e.kind==2 then b2k acc e.name else acc
def fbC(a:Al)(acc:List (List UInt8)):List (List UInt8):=b2k acc a.con
def faB(e:Ex)(_ acc:List (List UInt8)):List (List UInt8):=if e.kind==3||e.kind==5 then b2k acc e.name else acc
def fbB(a:Al)(acc:List (List UInt8)):List (List UInt8):=a.vars.foldl b2k acc
def faT(_:Ex)(_:List (List UInt8))(acc:Bool×List UInt8):Bool×List UInt8:=acc
def fbT(a:Al)(acc:Bool×List UInt8):Bool×List UInt8:=if (twR a.vars [] a.vars 0).2&& !acc.1 then (true,(twR a.vars [] a.vars 0).1) else acc
theorem d0m(e:Ex)(b acc:List (List UInt8)):(faF e b acc).length≤acc.length+1:=by
 unfold faF;split
 · exact d7i _ _
 · omega
theorem d0j(a:Al)(acc:List (List UInt8)):(fbF a acc).length≤acc.length+a.vars.length+1:=by unfold fbF;omega
theorem d0n(e:Ex)(b acc:List (List UInt8)):(faC e b acc).length≤acc.length+1:=by
 unfold faC;split
 · exact d7i _ _
 · omega
theorem d0k(a:Al)(acc:List (List UInt8)):(fbC a acc).length≤acc.length+a.vars.length+1:=by unfold fbC;have:=d7i acc a.con;omega
theorem d0o(e:Ex)(b acc:List (List UInt8)):(faB e b acc).length≤acc.length+1:=by
 unfold faB;split
 · exact d7i _ _
 · omega
theorem d0l(a:Al)(acc:List (List UInt8)):(fbB a acc).length≤acc.length+a.vars.length+1:=by unfold fbB;have:=d9l a.vars acc;omega
theorem e2q(e:Ex)(b:List (List UInt8))(acc:Bool×List UInt8):(fun _:Bool×List UInt8=>0) (faT e b acc)≤(fun _:Bool×List UInt8=>0) acc+1:=Nat.zero_le _
theorem d6l(a:Al)(acc:Bool×List UInt8):(fun _:Bool×List UInt8=>0) (fbT a acc)≤(fun _:Bool×List UInt8=>0) acc+a.vars.length+1:=Nat.zero_le _
theorem i3r(e:Ex)(b acc:List (List UInt8))(h:acc.length<1000000):den E 240 [.agg (exC e),.pmap (a4o b),.ptr (.par 0) 0] [[.own 9 0 (acc.map .str),a9q 0 acc]]=some (.tup [],[[.own 9 0 ((faF e b acc).map .str),a9q 0 (faF e b acc)]]):=by
 rw[a0d g2b,g8y,a0h];have d:=c7u acc e.name h;have hf:=b5b e.name b;unfold f1r at d;unfold faF;cases h1:e.kind==1
 · simp only[go_sem,Tryz.f240,h1,↓a1a,↓a0v]
 · cases h2:b.contains e.name
   · rw[h2] at hf;simp only[go_sem,Tryz.f240,h1,hf,d,↓a1s,↓a7b,↓a4f,a5q,a3u,↓a1a,↓a0v]
   · rw[h2] at hf;simp only[go_sem,Tryz.f240,h1,hf,↓a1a,↓a0v]
theorem i3m(a:Al)(acc:List (List UInt8))(_:acc.length+a.vars.length<1000000):den E 241 [alV a] []=some (.tup [],[]):=by
 rw[a0d g2a,g8x,b0w,a0h];simp only[go_sem,Tryz.f241]
theorem i3s(e:Ex)(b acc:List (List UInt8))(h:acc.length<1000000):den E 242 [.agg (exC e),.pmap (a4o b),.ptr (.par 0) 0] [[.own 9 0 (acc.map .str),a9q 0 acc]]=some (.tup [],[[.own 9 0 ((faC e b acc).map .str),a9q 0 (faC e b acc)]]):=by
 rw[a0d g1z,g8w,a0h];have d:=c7u acc e.name h;unfold f1r at d;unfold faC;cases h1:e.kind==2
 · simp only[go_sem,Tryz.f242,h1,↓a1a,↓a0v]
 · simp only[go_sem,Tryz.f242,h1,d,↓a1s,↓a7b,↓a4f,a5q,a3u,↓a1a,↓a0v]
theorem i3n(a:Al)(acc:List (List UInt8))(h:acc.length+a.vars.length<1000000):den E 243 [alV a,.ptr (.par 0) 0] [[.own 9 0 (acc.map .str),a9q 0 acc]]=some (.tup [],[[.own 9 0 ((fbC a acc).map .str),a9q 0 (fbC a acc)]]):=by
 rw[a0d g1y,g8v,b0w,a0h];have d:=c7u acc a.con (by omega);unfold f1r at d;unfold fbC;simp only[go_sem,Tryz.f243,d,↓a1s,↓a7b,↓a4f,a5q,a3u,↓a1a,↓a0v]
theorem i3t(e:Ex)(b acc:List (List UInt8))(h:acc.length<1000000):den E 236 [.agg (exC e),.pmap (a4o b),.ptr (.par 0) 0] [[.own 9 0 (acc.map .str),a9q 0 acc]]=some (.tup [],[[.own 9 0 ((faB e b acc).map .str),a9q 0 (faB e b acc)]]):=by
 rw[a0d g2f,g9c,a0h];have d:=c7u acc e.name h;unfold f1r at d;unfold faB;cases h1:e.kind==3
 · cases h2:e.kind==5
   · simp only[go_sem,Tryz.f236,h1,h2,↓a1a,↓a0v]
   · simp only[go_sem,Tryz.f236,h1,h2,d,↓a1s,↓a7b,↓a4f,a5q,a3u,↓a1a,↓a0v]
 · simp only[go_sem,Tryz.f236,h1,d,↓a1s,↓a7b,↓a4f,a5q,a3u,↓a1a,↓a0v]
theorem i3o(a:Al)(acc:List (List UInt8))(h:acc.length+a.vars.length<1000000):den E 238 [alV a,.ptr (.par 0) 0] [[.own 9 0 (acc.map .str),a9q 0 acc]]=some (.tup [],[[.own 9 0 ((fbB a acc).map .str),a9q 0 (fbB a acc)]]):=by
 rw[a0d g2d,g9a,b0w,a0h];unfold fbB;simp only[go_sem,Tryz.f238,List.length_map];refine a0o (fun i:Nat=>i≤a.vars.length) (fun i=>⟨[(1,.ptr (.par 0) 0),(6,.slice (a.vars.map .str)),(7,.int .i64 a.vars.length),(8,.int .i64 i)],[[.own 9 0 (((a.vars.take i).foldl b2k acc).map .str),a9q 0 ((a.vars.take i).foldl b2k acc)]],[],1⟩)
  (fun _=>some (.tup [],[[.own 9 0 ((a.vars.foldl b2k acc).map .str),a9q 0 (a.vars.foldl b2k acc)]])) (fun i=>a.vars.length - i) 0 (Nat.zero_le _) ?_ ?_
 · simp only[go_sem,List.take_zero,List.foldl_nil,↓a1a,↓a0v]
 · intro i hi hr
   by_cases hlt:i<a.vars.length
   · obtain⟨x,hx⟩:=a6v hlt;have w1:IntKind.i64.wrap ((i:Int)+1)=((i+1:Nat):Int):=a0z (i+1) (by omega);have hle:=d9l (a.vars.take i) acc;rw[List.length_take] at hle;have d:=c7u ((a.vars.take i).foldl b2k acc) x (by omega);have e2:b2k ((a.vars.take i).foldl b2k acc) x=(a.vars.take (i+1)).foldl b2k acc:=by rw[a6y hx,List.foldl_append];rfl
     rw[e2] at d;unfold f1r at d;generalize (a.vars.take i).foldl b2k acc=a1 at *;simp only[go_sem,a0e,decide_eq_true hlt,a0c,a0i,a4r,hx,d,↓a1s,↓a7b,↓a4f,a5q,a3u,↓a0v];refine hr (i+1) _ (by omega) (by omega) ?_;simp only[go_sem,w1,↓a1a,↓a0v]
   · have hie:i=a.vars.length:=by omega
     subst hie;rw[List.take_length];simp only[go_sem,a0e,Nat.lt_irrefl,↓a1a,↓a0v]
theorem i3q(e:Ex)(b:List (List UInt8))(_acc:Bool×List UInt8)(_:0<1000000):den E 208 [.agg (exC e),.pmap (a4o b)] []=some (.tup [],[]):=by
 rw[a0d g2v,g9r,a0h];simp only[go_sem,Tryz.f208]
theorem i3l(a:Al)(acc:Bool×List UInt8)(h:a.vars.length<1000000):den E 209 [alV a,.ptr (.par 0) 0,.ptr (.par 1) 0] [[.bool acc.1],[.str acc.2]]=some (.tup [],[[.bool (fbT a acc).1],[.str (fbT a acc).2]]):=by
 rw[a0d g2u,g9q,b0w,a0h];have d:=b1y a.vars [] h (by simp);simp only[List.map_nil,twV] at d;unfold fbT;cases h1:(twR a.vars [] a.vars 0).2
 · rw[h1] at d;simp only[go_sem,Tryz.f209,d]
 · rw[h1] at d;cases h2:acc.1
   · simp only[go_sem,Tryz.f209,d]
   · simp only[go_sem,Tryz.f209,d,h2]
theorem f0d:∀(n:Nat) (e:Ex),e.tot≤n→SX e→∀(b:List (List UInt8)) (acc:List (List UInt8)),(acc).length+e.tot<1000000→den E 207 [.agg (exC e),.pmap (a4o b),.func 240 [] [.ptr (.par 0) 0],.func 241 [] []] [[.own 9 0 ((acc).map .str),a9q 0 (acc)]]=some (.tup [],[[.own 9 0 ((a5c a0p faF fbF e b acc).map .str),a9q 0 (a5c a0p faF fbF e b acc)]]):=by
 intro n
 induction n with
 | zero=>intro e he;exfalso;have:=a9p e;have:=b3n e;omega
 | succ n ih=>
 intro e he hs b acc hm;have ht:=a9p e;have hp:=b3n e;have d0:=i3r e b acc (by omega);obtain⟨a0,ha0⟩:∃a0,a0=faF e b acc:=⟨_,rfl⟩
 have m0:(a0).length≤(acc).length+1:=ha0▸d0m e b acc;rw[a0h] at d0;rw[a0d c3i,c4a,a0h,b8e,←ha0];rw[←ha0] at d0;cases h3:e.kind==3
 · cases h5:e.kind==5
   · simp only[Bool.false_eq_true,if_false];simp only[go_sem,Tryz.f207,d0,h3,h5,↓a1s,↓a7b,↓a4f,a5q,a3u,↓a0v,a3i];refine a0o (fun i:Nat=>i≤e.kids.length) (fun i=>⟨[(1,.pmap (a4o b)),(2,.func 240 [] [.ptr (.par 0) 0]),(3,.func 241 [] []),(4,.ptr (.loc 4) 0),(55,.slice (a7z e.kids)),(56,.int .i64 e.kids.length),(57,.int .i64 i)],[[.own 9 0 ((a2c a0p faF fbF (e.kids.take i) b a0).map .str),a9q 0 (a2c a0p faF fbF (e.kids.take i) b a0)]],[(4,[.int .i64 e.kind,.str e.name,.bool e.told,.int .i64 e.ty.kind,.str e.ty.name,.int .i64 e.ty.n,.slice (a2i e.ty.args),.slice (a7z e.kids),.slice (b3t e.alts)])],1⟩)
      (fun _=>some (.tup [],[[.own 9 0 ((a1m a0p faF fbF e.alts b (a2c a0p faF fbF e.kids b a0)).map .str),a9q 0 (a1m a0p faF fbF e.alts b (a2c a0p faF fbF e.kids b a0))]])) (fun i=>e.kids.length - i) 0 (Nat.zero_le _) ?_ ?_
     · simp only[go_sem,List.take_zero,a3k,↓a1a,↓a0v]
     · intro i hi h
       by_cases hlt:i<e.kids.length
       · obtain⟨x,hx⟩:=a6v hlt;have w1:IntKind.i64.wrap ((i:Int)+1)=((i+1:Nat):Int):=a0z (i+1) (by have:=c3o e;omega);have hts:=a6y hx;have hg:=c2w hx;have hle:(a2c a0p faF fbF (e.kids.take i) b a0).length≤(a0).length+Ex.tots (e.kids.take i):=a8z (ext:=a0p) (fa:=faF) (fb:=fbF) List.length d0m d0j (e.kids.take i) b a0;have d:=ih x (by have:=a5k (List.mem_of_getElem? hx);omega) (hs.kid (List.mem_of_getElem? hx)) b (a2c a0p faF fbF (e.kids.take i) b a0) (by omega);rw[←b2n,←hts] at d;rw[a0h] at d;generalize a2c a0p faF fbF (e.kids.take i) b a0=a1 at *;simp only[go_sem,a0e,decide_eq_true hlt,a0c,a0i,a5w,hx,a0h,d,↓a1s,↓a7b,↓a4f,a5q,a3u,↓a0v];refine h (i+1) _ (by omega) (by omega) ?_;simp only[go_sem,w1,↓a1a,↓a0v]
       · have hie:i=e.kids.length:=by omega
         subst hie;rw[List.take_length];have hle:(a2c a0p faF fbF e.kids b a0).length≤(a0).length+Ex.tots e.kids:=a8z (ext:=a0p) (fa:=faF) (fb:=fbF) List.length d0m d0j e.kids b a0;generalize a2c a0p faF fbF e.kids b a0=a1 at *;clear h d0;simp only[go_sem,a0e,Nat.lt_irrefl,b1m];refine a0o (fun i:Nat=>i≤e.alts.length) (fun i=>⟨[(1,.pmap (a4o b)),(2,.func 240 [] [.ptr (.par 0) 0]),(3,.func 241 [] []),(68,.slice (b3t e.alts)),(69,.int .i64 e.alts.length),(70,.int .i64 i)],[[.own 9 0 ((a1m a0p faF fbF (e.alts.take i) b a1).map .str),a9q 0 (a1m a0p faF fbF (e.alts.take i) b a1)]],[],1⟩)
          (fun _=>some (.tup [],[[.own 9 0 ((a1m a0p faF fbF e.alts b a1).map .str),a9q 0 (a1m a0p faF fbF e.alts b a1)]])) (fun i=>e.alts.length - i) 0 (Nat.zero_le _) ?_ ?_
         · simp only[go_sem,List.take_zero,a7n,↓a1a,↓a0v]
         · intro i hi h
           by_cases hlt:i<e.alts.length
           · obtain⟨x,hx⟩:=a6v hlt;have w1:IntKind.i64.wrap ((i:Int)+1)=((i+1:Nat):Int):=a0z (i+1) (by have:=d3u e;omega);have hts:=a6y hx;have hg:=b6p hx;rw[b6q] at hg;have hle2:(a1m a0p faF fbF (e.alts.take i) b a1).length≤(a1).length+Al.tots (e.alts.take i):=b8f (ext:=a0p) (fa:=faF) (fb:=fbF) List.length d0m d0j (e.alts.take i) b a1;have hb:(fbF x (a1m a0p faF fbF (e.alts.take i) b a1)).length≤(a1m a0p faF fbF (e.alts.take i) b a1).length+x.vars.length+1:=d0j x (a1m a0p faF fbF (e.alts.take i) b a1);have db:=i3m x (a1m a0p faF fbF (e.alts.take i) b a1) (by omega);have dw:=a7f b x.vars (by omega);have d:=ih x.body (by have:=c4e (List.mem_of_getElem? hx);omega) (hs.alt (List.mem_of_getElem? hx)) (a0p b x.vars) (fbF x (a1m a0p faF fbF (e.alts.take i) b a1)) (by omega);have e2:=b2o (ext:=a0p) (fa:=faF) (fb:=fbF) (e.alts.take i) x b a1;rw[b5n,←hts] at e2;rw[←e2] at d;clear e2;rw[a0h] at d;rw[b0w,a0h] at db
             skip
             rw[show fbF x (a1m a0p faF fbF (e.alts.take i) b a1)=a1m a0p faF fbF (e.alts.take i) b a1 from rfl] at d;generalize a1m a0p faF fbF (e.alts.take i) b a1=a2 at *;simp only[go_sem,a0e,decide_eq_true hlt,a0c,a0i,b3m,hx,b0w,a0h,db,dw,d,↓a1s,↓a7b,↓a4f,a5q,a3u,↓a0v];refine h (i+1) _ (by omega) (by omega) ?_;simp only[go_sem,w1,↓a1a,↓a0v]
           · have hie:i=e.alts.length:=by omega
             subst hie;rw[List.take_length];simp only[go_sem,a0e,Nat.lt_irrefl,↓a1a,↓a0v]
   · obtain⟨x,y,hk⟩:=hs.lett h5;have hx:=a5k (e:=e) (x:=x) (by rw[hk];simp);have hy:=a5k (e:=e) (x:=y) (by rw[hk];simp);have hxy:x.tot+y.tot+1≤e.tot:=by rw[ht,hk,a5m,a5m];omega
     have hl:(a5c a0p faF fbF x b a0).length≤(a0).length+x.tot:=b2m (ext:=a0p) (fa:=faF) (fb:=fbF) List.length d0m d0j _ x (Nat.le_refl _) b a0;have d1:=ih x (by omega) (hs.kid (by rw[hk];simp)) b a0 (by omega);have d2:=ih y (by omega) (hs.kid (by rw[hk];simp)) (a0p b [e.name]) (a5c a0p faF fbF x b a0) (by omega);have dw:=a7f b [e.name] (by simp);simp only[List.map_cons,List.map_nil] at dw;rw[a0h] at d1 d2;rw[hk,a0u,a0u,a0t,a0h,a0h] at d0;simp only[Bool.false_eq_true,if_false,if_true];rw[hk,a8y,a3t,a3k];generalize a5c a0p faF fbF x b a0=a1 at *;simp only[go_sem,Tryz.f207,d0,h3,h5,d1,d2,dw,a0u,a0t,a0h,Int.le_refl,Int.toNat_zero,Int.toNat_one,Int.zero_le_ofNat,↓a1s,↓a7b,↓a4f,a5q,a3u,↓a1a,↓a0v]
 · obtain⟨x,hk⟩:=hs.lam h3;have hx:=a5k (e:=e) (x:=x) (by rw[hk];simp);have d:=ih x (by omega) (hs.kid (by rw[hk];simp)) (a0p b [e.name]) a0 (by omega);have dw:=a7f b [e.name] (by simp);simp only[List.map_cons,List.map_nil] at dw;rw[a0h] at d;rw[hk,a0u,a0t,a0h] at d0;simp only[if_true];rw[hk,a3t,a3k];simp only[go_sem,Tryz.f207,d0,h3,d,dw,a0u,a0t,a0h,Int.le_refl,Int.toNat_zero,↓a1s,↓a7b,↓a4f,a5q,a3u,↓a1a,↓a0v]
theorem f0e:∀(n:Nat) (e:Ex),e.tot≤n→SX e→∀(b:List (List UInt8)) (acc:List (List UInt8)),(acc).length+e.tot<1000000→den E 207 [.agg (exC e),.pmap (a4o b),.func 242 [] [.ptr (.par 0) 0],.func 243 [] [.ptr (.par 0) 0]] [[.own 9 0 ((acc).map .str),a9q 0 (acc)]]=some (.tup [],[[.own 9 0 ((a5c a0p faC fbC e b acc).map .str),a9q 0 (a5c a0p faC fbC e b acc)]]):=by
 intro n
 induction n with
 | zero=>intro e he;exfalso;have:=a9p e;have:=b3n e;omega
 | succ n ih=>
 intro e he hs b acc hm;have ht:=a9p e;have hp:=b3n e;have d0:=i3s e b acc (by omega);obtain⟨a0,ha0⟩:∃a0,a0=faC e b acc:=⟨_,rfl⟩
 have m0:(a0).length≤(acc).length+1:=ha0▸d0n e b acc;rw[a0h] at d0;rw[a0d c3i,c4a,a0h,b8e,←ha0];rw[←ha0] at d0;cases h3:e.kind==3
 · cases h5:e.kind==5
   · simp only[Bool.false_eq_true,if_false];simp only[go_sem,Tryz.f207,d0,h3,h5,↓a1s,↓a7b,↓a4f,a5q,a3u,↓a0v,a3i];refine a0o (fun i:Nat=>i≤e.kids.length) (fun i=>⟨[(1,.pmap (a4o b)),(2,.func 242 [] [.ptr (.par 0) 0]),(3,.func 243 [] [.ptr (.par 0) 0]),(4,.ptr (.loc 4) 0),(55,.slice (a7z e.kids)),(56,.int .i64 e.kids.length),(57,.int .i64 i)],[[.own 9 0 ((a2c a0p faC fbC (e.kids.take i) b a0).map .str),a9q 0 (a2c a0p faC fbC (e.kids.take i) b a0)]],[(4,[.int .i64 e.kind,.str e.name,.bool e.told,.int .i64 e.ty.kind,.str e.ty.name,.int .i64 e.ty.n,.slice (a2i e.ty.args),.slice (a7z e.kids),.slice (b3t e.alts)])],1⟩)
      (fun _=>some (.tup [],[[.own 9 0 ((a1m a0p faC fbC e.alts b (a2c a0p faC fbC e.kids b a0)).map .str),a9q 0 (a1m a0p faC fbC e.alts b (a2c a0p faC fbC e.kids b a0))]])) (fun i=>e.kids.length - i) 0 (Nat.zero_le _) ?_ ?_
     · simp only[go_sem,List.take_zero,a3k,↓a1a,↓a0v]
     · intro i hi h
       by_cases hlt:i<e.kids.length
       · obtain⟨x,hx⟩:=a6v hlt;have w1:IntKind.i64.wrap ((i:Int)+1)=((i+1:Nat):Int):=a0z (i+1) (by have:=c3o e;omega);have hts:=a6y hx;have hg:=c2w hx;have hle:(a2c a0p faC fbC (e.kids.take i) b a0).length≤(a0).length+Ex.tots (e.kids.take i):=a8z (ext:=a0p) (fa:=faC) (fb:=fbC) List.length d0n d0k (e.kids.take i) b a0;have d:=ih x (by have:=a5k (List.mem_of_getElem? hx);omega) (hs.kid (List.mem_of_getElem? hx)) b (a2c a0p faC fbC (e.kids.take i) b a0) (by omega);rw[←b2n,←hts] at d;rw[a0h] at d;generalize a2c a0p faC fbC (e.kids.take i) b a0=a1 at *;simp only[go_sem,a0e,decide_eq_true hlt,a0c,a0i,a5w,hx,a0h,d,↓a1s,↓a7b,↓a4f,a5q,a3u,↓a0v];refine h (i+1) _ (by omega) (by omega) ?_;simp only[go_sem,w1,↓a1a,↓a0v]
       · have hie:i=e.kids.length:=by omega
         subst hie;rw[List.take_length];have hle:(a2c a0p faC fbC e.kids b a0).length≤(a0).length+Ex.tots e.kids:=a8z (ext:=a0p) (fa:=faC) (fb:=fbC) List.length d0n d0k e.kids b a0;generalize a2c a0p faC fbC e.kids b a0=a1 at *;clear h d0;simp only[go_sem,a0e,Nat.lt_irrefl,b1m];refine a0o (fun i:Nat=>i≤e.alts.length) (fun i=>⟨[(1,.pmap (a4o b)),(2,.func 242 [] [.ptr (.par 0) 0]),(3,.func 243 [] [.ptr (.par 0) 0]),(68,.slice (b3t e.alts)),(69,.int .i64 e.alts.length),(70,.int .i64 i)],[[.own 9 0 ((a1m a0p faC fbC (e.alts.take i) b a1).map .str),a9q 0 (a1m a0p faC fbC (e.alts.take i) b a1)]],[],1⟩)
          (fun _=>some (.tup [],[[.own 9 0 ((a1m a0p faC fbC e.alts b a1).map .str),a9q 0 (a1m a0p faC fbC e.alts b a1)]])) (fun i=>e.alts.length - i) 0 (Nat.zero_le _) ?_ ?_
         · simp only[go_sem,List.take_zero,a7n,↓a1a,↓a0v]
         · intro i hi h
           by_cases hlt:i<e.alts.length
           · obtain⟨x,hx⟩:=a6v hlt;have w1:IntKind.i64.wrap ((i:Int)+1)=((i+1:Nat):Int):=a0z (i+1) (by have:=d3u e;omega);have hts:=a6y hx;have hg:=b6p hx;rw[b6q] at hg;have hle2:(a1m a0p faC fbC (e.alts.take i) b a1).length≤(a1).length+Al.tots (e.alts.take i):=b8f (ext:=a0p) (fa:=faC) (fb:=fbC) List.length d0n d0k (e.alts.take i) b a1;have hb:(fbC x (a1m a0p faC fbC (e.alts.take i) b a1)).length≤(a1m a0p faC fbC (e.alts.take i) b a1).length+x.vars.length+1:=d0k x (a1m a0p faC fbC (e.alts.take i) b a1);have db:=i3n x (a1m a0p faC fbC (e.alts.take i) b a1) (by omega);have dw:=a7f b x.vars (by omega);have d:=ih x.body (by have:=c4e (List.mem_of_getElem? hx);omega) (hs.alt (List.mem_of_getElem? hx)) (a0p b x.vars) (fbC x (a1m a0p faC fbC (e.alts.take i) b a1)) (by omega);have e2:=b2o (ext:=a0p) (fa:=faC) (fb:=fbC) (e.alts.take i) x b a1;rw[b5n,←hts] at e2;rw[←e2] at d;clear e2;rw[a0h] at d;rw[b0w,a0h] at db
             skip
             generalize fbC x (a1m a0p faC fbC (e.alts.take i) b a1)=a3 at *;generalize a1m a0p faC fbC (e.alts.take i) b a1=a2 at *;simp only[go_sem,a0e,decide_eq_true hlt,a0c,a0i,b3m,hx,b0w,a0h,db,dw,d,↓a1s,↓a7b,↓a4f,a5q,a3u,↓a0v];refine h (i+1) _ (by omega) (by omega) ?_;simp only[go_sem,w1,↓a1a,↓a0v]
           · have hie:i=e.alts.length:=by omega
             subst hie;rw[List.take_length];simp only[go_sem,a0e,Nat.lt_irrefl,↓a1a,↓a0v]
   · obtain⟨x,y,hk⟩:=hs.lett h5;have hx:=a5k (e:=e) (x:=x) (by rw[hk];simp);have hy:=a5k (e:=e) (x:=y) (by rw[hk];simp);have hxy:x.tot+y.tot+1≤e.tot:=by rw[ht,hk,a5m,a5m];omega
     have hl:(a5c a0p faC fbC x b a0).length≤(a0).length+x.tot:=b2m (ext:=a0p) (fa:=faC) (fb:=fbC) List.length d0n d0k _ x (Nat.le_refl _) b a0;have d1:=ih x (by omega) (hs.kid (by rw[hk];simp)) b a0 (by omega);have d2:=ih y (by omega) (hs.kid (by rw[hk];simp)) (a0p b [e.name]) (a5c a0p faC fbC x b a0) (by omega);have dw:=a7f b [e.name] (by simp);simp only[List.map_cons,List.map_nil] at dw;rw[a0h] at d1 d2;rw[hk,a0u,a0u,a0t,a0h,a0h] at d0;simp only[Bool.false_eq_true,if_false,if_true];rw[hk,a8y,a3t,a3k];generalize a5c a0p faC fbC x b a0=a1 at *;simp only[go_sem,Tryz.f207,d0,h3,h5,d1,d2,dw,a0u,a0t,a0h,Int.le_refl,Int.toNat_zero,Int.toNat_one,Int.zero_le_ofNat,↓a1s,↓a7b,↓a4f,a5q,a3u,↓a1a,↓a0v]
 · obtain⟨x,hk⟩:=hs.lam h3;have hx:=a5k (e:=e) (x:=x) (by rw[hk];simp);have d:=ih x (by omega) (hs.kid (by rw[hk];simp)) (a0p b [e.name]) a0 (by omega);have dw:=a7f b [e.name] (by simp);simp only[List.map_cons,List.map_nil] at dw;rw[a0h] at d;rw[hk,a0u,a0t,a0h] at d0;simp only[if_true];rw[hk,a3t,a3k];simp only[go_sem,Tryz.f207,d0,h3,d,dw,a0u,a0t,a0h,Int.le_refl,Int.toNat_zero,↓a1s,↓a7b,↓a4f,a5q,a3u,↓a1a,↓a0v]
theorem f0f:∀(n:Nat) (e:Ex),e.tot≤n→SX e→∀(b:List (List UInt8)) (acc:List (List UInt8)),(acc).length+e.tot<1000000→den E 207 [.agg (exC e),.pmap (a4o b),.func 236 [] [.ptr (.par 0) 0],.func 238 [] [.ptr (.par 0) 0]] [[.own 9 0 ((acc).map .str),a9q 0 (acc)]]=some (.tup [],[[.own 9 0 ((a5c a0p faB fbB e b acc).map .str),a9q 0 (a5c a0p faB fbB e b acc)]]):=by
 intro n
 induction n with
 | zero=>intro e he;exfalso;have:=a9p e;have:=b3n e;omega
 | succ n ih=>
 intro e he hs b acc hm;have ht:=a9p e;have hp:=b3n e;have d0:=i3t e b acc (by omega);obtain⟨a0,ha0⟩:∃a0,a0=faB e b acc:=⟨_,rfl⟩
 have m0:(a0).length≤(acc).length+1:=ha0▸d0o e b acc;rw[a0h] at d0;rw[a0d c3i,c4a,a0h,b8e,←ha0];rw[←ha0] at d0;cases h3:e.kind==3
 · cases h5:e.kind==5
   · simp only[Bool.false_eq_true,if_false];simp only[go_sem,Tryz.f207,d0,h3,h5,↓a1s,↓a7b,↓a4f,a5q,a3u,↓a0v,a3i];refine a0o (fun i:Nat=>i≤e.kids.length) (fun i=>⟨[(1,.pmap (a4o b)),(2,.func 236 [] [.ptr (.par 0) 0]),(3,.func 238 [] [.ptr (.par 0) 0]),(4,.ptr (.loc 4) 0),(55,.slice (a7z e.kids)),(56,.int .i64 e.kids.length),(57,.int .i64 i)],[[.own 9 0 ((a2c a0p faB fbB (e.kids.take i) b a0).map .str),a9q 0 (a2c a0p faB fbB (e.kids.take i) b a0)]],[(4,[.int .i64 e.kind,.str e.name,.bool e.told,.int .i64 e.ty.kind,.str e.ty.name,.int .i64 e.ty.n,.slice (a2i e.ty.args),.slice (a7z e.kids),.slice (b3t e.alts)])],1⟩)
      (fun _=>some (.tup [],[[.own 9 0 ((a1m a0p faB fbB e.alts b (a2c a0p faB fbB e.kids b a0)).map .str),a9q 0 (a1m a0p faB fbB e.alts b (a2c a0p faB fbB e.kids b a0))]])) (fun i=>e.kids.length - i) 0 (Nat.zero_le _) ?_ ?_
     · simp only[go_sem,List.take_zero,a3k,↓a1a,↓a0v]
     · intro i hi h
       by_cases hlt:i<e.kids.length
       · obtain⟨x,hx⟩:=a6v hlt;have w1:IntKind.i64.wrap ((i:Int)+1)=((i+1:Nat):Int):=a0z (i+1) (by have:=c3o e;omega);have hts:=a6y hx;have hg:=c2w hx;have hle:(a2c a0p faB fbB (e.kids.take i) b a0).length≤(a0).length+Ex.tots (e.kids.take i):=a8z (ext:=a0p) (fa:=faB) (fb:=fbB) List.length d0o d0l (e.kids.take i) b a0;have d:=ih x (by have:=a5k (List.mem_of_getElem? hx);omega) (hs.kid (List.mem_of_getElem? hx)) b (a2c a0p faB fbB (e.kids.take i) b a0) (by omega);rw[←b2n,←hts] at d;rw[a0h] at d;generalize a2c a0p faB fbB (e.kids.take i) b a0=a1 at *;simp only[go_sem,a0e,decide_eq_true hlt,a0c,a0i,a5w,hx,a0h,d,↓a1s,↓a7b,↓a4f,a5q,a3u,↓a0v];refine h (i+1) _ (by omega) (by omega) ?_;simp only[go_sem,w1,↓a1a,↓a0v]
       · have hie:i=e.kids.length:=by omega
         subst hie;rw[List.take_length];have hle:(a2c a0p faB fbB e.kids b a0).length≤(a0).length+Ex.tots e.kids:=a8z (ext:=a0p) (fa:=faB) (fb:=fbB) List.length d0o d0l e.kids b a0;generalize a2c a0p faB fbB e.kids b a0=a1 at *;clear h d0;simp only[go_sem,a0e,Nat.lt_irrefl,b1m];refine a0o (fun i:Nat=>i≤e.alts.length) (fun i=>⟨[(1,.pmap (a4o b)),(2,.func 236 [] [.ptr (.par 0) 0]),(3,.func 238 [] [.ptr (.par 0) 0]),(68,.slice (b3t e.alts)),(69,.int .i64 e.alts.length),(70,.int .i64 i)],[[.own 9 0 ((a1m a0p faB fbB (e.alts.take i) b a1).map .str),a9q 0 (a1m a0p faB fbB (e.alts.take i) b a1)]],[],1⟩)
          (fun _=>some (.tup [],[[.own 9 0 ((a1m a0p faB fbB e.alts b a1).map .str),a9q 0 (a1m a0p faB fbB e.alts b a1)]])) (fun i=>e.alts.length - i) 0 (Nat.zero_le _) ?_ ?_
         · simp only[go_sem,List.take_zero,a7n,↓a1a,↓a0v]
         · intro i hi h
           by_cases hlt:i<e.alts.length
           · obtain⟨x,hx⟩:=a6v hlt;have w1:IntKind.i64.wrap ((i:Int)+1)=((i+1:Nat):Int):=a0z (i+1) (by have:=d3u e;omega);have hts:=a6y hx;have hg:=b6p hx;rw[b6q] at hg;have hle2:(a1m a0p faB fbB (e.alts.take i) b a1).length≤(a1).length+Al.tots (e.alts.take i):=b8f (ext:=a0p) (fa:=faB) (fb:=fbB) List.length d0o d0l (e.alts.take i) b a1;have hb:(fbB x (a1m a0p faB fbB (e.alts.take i) b a1)).length≤(a1m a0p faB fbB (e.alts.take i) b a1).length+x.vars.length+1:=d0l x (a1m a0p faB fbB (e.alts.take i) b a1);have db:=i3o x (a1m a0p faB fbB (e.alts.take i) b a1) (by omega);have dw:=a7f b x.vars (by omega);have d:=ih x.body (by have:=c4e (List.mem_of_getElem? hx);omega) (hs.alt (List.mem_of_getElem? hx)) (a0p b x.vars) (fbB x (a1m a0p faB fbB (e.alts.take i) b a1)) (by omega);have e2:=b2o (ext:=a0p) (fa:=faB) (fb:=fbB) (e.alts.take i) x b a1;rw[b5n,←hts] at e2;rw[←e2] at d;clear e2;rw[a0h] at d;rw[b0w,a0h] at db
             skip
             generalize fbB x (a1m a0p faB fbB (e.alts.take i) b a1)=a3 at *;generalize a1m a0p faB fbB (e.alts.take i) b a1=a2 at *;simp only[go_sem,a0e,decide_eq_true hlt,a0c,a0i,b3m,hx,b0w,a0h,db,dw,d,↓a1s,↓a7b,↓a4f,a5q,a3u,↓a0v];refine h (i+1) _ (by omega) (by omega) ?_;simp only[go_sem,w1,↓a1a,↓a0v]
           · have hie:i=e.alts.length:=by omega
             subst hie;rw[List.take_length];simp only[go_sem,a0e,Nat.lt_irrefl,↓a1a,↓a0v]
   · obtain⟨x,y,hk⟩:=hs.lett h5;have hx:=a5k (e:=e) (x:=x) (by rw[hk];simp);have hy:=a5k (e:=e) (x:=y) (by rw[hk];simp);have hxy:x.tot+y.tot+1≤e.tot:=by rw[ht,hk,a5m,a5m];omega
     have hl:(a5c a0p faB fbB x b a0).length≤(a0).length+x.tot:=b2m (ext:=a0p) (fa:=faB) (fb:=fbB) List.length d0o d0l _ x (Nat.le_refl _) b a0;have d1:=ih x (by omega) (hs.kid (by rw[hk];simp)) b a0 (by omega);have d2:=ih y (by omega) (hs.kid (by rw[hk];simp)) (a0p b [e.name]) (a5c a0p faB fbB x b a0) (by omega);have dw:=a7f b [e.name] (by simp);simp only[List.map_cons,List.map_nil] at dw;rw[a0h] at d1 d2;rw[hk,a0u,a0u,a0t,a0h,a0h] at d0;simp only[Bool.false_eq_true,if_false,if_true];rw[hk,a8y,a3t,a3k];generalize a5c a0p faB fbB x b a0=a1 at *;simp only[go_sem,Tryz.f207,d0,h3,h5,d1,d2,dw,a0u,a0t,a0h,Int.le_refl,Int.toNat_zero,Int.toNat_one,Int.zero_le_ofNat,↓a1s,↓a7b,↓a4f,a5q,a3u,↓a1a,↓a0v]
 · obtain⟨x,hk⟩:=hs.lam h3;have hx:=a5k (e:=e) (x:=x) (by rw[hk];simp);have d:=ih x (by omega) (hs.kid (by rw[hk];simp)) (a0p b [e.name]) a0 (by omega);have dw:=a7f b [e.name] (by simp);simp only[List.map_cons,List.map_nil] at dw;rw[a0h] at d;rw[hk,a0u,a0t,a0h] at d0;simp only[if_true];rw[hk,a3t,a3k];simp only[go_sem,Tryz.f207,d0,h3,d,dw,a0u,a0t,a0h,Int.le_refl,Int.toNat_zero,↓a1s,↓a7b,↓a4f,a5q,a3u,↓a1a,↓a0v]
theorem f0c:∀(n:Nat) (e:Ex),e.tot≤n→SX e→∀(b:List (List UInt8)) (acc:Bool×List UInt8),0+e.tot<1000000→den E 207 [.agg (exC e),.pmap (a4o b),.func 208 [] [],.func 209 [] [.ptr (.par 0) 0,.ptr (.par 1) 0]] [[.bool (acc).1],[.str (acc).2]]=some (.tup [],[[.bool (a5c a0p faT fbT e b acc).1],[.str (a5c a0p faT fbT e b acc).2]]):=by
 intro n
 induction n with
 | zero=>intro e he;exfalso;have:=a9p e;have:=b3n e;omega
 | succ n ih=>
 intro e he hs b acc hm;have ht:=a9p e;have hp:=b3n e;have d0:=i3q e b acc (by omega);obtain⟨a0,ha0⟩:∃a0,a0=faT e b acc:=⟨_,rfl⟩
 have m0:0≤0+1:=Nat.zero_le _;rw[a0h] at d0;rw[a0d c3i,c4a,a0h,b8e,←ha0];have ha1:a0=acc:=ha0;subst ha1;cases h3:e.kind==3
 · cases h5:e.kind==5
   · simp only[Bool.false_eq_true,if_false];simp only[go_sem,Tryz.f207,d0,h3,h5,a3i];refine a0o (fun i:Nat=>i≤e.kids.length) (fun i=>⟨[(1,.pmap (a4o b)),(2,.func 208 [] []),(3,.func 209 [] [.ptr (.par 0) 0,.ptr (.par 1) 0]),(4,.ptr (.loc 4) 0),(55,.slice (a7z e.kids)),(56,.int .i64 e.kids.length),(57,.int .i64 i)],[[.bool (a2c a0p faT fbT (e.kids.take i) b a0).1],[.str (a2c a0p faT fbT (e.kids.take i) b a0).2]],[(4,[.int .i64 e.kind,.str e.name,.bool e.told,.int .i64 e.ty.kind,.str e.ty.name,.int .i64 e.ty.n,.slice (a2i e.ty.args),.slice (a7z e.kids),.slice (b3t e.alts)])],1⟩)
      (fun _=>some (.tup [],[[.bool (a1m a0p faT fbT e.alts b (a2c a0p faT fbT e.kids b a0)).1],[.str (a1m a0p faT fbT e.alts b (a2c a0p faT fbT e.kids b a0)).2]])) (fun i=>e.kids.length - i) 0 (Nat.zero_le _) ?_ ?_
     · simp only[go_sem,List.take_zero,a3k]
     · intro i hi h
       by_cases hlt:i<e.kids.length
       · obtain⟨x,hx⟩:=a6v hlt;have w1:IntKind.i64.wrap ((i:Int)+1)=((i+1:Nat):Int):=a0z (i+1) (by have:=c3o e;omega);have hts:=a6y hx;have hg:=c2w hx;have hle:0≤0+Ex.tots (e.kids.take i):=a8z (ext:=a0p) (fa:=faT) (fb:=fbT) (fun _:Bool×List UInt8=>0) e2q d6l (e.kids.take i) b a0;have d:=ih x (by have:=a5k (List.mem_of_getElem? hx);omega) (hs.kid (List.mem_of_getElem? hx)) b (a2c a0p faT fbT (e.kids.take i) b a0) (by omega);rw[←b2n,←hts] at d;rw[a0h] at d;generalize a2c a0p faT fbT (e.kids.take i) b a0=a1 at *;simp only[go_sem,a0e,decide_eq_true hlt,a0c,a0i,a5w,hx,a0h,d];refine h (i+1) _ (by omega) (by omega) ?_;simp only[go_sem,w1]
       · have hie:i=e.kids.length:=by omega
         subst hie;rw[List.take_length];have hle:0≤0+Ex.tots e.kids:=a8z (ext:=a0p) (fa:=faT) (fb:=fbT) (fun _:Bool×List UInt8=>0) e2q d6l e.kids b a0;generalize a2c a0p faT fbT e.kids b a0=a1 at *;clear h d0;simp only[go_sem,a0e,Nat.lt_irrefl,b1m];refine a0o (fun i:Nat=>i≤e.alts.length) (fun i=>⟨[(1,.pmap (a4o b)),(2,.func 208 [] []),(3,.func 209 [] [.ptr (.par 0) 0,.ptr (.par 1) 0]),(68,.slice (b3t e.alts)),(69,.int .i64 e.alts.length),(70,.int .i64 i)],[[.bool (a1m a0p faT fbT (e.alts.take i) b a1).1],[.str (a1m a0p faT fbT (e.alts.take i) b a1).2]],[],1⟩)
          (fun _=>some (.tup [],[[.bool (a1m a0p faT fbT e.alts b a1).1],[.str (a1m a0p faT fbT e.alts b a1).2]])) (fun i=>e.alts.length - i) 0 (Nat.zero_le _) ?_ ?_
         · simp only[go_sem,List.take_zero,a7n]
         · intro i hi h
           by_cases hlt:i<e.alts.length
           · obtain⟨x,hx⟩:=a6v hlt;have w1:IntKind.i64.wrap ((i:Int)+1)=((i+1:Nat):Int):=a0z (i+1) (by have:=d3u e;omega);have hts:=a6y hx;have hg:=b6p hx;rw[b6q] at hg;have hle2:0≤0+Al.tots (e.alts.take i):=b8f (ext:=a0p) (fa:=faT) (fb:=fbT) (fun _:Bool×List UInt8=>0) e2q d6l (e.alts.take i) b a1;have hb:0≤0+x.vars.length+1:=d6l x (a1m a0p faT fbT (e.alts.take i) b a1);have db:=i3l x (a1m a0p faT fbT (e.alts.take i) b a1) (by omega);have dw:=a7f b x.vars (by omega);have d:=ih x.body (by have:=c4e (List.mem_of_getElem? hx);omega) (hs.alt (List.mem_of_getElem? hx)) (a0p b x.vars) (fbT x (a1m a0p faT fbT (e.alts.take i) b a1)) (by omega);have e2:=b2o (ext:=a0p) (fa:=faT) (fb:=fbT) (e.alts.take i) x b a1;rw[b5n,←hts] at e2;rw[←e2] at d;clear e2;rw[a0h] at d;rw[b0w,a0h] at db
             skip
             generalize fbT x (a1m a0p faT fbT (e.alts.take i) b a1)=a3 at *;generalize a1m a0p faT fbT (e.alts.take i) b a1=a2 at *;simp only[go_sem,a0e,decide_eq_true hlt,a0c,a0i,b3m,hx,b0w,a0h,db,dw,d];refine h (i+1) _ (by omega) (by omega) ?_;simp only[go_sem,w1]
           · have hie:i=e.alts.length:=by omega
             subst hie;rw[List.take_length];simp only[go_sem,a0e,Nat.lt_irrefl]
   · obtain⟨x,y,hk⟩:=hs.lett h5;have hx:=a5k (e:=e) (x:=x) (by rw[hk];simp);have hy:=a5k (e:=e) (x:=y) (by rw[hk];simp);have hxy:x.tot+y.tot+1≤e.tot:=by rw[ht,hk,a5m,a5m];omega
     have hl:0≤0+x.tot:=b2m (ext:=a0p) (fa:=faT) (fb:=fbT) (fun _:Bool×List UInt8=>0) e2q d6l _ x (Nat.le_refl _) b a0;have d1:=ih x (by omega) (hs.kid (by rw[hk];simp)) b a0 (by omega);have d2:=ih y (by omega) (hs.kid (by rw[hk];simp)) (a0p b [e.name]) (a5c a0p faT fbT x b a0) (by omega);have dw:=a7f b [e.name] (by simp);simp only[List.map_cons,List.map_nil] at dw;rw[a0h] at d1 d2;rw[hk,a0u,a0u,a0t,a0h,a0h] at d0;simp only[Bool.false_eq_true,if_false,if_true];rw[hk,a8y,a3t,a3k];generalize a5c a0p faT fbT x b a0=a1 at *;simp only[go_sem,Tryz.f207,d0,h3,h5,d1,d2,dw,a0u,a0t,a0h,Int.le_refl,Int.toNat_zero,Int.toNat_one,Int.zero_le_ofNat]
 · obtain⟨x,hk⟩:=hs.lam h3;have hx:=a5k (e:=e) (x:=x) (by rw[hk];simp);have d:=ih x (by omega) (hs.kid (by rw[hk];simp)) (a0p b [e.name]) a0 (by omega);have dw:=a7f b [e.name] (by simp);simp only[List.map_cons,List.map_nil] at dw;rw[a0h] at d;rw[hk,a0u,a0t,a0h] at d0;simp only[if_true];rw[hk,a3t,a3k];simp only[go_sem,Tryz.f207,d0,h3,d,dw,a0u,a0t,a0h,Int.le_refl,Int.toNat_zero]
def d6e(e:Ex):List (List UInt8):=a5c a0p faF fbF e [] []
def d6y(e:Ex):List (List UInt8):=a5c a0p faC fbC e [] []
def b3s(e:Ex):List (List UInt8):=a5c a0p faB fbB e [] []
theorem i3j(e:Ex):(d6e e).length≤e.tot:=by
 have:=b2m (ext:=a0p) List.length d0m d0j _ e (Nat.le_refl _) [] [];unfold d6e;simpa using this
theorem i4f(e:Ex):(d6y e).length≤e.tot:=by
 have:=b2m (ext:=a0p) List.length d0n d0k _ e (Nat.le_refl _) [] [];unfold d6y;simpa using this
theorem g8p(e:Ex):(b3s e).length≤e.tot:=by
 have:=b2m (ext:=a0p) List.length d0o d0l _ e (Nat.le_refl _) [] [];unfold b3s;simpa using this
theorem g6v(e:Ex)(hs:SX e)(ht:e.tot<1000000):den E 210 [.agg (exC e)] []=some (.slice ((d6e e).map .str),[]):=by
 have d:=f0d _ e (Nat.le_refl _) hs [] [] (by simpa using ht);rw[a0d g2t,g9p];rw[a0h] at d⊢;rw[show a4o []=[] from rfl] at d;simp only[List.map_nil,d2u] at d;unfold d6e;generalize a5c a0p faF fbF e [] []=r at *;simp only[go_sem,Tryz.f210,d,↓a1s,↓a4f,a5q,a3u]
theorem g8d(e:Ex)(hs:SX e)(ht:e.tot<1000000):den E 211 [.agg (exC e)] []=some (.slice ((d6y e).map .str),[]):=by
 have d:=f0e _ e (Nat.le_refl _) hs [] [] (by simpa using ht);rw[a0d g2s,g9o];rw[a0h] at d⊢;rw[show a4o []=[] from rfl] at d;simp only[List.map_nil,d2u] at d;unfold d6y;generalize a5c a0p faC fbC e [] []=r at *;simp only[go_sem,Tryz.f211,d,↓a1s,↓a4f,a5q,a3u]
theorem f9n(e:Ex)(hs:SX e)(ht:e.tot<1000000):den E 206 [.agg (exC e)] []=some (.slice ((b3s e).map .str),[]):=by
 have d:=f0f _ e (Nat.le_refl _) hs [] [] (by simpa using ht);rw[a0d g2w,g9s];rw[a0h] at d⊢;rw[show a4o []=[] from rfl] at d;simp only[List.map_nil,d2u] at d;unfold b3s;generalize a5c a0p faB fbB e [] []=r at *;simp only[go_sem,Tryz.f206,d,↓a1s,↓a4f,a5q,a3u]
structure Tab where
 data:List (List UInt8)
 cons:List (List UInt8)
 sigs:List (List UInt8)
 binds:List (List UInt8)
def Tab.len(T:Tab):Nat:=T.data.length+T.cons.length+T.sigs.length+T.binds.length
def h2h(T:Tab):List AVal:=[.own 9 0 (T.data.map .str),.own 9 0 (T.cons.map .str),.own 9 0 (T.sigs.map .str),.own 9 0 (T.binds.map .str)]
def j0n(T:Tab)(e:Ex):List UInt8×Int:=
 if (a5c a0p faT fbT e [] (false,[])).1 then ((a5c a0p faT fbT e [] (false,[])).2,90)
 else if (e1h (d6e e) T.binds).2 then ((e1h (d6e e) T.binds).1,91)
 else if (e1h (d6y e) T.cons).2 then ((e1h (d6y e) T.cons).1,91)
 else ([],0)
def e9n(T:Tab)(e:Ex):List (List UInt8)→List UInt8×Int
 | []=>j0n T e
 | x::r=>if T.binds.contains x then (x,90) else e9n T e r
def f9t(T:Tab)(e:Ex):List UInt8×Int:=e9n T e (b3s e)
def seV(p:List UInt8×Int):AVal:=.tup [.str p.1,.int .i64 p.2]
theorem d9f(T:Tab)(e:Ex)(hs:SX e)(ht:e.tot<1000000)(hT:T.len<1000000):den E 142 [.ptr (.par 0) 0,.agg (exC e)] [h2h T]=some (seV (f9t T e),[h2h T]):=by
 unfold Tab.len at hT;have d1:=f9n e hs ht;have d2:=f0c _ e (Nat.le_refl _) hs [] (false,[]) (by simpa using ht);have d3:=g6v e hs ht;have d4:=g8d e hs ht;have hb:=g8p e;have d5:=b7s (d6e e) T.binds (by have:=i3j e;omega) (by omega);have d6:=b7s (d6y e) T.cons (by have:=i4f e;omega) (by omega);rw[a0d g4i,h1f];rw[a0h] at d1 d2 d3 d4⊢;rw[show a4o []=[] from rfl] at d2;unfold h2h f9t;simp only[twV] at d5 d6;simp only[go_sem,Tryz.f142,d1,List.length_map];refine a0o (fun i:Nat=>i≤(b3s e).length) (fun i=>⟨[(0,.ptr (.par 0) 0),(3,.ptr (.loc 3) 0),(15,.slice ((b3s e).map .str)),(16,.int .i64 (b3s e).length),(17,.int .i64 i)],[[.own 9 0 (T.data.map .str),.own 9 0 (T.cons.map .str),.own 9 0 (T.sigs.map .str),.own 9 0 (T.binds.map .str)]],[(3,[.int .i64 e.kind,.str e.name,.bool e.told,.int .i64 e.ty.kind,.str e.ty.name,.int .i64 e.ty.n,.slice (a2i e.ty.args),.slice (a7z e.kids),.slice (b3t e.alts)])],1⟩)
  (fun i=>some (seV (e9n T e ((b3s e).drop i)),[[.own 9 0 (T.data.map .str),.own 9 0 (T.cons.map .str),.own 9 0 (T.sigs.map .str),.own 9 0 (T.binds.map .str)]])) (fun i=>(b3s e).length - i) 0 (Nat.zero_le _) ?_ ?_
 · simp only[go_sem]
 · intro i hi h
   by_cases hlt:i<(b3s e).length
   · obtain⟨x,hx⟩:=a6v hlt;rw[a2a hx];have w1:IntKind.i64.wrap ((i:Int)+1)=((i+1:Nat):Int):=a0z (i+1) (by omega);have d:=a3l T.binds x (by omega);cases hq:T.binds.contains x
     · rw[hq] at d;simp only[go_sem,a0e,decide_eq_true hlt,a0c,a0i,a4r,hx,d,hq,e9n];refine h (i+1) _ (by omega) (by omega) ?_;simp only[go_sem,w1]
     · rw[hq] at d;simp only[go_sem,a0e,decide_eq_true hlt,a0c,a0i,a4r,hx,d,hq,e9n,seV]
   · have hie:i=(b3s e).length:=by omega
     subst hie;rw[List.drop_length];unfold e9n j0n seV;generalize a5c a0p faT fbT e [] (false,[])=t at *;generalize e1h (d6e e) T.binds=p at *;generalize e1h (d6y e) T.cons=q at *;cases h1:t.1
     · rw[h1] at d2;cases h2:p.2
       · rw[h2] at d5;cases h3:q.2
         · rw[h3] at d6;simp only[go_sem,a0e,Nat.lt_irrefl,d2,d3,d4,d5,d6]
         · rw[h3] at d6;simp only[go_sem,a0e,Nat.lt_irrefl,d2,d3,d4,d5,d6]
       · rw[h2] at d5;simp only[go_sem,a0e,Nat.lt_irrefl,d2,d3,d5]
     · rw[h1] at d2;simp only[go_sem,a0e,Nat.lt_irrefl,d2]
def f9x:List UInt8:=[65,110,121]
def b5f(T:Tab)(d:De):(List UInt8×Bool)×Tab:=
 if d.kind==2 then (twR [d.name] T.sigs [d.name] 0,{T with sigs:=T.sigs++[d.name]})
 else if d.kind==3 then (twR [d.name] T.binds [d.name] 0,{T with binds:=T.binds++[d.name]})
 else if (twR [d.name] (T.data++[f9x]) [d.name] 0).2 then (twR [d.name] (T.data++[f9x]) [d.name] 0,T)
 else if (twR d.vars [] d.vars 0).2 then (twR d.vars [] d.vars 0,{T with data:=T.data++[d.name]})
 else (twR (d.cons.map Co.name) T.cons (d.cons.map Co.name) 0,{T with data:=T.data++[d.name],cons:=T.cons++d.cons.map Co.name})
theorem i3z(T:Tab)(d:De):(b5f T d).2.len≤T.len+1+d.cons.length:=by
 unfold b5f;split
 · simp[Tab.len];omega
 · split
   · simp[Tab.len];omega
   · split
     · simp;omega
     · split
       · simp[Tab.len];omega
       · simp[Tab.len];omega
theorem k0e(l:List Co)(i:Nat):(l.map coV)[i]? =(l[i]?).map coV:=by simp
theorem i2o{l:List Co}{i:Nat}{x:Co}(h:l[i]? =some x):(l.map Co.name).take (i+1)=(l.map Co.name).take i++[x.name]:=a6y (by simp[h])
theorem d6r(T:Tab)(d:De)(hd:d.tot<1000000)(hT:T.len<900000):den E 140 [.ptr (.par 0) 0,.agg (deC d)] [h2h T]=some (twV (b5f T d).1,[h2h (b5f T d).2]):=by
 unfold Tab.len at hT;unfold De.tot at hd;have e1:=b1y [d.name] T.sigs (by simp) (by omega);have e2:=b1y [d.name] T.binds (by simp) (by omega);have e3:=b1y [d.name] (T.data++[f9x]) (by simp) (by simp;omega);have e4:=b1y d.vars [] (by omega) (by simp);have a1:T.sigs.length+1≤a0l:=by unfold a0l;omega
 have a2:T.binds.length+1≤a0l:=by unfold a0l;omega
 have a3:T.data.length+1≤a0l:=by unfold a0l;omega
 rw[a0d g4k,h1h];unfold b5f h2h twV;simp only[List.map_cons,List.map_nil,List.map_append,twV,f9x] at e1 e2 e3 e4;simp only[f9x];cases k2:d.kind==2
 · cases k3:d.kind==3
   · simp only[Bool.false_eq_true,if_false];rcases Bool.eq_false_or_eq_true (twR [d.name] (T.data++[[65,110,121]]) [d.name] 0).2 with h3|h3
     rotate_left
     · rw[h3] at e3;simp only[h3,Bool.false_eq_true,if_false];rcases Bool.eq_false_or_eq_true (twR d.vars [] d.vars 0).2 with h4|h4
       rotate_left
       · rw[h4] at e4;simp only[h4,Bool.false_eq_true,if_false];have e5:=b1y (d.cons.map Co.name) T.cons (by rw[List.length_map];omega) (by omega);have a4:T.cons.length+(d.cons.map Co.name).length≤a0l:=by rw[List.length_map];unfold a0l;omega
         simp only[twV] at e5;simp only[go_sem,Tryz.f140,deC,k2,k3,e3,e4,a3,List.length_map,List.map_append];refine a0o (fun i:Nat=>i≤d.cons.length) (fun i=>⟨[(0,.ptr (.par 0) 0),(15,.own 9 0 (((d.cons.map Co.name).take i).map .str)),(108,.slice (d.cons.map coV)),(109,.int .i64 d.cons.length),(110,.int .i64 i)],[[.own 9 0 (T.data.map .str++[.str d.name]),.own 9 0 (T.cons.map .str),.own 9 0 (T.sigs.map .str),.own 9 0 (T.binds.map .str)]],[],1⟩)
          (fun _=>some (.tup [.str (twR (d.cons.map Co.name) T.cons (d.cons.map Co.name) 0).1,.bool (twR (d.cons.map Co.name) T.cons (d.cons.map Co.name) 0).2],[[.own 9 0 (T.data.map .str++[.str d.name]),.own 9 0 (T.cons.map .str++(d.cons.map Co.name).map .str),.own 9 0 (T.sigs.map .str),.own 9 0 (T.binds.map .str)]])) (fun i=>d.cons.length - i) 0 (Nat.zero_le _) ?_ ?_
         · simp only[go_sem,List.take_zero]
         · intro i hi h
           by_cases hlt:i<d.cons.length
           · obtain⟨x,hx⟩:=a6v hlt;have w1:IntKind.i64.wrap ((i:Int)+1)=((i+1:Nat):Int):=a0z (i+1) (by omega);have hts:=i2o hx;have a5:((d.cons.map Co.name).take i).length+1≤a0l:=by rw[List.length_take,List.length_map];unfold a0l;omega
             generalize (d.cons.map Co.name).take i=ns at *;simp only[go_sem,a0e,decide_eq_true hlt,a0c,a0i,k0e,hx,coV,List.length_map,a5];refine h (i+1) _ (by omega) (by omega) ?_;simp only[go_sem,w1,hts,List.map_append]
           · have hie:i=d.cons.length:=by omega
             subst hie;rw[show (d.cons.map Co.name).take d.cons.length=d.cons.map Co.name from List.take_of_length_le (by simp)];have e0:∀l:List (List UInt8),(l.map AVal.str).head? =none∨∃a,(l.map AVal.str).head? =some (.str a):=fun l=>by cases l<;>simp
             generalize d.cons.map Co.name=ns at *;generalize twR ns T.cons ns 0=p5 at *;rcases e0 ns with e0| ⟨z,e0⟩
             · simp only[go_sem,a0e,Nat.lt_irrefl,e5,List.length_map,a4,e0]
             · simp only[go_sem,a0e,Nat.lt_irrefl,e5,List.length_map,a4,e0]
       · rw[h4] at e4;simp only[h4,if_true];simp only[go_sem,Tryz.f140,deC,k2,k3,e3,e4,a3,List.length_map,List.map_append]
     · rw[h3] at e3;simp only[h3,if_true];simp only[go_sem,Tryz.f140,deC,k2,k3,e3,a3,List.length_map]
   · simp only[Bool.false_eq_true,if_false,if_true];generalize twR [d.name] T.binds [d.name] 0=p2 at *;simp only[go_sem,Tryz.f140,deC,k2,k3,e2,a2,List.length_map,List.map_append]
 · simp only[if_true];generalize twR [d.name] T.sigs [d.name] 0=p1 at *;simp only[go_sem,Tryz.f140,deC,k2,e1,a1,List.length_map,List.map_append]
def c1e:Tab→List De→Except (List UInt8) Tab
 | T,[]=>.ok T
 | T,d::r=>if (b5f T d).1.2 then .error (b5f T d).1.1 else c1e (b5f T d).2 r
def c1k(T:Tab):List De→List UInt8×Int
 | []=>([],0)
 | d::r=>if d.kind !=3 then c1k T r else if (f9t T d.val).2 !=0 then f9t T d.val else c1k T r
def i4j(T:Tab)(l0 l:List De):List UInt8×Int:=match c1e T l with
 | .error n=>(n,90)
 | .ok T=>if (e1h T.sigs T.binds).2 then ((e1h T.sigs T.binds).1,92) else c1k T l0
def h3b(l:List De):List UInt8×Int:=i4j ⟨[],[],[],[]⟩ l l
theorem f9d(T:Tab)(l0:List De)(d:De)(r:List De):i4j T l0 (d::r)=if (b5f T d).1.2 then ((b5f T d).1.1,90) else i4j (b5f T d).2 l0 r:=by
 unfold i4j;rw[c1e];rcases Bool.eq_false_or_eq_true (b5f T d).1.2 with h|h
 · simp only[h,if_true]
 · simp only[h,Bool.false_eq_true,if_false]
theorem f8v(l:List De)(i:Nat):(l.map deV)[i]? =(l[i]?).map deV:=by simp
theorem f9e(l:List De)(hg:∀d∈l,d.kind=3→SX d.val)(hsum:De.sum l<400000):den E 80 [.slice (l.map deV)] []=some (seV (h3b l),[]):=by
 have hlen:=b2g l;rw[a0d i1g,i4v];unfold h3b;simp only[go_sem,Tryz.f80,List.length_map];refine a0o (fun x:Nat×Tab=>x.1≤l.length∧x.2.len+De.sum (l.drop x.1)≤De.sum l) (fun x=>⟨[(0,.slice (l.map deV)),(4,.ptr (.loc 4) 0),(15,.slice (l.map deV)),(16,.int .i64 l.length),(17,.int .i64 x.1)],[],[(4,[.own 9 0 (x.2.data.map .str),.own 9 0 (x.2.cons.map .str),.own 9 0 (x.2.sigs.map .str),.own 9 0 (x.2.binds.map .str)])],1⟩)
  (fun x=>some (seV (i4j x.2 l (l.drop x.1)),[])) (fun x=>l.length - x.1) (0,⟨[],[],[],[]⟩) ⟨Nat.zero_le _,by simp[Tab.len]⟩ ?_ ?_
 · simp only[go_sem]
 · rintro⟨i,T⟩ ⟨hi,hT⟩ h;simp only at hi hT h⊢
   by_cases hlt:i<l.length
   · obtain⟨d,hx⟩:=a6v hlt;have hm:=a9i (List.mem_of_getElem? hx);rw[a2a hx,e8y] at hT;have w1:IntKind.i64.wrap ((i:Int)+1)=((i+1:Nat):Int):=a0z (i+1) (by omega);have dd:=d6r T d (by omega) (by omega);have hle:=i3z T d;have hdt:1+d.cons.length≤d.tot:=by unfold De.tot;have:=a9p d.val;have:=b3n d.val;omega
     rw[a2a hx,f9d];unfold h2h deC twV at dd;generalize b5f T d=p at *;obtain⟨⟨pn,pb⟩,T'⟩:=p;simp only at dd hle⊢;cases pb
     · simp only[go_sem,a0e,decide_eq_true hlt,a0c,a0i,f8v,hx,deV,deC,dd];refine h (i+1,T') _ ⟨by omega,?_⟩ (by simp only;omega) ?_
       · simp only;omega
       · simp only[go_sem,w1]
     · simp only[go_sem,a0e,decide_eq_true hlt,a0c,a0i,f8v,hx,deV,deC,dd,seV]
   · have hie:i=l.length:=by omega
     subst hie;have hT':T.len<900000:=by omega
     clear h;rw[List.drop_length];unfold i4j c1e;simp only;have dout:=b7s T.sigs T.binds (by unfold Tab.len at hT';omega) (by unfold Tab.len at hT';omega);unfold twV at dout;generalize e1h T.sigs T.binds=p at *;obtain⟨pn,pb⟩:=p;cases pb
     · simp only[Bool.false_eq_true,if_false];simp only[go_sem,a0e,Nat.lt_irrefl,dout,List.length_map];refine a0o (fun j:Nat=>j≤l.length) (fun j=>⟨[(4,.ptr (.loc 4) 0),(39,.slice (l.map deV)),(40,.int .i64 l.length),(41,.int .i64 j)],[],[(4,[.own 9 0 (T.data.map .str),.own 9 0 (T.cons.map .str),.own 9 0 (T.sigs.map .str),.own 9 0 (T.binds.map .str)])],1⟩)
        (fun j=>some (seV (c1k T (l.drop j)),[])) (fun j=>l.length - j) 0 (Nat.zero_le _) ?_ ?_
       · simp only[go_sem]
       · intro j hj h
         by_cases hlt:j<l.length
         · obtain⟨d,hx⟩:=a6v hlt;have hm:=a9i (List.mem_of_getElem? hx);have w1:IntKind.i64.wrap ((j:Int)+1)=((j+1:Nat):Int):=a0z (j+1) (by omega);rw[a2a hx];unfold c1k;cases hk:d.kind !=3
           · have hk3:d.kind=3:=by simpa using hk
             have db:=d9f T d.val (hg d (List.mem_of_getElem? hx) hk3) (by unfold De.tot at hm;omega) (by omega);unfold h2h at db;rw[a0h] at db;unfold seV at db;simp only[Bool.false_eq_true,if_false];generalize f9t T d.val=q at *;obtain⟨qn,qe⟩:=q;simp only at db⊢;cases hq:qe !=0
             · simp only[Bool.false_eq_true,if_false];simp only[go_sem,a0e,decide_eq_true hlt,a0c,a0i,f8v,hx,deV,deC,hk,db,hq];refine h (j+1) _ (by omega) (by omega) ?_;simp only[go_sem,w1]
             · simp only[if_true];simp only[go_sem,a0e,decide_eq_true hlt,a0c,a0i,f8v,hx,deV,deC,hk,db,hq,seV]
           · simp only[if_true];simp only[go_sem,a0e,decide_eq_true hlt,a0c,a0i,f8v,hx,deV,deC,hk];refine h (j+1) _ (by omega) (by omega) ?_;simp only[go_sem,w1]
         · have hje:j=l.length:=by omega
           subst hje;rw[List.drop_length];simp only[go_sem,a0e,Nat.lt_irrefl,c1k,seV]
     · simp only[if_true];simp only[go_sem,a0e,Nat.lt_irrefl,dout,seV]
end Go.Proofs
namespace Go.Proofs
open Go.Av
set_option maxHeartbeats 16000000
set_option maxRecDepth 100000
theorem k0s(x n:List UInt8):(x==n)=(n==x):=by
 by_cases h:x=n
 · subst h;rfl
 · rw[beq_eq_false_iff_ne.2 h,beq_eq_false_iff_ne.2 (Ne.symm h)]
theorem c0x(l:List (List UInt8))(n:List UInt8)(hl:l.length<1000000):den E 51 [.slice (l.map .str),.str n] []=some (.bool (l.contains n),[]):=by
 rw[a0d i1p,i5d];simp only[go_sem,Tryz.f51];refine a0o (fun i:Nat=>i≤l.length) (fun i=>⟨[(0,.slice (l.map .str)),(1,.str n),(5,.int .i64 i)],[],[],1⟩) (fun i=>some (.bool ((l.drop i).contains n),[])) (fun i=>l.length - i) 0 (Nat.zero_le _) ?_ ?_
 · simp only[go_sem]
 · intro i hi h
   by_cases hlt:i<l.length
   · obtain⟨x,hx⟩:=a6v hlt;rw[a2a hx,List.contains_cons];have w1:IntKind.i64.wrap ((i:Int)+1)=((i+1:Nat):Int):=a0z (i+1) (by omega);cases hq:n==x
     · simp only[go_sem,List.length_map,a0e,decide_eq_true hlt,a0c,a0i,a4r,hx,k0s x n,hq];refine h (i+1) _ (by omega) (by omega) ?_;simp only[go_sem,w1]
     · simp only[go_sem,List.length_map,a0e,decide_eq_true hlt,a0c,a0i,a4r,hx,k0s x n,hq]
   · have hie:i=l.length:=by omega
     subst hie;rw[List.drop_length];simp only[go_sem,List.length_map,a0e,Nat.lt_irrefl,List.contains_nil]
theorem c3q(l:List (List UInt8)):(l.map AVal.str).head? =none∨∃a,(l.map AVal.str).head? =some (.str a):=by cases l<;>simp
section
variable{α:Type}{fa:Ex→List (List UInt8)→α→α}{fb:Al→α→α}
end
end Go.Proofs
