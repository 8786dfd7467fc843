/- Lists and sets of names; whether all names of a program are as they may be; a type with other names. -/
import Derived.Test.YtjfghnkmladbkaaGreatDoorAvF
import Derived.Test.YtjfghnkmladbkaaGreatDoorAvG
import Derived.Test.YtjfghnkmladbkaaGreatDoorAvI
import Derived.Test.YtjfghnkmladbkaaGreatDoorAvH
namespace Go.Proofs
open Go.Av
set_option maxHeartbeats 16000000
set_option maxRecDepth 100000
theorem a4t(l:List (List UInt8))(i:Nat):(l.map AVal.str)[i]? =(l[i]?).map AVal.str:=by simp
theorem a1z{α:Type}{l:List α}{i:Nat}{x:α}(h:l[i]? =some x):l.drop i=x::l.drop (i+1):=by
 obtain⟨h1,h2⟩:=List.getElem?_eq_some_iff.1 h;rw[List.drop_eq_getElem_cons h1,h2]
theorem a6u{α:Type}{l:List α}{i:Nat}(h:i<l.length):∃x,l[i]? =some x:=⟨l[i],List.getElem?_eq_getElem h⟩
def h7u:List (List UInt8)→List UInt8→Nat→Int
 | [],_,_=> -1
 | x::r,n,i=>if n==x then (i:Int) else h7u r n (i+1)
theorem g0g:∀(l:List (List UInt8)) (n:List UInt8) (i:Nat),decide (h7u l n i≥0)=l.contains n
 | [],n,i=>rfl
 | x::r,n,i=>by
  rw[List.contains_cons];unfold h7u;cases h:n==x
  · simp only[Bool.false_eq_true,if_false,Bool.false_or];exact g0g r n (i+1)
  · simp
theorem g0c(l:List (List UInt8))(n:List UInt8)(hl:l.length<1000000):den E 119 [.slice (l.map .str),.str n] []=some (.int .i64 (h7u l n 0),[]):=by
 rw[a0d g9f,h6f];simp only[go_sem,Tryz.f119,List.length_map];refine a0p (fun i:Nat=>i≤l.length) (fun i=>⟨[(0,.slice (l.map .str)),(1,.str n),(7,.int .i64 l.length),(8,.int .i64 i)],[],[],1⟩) (fun i=>some (.int .i64 (h7u (l.drop i) n i),[])) (fun i=>l.length - i) 0 (Nat.zero_le _) ?_ ?_
 · simp only[go_sem]
 · intro i hi h
   by_cases hlt:i<l.length
   · obtain⟨x,hx⟩:=a6u hlt;rw[a1z hx];have w1:IntKind.i64.wrap ((i:Int)+1)=((i+1:Nat):Int):=a1c (i+1) (by omega);cases hq:n==x
     · simp only[go_sem,a0f,decide_eq_true hlt,a0c,a0i,a4t,hx,hq,h7u];refine h (i+1) _ (by omega) (by omega) ?_;simp only[go_sem,w1]
     · simp only[go_sem,a0f,decide_eq_true hlt,a0c,a0i,a4t,hx,hq,h7u]
   · have hie:i=l.length:=by omega
     subst hie;rw[List.drop_length];simp only[go_sem,a0f,Nat.lt_irrefl,h7u]
theorem a4a(l:List (List UInt8))(n:List UInt8)(hl:l.length<1000000):den E 57 [.slice (l.map .str),.str n] []=some (.bool (l.contains n),[]):=by
 rw[a0d i6u,j0l];have h1:=g0c l n hl;have h2:=g0g l n 0;simp only[go_sem,Tryz.f57,h1,h2]
def twR(all others:List (List UInt8)):List (List UInt8)→Nat→List UInt8×Bool
 | [],_=>([],false)
 | x::r,i=>if (all.take i).contains x||others.contains x then (x,true) else twR all others r (i+1)
def twV(p:List UInt8×Bool):AVal:=.tup [.str p.1,.bool p.2]
theorem b2s(l o:List (List UInt8))(hl:l.length<1000000)(ho:o.length<1000000):den E 203 [.slice (l.map .str),.slice (o.map .str)] []=some (twV (twR l o l 0),[]):=by
 rw[a0d g7k,h4k];simp only[go_sem,Tryz.f203,List.length_map];refine a0p (fun i:Nat=>i≤l.length) (fun i=>⟨[(0,.slice (l.map .str)),(1,.slice (o.map .str)),(8,.slice (l.map .str)),(9,.int .i64 l.length),(10,.int .i64 i)],[],[],1⟩) (fun i=>some (twV (twR l o (l.drop i) i),[])) (fun i=>l.length - i) 0 (Nat.zero_le _) ?_ ?_
 · simp only[go_sem]
 · intro i hi h
   by_cases hlt:i<l.length
   · obtain⟨x,hx⟩:=a6u hlt;rw[a1z hx];have w1:IntKind.i64.wrap ((i:Int)+1)=((i+1:Nat):Int):=a1c (i+1) (by omega);have hsz:∀y,c8l 1 (y::[])=c8l 1 (y::[]):=fun _=>rfl;have e0:(l.map AVal.str).head? =some (.str (l.headD [])):=by
      cases l with
      | nil=>simp at hlt
      | cons a r=>rfl
     have d1:=a4a (l.take i) x (by rw[List.length_take];omega);have d2:=a4a o x ho;rw[List.map_take] at d1;cases hq:(l.take i).contains x
     · cases hq2:o.contains x
       · simp only[go_sem,a0f,decide_eq_true hlt,a0c,a0i,a4t,hx,Nat.zero_le,Nat.le_of_lt hlt,e0,List.length_map,d1,d2,hq,hq2,twR];refine h (i+1) _ (by omega) (by omega) ?_;simp only[go_sem,w1]
       · simp only[go_sem,a0f,decide_eq_true hlt,a0c,a0i,a4t,hx,Nat.zero_le,Nat.le_of_lt hlt,e0,List.length_map,d1,d2,hq,hq2,twR,twV]
     · simp only[go_sem,a0f,decide_eq_true hlt,a0c,a0i,a4t,hx,Nat.zero_le,Nat.le_of_lt hlt,e0,List.length_map,d1,hq,twR,twV]
   · have hie:i=l.length:=by omega
     subst hie;rw[List.drop_length];simp only[go_sem,a0f,Nat.lt_irrefl,twR,twV]
def a5c(l:List (List UInt8)):List AVal:=l.map fun n=>.tup [.str n,.bool true]
theorem h0q(l:List (List UInt8)):isL (a5c l)=none:=by
 cases l with
 | nil=>rfl
 | cons a r=>cases r<;>rfl
attribute [go_sem ↓] h0q
def b2k(l:List (List UInt8))(n:List UInt8):List (List UInt8):=if l.contains n then l else l++[n]
def a0s(b ns:List (List UInt8)):List (List UInt8):=ns.foldl b2k b
theorem b6a(n:List UInt8):∀l,d0a (.str n) (a5c l)=some (if l.contains n then some (.bool true) else none)
 | []=>rfl
 | x::r=>by
  have ih:=b6a n r;unfold a5c at ih⊢;rw[List.map_cons,List.contains_cons];simp only[d0a,c4h,Option.bind_some];cases h:n==x
  · simp only[Bool.false_eq_true,if_false,Bool.false_or];exact ih
  · simp
theorem b9q(n:List UInt8):∀l,f2y (.str n) (.bool true) (a5c l)=some (a5c (b2k l n))
 | []=>rfl
 | x::r=>by
  have ih:=b9q n r;unfold a5c b2k at ih⊢;rw[List.contains_cons,List.map_cons];simp only[f2y,c4h,Option.bind_some];cases h:n==x
  · simp only[Bool.false_eq_true,if_false,Bool.false_or,ih,Option.map_some];cases r.contains n<;>simp
  · have hx:n=x:=by simpa using h
    subst hx;simp
theorem a7s(b ns:List (List UInt8))(hl:ns.length<1000000):den E 239 [.pmap (a5c b),.slice (ns.map .str)] []=some (.pmap (a5c (a0s b ns)),[]):=by
 rw[a0d g6n,h3n];have hc:den E 155 [.pmap (a5c b)] []=some (.own a4b 0 (a5c b),[]):=b0y e4f;simp only[go_sem,Tryz.f239,List.length_map,hc];refine a0p (fun i:Nat=>i≤ns.length) (fun i=>⟨[(0,.own a4b 0 (a5c (a0s b (ns.take i)))),(9,.slice (ns.map .str)),(10,.int .i64 ns.length),(11,.int .i64 i)],[],[],1⟩) (fun _=>some (.pmap (a5c (a0s b ns)),[])) (fun i=>ns.length - i) 0 (Nat.zero_le _) ?_ ?_
 · simp only[go_sem,a0s,List.foldl_nil]
 · intro i hi h
   by_cases hlt:i<ns.length
   · obtain⟨x,hx⟩:=a6u hlt;have w1:IntKind.i64.wrap ((i:Int)+1)=((i+1:Nat):Int):=a1c (i+1) (by omega);have hts:ns.take (i+1)=ns.take i++[x]:=by rw[List.take_add_one,hx];rfl
     simp only[go_sem,a0f,decide_eq_true hlt,a0c,a0i,a4t,hx,b9q];refine h (i+1) _ (by omega) (by omega) ?_;simp only[go_sem,w1,hts,a0s,List.foldl_append,List.foldl_cons,List.foldl_nil]
   · have hie:i=ns.length:=by omega
     subst hie;simp only[go_sem,a0f,Nat.lt_irrefl,List.take_length]
def b0m(n:Nat)(l:List (List UInt8)):AVal:=if l=[] then .nilm else .own a4b n (a5c l)
theorem d4y(n:Nat):b0m n []=.nilm:=rfl
theorem g9y(n:Nat)(a:List UInt8)(r:List (List UInt8)):b0m n (a::r)=.own a4b n (a5c (a::r)):=rfl
theorem f7l(m n:Nat)(l:List (List UInt8)):a4m m (b0m n l)=b0m m l:=by
 unfold b0m;split<;>rfl
theorem a1f(n:Nat)(l:List (List UInt8)):a2y (b0m n l)=b0m 0 l:=by
 unfold b0m;split<;>rfl
theorem a0z(n:Nat)(l:List (List UInt8)):a1l (b0m n l)=[]:=by
 unfold b0m;split<;>rfl
theorem i7y(ρ:BName→BName)(n:Nat)(l:List (List UInt8)):c5c ρ (b0m n l)=b0m n l:=by
 unfold b0m;split<;>rfl
theorem h7o(ρ:BName→BName)(m n:Nat)(l:List (List UInt8)):c5c ρ (a4m m (b0m n l))=b0m m l:=by rw[f7l,i7y]
def a6c(ns:List BName)(c:AVal):AVal:=c5c (c1q ns) (a4m 0 c)
def a4i(ns:List BName)(n:Nat)(c:AVal):AVal:=c5c (b2f ns) (a4m n c)
theorem a1x{D:FuncId→List AVal→a2z→Option (AVal×a2z)}{s:St}{n:Nat}{dst:Option Nat}{args:List AVal}{f:FuncId}{first cap:List AVal}:b8c D s n dst args (.func f first cap)=(match (first++(args++cap)).flatMap names with
 | []=>(D f (first++(args++cap)) []).bind fun r=>match r.2 with
  | []=>some (s.putD dst (b8z n r.1))
  | _::_=>none
 | b::bs=>(c0d s 100 (b::bs) []).bind fun ns=>(a7i s ns).bind fun H=>
  (D f ((first++(args++cap)).map (ren (c1q ns))) (H.map (List.map (a6c ns)))).bind fun r=>
    (a3t s ns (r.2.map (List.map (a4i ns n)))).map fun s'=>s'.putD dst (b8z n (ren (b2f ns) r.1))):=rfl
theorem a7o(ns:List BName)(n:Nat)(l:List (List UInt8)):a6c ns (b0m n l)=b0m 0 l:=by unfold a6c;rw[h7o]
theorem a4u(ns:List BName)(m n:Nat)(l:List (List UInt8)):a4i ns m (b0m n l)=b0m m l:=by unfold a4i;rw[h7o]
def f4t(l:List (List UInt8)):List AVal:=[.own 9 0 (l.map .str),b0m 0 l]
theorem c9p(l:List (List UInt8))(n:List UInt8)(hl:l.length<1000000):den E 237 [.ptr (.par 0) 0,.str n] [f4t l]=some (.tup [],[f4t (b2k l n)]):=by
 rw[a0d g6p,h3p];have ht:l.length+1≤a0l:=by unfold a0l;omega
 cases l with
 | nil=>
  have hu:=b9q n [];have hf:=b6a n [];have e:b2k [] n=[n]:=rfl;rw[e] at hu⊢;unfold a5c at hu hf;simp only[List.map_cons,List.map_nil] at hu hf;have h1:1≤a0l:=by unfold a0l;omega
  simp only[go_sem,Tryz.f237,f4t,d4y,g9y,h1,a5c]
 | cons a r=>
  have hu:=b9q n (a::r);have hf:=b6a n (a::r);cases hc:(a::r).contains n
  · have e:b2k (a::r) n=(a::r)++[n]:=by unfold b2k;rw[hc];rfl
    rw[e] at hu⊢;rw[hc] at hf;have hs:(f4t ((a::r)++[n]))=[.own 9 0 (((a::r)++[n]).map .str),.own a4b 0 (a5c ((a::r)++[n]))]:=rfl;have hs2:(f4t (a::r))=[.own 9 0 ((a::r).map .str),.own a4b 0 (a5c (a::r))]:=rfl;rw[hs,hs2];generalize (a::r)=l at *;simp only[go_sem,Tryz.f237,hu,hf,List.length_map,ht,List.map_append]
  · have e:b2k (a::r) n=a::r:=by unfold b2k;rw[hc];rfl
    rw[e];rw[hc] at hf;have hs2:(f4t (a::r))=[.own 9 0 ((a::r).map .str),.own a4b 0 (a5c (a::r))]:=rfl;rw[hs2];generalize (a::r)=l at *;simp only[go_sem,Tryz.f237,hf]
def a8w(t:Ty)(b acc:List (List UInt8)):List (List UInt8):=if t.kind==1&& !b.contains t.name then b2k acc t.name else acc
mutual
def a0n:Ty→List (List UInt8)→List (List UInt8)→List (List UInt8)
 | .mk k s n a,b,acc=>a4s a (if k==5 then b2k b s else b) (a8w (.mk k s n a) b acc)
def a4s:List Ty→List (List UInt8)→List (List UInt8)→List (List UInt8)
 | [],_,acc=>acc
 | t::r,b,acc=>a4s r b (a0n t b acc)
end
theorem a7t(t:Ty)(b acc:List (List UInt8)):a0n t b acc=a4s t.args (if t.kind==5 then b2k b t.name else b) (a8w t b acc):=by
 cases t;simp only[a0n,Ty.args,Ty.kind,Ty.name];rfl
theorem a3h(b acc:List (List UInt8)):a4s [] b acc=acc:=by simp only[a4s]
theorem a3n(t:Ty)(r:List Ty)(b acc:List (List UInt8)):a4s (t::r) b acc=a4s r b (a0n t b acc):=by simp only[a4s]
theorem j1h(l:List (List UInt8))(n:List UInt8):(b2k l n).length≤l.length+1:=by
 unfold b2k;split
 · omega
 · simp
theorem d9c(t:Ty)(b acc:List (List UInt8)):(a8w t b acc).length≤acc.length+1:=by
 unfold a8w;split
 · exact j1h _ _
 · omega
theorem a3b(t:Ty)(r:List Ty):Ty.szs (t::r)=t.sz+Ty.szs r:=by simp[Ty.szs]
theorem a2v:∀(n:Nat) (t:Ty),t.sz≤n→∀b acc,(a0n t b acc).length≤acc.length+t.sz:=by
 intro n
 induction n with
 | zero=>intro t h;have:=a2f t;omega
 | succ n ih=>
  have hs:∀(l:List Ty) b acc,Ty.szs l≤n→(a4s l b acc).length≤acc.length+Ty.szs l:=by
   intro l
   induction l with
   | nil=>intro b acc _;rw[a3h];omega
   | cons x r ihr=>
    intro b acc hl;rw[a3b] at hl⊢;rw[a3n];have:=ih x (by omega) b acc;have:=ihr b (a0n x b acc) (by omega);omega
  intro t h b acc;have:=a2f t;have h1:=d9c t b acc;have h2:=hs t.args (if t.kind==5 then b2k b t.name else b) (a8w t b acc) (by omega);rw[a7t];omega
theorem f1e(t:Ty)(b acc:List (List UInt8))(h:acc.length<1000000):den E 91 [tyV t,.pmap (a5c b),.ptr (.par 0) 0] [[.own 9 0 (acc.map .str)]]=some (.tup [],[[.own 9 0 ((a8w t b acc).map .str)]]):=by
 rw[a0d i6c,i9v,a0a];have hf:=b6a t.name b;have hc:=a4a acc t.name h;have a1:acc.length+1≤a0l:=by unfold a0l;omega
 unfold a8w b2k;cases h1:t.kind==1
 · simp only[go_sem,Tryz.f91,h1]
 · cases h2:b.contains t.name
   · rw[h2] at hf;cases h3:acc.contains t.name
     · rw[h3] at hc;simp only[go_sem,Tryz.f91,h1,hf,hc,a1,List.length_map,List.map_append]
     · rw[h3] at hc;simp only[go_sem,Tryz.f91,h1,hf,hc]
   · rw[h2] at hf;simp only[go_sem,Tryz.f91,h1,hf]
theorem a4v(t:Ty):t.args.length+1≤t.sz:=by
 have:∀l:List Ty,l.length≤Ty.szs l:=by
  intro l
  induction l with
  | nil=>simp
  | cons x r ih=>rw[a3b,List.length_cons];have:=a2f x;omega
 have:=this t.args;have:=a2f t;omega
theorem a4r(l:List Ty)(i:Nat):(a2o l)[i]? =(l[i]?).map tyV:=by simp[c4n]
theorem f3q:∀(n:Nat) (t:Ty),t.sz≤n→∀(b acc:List (List UInt8)),acc.length+t.sz<1000000→den E 90 [tyV t,.pmap (a5c b),.func 91 [] [.ptr (.par 0) 0]] [[.own 9 0 (acc.map .str)]]=some (.tup [],[[.own 9 0 ((a0n t b acc).map .str)]]):=by
 intro n
 induction n with
 | zero=>intro t h;have:=a2f t;omega
 | succ n ih=>
 intro t hn b acc hm;have hsz:=a2f t;have d0:=f1e t b acc (by omega);have hl0:=d9c t b acc;rw[a0d i6d,i9w,a7t];generalize a8w t b acc=a0 at *;rw[a0a] at d0⊢;obtain⟨b',hb'⟩:∃b',b'=(if t.kind==5 then b2k b t.name else b):=⟨_,rfl⟩
 rw[←hb'];cases h5:t.kind==5
 · rw[h5] at hb';simp only[Bool.false_eq_true,if_false] at hb';subst hb';simp only[go_sem,Tryz.f90,d0,h5,a1k];refine a0p (fun x:Nat×List (List UInt8)=>x.1≤t.args.length∧x.2.length+Ty.szs (t.args.drop x.1)≤a0.length+Ty.szs t.args∧a4s (t.args.drop x.1) b' x.2=a4s t.args b' a0)
    (fun x=>⟨[(1,.pmap (a5c b')),(2,.func 91 [] [.ptr (.par 0) 0]),(21,.slice (a2o t.args)),(22,.int .i64 t.args.length),(23,.int .i64 x.1)],[[.own 9 0 (x.2.map .str)]],[],1⟩)
    (fun _=>some (.tup [],[[.own 9 0 ((a4s t.args b' a0).map .str)]])) (fun x=>t.args.length - x.1) (0,a0) ⟨Nat.zero_le _,by simp,rfl⟩ ?_ ?_
   · simp only[go_sem]
   · rintro⟨i,a1⟩ ⟨hi,ha,hf⟩ h;simp only at hi ha hf h⊢
     by_cases hlt:i<t.args.length
     · obtain⟨x,hx⟩:=a6u hlt;have hxs:=a2i (List.mem_of_getElem? hx);rw[a1z hx,a3b] at ha;rw[a1z hx,a3n] at hf;have w1:IntKind.i64.wrap ((i:Int)+1)=((i+1:Nat):Int):=a1c (i+1) (by have:=a4v t;omega);have d:=ih x (by omega) b' a1 (by omega);have hl:=a2v _ x (Nat.le_refl _) b' a1;generalize a0n x b' a1=a2 at *;rw[a0a] at d;simp only[go_sem,a0f,decide_eq_true hlt,a0c,a0i,a4r,hx,a0a,d];refine h (i+1,a2) _ ⟨by omega,by simp only;omega,hf⟩ (by simp only;omega) ?_;simp only[go_sem,w1]
     · have hie:i=t.args.length:=by omega
       subst hie;rw[List.drop_length,a3h] at hf;subst hf;simp only[go_sem,a0f,Nat.lt_irrefl]
 · rw[h5] at hb';simp only[if_true] at hb';have hc:den E 155 [.pmap (a5c b)] []=some (.own a4b 0 (a5c b),[]):=b0y e4f;have hu:=b9q t.name b;rw[←hb'] at hu;clear hb';simp only[go_sem,Tryz.f90,d0,h5,a1k,hc,hu];refine a0p (fun x:Nat×List (List UInt8)=>x.1≤t.args.length∧x.2.length+Ty.szs (t.args.drop x.1)≤a0.length+Ty.szs t.args∧a4s (t.args.drop x.1) b' x.2=a4s t.args b' a0)
    (fun x=>⟨[(1,.pmap (a5c b')),(2,.func 91 [] [.ptr (.par 0) 0]),(21,.slice (a2o t.args)),(22,.int .i64 t.args.length),(23,.int .i64 x.1)],[[.own 9 0 (x.2.map .str)]],[],1⟩)
    (fun _=>some (.tup [],[[.own 9 0 ((a4s t.args b' a0).map .str)]])) (fun x=>t.args.length - x.1) (0,a0) ⟨Nat.zero_le _,by simp,rfl⟩ ?_ ?_
   · simp only[go_sem]
   · rintro⟨i,a1⟩ ⟨hi,ha,hf⟩ h;simp only at hi ha hf h⊢
     by_cases hlt:i<t.args.length
     · obtain⟨x,hx⟩:=a6u hlt;have hxs:=a2i (List.mem_of_getElem? hx);rw[a1z hx,a3b] at ha;rw[a1z hx,a3n] at hf;have w1:IntKind.i64.wrap ((i:Int)+1)=((i+1:Nat):Int):=a1c (i+1) (by have:=a4v t;omega);have d:=ih x (by omega) b' a1 (by omega);have hl:=a2v _ x (Nat.le_refl _) b' a1;generalize a0n x b' a1=a2 at *;rw[a0a] at d;simp only[go_sem,a0f,decide_eq_true hlt,a0c,a0i,a4r,hx,a0a,d];refine h (i+1,a2) _ ⟨by omega,by simp only;omega,hf⟩ (by simp only;omega) ?_;simp only[go_sem,w1]
     · have hie:i=t.args.length:=by omega
       subst hie;rw[List.drop_length,a3h] at hf;subst hf;simp only[go_sem,a0f,Nat.lt_irrefl]
theorem a7j(t:Ty)(h:t.sz<1000000):den E 32 [tyV t] []=some (.own 9 0 ((a0n t [] []).map .str),[]):=by
 have d:=f3q _ t (Nat.le_refl _) [] [] (by simpa using h);rw[a0d i6z,j0q];rw[show a5c []=[] from rfl] at d;rw[a0a] at d⊢;simp only[List.map_nil] at d;simp only[go_sem,Tryz.f32,d]
theorem f9y(n:Nat):Lib.itoa (n:Int)≠[]:=by
 by_cases h:n<10
 · rw[c8o n h];simp
 · rw[d2k n (by omega)];simp
theorem g2y{a b:Nat}(ha:a<10)(hb:b<10)(h:UInt8.ofNat (48+a)=UInt8.ofNat (48+b)):a=b:=by
 have:=congrArg UInt8.toNat h;simp only[UInt8.toNat_ofNat'] at this;omega
theorem c5n:∀(i j:Nat),Lib.itoa (i:Int)=Lib.itoa (j:Int)→i=j
 | i,j,h=>by
  by_cases hi:i<10
  · rw[c8o i hi] at h
    by_cases hj:j<10
    · rw[c8o j hj] at h;injection h with h _;exact g2y hi hj h
    · rw[d2k j (by omega)] at h;have h2:=congrArg List.length h;have h3:0<(Lib.itoa ((j / 10:Nat):Int)).length:=List.length_pos_iff.2 (f9y _);simp only[List.length_append,List.length_singleton] at h2;omega
  · rw[d2k i (by omega)] at h
    by_cases hj:j<10
    · rw[c8o j hj] at h;have h2:=congrArg List.length h;have h3:0<(Lib.itoa ((i / 10:Nat):Int)).length:=List.length_pos_iff.2 (f9y _);simp only[List.length_append,List.length_singleton] at h2;omega
    · rw[d2k j (by omega)] at h;obtain⟨h1,h2⟩:=List.append_inj' h rfl;have:=c5n (i / 10) (j / 10) h1;injection h2 with h2 _;have:=g2y (Nat.mod_lt _ (by omega)) (Nat.mod_lt _ (by omega)) h2;omega
theorem pig{f:Nat→List UInt8}:∀(n:Nat) (l:List (List UInt8)),(∀i j,i<n→j<n→f i=f j→i=j)→(∀i,i<n→f i∈l)→n≤l.length
 | 0,l,_,_=>Nat.zero_le _
 | n+1,l,hinj,hm=>by
  have h1:=hm n (by omega);have h2:=pig n (l.erase (f n)) (fun i j hi hj=>hinj i j (by omega) (by omega)) (fun i hi=>(List.mem_erase_of_ne (fun e=>by have:=hinj i n (by omega) (by omega) e;omega)).2 (hm i (by omega)));rw[List.length_erase_of_mem h1] at h2;have:0<l.length:=List.length_pos_of_mem h1;omega
theorem d1z(f:Nat→List UInt8)(hinj:∀i j,f i=f j→i=j)(l:List (List UInt8)):∃i,i≤l.length∧l.contains (f i)=false∧∀j,j<i→l.contains (f j)=true:=by
 have ex:∃i,i≤l.length∧l.contains (f i)=false:=by
  refine Classical.byContradiction fun hc=>?_;have:=pig (f:=f) (l.length+1) l (fun i j _ _=>hinj i j) (fun i hi=>by
   have:¬l.contains (f i)=false:=fun h=>hc ⟨i,by omega,h⟩;simpa using this)
  omega
 have key:∀n i,i≤n→i≤l.length→l.contains (f i)=false→∃i,i≤l.length∧l.contains (f i)=false∧∀j,j<i→l.contains (f j)=true:=by
  intro n
  induction n with
  | zero=>intro i h1 h2 h3;exact⟨i,h2,h3,fun j hj=>by omega⟩
  | succ n ih=>
   intro i h1 h2 h3
   by_cases hs:∃j,j<i∧l.contains (f j)=false
   · obtain⟨j,h4,h5⟩:=hs;exact ih j (by omega) (by omega) h5
   · refine⟨i,h2,h3,fun j hj=>?_⟩;cases hq:l.contains (f j)
     · exact absurd ⟨j,hj,hq⟩ hs
     · rfl
 obtain⟨i,h1,h2⟩:=ex;exact key i i (Nat.le_refl _) h1 h2
def b8b(s:List UInt8)(i:Nat):List UInt8:=s.take 1++[95]++Lib.itoa (i:Int)
theorem d5w(s:List UInt8)(i j:Nat)(h:b8b s i=b8b s j):i=j:=by
 unfold b8b at h;exact c5n i j (List.append_cancel_left h)
theorem a9z(n:Nat)(h:n<1000000000):den E 120 [.int .i64 n] []=some (.str (Lib.itoa n),[]):=by
 rw[b0y e4k];unfold d8u;simp only;rw[if_pos (by omega)]
def tyC(t:Ty):List AVal:=[.int .i64 t.kind,.str t.name,.int .i64 t.n,.slice (a2o t.args)]
theorem h8m(t:Ty):(tyC t).length=4:=rfl
def zC:List AVal:=[.int .i64 0,.str [],.int .i64 0,.own 25 0 []]
def a5e(ys:List Ty)(n i:Nat):List AVal:=(ys.take i).flatMap tyC++c5a (n - i) zC
theorem c4y(f:AVal→AVal)(z:List AVal):∀n,(c5a n z).map f=c5a n (z.map f)
 | 0=>rfl
 | n+1=>by rw[c5a,List.map_append,c4y f z n];rfl
theorem b4x:∀l:List Ty,(l.flatMap tyC).length=l.length*4
 | []=>rfl
 | t::l=>by rw[List.flatMap_cons,List.length_append,b4x l,h8m,List.length_cons];omega
theorem a8j{ys:List Ty}{n i:Nat}(h:ys.length=n)(hi:i≤n):(a5e ys n i).length=n*4:=by
 unfold a5e;rw[List.length_append,b4x,c4z,List.length_take];have:zC.length=4:=rfl;rw[this];omega
theorem g4u(t:Ty):(tyC t).map a2y=tyC t:=rfl
theorem d9f:∀l:List Ty,(l.flatMap tyC).map a2y=l.flatMap tyC
 | []=>rfl
 | t::l=>by rw[List.flatMap_cons,List.map_append,g4u,d9f l]
theorem b4a(ys:List Ty)(n i:Nat):(a5e ys n i).map a2y=a5e ys n i:=by
 unfold a5e;rw[List.map_append,d9f,c4y];rfl
theorem b7o(ys:List Ty)(n m:Nat):((c5a n zC).map (a4m m)).map a2y=a5e ys n 0:=by
 rw[c4y,c4y];rfl
theorem d1y:∀l:List Ty,(l.flatMap tyC).flatMap a1l=[]
 | []=>rfl
 | t::l=>by rw[List.flatMap_cons,List.flatMap_append,d1y l];rfl
theorem d0r:∀n,(c5a n zC).flatMap a1l=[]
 | 0=>rfl
 | n+1=>by rw[c5a,List.flatMap_append,d0r n];rfl
theorem a6g(ys:List Ty)(n i:Nat):(a5e ys n i).flatMap a1l=[]:=by
 unfold a5e;rw[List.flatMap_append,d1y,d0r];rfl
theorem b7n{ys:List Ty}{n i:Nat}(hl:ys.length=n){y:Ty}(hy:ys[i]? =some y):
 (a5e ys n i).take (i*4)++(.int .i64 y.kind:: .str y.name:: .int .i64 y.n:: .slice (a2o y.args)::(a5e ys n i).drop (i*4+4))=a5e ys n (i+1):=by
 have hi:i<n:=by have:=(List.getElem?_eq_some_iff.1 hy).1;omega
 unfold a5e;have h1:((ys.take i).flatMap tyC).length=i*4:=by rw[b4x,List.length_take];omega
 have h2:n - i=(n - (i+1))+1:=by omega
 have h3:zC.length=4:=rfl;rw[List.take_left' h1,a4z hy,List.flatMap_append,h2,c5a,←h1,List.drop_length_add_append,←h3,List.drop_left];simp only[List.flatMap_cons,List.flatMap_nil,List.append_nil,tyC,List.append_assoc,List.cons_append,List.nil_append]
theorem b7p{ys:List Ty}{n:Nat}(hl:ys.length=n):a5e ys n n=ys.flatMap tyC:=by
 unfold a5e;rw[List.take_of_length_le (by omega),Nat.sub_self];simp[c5a]
theorem b3c:∀l:List Ty,(l.flatMap tyC).map strip1=l.flatMap tyC
 | []=>rfl
 | t::l=>by rw[List.flatMap_cons,List.map_append,b3c l];rfl
theorem b5z:∀l:List Ty,(l.flatMap tyC).all c7c=true
 | []=>rfl
 | t::l=>by rw[List.flatMap_cons,List.all_append,b5z l];rfl
theorem b1m:∀(l:List Ty),b2a true 4 l.length (l.flatMap tyC)=a2o l
 | []=>by rw[a0e];rfl
 | t::l=>by
  rw[List.length_cons,b2a,List.flatMap_cons,a1a,a0a];have h4:(tyC t).length=4:=rfl;rw[List.take_left' h4,←h4,List.drop_left,h4,b1m l];rfl
theorem d6q(t:Ty)(ys:List Ty)(a b:List UInt8)(hl:ys.length=t.args.length)(hb:t.sz<1000000)
 (hc:∀(i:Nat) (x y:Ty),t.args[i]? =some x→ys[i]? =some y→den E 159 [tyV x,.ptr (.par 0) 0,.ptr (.par 1) 0] [[.str a],[.str b]]=some (tyV y,[[.str a],[.str b]])):
 den E 101 [tyV t,.func 159 [] [.ptr (.par 0) 0,.ptr (.par 1) 0]] [[.str a],[.str b]]=some (tyV (.mk t.kind t.name t.n ys),[[.str a],[.str b]]):=by
 rw[a0d c5g,c5z];have hal:=a4v t;have rl:=a1k t.args;have n0:=b5v t.args.length
 by_cases h0:t.args=[]
 · have hy:ys=[]:=List.eq_nil_of_length_eq_zero (by rw[hl,h0];rfl);subst hy;rw[a4c,a0a];rw[h0] at n0;simp only[go_sem,Tryz.f101,h0,a0e]
 · have h0':¬t.args.length=0:=fun e=>h0 (List.eq_nil_of_length_eq_zero e);rw[decide_eq_false h0'] at n0;rw[a4c,a0a];obtain⟨n,hn⟩:∃n,n=t.args.length:=⟨_,rfl⟩
   rw[←hn] at hl n0 rl;have l1:((n:Int)≤1073741824)=True:=by simp;omega
   have hz:∀m,List.map a2y (List.map (a4m m) (c5a n [.int .i64 0,.str [],.int .i64 0,.own 25 0 []]))=a5e ys n 0:=fun m=>b7o ys n m;obtain⟨fin,hfin⟩:∃fin,fin=(some (.agg [.int .i64 t.kind,.str t.name,.int .i64 t.n,.slice (a2o ys)],[[.str a],[.str b]]):Option (AVal×a2z)):=⟨_,rfl⟩
   try rw[←hn] at hfin
   try rw[←hn]
   rw[←hfin];simp only[go_sem,Tryz.f101,rl,n0,a0c,a0i,l1];refine a3u (fun i=>⟨[(1,.func 159 [] [.ptr (.par 0) 0,.ptr (.par 1) 0]),(2,.ptr (.loc 2) 0),(4,.ptr (.loc 4) 0),(5,.ptr (.loc 16) (a2d+n)),(18,.slice (a2o t.args)),(19,.int .i64 n),(20,.int .i64 i)],[[.str a],[.str b]],[(2,tyC t),(4,zC),(16,a5e ys n i)],1⟩) n ?_ ?_ ?_
   · simp only[go_sem,hz,a6g,tyC,zC]
   · intro i hi h;have hia:i<t.args.length:=by omega
     have hiy:i<ys.length:=by omega
     obtain⟨x,hx⟩:=a6u hia;obtain⟨y,hy⟩:=a6u hiy;have d:=hc i x y hx hy;have hxs:=a2i (List.mem_of_getElem? hx);have hsz:=a2f t;have w1:IntKind.i64.wrap ((i:Int)+1)=((i+1:Nat):Int):=a1c (i+1) (by omega);have i1:((i:Int)<(n:Int))=True:=by simp;omega
     have i2:(i*4<a2d)=True:=by rw[a7q];simp;omega
     have cl:(a5e ys n i).length=n*4:=a8j hl (by omega);have i3:(i*4+4≤n*4)=True:=by simp;omega
     have hput:=b7n hl hy;rw[a0a,a0a] at d;simp only[go_sem,a0c,a0i,a4r,hx,a0a,tyC,zC,d,i1,i2,cl,i3];refine h _ ?_;simp only[go_sem,w1,hput,b4a,a6g,tyC,zC]
   · have cl:(a5e ys n n).length=n*4:=a8j hl (Nat.le_refl _);have ce:=b7p hl;have ch:=b1m ys;rw[hl] at ch;rw[ce] at cl;simp only[go_sem,a0f,Nat.lt_irrefl,true_or,tyC,zC,ce,cl,b3c,b5z,ch,hfin]
theorem d6p(t:Ty)(ys:List Ty)(fr:List AVal)(ns:Nat→Int)(hl:ys.length=t.args.length)(hb:t.sz<1000000)
 (hc:∀(i:Nat) (x y:Ty),t.args[i]? =some x→ys[i]? =some y→den E 214 [tyV x,.ptr (.par 0) 0,.ptr (.par 1) 0] [[.slice fr],[.int .i64 (ns i)]]=some (tyV y,[[.slice fr],[.int .i64 (ns (i+1))]])):
 den E 101 [tyV t,.func 214 [] [.ptr (.par 0) 0,.ptr (.par 1) 0]] [[.slice fr],[.int .i64 (ns 0)]]=some (tyV (.mk t.kind t.name t.n ys),[[.slice fr],[.int .i64 (ns t.args.length)]]):=by
 rw[a0d c5g,c5z];have hal:=a4v t;have rl:=a1k t.args;have n0:=b5v t.args.length
 by_cases h0:t.args=[]
 · have hy:ys=[]:=List.eq_nil_of_length_eq_zero (by rw[hl,h0];rfl);subst hy;rw[a4c,a0a];rw[h0] at n0;simp only[go_sem,Tryz.f101,h0,a0e]
 · have h0':¬t.args.length=0:=fun e=>h0 (List.eq_nil_of_length_eq_zero e);rw[decide_eq_false h0'] at n0;rw[a4c,a0a];obtain⟨n,hn⟩:∃n,n=t.args.length:=⟨_,rfl⟩
   rw[←hn] at hl n0 rl;have l1:((n:Int)≤1073741824)=True:=by simp;omega
   have hz:∀m,List.map a2y (List.map (a4m m) (c5a n [.int .i64 0,.str [],.int .i64 0,.own 25 0 []]))=a5e ys n 0:=fun m=>b7o ys n m;obtain⟨fin,hfin⟩:∃fin,fin=(some (.agg [.int .i64 t.kind,.str t.name,.int .i64 t.n,.slice (a2o ys)],[[.slice fr],[.int .i64 (ns t.args.length)]]):Option (AVal×a2z)):=⟨_,rfl⟩
   try rw[←hn] at hfin
   try rw[←hn]
   rw[←hfin];simp only[go_sem,Tryz.f101,rl,n0,a0c,a0i,l1];refine a3u (fun i=>⟨[(1,.func 214 [] [.ptr (.par 0) 0,.ptr (.par 1) 0]),(2,.ptr (.loc 2) 0),(4,.ptr (.loc 4) 0),(5,.ptr (.loc 16) (a2d+n)),(18,.slice (a2o t.args)),(19,.int .i64 n),(20,.int .i64 i)],[[.slice fr],[.int .i64 (ns i)]],[(2,tyC t),(4,zC),(16,a5e ys n i)],1⟩) n ?_ ?_ ?_
   · simp only[go_sem,hz,a6g,tyC,zC]
   · intro i hi h;have hia:i<t.args.length:=by omega
     have hiy:i<ys.length:=by omega
     obtain⟨x,hx⟩:=a6u hia;obtain⟨y,hy⟩:=a6u hiy;have d:=hc i x y hx hy;have hxs:=a2i (List.mem_of_getElem? hx);have hsz:=a2f t;have w1:IntKind.i64.wrap ((i:Int)+1)=((i+1:Nat):Int):=a1c (i+1) (by omega);have i1:((i:Int)<(n:Int))=True:=by simp;omega
     have i2:(i*4<a2d)=True:=by rw[a7q];simp;omega
     have cl:(a5e ys n i).length=n*4:=a8j hl (by omega);have i3:(i*4+4≤n*4)=True:=by simp;omega
     have hput:=b7n hl hy;rw[a0a,a0a] at d;simp only[go_sem,a0c,a0i,a4r,hx,a0a,tyC,zC,d,i1,i2,cl,i3];refine h _ ?_;simp only[go_sem,w1,hput,b4a,a6g,tyC,zC]
   · have cl:(a5e ys n n).length=n*4:=a8j hl (Nat.le_refl _);have ce:=b7p hl;have ch:=b1m ys;rw[hl] at ch;rw[ce] at cl;simp only[go_sem,a0f,Nat.lt_irrefl,true_or,tyC,zC,ce,cl,b3c,b5z,ch,hfin]
theorem e3u{x y:Ty}{a b:List UInt8}(h:den E 100 [tyV x,.str a,.str b] []=some (tyV y,[])):
 den E 159 [tyV x,.ptr (.par 0) 0,.ptr (.par 1) 0] [[.str a],[.str b]]=some (tyV y,[[.str a],[.str b]]):=by
 rw[a0d g8k,h5k];rw[a0a,a0a] at h⊢;simp only[go_sem,Tryz.f159,h]
theorem b2x(t:Ty)(ys:List Ty)(a b:List UInt8)(hl:ys.length=t.args.length)(hb:t.sz<1000000)
 (hc:∀(i:Nat) (x y:Ty),t.args[i]? =some x→ys[i]? =some y→den E 100 [tyV x,.str a,.str b] []=some (tyV y,[]))
 (h1:(t.kind==1&&t.name==a)=false) (h2:(t.kind==5&&t.name==a)=false) (h3:(t.kind==5&&t.name==b)=false):
 den E 100 [tyV t,.str a,.str b] []=some (tyV (.mk t.kind t.name t.n ys),[]):=by
 have d:=d6q t ys a b hl hb fun i x y hx hy=>e3u (hc i x y hx hy);rw[a0d c5h,c6a];rw[a4c,a0a] at d⊢;cases k1:t.kind==1<;>cases k5:t.kind==5<;>cases na:t.name==a<;>cases nb:t.name==b<;>simp only[k1,k5,na,nb,Bool.and_true,Bool.and_false,Bool.true_eq_false] at h1 h2 h3<;>
 simp only[go_sem,Tryz.f100,k1,k5,na,nb,d]
theorem i5u(t:Ty)(a b:List UInt8)(h1:(t.kind==1)=true)(h2:(t.name==a)=true):den E 100 [tyV t,.str a,.str b] []=some (tyV (.mk t.kind b t.n t.args),[]):=by
 rw[a0d c5h,c6a,a4c,a0a];simp only[go_sem,Tryz.f100,h1,h2]
theorem g5w(t:Ty)(a b:List UInt8)(h0:(t.kind==1)=false)(h1:(t.kind==5)=true)(h2:(t.name==a)=true):den E 100 [tyV t,.str a,.str b] []=some (tyV t,[]):=by
 rw[a0d c5h,c6a,a0a];simp only[go_sem,Tryz.f100,h0,h1,h2]
theorem f5i(t x x' y:Ty)(a b c:List UInt8)(hx:t.args=[x])(h0:(t.kind==1)=false)(h1:(t.kind==5)=true)(h2:(t.name==a)=false)(h3:(t.name==b)=true)(hb:t.sz<300000)(hs:x'.sz=x.sz)
 (hd:den E 98 [.str b,.slice ((a0n x [] []++[a,b]).map .str)] []=some (.str c,[])) (r1:den E 100 [tyV x,.str b,.str c] []=some (tyV x',[])) (r2:den E 100 [tyV x',.str a,.str b] []=some (tyV y,[])):
 den E 100 [tyV t,.str a,.str b] []=some (tyV (.mk 5 c 0 [y]),[]):=by
 have hsz:=a2f t;rw[hx,a1e] at hsz;have d:=d6q (.mk 5 c 0 [x']) [y] a b rfl (by rw[a0t,a1e];omega) fun i u v hu hv=>e3u (by
  cases i with
  | zero=>simp[Ty.args] at hu hv;subst hu hv;exact r2
  | succ i=>simp[Ty.args] at hu)
 have df:=a7j x (by omega);have hle:=a2v _ x (Nat.le_refl _) [] [];have a1:(a0n x [] []).length+2≤a0l:=by unfold a0l;simp at hle;omega
 rw[a0d c5h,c6a];simp only[a4c,a1a,a0e,Ty.kind,Ty.name,Ty.n] at d;simp only[List.map_append,List.map_cons,List.map_nil] at hd;rw[a4c,a1a,a0e];rw[a0a] at r1 r2 d df⊢;rw[a0a y] at r2 d⊢;rw[a0a x'] at r1;rw[hx,a1a,a0e,a0a];simp only[go_sem,Tryz.f100,h0,h1,h2,h3,Int.le_refl,Int.toNat_zero,df,a1,List.length_map,hd,r1,d]
theorem h2u(b:List UInt8)(i:Nat)(h:i<1000000):b8b b i≠[]∧(b8b b i).length≤16:=by
 have:=a9p 5 i (by
  have e:(10:Nat) ^ (5+1)=1000000:=by decide
  omega)
 unfold b8b;refine⟨by simp,?_⟩;rw[List.length_append,List.length_append,List.length_take,List.length_singleton];omega
theorem d0i:∀ {l m:List Ty},m.length=l.length→(∀(i:Nat) (x y:Ty),l[i]? =some x→m[i]? =some y→y.sz=x.sz)→Ty.szs m=Ty.szs l
 | [],[],_,_=>rfl
 | a::l,b::m,h,hs=>by
  rw[a3b,a3b,hs 0 a b rfl rfl,d0i (by simpa using h) fun i x y hx hy=>hs (i+1) x y (by simpa using hx) (by simpa using hy)]
 | [],b::m,h,_=>by simp at h
 | a::l,[],h,_=>by simp at h
theorem b9f{α:Type}{l:List α}{y:α}(h:y∈l):∃i:Nat,l[i]? =some y:=List.mem_iff_getElem?.1 h
def a9a(i:Nat):List UInt8:=120::Lib.itoa (i:Int)
theorem g3p(i j:Nat)(h:a9a i=a9a j):i=j:=c5n i j (by unfold a9a at h;injection h)
theorem c9c(i:Nat)(h:i<1000000000):(a9a i).length≤16∧a9a i≠[]∧1+(Lib.itoa (i:Int)).length≤a0q:=by
 have:=a9p 8 i (by
  have e:(10:Nat) ^ (8+1)=1000000000:=by decide
  omega)
 unfold a9a a0q;exact⟨by simp;omega,by simp,by omega⟩
theorem e4t{x y:Ty}{fr:List AVal}{k k':Nat}(h:den E 151 [tyV x,.slice fr,.int .i64 k] []=some (.tup [tyV y,.int .i64 k'],[])):
 den E 214 [tyV x,.ptr (.par 0) 0,.ptr (.par 1) 0] [[.slice fr],[.int .i64 k]]=some (tyV y,[[.slice fr],[.int .i64 k']]):=by
 rw[a0d g7b,h4a];rw[a0a,a0a] at h⊢;simp only[go_sem,Tryz.f214,h]
theorem c0l(t:Ty)(ys:List Ty)(fr:List AVal)(ks:List Nat)(hl:ys.length=t.args.length)(hb:t.sz<1000000)(hk:(t.kind==5)=false)
 (hc:∀(i:Nat) (x y:Ty),t.args[i]? =some x→ys[i]? =some y→den E 151 [tyV x,.slice fr,.int .i64 (ks.getD i 0:Nat)] []=some (.tup [tyV y,.int .i64 (ks.getD (i+1) 0:Nat)],[])):
 den E 151 [tyV t,.slice fr,.int .i64 (ks.getD 0 0:Nat)] []=some (.tup [tyV (.mk t.kind t.name t.n ys),.int .i64 (ks.getD t.args.length 0:Nat)],[]):=by
 have d:=d6p t ys fr (fun i=>((ks.getD i 0:Nat):Int)) hl hb fun i x y hx hy=>e4t (hc i x y hx hy)
 try simp only at d
 generalize ks.getD t.args.length 0=k' at d⊢;generalize ks.getD 0 0=k0 at d⊢;rw[a0d e4g,e6p];rw[a4c,a0a] at d⊢;simp only[go_sem,Tryz.f151,hk,d]
theorem i7q(t x x' y:Ty)(fr:List (List UInt8))(k m k':Nat)(hx:t.args=[x])(hk:(t.kind==5)=true)(hf:fr.length<1000000)(hkm:k≤m)(hm:m<999999999)
 (h2:fr.contains (a9a m)=false) (h3:∀j,k≤j→j<m→fr.contains (a9a j)=true) (hs:x'.sz<300000)
 (r1:den E 100 [tyV x,.str t.name,.str (a9a m)] []=some (tyV x',[])) (r2:den E 151 [tyV x',.slice (fr.map .str),.int .i64 ((m+1:Nat):Int)] []=some (.tup [tyV y,.int .i64 k'],[])):
 den E 151 [tyV t,.slice (fr.map .str),.int .i64 k] []=some (.tup [tyV (.mk 5 (a9a m) 0 [y]),.int .i64 k'],[]):=by
 have d:=d6p (.mk 5 (a9a m) 0 [x']) [y] (fr.map .str) (fun j=>if j=0 then ((m+1:Nat):Int) else (k':Int)) rfl (by rw[a0t,a1e];omega) fun j u v hu hv=>by
  cases j with
  | zero=>simp[Ty.args] at hu hv;subst hu hv;exact e4t r2
  | succ j=>simp[Ty.args] at hu
 have e1:(Ty.mk 5 (a9a m) 0 [x']).args.length=1:=rfl;rw[e1] at d;simp only[if_true,Nat.one_ne_zero,if_false] at d;simp only[a4c,a1a,a0e,Ty.kind,Ty.name,Ty.n] at d;rw[a0d e4g,e6p];have d0:=a9z k (by omega);have m0:=(c9c k (by omega)).2.2;rw[a4c,a1a,a0e];rw[a0a] at r1 d⊢;rw[a0a y] at d⊢;rw[a0a x'] at r1;rw[hx,a1a,a0e,a0a];obtain⟨fin,hfin⟩:∃fin,fin=(some (.tup [.agg [.int .i64 5,.str (a9a m),.int .i64 0,.slice [.agg [.int .i64 y.kind,.str y.name,.int .i64 y.n,.slice (a2o y.args)]]],.int .i64 k'],[]):Option (AVal×a2z)):=⟨_,rfl⟩
 rw[←hfin];simp only[go_sem,Tryz.f151,hk,d0,m0];refine a0p (fun j:Nat=>k≤j∧j≤m) (fun j=>⟨[(3,.ptr (.loc 3) 0),(4,.ptr (.loc 4) 0),(5,.ptr (.loc 5) 0),(6,.ptr (.loc 6) 0),(8,.str (a9a j))],[],
  [(3,[.int .i64 t.kind,.str t.name,.int .i64 t.n,.slice [.agg [.int .i64 x.kind,.str x.name,.int .i64 x.n,.slice (a2o x.args)]]]),(4,[.slice (fr.map .str)]),(5,[.int .i64 (j:Int)]),(6,[.int .i64 0,.str [],.int .i64 0,.own 25 0 []])],1⟩)
  (fun _=>fin) (fun j=>m - j) k ⟨Nat.le_refl _,hkm⟩ ?_ ?_
 · simp only[go_sem,a9a]
 · intro j hj h;obtain⟨q,w1,hq⟩:∃q:Nat,IntKind.i64.wrap ((j:Int)+1)=(q:Int)∧q=j+1:=⟨j+1,a1c (j+1) (by omega),rfl⟩
   have dc:=a4a fr (a9a j) hf
   by_cases hlt:j<m
   · rw[h3 j hj.1 hlt] at dc;have d1:=a9z q (by omega);have m1:=(c9c q (by omega)).2.2;simp only[go_sem,dc,w1,d1,m1];refine h q _ ⟨by omega,by omega⟩ (by omega) ?_;simp only[go_sem,a9a]
   · have hje:j=m:=by omega
     subst hje;rw[h2] at dc;rw[←hq] at d;simp only[go_sem,dc,w1,Int.le_refl,Int.toNat_zero,r1,d,hfin]
def g9o(o:List (List UInt8)):List (List UInt8)→Nat→Int
 | [],_=> -1
 | x::r,i=>if !o.contains x then (i:Int) else g9o o r (i+1)
def e4o(l o:List (List UInt8)):List UInt8×Bool:=match l.find? fun n=> !o.contains n with
 | none=>([],false)
 | some n=>(n,true)
theorem d7u(o:List (List UInt8)):∀(l:List (List UInt8)) (i:Nat),(g9o o l i= -1∧l.find? (fun n=> !o.contains n)=none)∨∃k n,g9o o l i=((i+k:Nat):Int)∧l[k]? =some n∧l.find? (fun n=> !o.contains n)=some n
 | [],i=>.inl ⟨rfl,rfl⟩
 | x::r,i=>by
  unfold g9o;rw[List.find?_cons];cases h:o.contains x
  · exact .inr ⟨0,x,by simp,rfl,by simp⟩
  · simp only[Bool.not_true,Bool.false_eq_true,if_false];rcases d7u o r (i+1) with⟨h1,h2⟩| ⟨k,n,h1,h2,h3⟩
    · exact .inl ⟨h1,h2⟩
    · exact .inr ⟨k+1,n,by rw[h1];congr 1;omega,by simpa using h2,h3⟩
theorem f6c(o:List (List UInt8))(n:List UInt8)(ho:o.length<1000000):den E 205 [.str n,.ptr (.par 0) 0] [[.slice (o.map .str)]]=some (.bool (!o.contains n),[[.slice (o.map .str)]]):=by
 rw[a0d g7i,h4i];have h1:=a4a o n ho;simp only[go_sem,Tryz.f205,h1]
theorem h0p(l o:List (List UInt8))(hl:l.length<1000000)(ho:o.length<1000000):den E 204 [.slice (l.map .str),.func 205 [] [.ptr (.par 0) 0]] [[.slice (o.map .str)]]=some (.int .i64 (g9o o l 0),[[.slice (o.map .str)]]):=by
 rw[a0d g7j,h4j];simp only[go_sem,Tryz.f204,List.length_map];refine a0p (fun i:Nat=>i≤l.length) (fun i=>⟨[(0,.slice (l.map .str)),(1,.func 205 [] [.ptr (.par 0) 0]),(7,.int .i64 l.length),(8,.int .i64 i)],[[.slice (o.map .str)]],[],1⟩) (fun i=>some (.int .i64 (g9o o (l.drop i) i),[[.slice (o.map .str)]])) (fun i=>l.length - i) 0 (Nat.zero_le _) ?_ ?_
 · simp only[go_sem]
 · intro i hi h
   by_cases hlt:i<l.length
   · obtain⟨x,hx⟩:=a6u hlt;rw[a1z hx];have w1:IntKind.i64.wrap ((i:Int)+1)=((i+1:Nat):Int):=a1c (i+1) (by omega);have d:=f6c o x ho;cases hq:o.contains x
     · simp only[go_sem,a0f,decide_eq_true hlt,a0c,a0i,a4t,hx,hq,d,g9o]
     · simp only[go_sem,a0f,decide_eq_true hlt,a0c,a0i,a4t,hx,hq,d,g9o];refine h (i+1) _ (by omega) (by omega) ?_;simp only[go_sem,w1]
   · have hie:i=l.length:=by omega
     subst hie;rw[List.drop_length];simp only[go_sem,a0f,Nat.lt_irrefl,g9o]
theorem b9c(l o:List (List UInt8))(hl:l.length<1000000)(ho:o.length<1000000):den E 141 [.slice (l.map .str),.slice (o.map .str)] []=some (twV (e4o l o),[]):=by
 rw[a0d g8u,h5u];have h1:=h0p l o hl ho;rcases d7u o l 0 with⟨h2,h3⟩| ⟨k,n,h2,h3,h4⟩
 · rw[h2] at h1;have e:e4o l o=([],false):=by unfold e4o;rw[h3]
   rw[e];simp only[go_sem,Tryz.f141,h1,twV]
 · rw[h2] at h1;have e:e4o l o=(n,true):=by unfold e4o;rw[h4]
   rw[e];have h5:decide (((0+k:Nat):Int)<0)=false:=by simp
   simp only[Nat.zero_add] at h1 h5;simp only[go_sem,Tryz.f141,h1,h5,a0c,a0i,a4t,h3,twV]
end Go.Proofs
namespace Go.Proofs
open Go.Av
set_option maxHeartbeats 16000000
set_option maxRecDepth 100000
section
variable{α:Type}(ext:List (List UInt8)→List (List UInt8)→List (List UInt8))(fa:Ex→List (List UInt8)→α→α)(fb:Al→α→α)
mutual
def a5n:Ex→List (List UInt8)→α→α
 | .mk k s tl t ks al,b,acc=>
  if k==3 then a2k ks (ext b [s]) (fa (.mk k s tl t ks al) b acc)
  else if k==5 then c1n ks b s (fa (.mk k s tl t ks al) b acc)
  else a1r al b (a2k ks b (fa (.mk k s tl t ks al) b acc))
def a2k:List Ex→List (List UInt8)→α→α
 | [],_,acc=>acc
 | e::r,b,acc=>a2k r b (a5n e b acc)
def c1n:List Ex→List (List UInt8)→List UInt8→α→α
 | [],_,_,acc=>acc
 | e::r,b,s,acc=>a2k r (ext b [s]) (a5n e b acc)
def f3m:Al→List (List UInt8)→α→α
 | .mk c vs e,b,acc=>a5n e (ext b vs) (fb (.mk c vs e) acc)
def a1r:List Al→List (List UInt8)→α→α
 | [],_,acc=>acc
 | a::r,b,acc=>a1r r b (f3m a b acc)
end
end
section
variable{α:Type}{ext:List (List UInt8)→List (List UInt8)→List (List UInt8)}{fa:Ex→List (List UInt8)→α→α}{fb:Al→α→α}
theorem b9o(e:Ex)(b:List (List UInt8))(acc:α):a5n ext fa fb e b acc=if e.kind==3 then a2k ext fa fb e.kids (ext b [e.name]) (fa e b acc)
 else if e.kind==5 then c1n ext fa fb e.kids b e.name (fa e b acc)
 else a1r ext fa fb e.alts b (a2k ext fa fb e.kids b (fa e b acc)):=by
 cases e;simp only[a5n,Ex.kind,Ex.name,Ex.kids,Ex.alts];rfl
theorem b6q(a:Al)(b:List (List UInt8))(acc:α):f3m ext fa fb a b acc=a5n ext fa fb a.body (ext b a.vars) (fb a acc):=by
 cases a;simp only[f3m,Al.body,Al.vars]
theorem a3z(b:List (List UInt8))(acc:α):a2k ext fa fb [] b acc=acc:=by simp only[a2k]
theorem a4f(e:Ex)(r:List Ex)(b:List (List UInt8))(acc:α):a2k ext fa fb (e::r) b acc=a2k ext fa fb r b (a5n ext fa fb e b acc):=by simp only[a2k]
theorem a8c(b:List (List UInt8))(acc:α):a1r ext fa fb [] b acc=acc:=by simp only[a1r]
theorem b1f(e:Al)(r:List Al)(b:List (List UInt8))(acc:α):a1r ext fa fb (e::r) b acc=a1r ext fa fb r b (f3m ext fa fb e b acc):=by simp only[a1r]
theorem a9r(e:Ex)(r:List Ex)(b:List (List UInt8))(s:List UInt8)(acc:α):c1n ext fa fb (e::r) b s acc=a2k ext fa fb r (ext b [s]) (a5n ext fa fb e b acc):=by simp only[c1n]
theorem e0i(b:List (List UInt8))(s:List UInt8)(acc:α):c1n ext fa fb [] b s acc=acc:=by simp only[c1n]
theorem b3l(l:List Ex)(x:Ex)(b:List (List UInt8))(acc:α):a2k ext fa fb (l++[x]) b acc=a5n ext fa fb x b (a2k ext fa fb l b acc):=by
 induction l generalizing acc with
 | nil=>rw[List.nil_append,a4f,a3z,a3z]
 | cons e r ih=>rw[List.cons_append,a4f,a4f,ih]
theorem b3m(l:List Al)(x:Al)(b:List (List UInt8))(acc:α):a1r ext fa fb (l++[x]) b acc=f3m ext fa fb x b (a1r ext fa fb l b acc):=by
 induction l generalizing acc with
 | nil=>rw[List.nil_append,b1f,a8c,a8c]
 | cons e r ih=>rw[List.cons_append,b1f,b1f,ih]
theorem a5w(e:Ex)(r:List Ex):Ex.tots (e::r)=e.tot+Ex.tots r:=by simp[Ex.tots]
theorem b4f(a:Al)(r:List Al):Al.tots (a::r)=a.tot+Al.tots r:=by simp[Al.tots]
theorem b7w(a:Al):a.tot=a.body.tot+a.vars.length+1:=by cases a;simp[Al.tot,Al.body,Al.vars]
theorem b4j(e:Ex):1≤e.ty.sz:=by rw[a2f];omega
theorem b3k(m:α→Nat)(h1:∀e b acc,m (fa e b acc)≤m acc+1)(h2:∀a acc,m (fb a acc)≤m acc+a.vars.length+1):∀(n:Nat) (e:Ex),e.tot≤n→∀b acc,m (a5n ext fa fb e b acc)≤m acc+e.tot:=by
 intro n
 induction n with
 | zero=>intro e he;have:=b0l e;have:=b4j e;omega
 | succ n ih=>
  have hks:∀(l:List Ex) b acc,Ex.tots l≤n→m (a2k ext fa fb l b acc)≤m acc+Ex.tots l:=by
   intro l
   induction l with
   | nil=>intro b acc _;rw[a3z];omega
   | cons e r ihr=>
    intro b acc hl;rw[a5w] at hl⊢;rw[a4f];have:=ih e (by omega) b acc;have:=ihr b (a5n ext fa fb e b acc) (by omega);omega
  have hal:∀(l:List Al) b acc,Al.tots l≤n→m (a1r ext fa fb l b acc)≤m acc+Al.tots l:=by
   intro l
   induction l with
   | nil=>intro b acc _;rw[a8c];omega
   | cons e r ihr=>
    intro b acc hl;rw[b4f,b7w] at hl⊢;rw[b1f,b6q];have:=h2 e acc;have:=ih e.body (by omega) (ext b e.vars) (fb e acc);have:=ihr b (a5n ext fa fb e.body (ext b e.vars) (fb e acc)) (by omega);omega
  intro e he b acc;have ht:=b0l e;have hp:=b4j e;have h0:=h1 e b acc;rw[b9o];split
  · have:=hks e.kids (ext b [e.name]) (fa e b acc) (by omega);omega
  · split
    · cases hk:e.kids with
      | nil=>rw[e0i];omega
      | cons x r=>
       rw[hk,a5w] at ht;rw[a9r];have:=ih x (by omega) b (fa e b acc);have:=hks r (ext b [e.name]) (a5n ext fa fb x b (fa e b acc)) (by omega);omega
    · have:=hks e.kids b (fa e b acc) (by omega);have:=hal e.alts b (a2k ext fa fb e.kids b (fa e b acc)) (by omega);omega
end
inductive SX:Ex→Prop
 | mk (e:Ex):(e.kind=1→e.kids=[]∧e.alts=[])→(e.kind=3→(∃x,e.kids=[x])∧e.alts=[])→(e.kind=5→(∃x y,e.kids=[x,y])∧e.alts=[])→(∀x∈e.kids,SX x)→(∀a∈e.alts,SX a.body)→SX e
theorem SX.nam{e:Ex}(h:SX e)(hk:(e.kind==1)=true):e.kids=[]∧e.alts=[]:=by cases h with|mk _ h _ _ _ _=>exact h (by simpa using hk)
theorem SX.lam{e:Ex}(h:SX e)(hk:(e.kind==3)=true):∃x,e.kids=[x]:=by cases h with|mk _ _ h _ _ _=>exact (h (by simpa using hk)).1
theorem SX.lett{e:Ex}(h:SX e)(hk:(e.kind==5)=true):∃x y,e.kids=[x,y]:=by cases h with|mk _ _ _ h _ _=>exact (h (by simpa using hk)).1
theorem SX.kid{e x:Ex}(h:SX e)(hx:x∈e.kids):SX x:=by cases h with|mk _ _ _ _ h _=>exact h x hx
theorem SX.alt{e:Ex}{a:Al}(h:SX e)(hx:a∈e.alts):SX a.body:=by cases h with|mk _ _ _ _ _ h=>exact h a hx
theorem c4q{l:List Ex}{i:Nat}{x:Ex}(h:l[i]? =some x):Ex.tots (l.take i)+x.tot≤Ex.tots l:=by
 induction l generalizing i with
 | nil=>simp at h
 | cons e r ih=>
  cases i with
  | zero=>simp at h;subst h;simp[Ex.tots]
  | succ i=>
   rw[List.take_succ_cons,a5w,a5w];have:=ih (i:=i) (by simpa using h);omega
theorem b7v{l:List Al}{i:Nat}{x:Al}(h:l[i]? =some x):Al.tots (l.take i)+x.tot≤Al.tots l:=by
 induction l generalizing i with
 | nil=>simp at h
 | cons e r ih=>
  cases i with
  | zero=>simp at h;subst h;simp[Al.tots]
  | succ i=>
   rw[List.take_succ_cons,b4f,b4f];have:=ih (i:=i) (by simpa using h);omega
theorem a7l{α:Type}{l:List α}{i:Nat}{x:α}(h:l[i]? =some x):l.take (i+1)=l.take i++[x]:=by rw[List.take_add_one,h];rfl
theorem a9s{α:Type}{ext:List (List UInt8)→List (List UInt8)→List (List UInt8)}{fa:Ex→List (List UInt8)→α→α}{fb:Al→α→α}(m:α→Nat)(h1:∀e b acc,m (fa e b acc)≤m acc+1)(h2:∀a acc,m (fb a acc)≤m acc+a.vars.length+1):
 ∀(l:List Ex) b acc,m (a2k ext fa fb l b acc)≤m acc+Ex.tots l:=by
 intro l
 induction l with
 | nil=>intro b acc;rw[a3z];omega
 | cons e r ih=>
  intro b acc;rw[a4f,a5w];have:=b3k (ext:=ext) m h1 h2 _ e (Nat.le_refl _) b acc;have:=ih b (a5n ext fa fb e b acc);omega
theorem b9p{α:Type}{ext:List (List UInt8)→List (List UInt8)→List (List UInt8)}{fa:Ex→List (List UInt8)→α→α}{fb:Al→α→α}(m:α→Nat)(h1:∀e b acc,m (fa e b acc)≤m acc+1)(h2:∀a acc,m (fb a acc)≤m acc+a.vars.length+1):
 ∀(l:List Al) b acc,m (a1r ext fa fb l b acc)≤m acc+Al.tots l:=by
 intro l
 induction l with
 | nil=>intro b acc;rw[a8c];omega
 | cons e r ih=>
  intro b acc;rw[b1f,b4f,b7w,b6q];have:=h2 e acc;have:=b3k (ext:=ext) m h1 h2 _ e.body (Nat.le_refl _) (ext b e.vars) (fb e acc);have:=ih b (a5n ext fa fb e.body (ext b e.vars) (fb e acc));omega
end Go.Proofs
namespace Go.Proofs
open Go.Av
set_option maxHeartbeats 16000000
set_option maxRecDepth 100000
theorem c5m(e:Ex):e.kids.length+1≤e.tot:=by have:=b3n e.kids;have:=b0l e;have:=b4j e;omega
theorem e0c(l:List (List UInt8))(n:List UInt8):(b2k l n).length≤l.length+1:=by
 unfold b2k;split
 · omega
 · simp
theorem e2l:∀(ns l:List (List UInt8)),(ns.foldl b2k l).length≤l.length+ns.length
 | [],l=>by simp
 | n::r,l=>by
  rw[List.foldl_cons,List.length_cons];have:=e2l r (b2k l n);have:=e0c l n;omega
def faF(e:Ex)(b acc:List (List UInt8)):List (List UInt8):=if e.kind==1&& !b.contains e.name then b2k acc e.name else acc
def fbF(_:Al)(acc:List (List UInt8)):List (List UInt8):=acc
def faC(e:Ex)(_ acc:List (List UInt8)):List (List UInt8):=if e.kind==2 then b2k acc e.name else acc
def fbC(a:Al)(acc:List (List UInt8)):List (List UInt8):=b2k acc a.con
def faB(e:Ex)(_ acc:List (List UInt8)):List (List UInt8):=if e.kind==3||e.kind==5 then b2k acc e.name else acc
def fbB(a:Al)(acc:List (List UInt8)):List (List UInt8):=a.vars.foldl b2k acc
def faT(_:Ex)(_:List (List UInt8))(acc:Bool×List UInt8):Bool×List UInt8:=acc
def fbT(a:Al)(acc:Bool×List UInt8):Bool×List UInt8:=if (twR a.vars [] a.vars 0).2&& !acc.1 then (true,(twR a.vars [] a.vars 0).1) else acc
theorem d2e(e:Ex)(b acc:List (List UInt8)):(faF e b acc).length≤acc.length+1:=by
 unfold faF;split
 · exact e0c _ _
 · omega
theorem d2b(a:Al)(acc:List (List UInt8)):(fbF a acc).length≤acc.length+a.vars.length+1:=by unfold fbF;omega
theorem d2f(e:Ex)(b acc:List (List UInt8)):(faC e b acc).length≤acc.length+1:=by
 unfold faC;split
 · exact e0c _ _
 · omega
theorem d2c(a:Al)(acc:List (List UInt8)):(fbC a acc).length≤acc.length+a.vars.length+1:=by unfold fbC;have:=e0c acc a.con;omega
theorem d2g(e:Ex)(b acc:List (List UInt8)):(faB e b acc).length≤acc.length+1:=by
 unfold faB;split
 · exact e0c _ _
 · omega
theorem d2d(a:Al)(acc:List (List UInt8)):(fbB a acc).length≤acc.length+a.vars.length+1:=by unfold fbB;have:=e2l a.vars acc;omega
theorem e5y(e:Ex)(b:List (List UInt8))(acc:Bool×List UInt8):(fun _:Bool×List UInt8=>0) (faT e b acc)≤(fun _:Bool×List UInt8=>0) acc+1:=Nat.zero_le _
theorem d9h(a:Al)(acc:Bool×List UInt8):(fun _:Bool×List UInt8=>0) (fbT a acc)≤(fun _:Bool×List UInt8=>0) acc+a.vars.length+1:=Nat.zero_le _
theorem i9a(e:Ex)(b acc:List (List UInt8))(h:acc.length<1000000):den E 240 [.agg (exC e),.pmap (a5c b),.ptr (.par 0) 0] [[.own 9 0 (acc.map .str),b0m 0 acc]]=some (.tup [],[[.own 9 0 ((faF e b acc).map .str),b0m 0 (faF e b acc)]]):=by
 rw[a0d g6m,h3m,a0h];have d:=c9p acc e.name h;have hf:=b6a e.name b;unfold f4t at d;unfold faF;cases h1:e.kind==1
 · simp only[go_sem,Tryz.f240,h1,↓a1f,↓a0z]
 · cases h2:b.contains e.name
   · rw[h2] at hf;simp only[go_sem,Tryz.f240,h1,hf,d,↓a1x,↓a7o,↓a4u,a6c,a4i,↓a1f,↓a0z]
   · rw[h2] at hf;simp only[go_sem,Tryz.f240,h1,hf,↓a1f,↓a0z]
theorem i8v(a:Al)(acc:List (List UInt8))(_:acc.length+a.vars.length<1000000):den E 241 [alV a] []=some (.tup [],[]):=by
 rw[a0d g6l,h3l,b1o,a0h];simp only[go_sem,Tryz.f241]
theorem i9b(e:Ex)(b acc:List (List UInt8))(h:acc.length<1000000):den E 242 [.agg (exC e),.pmap (a5c b),.ptr (.par 0) 0] [[.own 9 0 (acc.map .str),b0m 0 acc]]=some (.tup [],[[.own 9 0 ((faC e b acc).map .str),b0m 0 (faC e b acc)]]):=by
 rw[a0d g6k,h3k,a0h];have d:=c9p acc e.name h;unfold f4t at d;unfold faC;cases h1:e.kind==2
 · simp only[go_sem,Tryz.f242,h1,↓a1f,↓a0z]
 · simp only[go_sem,Tryz.f242,h1,d,↓a1x,↓a7o,↓a4u,a6c,a4i,↓a1f,↓a0z]
theorem i8w(a:Al)(acc:List (List UInt8))(h:acc.length+a.vars.length<1000000):den E 243 [alV a,.ptr (.par 0) 0] [[.own 9 0 (acc.map .str),b0m 0 acc]]=some (.tup [],[[.own 9 0 ((fbC a acc).map .str),b0m 0 (fbC a acc)]]):=by
 rw[a0d g6j,h3j,b1o,a0h];have d:=c9p acc a.con (by omega);unfold f4t at d;unfold fbC;simp only[go_sem,Tryz.f243,d,↓a1x,↓a7o,↓a4u,a6c,a4i,↓a1f,↓a0z]
theorem i9c(e:Ex)(b acc:List (List UInt8))(h:acc.length<1000000):den E 236 [.agg (exC e),.pmap (a5c b),.ptr (.par 0) 0] [[.own 9 0 (acc.map .str),b0m 0 acc]]=some (.tup [],[[.own 9 0 ((faB e b acc).map .str),b0m 0 (faB e b acc)]]):=by
 rw[a0d g6q,h3q,a0h];have d:=c9p acc e.name h;unfold f4t at d;unfold faB;cases h1:e.kind==3
 · cases h2:e.kind==5
   · simp only[go_sem,Tryz.f236,h1,h2,↓a1f,↓a0z]
   · simp only[go_sem,Tryz.f236,h1,h2,d,↓a1x,↓a7o,↓a4u,a6c,a4i,↓a1f,↓a0z]
 · simp only[go_sem,Tryz.f236,h1,d,↓a1x,↓a7o,↓a4u,a6c,a4i,↓a1f,↓a0z]
theorem i8x(a:Al)(acc:List (List UInt8))(h:acc.length+a.vars.length<1000000):den E 238 [alV a,.ptr (.par 0) 0] [[.own 9 0 (acc.map .str),b0m 0 acc]]=some (.tup [],[[.own 9 0 ((fbB a acc).map .str),b0m 0 (fbB a acc)]]):=by
 rw[a0d g6o,h3o,b1o,a0h];unfold fbB;simp only[go_sem,Tryz.f238,List.length_map];refine a0p (fun i:Nat=>i≤a.vars.length) (fun i=>⟨[(1,.ptr (.par 0) 0),(6,.slice (a.vars.map .str)),(7,.int .i64 a.vars.length),(8,.int .i64 i)],[[.own 9 0 (((a.vars.take i).foldl b2k acc).map .str),b0m 0 ((a.vars.take i).foldl b2k acc)]],[],1⟩)
  (fun _=>some (.tup [],[[.own 9 0 ((a.vars.foldl b2k acc).map .str),b0m 0 (a.vars.foldl b2k acc)]])) (fun i=>a.vars.length - i) 0 (Nat.zero_le _) ?_ ?_
 · simp only[go_sem,List.take_zero,List.foldl_nil,↓a1f,↓a0z]
 · intro i hi hr
   by_cases hlt:i<a.vars.length
   · obtain⟨x,hx⟩:=a6u hlt;have w1:IntKind.i64.wrap ((i:Int)+1)=((i+1:Nat):Int):=a1c (i+1) (by omega);have hle:=e2l (a.vars.take i) acc;rw[List.length_take] at hle;have d:=c9p ((a.vars.take i).foldl b2k acc) x (by omega);have e2:b2k ((a.vars.take i).foldl b2k acc) x=(a.vars.take (i+1)).foldl b2k acc:=by rw[a7l hx,List.foldl_append];rfl
     rw[e2] at d;unfold f4t at d;generalize (a.vars.take i).foldl b2k acc=a1 at *;simp only[go_sem,a0f,decide_eq_true hlt,a0c,a0i,a4t,hx,d,↓a1x,↓a7o,↓a4u,a6c,a4i,↓a0z];refine hr (i+1) _ (by omega) (by omega) ?_;simp only[go_sem,w1,↓a1f,↓a0z]
   · have hie:i=a.vars.length:=by omega
     subst hie;rw[List.take_length];simp only[go_sem,a0f,Nat.lt_irrefl,↓a1f,↓a0z]
theorem i8z(e:Ex)(b:List (List UInt8))(_acc:Bool×List UInt8)(_:0<1000000):den E 208 [.agg (exC e),.pmap (a5c b)] []=some (.tup [],[]):=by
 rw[a0d g7g,h4g,a0h];simp only[go_sem,Tryz.f208]
theorem i8u(a:Al)(acc:Bool×List UInt8)(h:a.vars.length<1000000):den E 209 [alV a,.ptr (.par 0) 0,.ptr (.par 1) 0] [[.bool acc.1],[.str acc.2]]=some (.tup [],[[.bool (fbT a acc).1],[.str (fbT a acc).2]]):=by
 rw[a0d g7f,h4f,b1o,a0h];have d:=b2s a.vars [] h (by simp);simp only[List.map_nil,twV] at d;unfold fbT;cases h1:(twR a.vars [] a.vars 0).2
 · rw[h1] at d;simp only[go_sem,Tryz.f209,d]
 · rw[h1] at d;cases h2:acc.1
   · simp only[go_sem,Tryz.f209,d]
   · simp only[go_sem,Tryz.f209,d,h2]
theorem f3j:∀(n:Nat) (e:Ex),e.tot≤n→SX e→∀(b:List (List UInt8)) (acc:List (List UInt8)),(acc).length+e.tot<1000000→den E 207 [.agg (exC e),.pmap (a5c b),.func 240 [] [.ptr (.par 0) 0],.func 241 [] []] [[.own 9 0 ((acc).map .str),b0m 0 (acc)]]=some (.tup [],[[.own 9 0 ((a5n a0s faF fbF e b acc).map .str),b0m 0 (a5n a0s faF fbF e b acc)]]):=by
 intro n
 induction n with
 | zero=>intro e he;exfalso;have:=b0l e;have:=b4j e;omega
 | succ n ih=>
 intro e he hs b acc hm;have ht:=b0l e;have hp:=b4j e;have d0:=i9a e b acc (by omega);obtain⟨a0,ha0⟩:∃a0,a0=faF e b acc:=⟨_,rfl⟩
 have m0:(a0).length≤(acc).length+1:=ha0▸d2e e b acc;rw[a0h] at d0;rw[a0d c5e,c5x,a0h,b9o,←ha0];rw[←ha0] at d0;cases h3:e.kind==3
 · cases h5:e.kind==5
   · simp only[Bool.false_eq_true,if_false];simp only[go_sem,Tryz.f207,d0,h3,h5,↓a1x,↓a7o,↓a4u,a6c,a4i,↓a0z,a3x];refine a0p (fun i:Nat=>i≤e.kids.length) (fun i=>⟨[(1,.pmap (a5c b)),(2,.func 240 [] [.ptr (.par 0) 0]),(3,.func 241 [] []),(4,.ptr (.loc 4) 0),(55,.slice (a8q e.kids)),(56,.int .i64 e.kids.length),(57,.int .i64 i)],[[.own 9 0 ((a2k a0s faF fbF (e.kids.take i) b a0).map .str),b0m 0 (a2k a0s faF fbF (e.kids.take i) b a0)]],[(4,[.int .i64 e.kind,.str e.name,.bool e.told,.int .i64 e.ty.kind,.str e.ty.name,.int .i64 e.ty.n,.slice (a2o e.ty.args),.slice (a8q e.kids),.slice (b4p e.alts)])],1⟩)
      (fun _=>some (.tup [],[[.own 9 0 ((a1r a0s faF fbF e.alts b (a2k a0s faF fbF e.kids b a0)).map .str),b0m 0 (a1r a0s faF fbF e.alts b (a2k a0s faF fbF e.kids b a0))]])) (fun i=>e.kids.length - i) 0 (Nat.zero_le _) ?_ ?_
     · simp only[go_sem,List.take_zero,a3z,↓a1f,↓a0z]
     · intro i hi h
       by_cases hlt:i<e.kids.length
       · obtain⟨x,hx⟩:=a6u hlt;have w1:IntKind.i64.wrap ((i:Int)+1)=((i+1:Nat):Int):=a1c (i+1) (by have:=c5m e;omega);have hts:=a7l hx;have hg:=c4q hx;have hle:(a2k a0s faF fbF (e.kids.take i) b a0).length≤(a0).length+Ex.tots (e.kids.take i):=a9s (ext:=a0s) (fa:=faF) (fb:=fbF) List.length d2e d2b (e.kids.take i) b a0;have d:=ih x (by have:=a5u (List.mem_of_getElem? hx);omega) (hs.kid (List.mem_of_getElem? hx)) b (a2k a0s faF fbF (e.kids.take i) b a0) (by omega);rw[←b3l,←hts] at d;rw[a0h] at d;generalize a2k a0s faF fbF (e.kids.take i) b a0=a1 at *;simp only[go_sem,a0f,decide_eq_true hlt,a0c,a0i,a6j,hx,a0h,d,↓a1x,↓a7o,↓a4u,a6c,a4i,↓a0z];refine h (i+1) _ (by omega) (by omega) ?_;simp only[go_sem,w1,↓a1f,↓a0z]
       · have hie:i=e.kids.length:=by omega
         subst hie;rw[List.take_length];have hle:(a2k a0s faF fbF e.kids b a0).length≤(a0).length+Ex.tots e.kids:=a9s (ext:=a0s) (fa:=faF) (fb:=fbF) List.length d2e d2b e.kids b a0;generalize a2k a0s faF fbF e.kids b a0=a1 at *;clear h d0;simp only[go_sem,a0f,Nat.lt_irrefl,b2d];refine a0p (fun i:Nat=>i≤e.alts.length) (fun i=>⟨[(1,.pmap (a5c b)),(2,.func 240 [] [.ptr (.par 0) 0]),(3,.func 241 [] []),(68,.slice (b4p e.alts)),(69,.int .i64 e.alts.length),(70,.int .i64 i)],[[.own 9 0 ((a1r a0s faF fbF (e.alts.take i) b a1).map .str),b0m 0 (a1r a0s faF fbF (e.alts.take i) b a1)]],[],1⟩)
          (fun _=>some (.tup [],[[.own 9 0 ((a1r a0s faF fbF e.alts b a1).map .str),b0m 0 (a1r a0s faF fbF e.alts b a1)]])) (fun i=>e.alts.length - i) 0 (Nat.zero_le _) ?_ ?_
         · simp only[go_sem,List.take_zero,a8c,↓a1f,↓a0z]
         · intro i hi h
           by_cases hlt:i<e.alts.length
           · obtain⟨x,hx⟩:=a6u hlt;have w1:IntKind.i64.wrap ((i:Int)+1)=((i+1:Nat):Int):=a1c (i+1) (by have:=d6g e;omega);have hts:=a7l hx;have hg:=b7v hx;rw[b7w] at hg;have hle2:(a1r a0s faF fbF (e.alts.take i) b a1).length≤(a1).length+Al.tots (e.alts.take i):=b9p (ext:=a0s) (fa:=faF) (fb:=fbF) List.length d2e d2b (e.alts.take i) b a1;have hb:(fbF x (a1r a0s faF fbF (e.alts.take i) b a1)).length≤(a1r a0s faF fbF (e.alts.take i) b a1).length+x.vars.length+1:=d2b x (a1r a0s faF fbF (e.alts.take i) b a1);have db:=i8v x (a1r a0s faF fbF (e.alts.take i) b a1) (by omega);have dw:=a7s b x.vars (by omega);have d:=ih x.body (by have:=c6b (List.mem_of_getElem? hx);omega) (hs.alt (List.mem_of_getElem? hx)) (a0s b x.vars) (fbF x (a1r a0s faF fbF (e.alts.take i) b a1)) (by omega);have e2:=b3m (ext:=a0s) (fa:=faF) (fb:=fbF) (e.alts.take i) x b a1;rw[b6q,←hts] at e2;rw[←e2] at d;clear e2;rw[a0h] at d;rw[b1o,a0h] at db
             skip
             rw[show fbF x (a1r a0s faF fbF (e.alts.take i) b a1)=a1r a0s faF fbF (e.alts.take i) b a1 from rfl] at d;generalize a1r a0s faF fbF (e.alts.take i) b a1=a2 at *;simp only[go_sem,a0f,decide_eq_true hlt,a0c,a0i,b4h,hx,b1o,a0h,db,dw,d,↓a1x,↓a7o,↓a4u,a6c,a4i,↓a0z];refine h (i+1) _ (by omega) (by omega) ?_;simp only[go_sem,w1,↓a1f,↓a0z]
           · have hie:i=e.alts.length:=by omega
             subst hie;rw[List.take_length];simp only[go_sem,a0f,Nat.lt_irrefl,↓a1f,↓a0z]
   · obtain⟨x,y,hk⟩:=hs.lett h5;have hx:=a5u (e:=e) (x:=x) (by rw[hk];simp);have hy:=a5u (e:=e) (x:=y) (by rw[hk];simp);have hxy:x.tot+y.tot+1≤e.tot:=by rw[ht,hk,a5w,a5w];omega
     have hl:(a5n a0s faF fbF x b a0).length≤(a0).length+x.tot:=b3k (ext:=a0s) (fa:=faF) (fb:=fbF) List.length d2e d2b _ x (Nat.le_refl _) b a0;have d1:=ih x (by omega) (hs.kid (by rw[hk];simp)) b a0 (by omega);have d2:=ih y (by omega) (hs.kid (by rw[hk];simp)) (a0s b [e.name]) (a5n a0s faF fbF x b a0) (by omega);have dw:=a7s b [e.name] (by simp);simp only[List.map_cons,List.map_nil] at dw;rw[a0h] at d1 d2;rw[hk,a0x,a0x,a0w,a0h,a0h] at d0;simp only[Bool.false_eq_true,if_false,if_true];rw[hk,a9r,a4f,a3z];generalize a5n a0s faF fbF x b a0=a1 at *;simp only[go_sem,Tryz.f207,d0,h3,h5,d1,d2,dw,a0x,a0w,a0h,Int.le_refl,Int.toNat_zero,Int.toNat_one,Int.zero_le_ofNat,↓a1x,↓a7o,↓a4u,a6c,a4i,↓a1f,↓a0z]
 · obtain⟨x,hk⟩:=hs.lam h3;have hx:=a5u (e:=e) (x:=x) (by rw[hk];simp);have d:=ih x (by omega) (hs.kid (by rw[hk];simp)) (a0s b [e.name]) a0 (by omega);have dw:=a7s b [e.name] (by simp);simp only[List.map_cons,List.map_nil] at dw;rw[a0h] at d;rw[hk,a0x,a0w,a0h] at d0;simp only[if_true];rw[hk,a4f,a3z];simp only[go_sem,Tryz.f207,d0,h3,d,dw,a0x,a0w,a0h,Int.le_refl,Int.toNat_zero,↓a1x,↓a7o,↓a4u,a6c,a4i,↓a1f,↓a0z]
theorem f3k:∀(n:Nat) (e:Ex),e.tot≤n→SX e→∀(b:List (List UInt8)) (acc:List (List UInt8)),(acc).length+e.tot<1000000→den E 207 [.agg (exC e),.pmap (a5c b),.func 242 [] [.ptr (.par 0) 0],.func 243 [] [.ptr (.par 0) 0]] [[.own 9 0 ((acc).map .str),b0m 0 (acc)]]=some (.tup [],[[.own 9 0 ((a5n a0s faC fbC e b acc).map .str),b0m 0 (a5n a0s faC fbC e b acc)]]):=by
 intro n
 induction n with
 | zero=>intro e he;exfalso;have:=b0l e;have:=b4j e;omega
 | succ n ih=>
 intro e he hs b acc hm;have ht:=b0l e;have hp:=b4j e;have d0:=i9b e b acc (by omega);obtain⟨a0,ha0⟩:∃a0,a0=faC e b acc:=⟨_,rfl⟩
 have m0:(a0).length≤(acc).length+1:=ha0▸d2f e b acc;rw[a0h] at d0;rw[a0d c5e,c5x,a0h,b9o,←ha0];rw[←ha0] at d0;cases h3:e.kind==3
 · cases h5:e.kind==5
   · simp only[Bool.false_eq_true,if_false];simp only[go_sem,Tryz.f207,d0,h3,h5,↓a1x,↓a7o,↓a4u,a6c,a4i,↓a0z,a3x];refine a0p (fun i:Nat=>i≤e.kids.length) (fun i=>⟨[(1,.pmap (a5c b)),(2,.func 242 [] [.ptr (.par 0) 0]),(3,.func 243 [] [.ptr (.par 0) 0]),(4,.ptr (.loc 4) 0),(55,.slice (a8q e.kids)),(56,.int .i64 e.kids.length),(57,.int .i64 i)],[[.own 9 0 ((a2k a0s faC fbC (e.kids.take i) b a0).map .str),b0m 0 (a2k a0s faC fbC (e.kids.take i) b a0)]],[(4,[.int .i64 e.kind,.str e.name,.bool e.told,.int .i64 e.ty.kind,.str e.ty.name,.int .i64 e.ty.n,.slice (a2o e.ty.args),.slice (a8q e.kids),.slice (b4p e.alts)])],1⟩)
      (fun _=>some (.tup [],[[.own 9 0 ((a1r a0s faC fbC e.alts b (a2k a0s faC fbC e.kids b a0)).map .str),b0m 0 (a1r a0s faC fbC e.alts b (a2k a0s faC fbC e.kids b a0))]])) (fun i=>e.kids.length - i) 0 (Nat.zero_le _) ?_ ?_
     · simp only[go_sem,List.take_zero,a3z,↓a1f,↓a0z]
     · intro i hi h
       by_cases hlt:i<e.kids.length
       · obtain⟨x,hx⟩:=a6u hlt;have w1:IntKind.i64.wrap ((i:Int)+1)=((i+1:Nat):Int):=a1c (i+1) (by have:=c5m e;omega);have hts:=a7l hx;have hg:=c4q hx;have hle:(a2k a0s faC fbC (e.kids.take i) b a0).length≤(a0).length+Ex.tots (e.kids.take i):=a9s (ext:=a0s) (fa:=faC) (fb:=fbC) List.length d2f d2c (e.kids.take i) b a0;have d:=ih x (by have:=a5u (List.mem_of_getElem? hx);omega) (hs.kid (List.mem_of_getElem? hx)) b (a2k a0s faC fbC (e.kids.take i) b a0) (by omega);rw[←b3l,←hts] at d;rw[a0h] at d;generalize a2k a0s faC fbC (e.kids.take i) b a0=a1 at *;simp only[go_sem,a0f,decide_eq_true hlt,a0c,a0i,a6j,hx,a0h,d,↓a1x,↓a7o,↓a4u,a6c,a4i,↓a0z];refine h (i+1) _ (by omega) (by omega) ?_;simp only[go_sem,w1,↓a1f,↓a0z]
       · have hie:i=e.kids.length:=by omega
         subst hie;rw[List.take_length];have hle:(a2k a0s faC fbC e.kids b a0).length≤(a0).length+Ex.tots e.kids:=a9s (ext:=a0s) (fa:=faC) (fb:=fbC) List.length d2f d2c e.kids b a0;generalize a2k a0s faC fbC e.kids b a0=a1 at *;clear h d0;simp only[go_sem,a0f,Nat.lt_irrefl,b2d];refine a0p (fun i:Nat=>i≤e.alts.length) (fun i=>⟨[(1,.pmap (a5c b)),(2,.func 242 [] [.ptr (.par 0) 0]),(3,.func 243 [] [.ptr (.par 0) 0]),(68,.slice (b4p e.alts)),(69,.int .i64 e.alts.length),(70,.int .i64 i)],[[.own 9 0 ((a1r a0s faC fbC (e.alts.take i) b a1).map .str),b0m 0 (a1r a0s faC fbC (e.alts.take i) b a1)]],[],1⟩)
          (fun _=>some (.tup [],[[.own 9 0 ((a1r a0s faC fbC e.alts b a1).map .str),b0m 0 (a1r a0s faC fbC e.alts b a1)]])) (fun i=>e.alts.length - i) 0 (Nat.zero_le _) ?_ ?_
         · simp only[go_sem,List.take_zero,a8c,↓a1f,↓a0z]
         · intro i hi h
           by_cases hlt:i<e.alts.length
           · obtain⟨x,hx⟩:=a6u hlt;have w1:IntKind.i64.wrap ((i:Int)+1)=((i+1:Nat):Int):=a1c (i+1) (by have:=d6g e;omega);have hts:=a7l hx;have hg:=b7v hx;rw[b7w] at hg;have hle2:(a1r a0s faC fbC (e.alts.take i) b a1).length≤(a1).length+Al.tots (e.alts.take i):=b9p (ext:=a0s) (fa:=faC) (fb:=fbC) List.length d2f d2c (e.alts.take i) b a1;have hb:(fbC x (a1r a0s faC fbC (e.alts.take i) b a1)).length≤(a1r a0s faC fbC (e.alts.take i) b a1).length+x.vars.length+1:=d2c x (a1r a0s faC fbC (e.alts.take i) b a1);have db:=i8w x (a1r a0s faC fbC (e.alts.take i) b a1) (by omega);have dw:=a7s b x.vars (by omega);have d:=ih x.body (by have:=c6b (List.mem_of_getElem? hx);omega) (hs.alt (List.mem_of_getElem? hx)) (a0s b x.vars) (fbC x (a1r a0s faC fbC (e.alts.take i) b a1)) (by omega);have e2:=b3m (ext:=a0s) (fa:=faC) (fb:=fbC) (e.alts.take i) x b a1;rw[b6q,←hts] at e2;rw[←e2] at d;clear e2;rw[a0h] at d;rw[b1o,a0h] at db
             skip
             generalize fbC x (a1r a0s faC fbC (e.alts.take i) b a1)=a3 at *;generalize a1r a0s faC fbC (e.alts.take i) b a1=a2 at *;simp only[go_sem,a0f,decide_eq_true hlt,a0c,a0i,b4h,hx,b1o,a0h,db,dw,d,↓a1x,↓a7o,↓a4u,a6c,a4i,↓a0z];refine h (i+1) _ (by omega) (by omega) ?_;simp only[go_sem,w1,↓a1f,↓a0z]
           · have hie:i=e.alts.length:=by omega
             subst hie;rw[List.take_length];simp only[go_sem,a0f,Nat.lt_irrefl,↓a1f,↓a0z]
   · obtain⟨x,y,hk⟩:=hs.lett h5;have hx:=a5u (e:=e) (x:=x) (by rw[hk];simp);have hy:=a5u (e:=e) (x:=y) (by rw[hk];simp);have hxy:x.tot+y.tot+1≤e.tot:=by rw[ht,hk,a5w,a5w];omega
     have hl:(a5n a0s faC fbC x b a0).length≤(a0).length+x.tot:=b3k (ext:=a0s) (fa:=faC) (fb:=fbC) List.length d2f d2c _ x (Nat.le_refl _) b a0;have d1:=ih x (by omega) (hs.kid (by rw[hk];simp)) b a0 (by omega);have d2:=ih y (by omega) (hs.kid (by rw[hk];simp)) (a0s b [e.name]) (a5n a0s faC fbC x b a0) (by omega);have dw:=a7s b [e.name] (by simp);simp only[List.map_cons,List.map_nil] at dw;rw[a0h] at d1 d2;rw[hk,a0x,a0x,a0w,a0h,a0h] at d0;simp only[Bool.false_eq_true,if_false,if_true];rw[hk,a9r,a4f,a3z];generalize a5n a0s faC fbC x b a0=a1 at *;simp only[go_sem,Tryz.f207,d0,h3,h5,d1,d2,dw,a0x,a0w,a0h,Int.le_refl,Int.toNat_zero,Int.toNat_one,Int.zero_le_ofNat,↓a1x,↓a7o,↓a4u,a6c,a4i,↓a1f,↓a0z]
 · obtain⟨x,hk⟩:=hs.lam h3;have hx:=a5u (e:=e) (x:=x) (by rw[hk];simp);have d:=ih x (by omega) (hs.kid (by rw[hk];simp)) (a0s b [e.name]) a0 (by omega);have dw:=a7s b [e.name] (by simp);simp only[List.map_cons,List.map_nil] at dw;rw[a0h] at d;rw[hk,a0x,a0w,a0h] at d0;simp only[if_true];rw[hk,a4f,a3z];simp only[go_sem,Tryz.f207,d0,h3,d,dw,a0x,a0w,a0h,Int.le_refl,Int.toNat_zero,↓a1x,↓a7o,↓a4u,a6c,a4i,↓a1f,↓a0z]
theorem f3l:∀(n:Nat) (e:Ex),e.tot≤n→SX e→∀(b:List (List UInt8)) (acc:List (List UInt8)),(acc).length+e.tot<1000000→den E 207 [.agg (exC e),.pmap (a5c b),.func 236 [] [.ptr (.par 0) 0],.func 238 [] [.ptr (.par 0) 0]] [[.own 9 0 ((acc).map .str),b0m 0 (acc)]]=some (.tup [],[[.own 9 0 ((a5n a0s faB fbB e b acc).map .str),b0m 0 (a5n a0s faB fbB e b acc)]]):=by
 intro n
 induction n with
 | zero=>intro e he;exfalso;have:=b0l e;have:=b4j e;omega
 | succ n ih=>
 intro e he hs b acc hm;have ht:=b0l e;have hp:=b4j e;have d0:=i9c e b acc (by omega);obtain⟨a0,ha0⟩:∃a0,a0=faB e b acc:=⟨_,rfl⟩
 have m0:(a0).length≤(acc).length+1:=ha0▸d2g e b acc;rw[a0h] at d0;rw[a0d c5e,c5x,a0h,b9o,←ha0];rw[←ha0] at d0;cases h3:e.kind==3
 · cases h5:e.kind==5
   · simp only[Bool.false_eq_true,if_false];simp only[go_sem,Tryz.f207,d0,h3,h5,↓a1x,↓a7o,↓a4u,a6c,a4i,↓a0z,a3x];refine a0p (fun i:Nat=>i≤e.kids.length) (fun i=>⟨[(1,.pmap (a5c b)),(2,.func 236 [] [.ptr (.par 0) 0]),(3,.func 238 [] [.ptr (.par 0) 0]),(4,.ptr (.loc 4) 0),(55,.slice (a8q e.kids)),(56,.int .i64 e.kids.length),(57,.int .i64 i)],[[.own 9 0 ((a2k a0s faB fbB (e.kids.take i) b a0).map .str),b0m 0 (a2k a0s faB fbB (e.kids.take i) b a0)]],[(4,[.int .i64 e.kind,.str e.name,.bool e.told,.int .i64 e.ty.kind,.str e.ty.name,.int .i64 e.ty.n,.slice (a2o e.ty.args),.slice (a8q e.kids),.slice (b4p e.alts)])],1⟩)
      (fun _=>some (.tup [],[[.own 9 0 ((a1r a0s faB fbB e.alts b (a2k a0s faB fbB e.kids b a0)).map .str),b0m 0 (a1r a0s faB fbB e.alts b (a2k a0s faB fbB e.kids b a0))]])) (fun i=>e.kids.length - i) 0 (Nat.zero_le _) ?_ ?_
     · simp only[go_sem,List.take_zero,a3z,↓a1f,↓a0z]
     · intro i hi h
       by_cases hlt:i<e.kids.length
       · obtain⟨x,hx⟩:=a6u hlt;have w1:IntKind.i64.wrap ((i:Int)+1)=((i+1:Nat):Int):=a1c (i+1) (by have:=c5m e;omega);have hts:=a7l hx;have hg:=c4q hx;have hle:(a2k a0s faB fbB (e.kids.take i) b a0).length≤(a0).length+Ex.tots (e.kids.take i):=a9s (ext:=a0s) (fa:=faB) (fb:=fbB) List.length d2g d2d (e.kids.take i) b a0;have d:=ih x (by have:=a5u (List.mem_of_getElem? hx);omega) (hs.kid (List.mem_of_getElem? hx)) b (a2k a0s faB fbB (e.kids.take i) b a0) (by omega);rw[←b3l,←hts] at d;rw[a0h] at d;generalize a2k a0s faB fbB (e.kids.take i) b a0=a1 at *;simp only[go_sem,a0f,decide_eq_true hlt,a0c,a0i,a6j,hx,a0h,d,↓a1x,↓a7o,↓a4u,a6c,a4i,↓a0z];refine h (i+1) _ (by omega) (by omega) ?_;simp only[go_sem,w1,↓a1f,↓a0z]
       · have hie:i=e.kids.length:=by omega
         subst hie;rw[List.take_length];have hle:(a2k a0s faB fbB e.kids b a0).length≤(a0).length+Ex.tots e.kids:=a9s (ext:=a0s) (fa:=faB) (fb:=fbB) List.length d2g d2d e.kids b a0;generalize a2k a0s faB fbB e.kids b a0=a1 at *;clear h d0;simp only[go_sem,a0f,Nat.lt_irrefl,b2d];refine a0p (fun i:Nat=>i≤e.alts.length) (fun i=>⟨[(1,.pmap (a5c b)),(2,.func 236 [] [.ptr (.par 0) 0]),(3,.func 238 [] [.ptr (.par 0) 0]),(68,.slice (b4p e.alts)),(69,.int .i64 e.alts.length),(70,.int .i64 i)],[[.own 9 0 ((a1r a0s faB fbB (e.alts.take i) b a1).map .str),b0m 0 (a1r a0s faB fbB (e.alts.take i) b a1)]],[],1⟩)
          (fun _=>some (.tup [],[[.own 9 0 ((a1r a0s faB fbB e.alts b a1).map .str),b0m 0 (a1r a0s faB fbB e.alts b a1)]])) (fun i=>e.alts.length - i) 0 (Nat.zero_le _) ?_ ?_
         · simp only[go_sem,List.take_zero,a8c,↓a1f,↓a0z]
         · intro i hi h
           by_cases hlt:i<e.alts.length
           · obtain⟨x,hx⟩:=a6u hlt;have w1:IntKind.i64.wrap ((i:Int)+1)=((i+1:Nat):Int):=a1c (i+1) (by have:=d6g e;omega);have hts:=a7l hx;have hg:=b7v hx;rw[b7w] at hg;have hle2:(a1r a0s faB fbB (e.alts.take i) b a1).length≤(a1).length+Al.tots (e.alts.take i):=b9p (ext:=a0s) (fa:=faB) (fb:=fbB) List.length d2g d2d (e.alts.take i) b a1;have hb:(fbB x (a1r a0s faB fbB (e.alts.take i) b a1)).length≤(a1r a0s faB fbB (e.alts.take i) b a1).length+x.vars.length+1:=d2d x (a1r a0s faB fbB (e.alts.take i) b a1);have db:=i8x x (a1r a0s faB fbB (e.alts.take i) b a1) (by omega);have dw:=a7s b x.vars (by omega);have d:=ih x.body (by have:=c6b (List.mem_of_getElem? hx);omega) (hs.alt (List.mem_of_getElem? hx)) (a0s b x.vars) (fbB x (a1r a0s faB fbB (e.alts.take i) b a1)) (by omega);have e2:=b3m (ext:=a0s) (fa:=faB) (fb:=fbB) (e.alts.take i) x b a1;rw[b6q,←hts] at e2;rw[←e2] at d;clear e2;rw[a0h] at d;rw[b1o,a0h] at db
             skip
             generalize fbB x (a1r a0s faB fbB (e.alts.take i) b a1)=a3 at *;generalize a1r a0s faB fbB (e.alts.take i) b a1=a2 at *;simp only[go_sem,a0f,decide_eq_true hlt,a0c,a0i,b4h,hx,b1o,a0h,db,dw,d,↓a1x,↓a7o,↓a4u,a6c,a4i,↓a0z];refine h (i+1) _ (by omega) (by omega) ?_;simp only[go_sem,w1,↓a1f,↓a0z]
           · have hie:i=e.alts.length:=by omega
             subst hie;rw[List.take_length];simp only[go_sem,a0f,Nat.lt_irrefl,↓a1f,↓a0z]
   · obtain⟨x,y,hk⟩:=hs.lett h5;have hx:=a5u (e:=e) (x:=x) (by rw[hk];simp);have hy:=a5u (e:=e) (x:=y) (by rw[hk];simp);have hxy:x.tot+y.tot+1≤e.tot:=by rw[ht,hk,a5w,a5w];omega
     have hl:(a5n a0s faB fbB x b a0).length≤(a0).length+x.tot:=b3k (ext:=a0s) (fa:=faB) (fb:=fbB) List.length d2g d2d _ x (Nat.le_refl _) b a0;have d1:=ih x (by omega) (hs.kid (by rw[hk];simp)) b a0 (by omega);have d2:=ih y (by omega) (hs.kid (by rw[hk];simp)) (a0s b [e.name]) (a5n a0s faB fbB x b a0) (by omega);have dw:=a7s b [e.name] (by simp);simp only[List.map_cons,List.map_nil] at dw;rw[a0h] at d1 d2;rw[hk,a0x,a0x,a0w,a0h,a0h] at d0;simp only[Bool.false_eq_true,if_false,if_true];rw[hk,a9r,a4f,a3z];generalize a5n a0s faB fbB x b a0=a1 at *;simp only[go_sem,Tryz.f207,d0,h3,h5,d1,d2,dw,a0x,a0w,a0h,Int.le_refl,Int.toNat_zero,Int.toNat_one,Int.zero_le_ofNat,↓a1x,↓a7o,↓a4u,a6c,a4i,↓a1f,↓a0z]
 · obtain⟨x,hk⟩:=hs.lam h3;have hx:=a5u (e:=e) (x:=x) (by rw[hk];simp);have d:=ih x (by omega) (hs.kid (by rw[hk];simp)) (a0s b [e.name]) a0 (by omega);have dw:=a7s b [e.name] (by simp);simp only[List.map_cons,List.map_nil] at dw;rw[a0h] at d;rw[hk,a0x,a0w,a0h] at d0;simp only[if_true];rw[hk,a4f,a3z];simp only[go_sem,Tryz.f207,d0,h3,d,dw,a0x,a0w,a0h,Int.le_refl,Int.toNat_zero,↓a1x,↓a7o,↓a4u,a6c,a4i,↓a1f,↓a0z]
theorem f3i:∀(n:Nat) (e:Ex),e.tot≤n→SX e→∀(b:List (List UInt8)) (acc:Bool×List UInt8),0+e.tot<1000000→den E 207 [.agg (exC e),.pmap (a5c b),.func 208 [] [],.func 209 [] [.ptr (.par 0) 0,.ptr (.par 1) 0]] [[.bool (acc).1],[.str (acc).2]]=some (.tup [],[[.bool (a5n a0s faT fbT e b acc).1],[.str (a5n a0s faT fbT e b acc).2]]):=by
 intro n
 induction n with
 | zero=>intro e he;exfalso;have:=b0l e;have:=b4j e;omega
 | succ n ih=>
 intro e he hs b acc hm;have ht:=b0l e;have hp:=b4j e;have d0:=i8z e b acc (by omega);obtain⟨a0,ha0⟩:∃a0,a0=faT e b acc:=⟨_,rfl⟩
 have m0:0≤0+1:=Nat.zero_le _;rw[a0h] at d0;rw[a0d c5e,c5x,a0h,b9o,←ha0];have ha1:a0=acc:=ha0;subst ha1;cases h3:e.kind==3
 · cases h5:e.kind==5
   · simp only[Bool.false_eq_true,if_false];simp only[go_sem,Tryz.f207,d0,h3,h5,a3x];refine a0p (fun i:Nat=>i≤e.kids.length) (fun i=>⟨[(1,.pmap (a5c b)),(2,.func 208 [] []),(3,.func 209 [] [.ptr (.par 0) 0,.ptr (.par 1) 0]),(4,.ptr (.loc 4) 0),(55,.slice (a8q e.kids)),(56,.int .i64 e.kids.length),(57,.int .i64 i)],[[.bool (a2k a0s faT fbT (e.kids.take i) b a0).1],[.str (a2k a0s faT fbT (e.kids.take i) b a0).2]],[(4,[.int .i64 e.kind,.str e.name,.bool e.told,.int .i64 e.ty.kind,.str e.ty.name,.int .i64 e.ty.n,.slice (a2o e.ty.args),.slice (a8q e.kids),.slice (b4p e.alts)])],1⟩)
      (fun _=>some (.tup [],[[.bool (a1r a0s faT fbT e.alts b (a2k a0s faT fbT e.kids b a0)).1],[.str (a1r a0s faT fbT e.alts b (a2k a0s faT fbT e.kids b a0)).2]])) (fun i=>e.kids.length - i) 0 (Nat.zero_le _) ?_ ?_
     · simp only[go_sem,List.take_zero,a3z]
     · intro i hi h
       by_cases hlt:i<e.kids.length
       · obtain⟨x,hx⟩:=a6u hlt;have w1:IntKind.i64.wrap ((i:Int)+1)=((i+1:Nat):Int):=a1c (i+1) (by have:=c5m e;omega);have hts:=a7l hx;have hg:=c4q hx;have hle:0≤0+Ex.tots (e.kids.take i):=a9s (ext:=a0s) (fa:=faT) (fb:=fbT) (fun _:Bool×List UInt8=>0) e5y d9h (e.kids.take i) b a0;have d:=ih x (by have:=a5u (List.mem_of_getElem? hx);omega) (hs.kid (List.mem_of_getElem? hx)) b (a2k a0s faT fbT (e.kids.take i) b a0) (by omega);rw[←b3l,←hts] at d;rw[a0h] at d;generalize a2k a0s faT fbT (e.kids.take i) b a0=a1 at *;simp only[go_sem,a0f,decide_eq_true hlt,a0c,a0i,a6j,hx,a0h,d];refine h (i+1) _ (by omega) (by omega) ?_;simp only[go_sem,w1]
       · have hie:i=e.kids.length:=by omega
         subst hie;rw[List.take_length];have hle:0≤0+Ex.tots e.kids:=a9s (ext:=a0s) (fa:=faT) (fb:=fbT) (fun _:Bool×List UInt8=>0) e5y d9h e.kids b a0;generalize a2k a0s faT fbT e.kids b a0=a1 at *;clear h d0;simp only[go_sem,a0f,Nat.lt_irrefl,b2d];refine a0p (fun i:Nat=>i≤e.alts.length) (fun i=>⟨[(1,.pmap (a5c b)),(2,.func 208 [] []),(3,.func 209 [] [.ptr (.par 0) 0,.ptr (.par 1) 0]),(68,.slice (b4p e.alts)),(69,.int .i64 e.alts.length),(70,.int .i64 i)],[[.bool (a1r a0s faT fbT (e.alts.take i) b a1).1],[.str (a1r a0s faT fbT (e.alts.take i) b a1).2]],[],1⟩)
          (fun _=>some (.tup [],[[.bool (a1r a0s faT fbT e.alts b a1).1],[.str (a1r a0s faT fbT e.alts b a1).2]])) (fun i=>e.alts.length - i) 0 (Nat.zero_le _) ?_ ?_
         · simp only[go_sem,List.take_zero,a8c]
         · intro i hi h
           by_cases hlt:i<e.alts.length
           · obtain⟨x,hx⟩:=a6u hlt;have w1:IntKind.i64.wrap ((i:Int)+1)=((i+1:Nat):Int):=a1c (i+1) (by have:=d6g e;omega);have hts:=a7l hx;have hg:=b7v hx;rw[b7w] at hg;have hle2:0≤0+Al.tots (e.alts.take i):=b9p (ext:=a0s) (fa:=faT) (fb:=fbT) (fun _:Bool×List UInt8=>0) e5y d9h (e.alts.take i) b a1;have hb:0≤0+x.vars.length+1:=d9h x (a1r a0s faT fbT (e.alts.take i) b a1);have db:=i8u x (a1r a0s faT fbT (e.alts.take i) b a1) (by omega);have dw:=a7s b x.vars (by omega);have d:=ih x.body (by have:=c6b (List.mem_of_getElem? hx);omega) (hs.alt (List.mem_of_getElem? hx)) (a0s b x.vars) (fbT x (a1r a0s faT fbT (e.alts.take i) b a1)) (by omega);have e2:=b3m (ext:=a0s) (fa:=faT) (fb:=fbT) (e.alts.take i) x b a1;rw[b6q,←hts] at e2;rw[←e2] at d;clear e2;rw[a0h] at d;rw[b1o,a0h] at db
             skip
             generalize fbT x (a1r a0s faT fbT (e.alts.take i) b a1)=a3 at *;generalize a1r a0s faT fbT (e.alts.take i) b a1=a2 at *;simp only[go_sem,a0f,decide_eq_true hlt,a0c,a0i,b4h,hx,b1o,a0h,db,dw,d];refine h (i+1) _ (by omega) (by omega) ?_;simp only[go_sem,w1]
           · have hie:i=e.alts.length:=by omega
             subst hie;rw[List.take_length];simp only[go_sem,a0f,Nat.lt_irrefl]
   · obtain⟨x,y,hk⟩:=hs.lett h5;have hx:=a5u (e:=e) (x:=x) (by rw[hk];simp);have hy:=a5u (e:=e) (x:=y) (by rw[hk];simp);have hxy:x.tot+y.tot+1≤e.tot:=by rw[ht,hk,a5w,a5w];omega
     have hl:0≤0+x.tot:=b3k (ext:=a0s) (fa:=faT) (fb:=fbT) (fun _:Bool×List UInt8=>0) e5y d9h _ x (Nat.le_refl _) b a0;have d1:=ih x (by omega) (hs.kid (by rw[hk];simp)) b a0 (by omega);have d2:=ih y (by omega) (hs.kid (by rw[hk];simp)) (a0s b [e.name]) (a5n a0s faT fbT x b a0) (by omega);have dw:=a7s b [e.name] (by simp);simp only[List.map_cons,List.map_nil] at dw;rw[a0h] at d1 d2;rw[hk,a0x,a0x,a0w,a0h,a0h] at d0;simp only[Bool.false_eq_true,if_false,if_true];rw[hk,a9r,a4f,a3z];generalize a5n a0s faT fbT x b a0=a1 at *;simp only[go_sem,Tryz.f207,d0,h3,h5,d1,d2,dw,a0x,a0w,a0h,Int.le_refl,Int.toNat_zero,Int.toNat_one,Int.zero_le_ofNat]
 · obtain⟨x,hk⟩:=hs.lam h3;have hx:=a5u (e:=e) (x:=x) (by rw[hk];simp);have d:=ih x (by omega) (hs.kid (by rw[hk];simp)) (a0s b [e.name]) a0 (by omega);have dw:=a7s b [e.name] (by simp);simp only[List.map_cons,List.map_nil] at dw;rw[a0h] at d;rw[hk,a0x,a0w,a0h] at d0;simp only[if_true];rw[hk,a4f,a3z];simp only[go_sem,Tryz.f207,d0,h3,d,dw,a0x,a0w,a0h,Int.le_refl,Int.toNat_zero]
def d9b(e:Ex):List (List UInt8):=a5n a0s faF fbF e [] []
def d9u(e:Ex):List (List UInt8):=a5n a0s faC fbC e [] []
def b4o(e:Ex):List (List UInt8):=a5n a0s faB fbB e [] []
theorem i8q(e:Ex):(d9b e).length≤e.tot:=by
 have:=b3k (ext:=a0s) List.length d2e d2b _ e (Nat.le_refl _) [] [];unfold d9b;simpa using this
theorem i9q(e:Ex):(d9u e).length≤e.tot:=by
 have:=b3k (ext:=a0s) List.length d2f d2c _ e (Nat.le_refl _) [] [];unfold d9u;simpa using this
theorem h3d(e:Ex):(b4o e).length≤e.tot:=by
 have:=b3k (ext:=a0s) List.length d2g d2d _ e (Nat.le_refl _) [] [];unfold b4o;simpa using this
theorem h1g(e:Ex)(hs:SX e)(ht:e.tot<1000000):den E 210 [.agg (exC e)] []=some (.slice ((d9b e).map .str),[]):=by
 have d:=f3j _ e (Nat.le_refl _) hs [] [] (by simpa using ht);rw[a0d g7e,h4e];rw[a0h] at d⊢;rw[show a5c []=[] from rfl] at d;simp only[List.map_nil,d4y] at d;unfold d9b;generalize a5n a0s faF fbF e [] []=r at *;simp only[go_sem,Tryz.f210,d,↓a1x,↓a4u,a6c,a4i]
theorem h2m(e:Ex)(hs:SX e)(ht:e.tot<1000000):den E 211 [.agg (exC e)] []=some (.slice ((d9u e).map .str),[]):=by
 have d:=f3k _ e (Nat.le_refl _) hs [] [] (by simpa using ht);rw[a0d g7d,h4d];rw[a0h] at d⊢;rw[show a5c []=[] from rfl] at d;simp only[List.map_nil,d4y] at d;unfold d9u;generalize a5n a0s faC fbC e [] []=r at *;simp only[go_sem,Tryz.f211,d,↓a1x,↓a4u,a6c,a4i]
theorem g3u(e:Ex)(hs:SX e)(ht:e.tot<1000000):den E 206 [.agg (exC e)] []=some (.slice ((b4o e).map .str),[]):=by
 have d:=f3l _ e (Nat.le_refl _) hs [] [] (by simpa using ht);rw[a0d g7h,h4h];rw[a0h] at d⊢;rw[show a5c []=[] from rfl] at d;simp only[List.map_nil,d4y] at d;unfold b4o;generalize a5n a0s faB fbB e [] []=r at *;simp only[go_sem,Tryz.f206,d,↓a1x,↓a4u,a6c,a4i]
structure Tab where
 data:List (List UInt8)
 cons:List (List UInt8)
 sigs:List (List UInt8)
 binds:List (List UInt8)
def Tab.len(T:Tab):Nat:=T.data.length+T.cons.length+T.sigs.length+T.binds.length
def h7c(T:Tab):List AVal:=[.own 9 0 (T.data.map .str),.own 9 0 (T.cons.map .str),.own 9 0 (T.sigs.map .str),.own 9 0 (T.binds.map .str)]
def j5y(T:Tab)(e:Ex):List UInt8×Int:=
 if (a5n a0s faT fbT e [] (false,[])).1 then ((a5n a0s faT fbT e [] (false,[])).2,90)
 else if (e4o (d9b e) T.binds).2 then ((e4o (d9b e) T.binds).1,91)
 else if (e4o (d9u e) T.cons).2 then ((e4o (d9u e) T.cons).1,91)
 else ([],0)
def f2r(T:Tab)(e:Ex):List (List UInt8)→List UInt8×Int
 | []=>j5y T e
 | x::r=>if T.binds.contains x then (x,90) else f2r T e r
def g4b(T:Tab)(e:Ex):List UInt8×Int:=f2r T e (b4o e)
def seV(p:List UInt8×Int):AVal:=.tup [.str p.1,.int .i64 p.2]
theorem e2f(T:Tab)(e:Ex)(hs:SX e)(ht:e.tot<1000000)(hT:T.len<1000000):den E 142 [.ptr (.par 0) 0,.agg (exC e)] [h7c T]=some (seV (g4b T e),[h7c T]):=by
 unfold Tab.len at hT;have d1:=g3u e hs ht;have d2:=f3i _ e (Nat.le_refl _) hs [] (false,[]) (by simpa using ht);have d3:=h1g e hs ht;have d4:=h2m e hs ht;have hb:=h3d e;have d5:=b9c (d9b e) T.binds (by have:=i8q e;omega) (by omega);have d6:=b9c (d9u e) T.cons (by have:=i9q e;omega) (by omega);rw[a0d g8t,h5t];rw[a0h] at d1 d2 d3 d4⊢;rw[show a5c []=[] from rfl] at d2;unfold h7c g4b;simp only[twV] at d5 d6;simp only[go_sem,Tryz.f142,d1,List.length_map];refine a0p (fun i:Nat=>i≤(b4o e).length) (fun i=>⟨[(0,.ptr (.par 0) 0),(3,.ptr (.loc 3) 0),(15,.slice ((b4o e).map .str)),(16,.int .i64 (b4o e).length),(17,.int .i64 i)],[[.own 9 0 (T.data.map .str),.own 9 0 (T.cons.map .str),.own 9 0 (T.sigs.map .str),.own 9 0 (T.binds.map .str)]],[(3,[.int .i64 e.kind,.str e.name,.bool e.told,.int .i64 e.ty.kind,.str e.ty.name,.int .i64 e.ty.n,.slice (a2o e.ty.args),.slice (a8q e.kids),.slice (b4p e.alts)])],1⟩)
  (fun i=>some (seV (f2r T e ((b4o e).drop i)),[[.own 9 0 (T.data.map .str),.own 9 0 (T.cons.map .str),.own 9 0 (T.sigs.map .str),.own 9 0 (T.binds.map .str)]])) (fun i=>(b4o e).length - i) 0 (Nat.zero_le _) ?_ ?_
 · simp only[go_sem]
 · intro i hi h
   by_cases hlt:i<(b4o e).length
   · obtain⟨x,hx⟩:=a6u hlt;rw[a1z hx];have w1:IntKind.i64.wrap ((i:Int)+1)=((i+1:Nat):Int):=a1c (i+1) (by omega);have d:=a4a T.binds x (by omega);cases hq:T.binds.contains x
     · rw[hq] at d;simp only[go_sem,a0f,decide_eq_true hlt,a0c,a0i,a4t,hx,d,hq,f2r];refine h (i+1) _ (by omega) (by omega) ?_;simp only[go_sem,w1]
     · rw[hq] at d;simp only[go_sem,a0f,decide_eq_true hlt,a0c,a0i,a4t,hx,d,hq,f2r,seV]
   · have hie:i=(b4o e).length:=by omega
     subst hie;rw[List.drop_length];unfold f2r j5y seV;generalize a5n a0s faT fbT e [] (false,[])=t at *;generalize e4o (d9b e) T.binds=p at *;generalize e4o (d9u e) T.cons=q at *;cases h1:t.1
     · rw[h1] at d2;cases h2:p.2
       · rw[h2] at d5;cases h3:q.2
         · rw[h3] at d6;simp only[go_sem,a0f,Nat.lt_irrefl,d2,d3,d4,d5,d6]
         · rw[h3] at d6;simp only[go_sem,a0f,Nat.lt_irrefl,d2,d3,d4,d5,d6]
       · rw[h2] at d5;simp only[go_sem,a0f,Nat.lt_irrefl,d2,d3,d5]
     · rw[h1] at d2;simp only[go_sem,a0f,Nat.lt_irrefl,d2]
def g4e:List UInt8:=[65,110,121]
def b3g(T:Tab)(d:De):(List UInt8×Bool)×Tab:=
 if d.kind==2 then (twR [d.name] T.sigs [d.name] 0,{T with sigs:=T.sigs++[d.name]})
 else if d.kind==3 then (twR [d.name] T.binds [d.name] 0,{T with binds:=T.binds++[d.name]})
 else if (twR [d.name] (T.data++[g4e]) [d.name] 0).2 then (twR [d.name] (T.data++[g4e]) [d.name] 0,T)
 else if (twR d.vars [] d.vars 0).2 then (twR d.vars [] d.vars 0,{T with data:=T.data++[d.name]})
 else (twR (d.cons.map Co.name) T.cons (d.cons.map Co.name) 0,{T with data:=T.data++[d.name],cons:=T.cons++d.cons.map Co.name})
theorem i9k(T:Tab)(d:De):(b3g T d).2.len≤T.len+1+d.cons.length:=by
 unfold b3g;split
 · simp[Tab.len];omega
 · split
   · simp[Tab.len];omega
   · split
     · simp;omega
     · split
       · simp[Tab.len];omega
       · simp[Tab.len];omega
theorem k5u(l:List Co)(i:Nat):(l.map coV)[i]? =(l[i]?).map coV:=by simp
theorem i7w{l:List Co}{i:Nat}{x:Co}(h:l[i]? =some x):(l.map Co.name).take (i+1)=(l.map Co.name).take i++[x.name]:=a7l (by simp[h])
theorem d9n(T:Tab)(d:De)(hd:d.tot<1000000)(hT:T.len<900000):den E 140 [.ptr (.par 0) 0,.agg (deC d)] [h7c T]=some (twV (b3g T d).1,[h7c (b3g T d).2]):=by
 unfold Tab.len at hT;unfold De.tot at hd;have e1:=b2s [d.name] T.sigs (by simp) (by omega);have e2:=b2s [d.name] T.binds (by simp) (by omega);have e3:=b2s [d.name] (T.data++[g4e]) (by simp) (by simp;omega);have e4:=b2s d.vars [] (by omega) (by simp);have a1:T.sigs.length+1≤a0l:=by unfold a0l;omega
 have a2:T.binds.length+1≤a0l:=by unfold a0l;omega
 have a3:T.data.length+1≤a0l:=by unfold a0l;omega
 rw[a0d g8v,h5v];unfold b3g h7c twV;simp only[List.map_cons,List.map_nil,List.map_append,twV,g4e] at e1 e2 e3 e4;simp only[g4e];cases k2:d.kind==2
 · cases k3:d.kind==3
   · simp only[Bool.false_eq_true,if_false];rcases Bool.eq_false_or_eq_true (twR [d.name] (T.data++[[65,110,121]]) [d.name] 0).2 with h3|h3
     rotate_left
     · rw[h3] at e3;simp only[h3,Bool.false_eq_true,if_false];rcases Bool.eq_false_or_eq_true (twR d.vars [] d.vars 0).2 with h4|h4
       rotate_left
       · rw[h4] at e4;simp only[h4,Bool.false_eq_true,if_false];have e5:=b2s (d.cons.map Co.name) T.cons (by rw[List.length_map];omega) (by omega);have a4:T.cons.length+(d.cons.map Co.name).length≤a0l:=by rw[List.length_map];unfold a0l;omega
         simp only[twV] at e5;simp only[go_sem,Tryz.f140,deC,k2,k3,e3,e4,a3,List.length_map,List.map_append];refine a0p (fun i:Nat=>i≤d.cons.length) (fun i=>⟨[(0,.ptr (.par 0) 0),(15,.own 9 0 (((d.cons.map Co.name).take i).map .str)),(108,.slice (d.cons.map coV)),(109,.int .i64 d.cons.length),(110,.int .i64 i)],[[.own 9 0 (T.data.map .str++[.str d.name]),.own 9 0 (T.cons.map .str),.own 9 0 (T.sigs.map .str),.own 9 0 (T.binds.map .str)]],[],1⟩)
          (fun _=>some (.tup [.str (twR (d.cons.map Co.name) T.cons (d.cons.map Co.name) 0).1,.bool (twR (d.cons.map Co.name) T.cons (d.cons.map Co.name) 0).2],[[.own 9 0 (T.data.map .str++[.str d.name]),.own 9 0 (T.cons.map .str++(d.cons.map Co.name).map .str),.own 9 0 (T.sigs.map .str),.own 9 0 (T.binds.map .str)]])) (fun i=>d.cons.length - i) 0 (Nat.zero_le _) ?_ ?_
         · simp only[go_sem,List.take_zero]
         · intro i hi h
           by_cases hlt:i<d.cons.length
           · obtain⟨x,hx⟩:=a6u hlt;have w1:IntKind.i64.wrap ((i:Int)+1)=((i+1:Nat):Int):=a1c (i+1) (by omega);have hts:=i7w hx;have a5:((d.cons.map Co.name).take i).length+1≤a0l:=by rw[List.length_take,List.length_map];unfold a0l;omega
             generalize (d.cons.map Co.name).take i=ns at *;simp only[go_sem,a0f,decide_eq_true hlt,a0c,a0i,k5u,hx,coV,List.length_map,a5];refine h (i+1) _ (by omega) (by omega) ?_;simp only[go_sem,w1,hts,List.map_append]
           · have hie:i=d.cons.length:=by omega
             subst hie;rw[show (d.cons.map Co.name).take d.cons.length=d.cons.map Co.name from List.take_of_length_le (by simp)];have e0:∀l:List (List UInt8),(l.map AVal.str).head? =none∨∃a,(l.map AVal.str).head? =some (.str a):=fun l=>by cases l<;>simp
             generalize d.cons.map Co.name=ns at *;generalize twR ns T.cons ns 0=p5 at *;rcases e0 ns with e0| ⟨z,e0⟩
             · simp only[go_sem,a0f,Nat.lt_irrefl,e5,List.length_map,a4,e0]
             · simp only[go_sem,a0f,Nat.lt_irrefl,e5,List.length_map,a4,e0]
       · rw[h4] at e4;simp only[h4,if_true];simp only[go_sem,Tryz.f140,deC,k2,k3,e3,e4,a3,List.length_map,List.map_append]
     · rw[h3] at e3;simp only[h3,if_true];simp only[go_sem,Tryz.f140,deC,k2,k3,e3,a3,List.length_map]
   · simp only[Bool.false_eq_true,if_false,if_true];generalize twR [d.name] T.binds [d.name] 0=p2 at *;simp only[go_sem,Tryz.f140,deC,k2,k3,e2,a2,List.length_map,List.map_append]
 · simp only[if_true];generalize twR [d.name] T.sigs [d.name] 0=p1 at *;simp only[go_sem,Tryz.f140,deC,k2,e1,a1,List.length_map,List.map_append]
def b6e:Tab→List De→Except (List UInt8) Tab
 | T,[]=>.ok T
 | T,d::r=>if (b3g T d).1.2 then .error (b3g T d).1.1 else b6e (b3g T d).2 r
def c3f(T:Tab):List De→List UInt8×Int
 | []=>([],0)
 | d::r=>if d.kind !=3 then c3f T r else if (g4b T d.val).2 !=0 then g4b T d.val else c3f T r
def h7y(T:Tab)(l0 l:List De):List UInt8×Int:=match b6e T l with
 | .error n=>(n,90)
 | .ok T=>if (e4o T.sigs T.binds).2 then ((e4o T.sigs T.binds).1,92) else c3f T l0
def h2r(l:List De):List UInt8×Int:=h7y ⟨[],[],[],[]⟩ l l
theorem g3k(T:Tab)(l0:List De)(d:De)(r:List De):h7y T l0 (d::r)=if (b3g T d).1.2 then ((b3g T d).1.1,90) else h7y (b3g T d).2 l0 r:=by
 unfold h7y;rw[b6e];rcases Bool.eq_false_or_eq_true (b3g T d).1.2 with h|h
 · simp only[h,if_true]
 · simp only[h,Bool.false_eq_true,if_false]
theorem g3f(l:List De)(i:Nat):(l.map deV)[i]? =(l[i]?).map deV:=by simp
theorem g3l(l:List De)(hg:∀d∈l,d.kind=3→SX d.val)(hsum:De.sum l<400000):den E 80 [.slice (l.map deV)] []=some (seV (h2r l),[]):=by
 have hlen:=b3f l;rw[a0d i6m,j0e];unfold h2r;simp only[go_sem,Tryz.f80,List.length_map];refine a0p (fun x:Nat×Tab=>x.1≤l.length∧x.2.len+De.sum (l.drop x.1)≤De.sum l) (fun x=>⟨[(0,.slice (l.map deV)),(4,.ptr (.loc 4) 0),(15,.slice (l.map deV)),(16,.int .i64 l.length),(17,.int .i64 x.1)],[],[(4,[.own 9 0 (x.2.data.map .str),.own 9 0 (x.2.cons.map .str),.own 9 0 (x.2.sigs.map .str),.own 9 0 (x.2.binds.map .str)])],1⟩)
  (fun x=>some (seV (h7y x.2 l (l.drop x.1)),[])) (fun x=>l.length - x.1) (0,⟨[],[],[],[]⟩) ⟨Nat.zero_le _,by simp[Tab.len]⟩ ?_ ?_
 · simp only[go_sem]
 · rintro⟨i,T⟩ ⟨hi,hT⟩ h;simp only at hi hT h⊢
   by_cases hlt:i<l.length
   · obtain⟨d,hx⟩:=a6u hlt;have hm:=b0a (List.mem_of_getElem? hx);rw[a1z hx,f2e] at hT;have w1:IntKind.i64.wrap ((i:Int)+1)=((i+1:Nat):Int):=a1c (i+1) (by omega);have dd:=d9n T d (by omega) (by omega);have hle:=i9k T d;have hdt:1+d.cons.length≤d.tot:=by unfold De.tot;have:=b0l d.val;have:=b4j d.val;omega
     rw[a1z hx,g3k];unfold h7c deC twV at dd;generalize b3g T d=p at *;obtain⟨⟨pn,pb⟩,T'⟩:=p;simp only at dd hle⊢;cases pb
     · simp only[go_sem,a0f,decide_eq_true hlt,a0c,a0i,g3f,hx,deV,deC,dd];refine h (i+1,T') _ ⟨by omega,?_⟩ (by simp only;omega) ?_
       · simp only;omega
       · simp only[go_sem,w1]
     · simp only[go_sem,a0f,decide_eq_true hlt,a0c,a0i,g3f,hx,deV,deC,dd,seV]
   · have hie:i=l.length:=by omega
     subst hie;have hT':T.len<900000:=by omega
     clear h;rw[List.drop_length];unfold h7y b6e;simp only;have dout:=b9c T.sigs T.binds (by unfold Tab.len at hT';omega) (by unfold Tab.len at hT';omega);unfold twV at dout;generalize e4o T.sigs T.binds=p at *;obtain⟨pn,pb⟩:=p;cases pb
     · simp only[Bool.false_eq_true,if_false];simp only[go_sem,a0f,Nat.lt_irrefl,dout,List.length_map];refine a0p (fun j:Nat=>j≤l.length) (fun j=>⟨[(4,.ptr (.loc 4) 0),(39,.slice (l.map deV)),(40,.int .i64 l.length),(41,.int .i64 j)],[],[(4,[.own 9 0 (T.data.map .str),.own 9 0 (T.cons.map .str),.own 9 0 (T.sigs.map .str),.own 9 0 (T.binds.map .str)])],1⟩)
        (fun j=>some (seV (c3f T (l.drop j)),[])) (fun j=>l.length - j) 0 (Nat.zero_le _) ?_ ?_
       · simp only[go_sem]
       · intro j hj h
         by_cases hlt:j<l.length
         · obtain⟨d,hx⟩:=a6u hlt;have hm:=b0a (List.mem_of_getElem? hx);have w1:IntKind.i64.wrap ((j:Int)+1)=((j+1:Nat):Int):=a1c (j+1) (by omega);rw[a1z hx];unfold c3f;cases hk:d.kind !=3
           · have hk3:d.kind=3:=by simpa using hk
             have db:=e2f T d.val (hg d (List.mem_of_getElem? hx) hk3) (by unfold De.tot at hm;omega) (by omega);unfold h7c at db;rw[a0h] at db;unfold seV at db;simp only[Bool.false_eq_true,if_false];generalize g4b T d.val=q at *;obtain⟨qn,qe⟩:=q;simp only at db⊢;cases hq:qe !=0
             · simp only[Bool.false_eq_true,if_false];simp only[go_sem,a0f,decide_eq_true hlt,a0c,a0i,g3f,hx,deV,deC,hk,db,hq];refine h (j+1) _ (by omega) (by omega) ?_;simp only[go_sem,w1]
             · simp only[if_true];simp only[go_sem,a0f,decide_eq_true hlt,a0c,a0i,g3f,hx,deV,deC,hk,db,hq,seV]
           · simp only[if_true];simp only[go_sem,a0f,decide_eq_true hlt,a0c,a0i,g3f,hx,deV,deC,hk];refine h (j+1) _ (by omega) (by omega) ?_;simp only[go_sem,w1]
         · have hje:j=l.length:=by omega
           subst hje;rw[List.drop_length];simp only[go_sem,a0f,Nat.lt_irrefl,c3f,seV]
     · simp only[if_true];simp only[go_sem,a0f,Nat.lt_irrefl,dout,seV]
end Go.Proofs
namespace Go.Proofs
open Go.Av
set_option maxHeartbeats 16000000
set_option maxRecDepth 100000
theorem k6h(x n:List UInt8):(x==n)=(n==x):=by
 by_cases h:x=n
 · subst h;rfl
 · rw[beq_eq_false_iff_ne.2 h,beq_eq_false_iff_ne.2 (Ne.symm h)]
theorem c2r(l:List (List UInt8))(n:List UInt8)(hl:l.length<1000000):den E 51 [.slice (l.map .str),.str n] []=some (.bool (l.contains n),[]):=by
 rw[a0d i6w,j0n];simp only[go_sem,Tryz.f51];refine a0p (fun i:Nat=>i≤l.length) (fun i=>⟨[(0,.slice (l.map .str)),(1,.str n),(5,.int .i64 i)],[],[],1⟩) (fun i=>some (.bool ((l.drop i).contains n),[])) (fun i=>l.length - i) 0 (Nat.zero_le _) ?_ ?_
 · simp only[go_sem]
 · intro i hi h
   by_cases hlt:i<l.length
   · obtain⟨x,hx⟩:=a6u hlt;rw[a1z hx,List.contains_cons];have w1:IntKind.i64.wrap ((i:Int)+1)=((i+1:Nat):Int):=a1c (i+1) (by omega);cases hq:n==x
     · simp only[go_sem,List.length_map,a0f,decide_eq_true hlt,a0c,a0i,a4t,hx,k6h x n,hq];refine h (i+1) _ (by omega) (by omega) ?_;simp only[go_sem,w1]
     · simp only[go_sem,List.length_map,a0f,decide_eq_true hlt,a0c,a0i,a4t,hx,k6h x n,hq]
   · have hie:i=l.length:=by omega
     subst hie;rw[List.drop_length];simp only[go_sem,List.length_map,a0f,Nat.lt_irrefl,List.contains_nil]
theorem c5o(l:List (List UInt8)):(l.map AVal.str).head? =none∨∃a,(l.map AVal.str).head? =some (.str a):=by cases l<;>simp
section
variable{α:Type}{fa:Ex→List (List UInt8)→α→α}{fb:Al→α→α}
end
end Go.Proofs
