/- Lists and sets of names; whether all names of a program are as they may be; a type with other names. -/
import Derived.Test.YtjfghnkmladbkaaGreatDoorAvF
import Derived.Test.YtjfghnkmladbkaaGreatDoorAvG
import Derived.Test.YtjfghnkmladbkaaGreatDoorAvI
import Derived.Test.YtjfghnkmladbkaaGreatDoorAvH
namespace Go.Proofs
open Go.Av
set_option maxHeartbeats 16000000
set_option maxRecDepth 100000
theorem a4b(l:List (List UInt8))(i:Nat):(l.map AVal.str)[i]? =(l[i]?).map AVal.str:=by simp
theorem a2x{α:Type}{l:List α}{i:Nat}{x:α}(h:l[i]? =some x):l.drop i=x::l.drop (i+1):=by
 obtain⟨h1,h2⟩:=List.getElem?_eq_some_iff.1 h;rw[List.drop_eq_getElem_cons h1,h2]
theorem a7p{α:Type}{l:List α}{i:Nat}(h:i<l.length):∃x,l[i]? =some x:=⟨l[i],List.getElem?_eq_getElem h⟩
def h5d:List (List UInt8)→List UInt8→Nat→Int
 | [],_,_=> -1
 | x::r,n,i=>if n==x then (i:Int) else h5d r n (i+1)
theorem f7e:∀(l:List (List UInt8)) (n:List UInt8) (i:Nat),decide (h5d l n i≥0)=l.contains n
 | [],n,i=>rfl
 | x::r,n,i=>by
  rw[List.contains_cons];unfold h5d;cases h:n==x
  · simp only[Bool.false_eq_true,if_false,Bool.false_or];exact f7e r n (i+1)
  · simp
theorem f6z(l:List (List UInt8))(n:List UInt8)(hl:l.length<1000000):den E 119 [.slice (l.map .str),.str n] []=some (.int .i64 (h5d l n 0),[]):=by
 rw[a0d g6e,h3k];simp only[go_sem,Tryz.f119,List.length_map];refine a0p (fun i:Nat=>i≤l.length) (fun i=>⟨[(0,.slice (l.map .str)),(1,.str n),(7,.int .i64 l.length),(8,.int .i64 i)],[],[],1⟩) (fun i=>some (.int .i64 (h5d (l.drop i) n i),[])) (fun i=>l.length - i) 0 (Nat.zero_le _) ?_ ?_
 · simp only[go_sem]
 · intro i hi h
   by_cases hlt:i<l.length
   · obtain⟨x,hx⟩:=a7p hlt;rw[a2x hx];have w1:IntKind.i64.wrap ((i:Int)+1)=((i+1:Nat):Int):=a1e (i+1) (by omega);cases hq:n==x
     · simp only[go_sem,a0g,decide_eq_true hlt,a0c,a0j,a4b,hx,hq,h5d];refine h (i+1) _ (by omega) (by omega) ?_;simp only[go_sem,w1]
     · simp only[go_sem,a0g,decide_eq_true hlt,a0c,a0j,a4b,hx,hq,h5d]
   · have hie:i=l.length:=by omega
     subst hie;rw[List.drop_length];simp only[go_sem,a0g,Nat.lt_irrefl,h5d]
theorem a3q(l:List (List UInt8))(n:List UInt8)(hl:l.length<1000000):den E 57 [.slice (l.map .str),.str n] []=some (.bool (l.contains n),[]):=by
 rw[a0d i4c,i7k];have h1:=f6z l n hl;have h2:=f7e l n 0;simp only[go_sem,Tryz.f57,h1,h2]
def twR(all others:List (List UInt8)):List (List UInt8)→Nat→List UInt8×Bool
 | [],_=>([],false)
 | x::r,i=>if (all.take i).contains x||others.contains x then (x,true) else twR all others r (i+1)
def twV(p:List UInt8×Bool):AVal:=.tup [.str p.1,.bool p.2]
theorem b2s(l o:List (List UInt8))(hl:l.length<1000000)(ho:o.length<1000000):den E 203 [.slice (l.map .str),.slice (o.map .str)] []=some (twV (twR l o l 0),[]):=by
 rw[a0d g4n,h1u];simp only[go_sem,Tryz.f203,List.length_map];refine a0p (fun i:Nat=>i≤l.length) (fun i=>⟨[(0,.slice (l.map .str)),(1,.slice (o.map .str)),(8,.slice (l.map .str)),(9,.int .i64 l.length),(10,.int .i64 i)],[],[],1⟩) (fun i=>some (twV (twR l o (l.drop i) i),[])) (fun i=>l.length - i) 0 (Nat.zero_le _) ?_ ?_
 · simp only[go_sem]
 · intro i hi h
   by_cases hlt:i<l.length
   · obtain⟨x,hx⟩:=a7p hlt;rw[a2x hx];have w1:IntKind.i64.wrap ((i:Int)+1)=((i+1:Nat):Int):=a1e (i+1) (by omega);have hsz:∀y,c8d 1 (y::[])=c8d 1 (y::[]):=fun _=>rfl;have e0:(l.map AVal.str).head? =some (.str (l.headD [])):=by
      cases l with
      | nil=>simp at hlt
      | cons a r=>rfl
     have d1:=a3q (l.take i) x (by rw[List.length_take];omega);have d2:=a3q o x ho;rw[List.map_take] at d1;cases hq:(l.take i).contains x
     · cases hq2:o.contains x
       · simp only[go_sem,a0g,decide_eq_true hlt,a0c,a0j,a4b,hx,Nat.zero_le,Nat.le_of_lt hlt,e0,List.length_map,d1,d2,hq,hq2,twR];refine h (i+1) _ (by omega) (by omega) ?_;simp only[go_sem,w1]
       · simp only[go_sem,a0g,decide_eq_true hlt,a0c,a0j,a4b,hx,Nat.zero_le,Nat.le_of_lt hlt,e0,List.length_map,d1,d2,hq,hq2,twR,twV]
     · simp only[go_sem,a0g,decide_eq_true hlt,a0c,a0j,a4b,hx,Nat.zero_le,Nat.le_of_lt hlt,e0,List.length_map,d1,hq,twR,twV]
   · have hie:i=l.length:=by omega
     subst hie;rw[List.drop_length];simp only[go_sem,a0g,Nat.lt_irrefl,twR,twV]
def a4u(l:List (List UInt8)):List AVal:=l.map fun n=>.tup [.str n,.bool true]
theorem g7t(l:List (List UInt8)):isL (a4u l)=none:=by
 cases l with
 | nil=>rfl
 | cons a r=>cases r<;>rfl
attribute [go_sem ↓] g7t
def b4k(l:List (List UInt8))(n:List UInt8):List (List UInt8):=if l.contains n then l else l++[n]
def a0q(b ns:List (List UInt8)):List (List UInt8):=ns.foldl b4k b
theorem b6c(n:List UInt8):∀l,c9t (.str n) (a4u l)=some (if l.contains n then some (.bool true) else none)
 | []=>rfl
 | x::r=>by
  have ih:=b6c n r;unfold a4u at ih⊢;rw[List.map_cons,List.contains_cons];simp only[c9t,c4l,Option.bind_some];cases h:n==x
  · simp only[Bool.false_eq_true,if_false,Bool.false_or];exact ih
  · simp
theorem b9q(n:List UInt8):∀l,f1j (.str n) (.bool true) (a4u l)=some (a4u (b4k l n))
 | []=>rfl
 | x::r=>by
  have ih:=b9q n r;unfold a4u b4k at ih⊢;rw[List.contains_cons,List.map_cons];simp only[f1j,c4l,Option.bind_some];cases h:n==x
  · simp only[Bool.false_eq_true,if_false,Bool.false_or,ih,Option.map_some];cases r.contains n<;>simp
  · have hx:n=x:=by simpa using h
    subst hx;simp
theorem a7w(b ns:List (List UInt8))(hl:ns.length<1000000):den E 239 [.pmap (a4u b),.slice (ns.map .str)] []=some (.pmap (a4u (a0q b ns)),[]):=by
 rw[a0d g3p,h0w];have hc:den E 155 [.pmap (a4u b)] []=some (.own a3i 0 (a4u b),[]):=a9r e3i;simp only[go_sem,Tryz.f239,List.length_map,hc];refine a0p (fun i:Nat=>i≤ns.length) (fun i=>⟨[(0,.own a3i 0 (a4u (a0q b (ns.take i)))),(9,.slice (ns.map .str)),(10,.int .i64 ns.length),(11,.int .i64 i)],[],[],1⟩) (fun _=>some (.pmap (a4u (a0q b ns)),[])) (fun i=>ns.length - i) 0 (Nat.zero_le _) ?_ ?_
 · simp only[go_sem,a0q,List.foldl_nil]
 · intro i hi h
   by_cases hlt:i<ns.length
   · obtain⟨x,hx⟩:=a7p hlt;have w1:IntKind.i64.wrap ((i:Int)+1)=((i+1:Nat):Int):=a1e (i+1) (by omega);have hts:ns.take (i+1)=ns.take i++[x]:=by rw[List.take_add_one,hx];rfl
     simp only[go_sem,a0g,decide_eq_true hlt,a0c,a0j,a4b,hx,b9q];refine h (i+1) _ (by omega) (by omega) ?_;simp only[go_sem,w1,hts,a0q,List.foldl_append,List.foldl_cons,List.foldl_nil]
   · have hie:i=ns.length:=by omega
     subst hie;simp only[go_sem,a0g,Nat.lt_irrefl,List.take_length]
def b0l(n:Nat)(l:List (List UInt8)):AVal:=if l=[] then .nilm else .own a3i n (a4u l)
theorem d4e(n:Nat):b0l n []=.nilm:=rfl
theorem g6z(n:Nat)(a:List UInt8)(r:List (List UInt8)):b0l n (a::r)=.own a3i n (a4u (a::r)):=rfl
theorem f4z(m n:Nat)(l:List (List UInt8)):a4g m (b0l n l)=b0l m l:=by
 unfold b0l;split<;>rfl
theorem a1a(n:Nat)(l:List (List UInt8)):a3n (b0l n l)=b0l 0 l:=by
 unfold b0l;split<;>rfl
theorem a0w(n:Nat)(l:List (List UInt8)):a1h (b0l n l)=[]:=by
 unfold b0l;split<;>rfl
theorem i5a(ρ:BName→BName)(n:Nat)(l:List (List UInt8)):c5e ρ (b0l n l)=b0l n l:=by
 unfold b0l;split<;>rfl
theorem h4w(ρ:BName→BName)(m n:Nat)(l:List (List UInt8)):c5e ρ (a4g m (b0l n l))=b0l m l:=by rw[f4z,i5a]
def a5y(ns:List BName)(c:AVal):AVal:=c5e (c1y ns) (a4g 0 c)
def a4c(ns:List BName)(n:Nat)(c:AVal):AVal:=c5e (b2k ns) (a4g n c)
theorem a1w{D:FuncId→List AVal→a3e→Option (AVal×a3e)}{s:St}{n:Nat}{dst:Option Nat}{args:List AVal}{f:FuncId}{first cap:List AVal}:b8a D s n dst args (.func f first cap)=(match (first++(args++cap)).flatMap names with
 | []=>(D f (first++(args++cap)) []).bind fun r=>match r.2 with
  | []=>some (s.putD dst (b8v n r.1))
  | _::_=>none
 | b::bs=>(c0a s 100 (b::bs) []).bind fun ns=>(a7o s ns).bind fun H=>
  (D f ((first++(args++cap)).map (ren (c1y ns))) (H.map (List.map (a5y ns)))).bind fun r=>
    (a3t s ns (r.2.map (List.map (a4c ns n)))).map fun s'=>s'.putD dst (b8v n (ren (b2k ns) r.1))):=rfl
theorem a7t(ns:List BName)(n:Nat)(l:List (List UInt8)):a5y ns (b0l n l)=b0l 0 l:=by unfold a5y;rw[h4w]
theorem a4m(ns:List BName)(m n:Nat)(l:List (List UInt8)):a4c ns m (b0l n l)=b0l m l:=by unfold a4c;rw[h4w]
def f3b(l:List (List UInt8)):List AVal:=[.own 9 0 (l.map .str),b0l 0 l]
theorem c9h(l:List (List UInt8))(n:List UInt8)(hl:l.length<1000000):den E 237 [.ptr (.par 0) 0,.str n] [f3b l]=some (.tup [],[f3b (b4k l n)]):=by
 rw[a0d g3r,h0y];have ht:l.length+1≤a0s:=by unfold a0s;omega
 cases l with
 | nil=>
  have hu:=b9q n [];have hf:=b6c n [];have e:b4k [] n=[n]:=rfl;rw[e] at hu⊢;unfold a4u at hu hf;simp only[List.map_cons,List.map_nil] at hu hf;have h1:1≤a0s:=by unfold a0s;omega
  simp only[go_sem,Tryz.f237,f3b,d4e,g6z,h1,a4u]
 | cons a r=>
  have hu:=b9q n (a::r);have hf:=b6c n (a::r);cases hc:(a::r).contains n
  · have e:b4k (a::r) n=(a::r)++[n]:=by unfold b4k;rw[hc];rfl
    rw[e] at hu⊢;rw[hc] at hf;have hs:(f3b ((a::r)++[n]))=[.own 9 0 (((a::r)++[n]).map .str),.own a3i 0 (a4u ((a::r)++[n]))]:=rfl;have hs2:(f3b (a::r))=[.own 9 0 ((a::r).map .str),.own a3i 0 (a4u (a::r))]:=rfl;rw[hs,hs2];generalize (a::r)=l at *;simp only[go_sem,Tryz.f237,hu,hf,List.length_map,ht,List.map_append]
  · have e:b4k (a::r) n=a::r:=by unfold b4k;rw[hc];rfl
    rw[e];rw[hc] at hf;have hs2:(f3b (a::r))=[.own 9 0 ((a::r).map .str),.own a3i 0 (a4u (a::r))]:=rfl;rw[hs2];generalize (a::r)=l at *;simp only[go_sem,Tryz.f237,hf]
def a9d(t:Ty)(b acc:List (List UInt8)):List (List UInt8):=if t.kind==1&& !b.contains t.name then b4k acc t.name else acc
mutual
def a0m:Ty→List (List UInt8)→List (List UInt8)→List (List UInt8)
 | .mk k s n a,b,acc=>b1o a (if k==5 then b4k b s else b) (a9d (.mk k s n a) b acc)
def b1o:List Ty→List (List UInt8)→List (List UInt8)→List (List UInt8)
 | [],_,acc=>acc
 | t::r,b,acc=>b1o r b (a0m t b acc)
end
theorem a7y(t:Ty)(b acc:List (List UInt8)):a0m t b acc=b1o t.args (if t.kind==5 then b4k b t.name else b) (a9d t b acc):=by
 cases t;simp only[a0m,Ty.args,Ty.kind,Ty.name];rfl
theorem a4q(b acc:List (List UInt8)):b1o [] b acc=acc:=by simp only[b1o]
theorem a4s(t:Ty)(r:List Ty)(b acc:List (List UInt8)):b1o (t::r) b acc=b1o r b (a0m t b acc):=by simp only[b1o]
theorem i8c(l:List (List UInt8))(n:List UInt8):(b4k l n).length≤l.length+1:=by
 unfold b4k;split
 · omega
 · simp
theorem d8d(t:Ty)(b acc:List (List UInt8)):(a9d t b acc).length≤acc.length+1:=by
 unfold a9d;split
 · exact i8c _ _
 · omega
theorem a6w(t:Ty)(r:List Ty):Ty.szs (t::r)=t.sz+Ty.szs r:=by simp[Ty.szs]
theorem a2o:∀(n:Nat) (t:Ty),t.sz≤n→∀b acc,(a0m t b acc).length≤acc.length+t.sz:=by
 intro n
 induction n with
 | zero=>intro t h;have:=a3g t;omega
 | succ n ih=>
  have hs:∀(l:List Ty) b acc,Ty.szs l≤n→(b1o l b acc).length≤acc.length+Ty.szs l:=by
   intro l
   induction l with
   | nil=>intro b acc _;rw[a4q];omega
   | cons x r ihr=>
    intro b acc hl;rw[a6w] at hl⊢;rw[a4s];have:=ih x (by omega) b acc;have:=ihr b (a0m x b acc) (by omega);omega
  intro t h b acc;have:=a3g t;have h1:=d8d t b acc;have h2:=hs t.args (if t.kind==5 then b4k b t.name else b) (a9d t b acc) (by omega);rw[a7y];omega
theorem e9r(t:Ty)(b acc:List (List UInt8))(h:acc.length<1000000):den E 91 [tyV t,.pmap (a4u b),.ptr (.par 0) 0] [[.own 9 0 (acc.map .str)]]=some (.tup [],[[.own 9 0 ((a9d t b acc).map .str)]]):=by
 rw[a0d i3o,i6y,a0a];have hf:=b6c t.name b;have hc:=a3q acc t.name h;have a1:acc.length+1≤a0s:=by unfold a0s;omega
 unfold a9d b4k;cases h1:t.kind==1
 · simp only[go_sem,Tryz.f91,h1]
 · cases h2:b.contains t.name
   · rw[h2] at hf;cases h3:acc.contains t.name
     · rw[h3] at hc;simp only[go_sem,Tryz.f91,h1,hf,hc,a1,List.length_map,List.map_append]
     · rw[h3] at hc;simp only[go_sem,Tryz.f91,h1,hf,hc]
   · rw[h2] at hf;simp only[go_sem,Tryz.f91,h1,hf]
theorem a6h(t:Ty):t.args.length+1≤t.sz:=by
 have:∀l:List Ty,l.length≤Ty.szs l:=by
  intro l
  induction l with
  | nil=>simp
  | cons x r ih=>rw[a6w,List.length_cons];have:=a3g x;omega
 have:=this t.args;have:=a3g t;omega
theorem a6v(l:List Ty)(i:Nat):(a3a l)[i]? =(l[i]?).map tyV:=by simp[c4r]
theorem f2a:∀(n:Nat) (t:Ty),t.sz≤n→∀(b acc:List (List UInt8)),acc.length+t.sz<1000000→den E 90 [tyV t,.pmap (a4u b),.func 91 [] [.ptr (.par 0) 0]] [[.own 9 0 (acc.map .str)]]=some (.tup [],[[.own 9 0 ((a0m t b acc).map .str)]]):=by
 intro n
 induction n with
 | zero=>intro t h;have:=a3g t;omega
 | succ n ih=>
 intro t hn b acc hm;have hsz:=a3g t;have d0:=e9r t b acc (by omega);have hl0:=d8d t b acc;rw[a0d i3p,i6z,a7y];generalize a9d t b acc=a0 at *;rw[a0a] at d0⊢;obtain⟨b',hb'⟩:∃b',b'=(if t.kind==5 then b4k b t.name else b):=⟨_,rfl⟩
 rw[←hb'];cases h5:t.kind==5
 · rw[h5] at hb';simp only[Bool.false_eq_true,if_false] at hb';subst hb';simp only[go_sem,Tryz.f90,d0,h5,a2m];refine a0p (fun x:Nat×List (List UInt8)=>x.1≤t.args.length∧x.2.length+Ty.szs (t.args.drop x.1)≤a0.length+Ty.szs t.args∧b1o (t.args.drop x.1) b' x.2=b1o t.args b' a0)
    (fun x=>⟨[(1,.pmap (a4u b')),(2,.func 91 [] [.ptr (.par 0) 0]),(21,.slice (a3a t.args)),(22,.int .i64 t.args.length),(23,.int .i64 x.1)],[[.own 9 0 (x.2.map .str)]],[],1⟩)
    (fun _=>some (.tup [],[[.own 9 0 ((b1o t.args b' a0).map .str)]])) (fun x=>t.args.length - x.1) (0,a0) ⟨Nat.zero_le _,by simp,rfl⟩ ?_ ?_
   · simp only[go_sem]
   · rintro⟨i,a1⟩ ⟨hi,ha,hf⟩ h;simp only at hi ha hf h⊢
     by_cases hlt:i<t.args.length
     · obtain⟨x,hx⟩:=a7p hlt;have hxs:=a2p (List.mem_of_getElem? hx);rw[a2x hx,a6w] at ha;rw[a2x hx,a4s] at hf;have w1:IntKind.i64.wrap ((i:Int)+1)=((i+1:Nat):Int):=a1e (i+1) (by have:=a6h t;omega);have d:=ih x (by omega) b' a1 (by omega);have hl:=a2o _ x (Nat.le_refl _) b' a1;generalize a0m x b' a1=a2 at *;rw[a0a] at d;simp only[go_sem,a0g,decide_eq_true hlt,a0c,a0j,a6v,hx,a0a,d];refine h (i+1,a2) _ ⟨by omega,by simp only;omega,hf⟩ (by simp only;omega) ?_;simp only[go_sem,w1]
     · have hie:i=t.args.length:=by omega
       subst hie;rw[List.drop_length,a4q] at hf;subst hf;simp only[go_sem,a0g,Nat.lt_irrefl]
 · rw[h5] at hb';simp only[if_true] at hb';have hc:den E 155 [.pmap (a4u b)] []=some (.own a3i 0 (a4u b),[]):=a9r e3i;have hu:=b9q t.name b;rw[←hb'] at hu;clear hb';simp only[go_sem,Tryz.f90,d0,h5,a2m,hc,hu];refine a0p (fun x:Nat×List (List UInt8)=>x.1≤t.args.length∧x.2.length+Ty.szs (t.args.drop x.1)≤a0.length+Ty.szs t.args∧b1o (t.args.drop x.1) b' x.2=b1o t.args b' a0)
    (fun x=>⟨[(1,.pmap (a4u b')),(2,.func 91 [] [.ptr (.par 0) 0]),(21,.slice (a3a t.args)),(22,.int .i64 t.args.length),(23,.int .i64 x.1)],[[.own 9 0 (x.2.map .str)]],[],1⟩)
    (fun _=>some (.tup [],[[.own 9 0 ((b1o t.args b' a0).map .str)]])) (fun x=>t.args.length - x.1) (0,a0) ⟨Nat.zero_le _,by simp,rfl⟩ ?_ ?_
   · simp only[go_sem]
   · rintro⟨i,a1⟩ ⟨hi,ha,hf⟩ h;simp only at hi ha hf h⊢
     by_cases hlt:i<t.args.length
     · obtain⟨x,hx⟩:=a7p hlt;have hxs:=a2p (List.mem_of_getElem? hx);rw[a2x hx,a6w] at ha;rw[a2x hx,a4s] at hf;have w1:IntKind.i64.wrap ((i:Int)+1)=((i+1:Nat):Int):=a1e (i+1) (by have:=a6h t;omega);have d:=ih x (by omega) b' a1 (by omega);have hl:=a2o _ x (Nat.le_refl _) b' a1;generalize a0m x b' a1=a2 at *;rw[a0a] at d;simp only[go_sem,a0g,decide_eq_true hlt,a0c,a0j,a6v,hx,a0a,d];refine h (i+1,a2) _ ⟨by omega,by simp only;omega,hf⟩ (by simp only;omega) ?_;simp only[go_sem,w1]
     · have hie:i=t.args.length:=by omega
       subst hie;rw[List.drop_length,a4q] at hf;subst hf;simp only[go_sem,a0g,Nat.lt_irrefl]
theorem a4l(t:Ty)(h:t.sz<1000000):den E 32 [tyV t] []=some (.own 9 0 ((a0m t [] []).map .str),[]):=by
 have d:=f2a _ t (Nat.le_refl _) [] [] (by simpa using h);rw[a0d i4e,i7m];rw[show a4u []=[] from rfl] at d;rw[a0a] at d⊢;simp only[List.map_nil] at d;simp only[go_sem,Tryz.f32,d]
theorem f6u(n:Nat):Lib.itoa (n:Int)≠[]:=by
 by_cases h:n<10
 · rw[c8g n h];simp
 · rw[d1y n (by omega)];simp
theorem f9n{a b:Nat}(ha:a<10)(hb:b<10)(h:UInt8.ofNat (48+a)=UInt8.ofNat (48+b)):a=b:=by
 have:=congrArg UInt8.toNat h;simp only[UInt8.toNat_ofNat'] at this;omega
theorem c5l:∀(i j:Nat),Lib.itoa (i:Int)=Lib.itoa (j:Int)→i=j
 | i,j,h=>by
  by_cases hi:i<10
  · rw[c8g i hi] at h
    by_cases hj:j<10
    · rw[c8g j hj] at h;injection h with h _;exact f9n hi hj h
    · rw[d1y j (by omega)] at h;have h2:=congrArg List.length h;have h3:0<(Lib.itoa ((j / 10:Nat):Int)).length:=List.length_pos_iff.2 (f6u _);simp only[List.length_append,List.length_singleton] at h2;omega
  · rw[d1y i (by omega)] at h
    by_cases hj:j<10
    · rw[c8g j hj] at h;have h2:=congrArg List.length h;have h3:0<(Lib.itoa ((i / 10:Nat):Int)).length:=List.length_pos_iff.2 (f6u _);simp only[List.length_append,List.length_singleton] at h2;omega
    · rw[d1y j (by omega)] at h;obtain⟨h1,h2⟩:=List.append_inj' h rfl;have:=c5l (i / 10) (j / 10) h1;injection h2 with h2 _;have:=f9n (Nat.mod_lt _ (by omega)) (Nat.mod_lt _ (by omega)) h2;omega
theorem pig{f:Nat→List UInt8}:∀(n:Nat) (l:List (List UInt8)),(∀i j,i<n→j<n→f i=f j→i=j)→(∀i,i<n→f i∈l)→n≤l.length
 | 0,l,_,_=>Nat.zero_le _
 | n+1,l,hinj,hm=>by
  have h1:=hm n (by omega);have h2:=pig n (l.erase (f n)) (fun i j hi hj=>hinj i j (by omega) (by omega)) (fun i hi=>(List.mem_erase_of_ne (fun e=>by have:=hinj i n (by omega) (by omega) e;omega)).2 (hm i (by omega)));rw[List.length_erase_of_mem h1] at h2;have:0<l.length:=List.length_pos_of_mem h1;omega
theorem e9u(f:Nat→List UInt8)(hinj:∀i j,f i=f j→i=j)(l:List (List UInt8)):∃i,i≤l.length∧l.contains (f i)=false∧∀j,j<i→l.contains (f j)=true:=by
 have ex:∃i,i≤l.length∧l.contains (f i)=false:=by
  refine Classical.byContradiction fun hc=>?_;have:=pig (f:=f) (l.length+1) l (fun i j _ _=>hinj i j) (fun i hi=>by
   have:¬l.contains (f i)=false:=fun h=>hc ⟨i,by omega,h⟩;simpa using this)
  omega
 have key:∀n i,i≤n→i≤l.length→l.contains (f i)=false→∃i,i≤l.length∧l.contains (f i)=false∧∀j,j<i→l.contains (f j)=true:=by
  intro n
  induction n with
  | zero=>intro i h1 h2 h3;exact⟨i,h2,h3,fun j hj=>by omega⟩
  | succ n ih=>
   intro i h1 h2 h3
   by_cases hs:∃j,j<i∧l.contains (f j)=false
   · obtain⟨j,h4,h5⟩:=hs;exact ih j (by omega) (by omega) h5
   · refine⟨i,h2,h3,fun j hj=>?_⟩;cases hq:l.contains (f j)
     · exact absurd ⟨j,hj,hq⟩ hs
     · rfl
 obtain⟨i,h1,h2⟩:=ex;exact key i i (Nat.le_refl _) h1 h2
def b7z(s:List UInt8)(i:Nat):List UInt8:=s.take 1++[95]++Lib.itoa (i:Int)
theorem d5b(s:List UInt8)(i j:Nat)(h:b7z s i=b7z s j):i=j:=by
 unfold b7z at h;exact c5l i j (List.append_cancel_left h)
theorem b0a(n:Nat)(h:n<1000000000):den E 120 [.int .i64 n] []=some (.str (Lib.itoa n),[]):=by
 rw[a9r e3m];unfold d7s;simp only;rw[if_pos (by omega)]
def tyC(t:Ty):List AVal:=[.int .i64 t.kind,.str t.name,.int .i64 t.n,.slice (a3a t.args)]
theorem h5y(t:Ty):(tyC t).length=4:=rfl
def zC:List AVal:=[.int .i64 0,.str [],.int .i64 0,.own 25 0 []]
def a4w(ys:List Ty)(n i:Nat):List AVal:=(ys.take i).flatMap tyC++c9i (n - i) zC
theorem c5b(f:AVal→AVal)(z:List AVal):∀n,(c9i n z).map f=c9i n (z.map f)
 | 0=>rfl
 | n+1=>by rw[c9i,List.map_append,c5b f z n];rfl
theorem b4z:∀l:List Ty,(l.flatMap tyC).length=l.length*4
 | []=>rfl
 | t::l=>by rw[List.flatMap_cons,List.length_append,b4z l,h5y,List.length_cons];omega
theorem a8i{ys:List Ty}{n i:Nat}(h:ys.length=n)(hi:i≤n):(a4w ys n i).length=n*4:=by
 unfold a4w;rw[List.length_append,b4z,c5c,List.length_take];have:zC.length=4:=rfl;rw[this];omega
theorem g1q(t:Ty):(tyC t).map a3n=tyC t:=rfl
theorem d8g:∀l:List Ty,(l.flatMap tyC).map a3n=l.flatMap tyC
 | []=>rfl
 | t::l=>by rw[List.flatMap_cons,List.map_append,g1q,d8g l]
theorem b4c(ys:List Ty)(n i:Nat):(a4w ys n i).map a3n=a4w ys n i:=by
 unfold a4w;rw[List.map_append,d8g,c5b];rfl
theorem b7p(ys:List Ty)(n m:Nat):((c9i n zC).map (a4g m)).map a3n=a4w ys n 0:=by
 rw[c5b,c5b];rfl
theorem d1n:∀l:List Ty,(l.flatMap tyC).flatMap a1h=[]
 | []=>rfl
 | t::l=>by rw[List.flatMap_cons,List.flatMap_append,d1n l];rfl
theorem d0j:∀n,(c9i n zC).flatMap a1h=[]
 | 0=>rfl
 | n+1=>by rw[c9i,List.flatMap_append,d0j n];rfl
theorem a6b(ys:List Ty)(n i:Nat):(a4w ys n i).flatMap a1h=[]:=by
 unfold a4w;rw[List.flatMap_append,d1n,d0j];rfl
theorem b7o{ys:List Ty}{n i:Nat}(hl:ys.length=n){y:Ty}(hy:ys[i]? =some y):
 (a4w ys n i).take (i*4)++(.int .i64 y.kind:: .str y.name:: .int .i64 y.n:: .slice (a3a y.args)::(a4w ys n i).drop (i*4+4))=a4w ys n (i+1):=by
 have hi:i<n:=by have:=(List.getElem?_eq_some_iff.1 hy).1;omega
 unfold a4w;have h1:((ys.take i).flatMap tyC).length=i*4:=by rw[b4z,List.length_take];omega
 have h2:n - i=(n - (i+1))+1:=by omega
 have h3:zC.length=4:=rfl;rw[List.take_left' h1,a6k hy,List.flatMap_append,h2,c9i,←h1,List.drop_length_add_append,←h3,List.drop_left];simp only[List.flatMap_cons,List.flatMap_nil,List.append_nil,tyC,List.append_assoc,List.cons_append,List.nil_append]
theorem b7q{ys:List Ty}{n:Nat}(hl:ys.length=n):a4w ys n n=ys.flatMap tyC:=by
 unfold a4w;rw[List.take_of_length_le (by omega),Nat.sub_self];simp[c9i]
theorem b3c:∀l:List Ty,(l.flatMap tyC).map strip1=l.flatMap tyC
 | []=>rfl
 | t::l=>by rw[List.flatMap_cons,List.map_append,b3c l];rfl
theorem b6b:∀l:List Ty,(l.flatMap tyC).all c9n=true
 | []=>rfl
 | t::l=>by rw[List.flatMap_cons,List.all_append,b6b l];rfl
theorem b1p:∀(l:List Ty),b4p true 4 l.length (l.flatMap tyC)=a3a l
 | []=>by rw[a0h];rfl
 | t::l=>by
  rw[List.length_cons,b4p,List.flatMap_cons,a1c,a0a];have h4:(tyC t).length=4:=rfl;rw[List.take_left' h4,←h4,List.drop_left,h4,b1p l];rfl
theorem d5t(t:Ty)(ys:List Ty)(a b:List UInt8)(hl:ys.length=t.args.length)(hb:t.sz<1000000)
 (hc:∀(i:Nat) (x y:Ty),t.args[i]? =some x→ys[i]? =some y→den E 159 [tyV x,.ptr (.par 0) 0,.ptr (.par 1) 0] [[.str a],[.str b]]=some (tyV y,[[.str a],[.str b]])):
 den E 101 [tyV t,.func 159 [] [.ptr (.par 0) 0,.ptr (.par 1) 0]] [[.str a],[.str b]]=some (tyV (.mk t.kind t.name t.n ys),[[.str a],[.str b]]):=by
 rw[a0d c5h,c5v];have hal:=a6h t;have rl:=a2m t.args;have n0:=b5v t.args.length
 by_cases h0:t.args=[]
 · have hy:ys=[]:=List.eq_nil_of_length_eq_zero (by rw[hl,h0];rfl);subst hy;rw[a4n,a0a];rw[h0] at n0;simp only[go_sem,Tryz.f101,h0,a0h]
 · have h0':¬t.args.length=0:=fun e=>h0 (List.eq_nil_of_length_eq_zero e);rw[decide_eq_false h0'] at n0;rw[a4n,a0a];obtain⟨n,hn⟩:∃n,n=t.args.length:=⟨_,rfl⟩
   rw[←hn] at hl n0 rl;have l1:((n:Int)≤1073741824)=True:=by simp;omega
   have hz:∀m,List.map a3n (List.map (a4g m) (c9i n [.int .i64 0,.str [],.int .i64 0,.own 25 0 []]))=a4w ys n 0:=fun m=>b7p ys n m;obtain⟨fin,hfin⟩:∃fin,fin=(some (.agg [.int .i64 t.kind,.str t.name,.int .i64 t.n,.slice (a3a ys)],[[.str a],[.str b]]):Option (AVal×a3e)):=⟨_,rfl⟩
   try rw[←hn] at hfin
   try rw[←hn]
   rw[←hfin];simp only[go_sem,Tryz.f101,rl,n0,a0c,a0j,l1];refine a4j (fun i=>⟨[(1,.func 159 [] [.ptr (.par 0) 0,.ptr (.par 1) 0]),(2,.ptr (.loc 2) 0),(4,.ptr (.loc 4) 0),(5,.ptr (.loc 16) (a2s+n)),(18,.slice (a3a t.args)),(19,.int .i64 n),(20,.int .i64 i)],[[.str a],[.str b]],[(2,tyC t),(4,zC),(16,a4w ys n i)],1⟩) n ?_ ?_ ?_
   · simp only[go_sem,hz,a6b,tyC,zC]
   · intro i hi h;have hia:i<t.args.length:=by omega
     have hiy:i<ys.length:=by omega
     obtain⟨x,hx⟩:=a7p hia;obtain⟨y,hy⟩:=a7p hiy;have d:=hc i x y hx hy;have hxs:=a2p (List.mem_of_getElem? hx);have hsz:=a3g t;have w1:IntKind.i64.wrap ((i:Int)+1)=((i+1:Nat):Int):=a1e (i+1) (by omega);have i1:((i:Int)<(n:Int))=True:=by simp;omega
     have i2:(i*4<a2s)=True:=by rw[a9a];simp;omega
     have cl:(a4w ys n i).length=n*4:=a8i hl (by omega);have i3:(i*4+4≤n*4)=True:=by simp;omega
     have hput:=b7o hl hy;rw[a0a,a0a] at d;simp only[go_sem,a0c,a0j,a6v,hx,a0a,tyC,zC,d,i1,i2,cl,i3];refine h _ ?_;simp only[go_sem,w1,hput,b4c,a6b,tyC,zC]
   · have cl:(a4w ys n n).length=n*4:=a8i hl (Nat.le_refl _);have ce:=b7q hl;have ch:=b1p ys;rw[hl] at ch;rw[ce] at cl;simp only[go_sem,a0g,Nat.lt_irrefl,true_or,tyC,zC,ce,cl,b3c,b6b,ch,hfin]
theorem d5s(t:Ty)(ys:List Ty)(fr:List AVal)(ns:Nat→Int)(hl:ys.length=t.args.length)(hb:t.sz<1000000)
 (hc:∀(i:Nat) (x y:Ty),t.args[i]? =some x→ys[i]? =some y→den E 214 [tyV x,.ptr (.par 0) 0,.ptr (.par 1) 0] [[.slice fr],[.int .i64 (ns i)]]=some (tyV y,[[.slice fr],[.int .i64 (ns (i+1))]])):
 den E 101 [tyV t,.func 214 [] [.ptr (.par 0) 0,.ptr (.par 1) 0]] [[.slice fr],[.int .i64 (ns 0)]]=some (tyV (.mk t.kind t.name t.n ys),[[.slice fr],[.int .i64 (ns t.args.length)]]):=by
 rw[a0d c5h,c5v];have hal:=a6h t;have rl:=a2m t.args;have n0:=b5v t.args.length
 by_cases h0:t.args=[]
 · have hy:ys=[]:=List.eq_nil_of_length_eq_zero (by rw[hl,h0];rfl);subst hy;rw[a4n,a0a];rw[h0] at n0;simp only[go_sem,Tryz.f101,h0,a0h]
 · have h0':¬t.args.length=0:=fun e=>h0 (List.eq_nil_of_length_eq_zero e);rw[decide_eq_false h0'] at n0;rw[a4n,a0a];obtain⟨n,hn⟩:∃n,n=t.args.length:=⟨_,rfl⟩
   rw[←hn] at hl n0 rl;have l1:((n:Int)≤1073741824)=True:=by simp;omega
   have hz:∀m,List.map a3n (List.map (a4g m) (c9i n [.int .i64 0,.str [],.int .i64 0,.own 25 0 []]))=a4w ys n 0:=fun m=>b7p ys n m;obtain⟨fin,hfin⟩:∃fin,fin=(some (.agg [.int .i64 t.kind,.str t.name,.int .i64 t.n,.slice (a3a ys)],[[.slice fr],[.int .i64 (ns t.args.length)]]):Option (AVal×a3e)):=⟨_,rfl⟩
   try rw[←hn] at hfin
   try rw[←hn]
   rw[←hfin];simp only[go_sem,Tryz.f101,rl,n0,a0c,a0j,l1];refine a4j (fun i=>⟨[(1,.func 214 [] [.ptr (.par 0) 0,.ptr (.par 1) 0]),(2,.ptr (.loc 2) 0),(4,.ptr (.loc 4) 0),(5,.ptr (.loc 16) (a2s+n)),(18,.slice (a3a t.args)),(19,.int .i64 n),(20,.int .i64 i)],[[.slice fr],[.int .i64 (ns i)]],[(2,tyC t),(4,zC),(16,a4w ys n i)],1⟩) n ?_ ?_ ?_
   · simp only[go_sem,hz,a6b,tyC,zC]
   · intro i hi h;have hia:i<t.args.length:=by omega
     have hiy:i<ys.length:=by omega
     obtain⟨x,hx⟩:=a7p hia;obtain⟨y,hy⟩:=a7p hiy;have d:=hc i x y hx hy;have hxs:=a2p (List.mem_of_getElem? hx);have hsz:=a3g t;have w1:IntKind.i64.wrap ((i:Int)+1)=((i+1:Nat):Int):=a1e (i+1) (by omega);have i1:((i:Int)<(n:Int))=True:=by simp;omega
     have i2:(i*4<a2s)=True:=by rw[a9a];simp;omega
     have cl:(a4w ys n i).length=n*4:=a8i hl (by omega);have i3:(i*4+4≤n*4)=True:=by simp;omega
     have hput:=b7o hl hy;rw[a0a,a0a] at d;simp only[go_sem,a0c,a0j,a6v,hx,a0a,tyC,zC,d,i1,i2,cl,i3];refine h _ ?_;simp only[go_sem,w1,hput,b4c,a6b,tyC,zC]
   · have cl:(a4w ys n n).length=n*4:=a8i hl (Nat.le_refl _);have ce:=b7q hl;have ch:=b1p ys;rw[hl] at ch;rw[ce] at cl;simp only[go_sem,a0g,Nat.lt_irrefl,true_or,tyC,zC,ce,cl,b3c,b6b,ch,hfin]
theorem e2y{x y:Ty}{a b:List UInt8}(h:den E 100 [tyV x,.str a,.str b] []=some (tyV y,[])):
 den E 159 [tyV x,.ptr (.par 0) 0,.ptr (.par 1) 0] [[.str a],[.str b]]=some (tyV y,[[.str a],[.str b]]):=by
 rw[a0d g5o,h2u];rw[a0a,a0a] at h⊢;simp only[go_sem,Tryz.f159,h]
theorem b2y(t:Ty)(ys:List Ty)(a b:List UInt8)(hl:ys.length=t.args.length)(hb:t.sz<1000000)
 (hc:∀(i:Nat) (x y:Ty),t.args[i]? =some x→ys[i]? =some y→den E 100 [tyV x,.str a,.str b] []=some (tyV y,[]))
 (h1:(t.kind==1&&t.name==a)=false) (h2:(t.kind==5&&t.name==a)=false) (h3:(t.kind==5&&t.name==b)=false):
 den E 100 [tyV t,.str a,.str b] []=some (tyV (.mk t.kind t.name t.n ys),[]):=by
 have d:=d5t t ys a b hl hb fun i x y hx hy=>e2y (hc i x y hx hy);rw[a0d c5i,c5w];rw[a4n,a0a] at d⊢;cases k1:t.kind==1<;>cases k5:t.kind==5<;>cases na:t.name==a<;>cases nb:t.name==b<;>simp only[k1,k5,na,nb,Bool.and_true,Bool.and_false,Bool.true_eq_false] at h1 h2 h3<;>
 simp only[go_sem,Tryz.f100,k1,k5,na,nb,d]
theorem i3c(t:Ty)(a b:List UInt8)(h1:(t.kind==1)=true)(h2:(t.name==a)=true):den E 100 [tyV t,.str a,.str b] []=some (tyV (.mk t.kind b t.n t.args),[]):=by
 rw[a0d c5i,c5w,a4n,a0a];simp only[go_sem,Tryz.f100,h1,h2]
theorem g2s(t:Ty)(a b:List UInt8)(h0:(t.kind==1)=false)(h1:(t.kind==5)=true)(h2:(t.name==a)=true):den E 100 [tyV t,.str a,.str b] []=some (tyV t,[]):=by
 rw[a0d c5i,c5w,a0a];simp only[go_sem,Tryz.f100,h0,h1,h2]
theorem f3o(t x x' y:Ty)(a b c:List UInt8)(hx:t.args=[x])(h0:(t.kind==1)=false)(h1:(t.kind==5)=true)(h2:(t.name==a)=false)(h3:(t.name==b)=true)(hb:t.sz<300000)(hs:x'.sz=x.sz)
 (hd:den E 98 [.str b,.slice ((a0m x [] []++[a,b]).map .str)] []=some (.str c,[])) (r1:den E 100 [tyV x,.str b,.str c] []=some (tyV x',[])) (r2:den E 100 [tyV x',.str a,.str b] []=some (tyV y,[])):
 den E 100 [tyV t,.str a,.str b] []=some (tyV (.mk 5 c 0 [y]),[]):=by
 have hsz:=a3g t;rw[hx,a1o] at hsz;have d:=d5t (.mk 5 c 0 [x']) [y] a b rfl (by rw[a0x,a1o];omega) fun i u v hu hv=>e2y (by
  cases i with
  | zero=>simp[Ty.args] at hu hv;subst hu hv;exact r2
  | succ i=>simp[Ty.args] at hu)
 have df:=a4l x (by omega);have hle:=a2o _ x (Nat.le_refl _) [] [];have a1:(a0m x [] []).length+2≤a0s:=by unfold a0s;simp at hle;omega
 rw[a0d c5i,c5w];simp only[a4n,a1c,a0h,Ty.kind,Ty.name,Ty.n] at d;simp only[List.map_append,List.map_cons,List.map_nil] at hd;rw[a4n,a1c,a0h];rw[a0a] at r1 r2 d df⊢;rw[a0a y] at r2 d⊢;rw[a0a x'] at r1;rw[hx,a1c,a0h,a0a];simp only[go_sem,Tryz.f100,h0,h1,h2,h3,Int.le_refl,Int.toNat_zero,df,a1,List.length_map,hd,r1,d]
theorem g9x(b:List UInt8)(i:Nat)(h:i<1000000):b7z b i≠[]∧(b7z b i).length≤16:=by
 have:=b0t 5 i (by
  have e:(10:Nat) ^ (5+1)=1000000:=by decide
  omega)
 unfold b7z;refine⟨by simp,?_⟩;rw[List.length_append,List.length_append,List.length_take,List.length_singleton];omega
theorem f2m:∀ {l m:List Ty},m.length=l.length→(∀(i:Nat) (x y:Ty),l[i]? =some x→m[i]? =some y→y.sz=x.sz)→Ty.szs m=Ty.szs l
 | [],[],_,_=>rfl
 | a::l,b::m,h,hs=>by
  rw[a6w,a6w,hs 0 a b rfl rfl,f2m (by simpa using h) fun i x y hx hy=>hs (i+1) x y (by simpa using hx) (by simpa using hy)]
 | [],b::m,h,_=>by simp at h
 | a::l,[],h,_=>by simp at h
theorem c7o{α:Type}{l:List α}{y:α}(h:y∈l):∃i:Nat,l[i]? =some y:=List.mem_iff_getElem?.1 h
def a9c(i:Nat):List UInt8:=120::Lib.itoa (i:Int)
theorem g0f(i j:Nat)(h:a9c i=a9c j):i=j:=c5l i j (by unfold a9c at h;injection h)
theorem c8w(i:Nat)(h:i<1000000000):(a9c i).length≤16∧a9c i≠[]∧1+(Lib.itoa (i:Int)).length≤a1y:=by
 have:=b0t 8 i (by
  have e:(10:Nat) ^ (8+1)=1000000000:=by decide
  omega)
 unfold a9c a1y;exact⟨by simp;omega,by simp,by omega⟩
theorem e3w{x y:Ty}{fr:List AVal}{k k':Nat}(h:den E 151 [tyV x,.slice fr,.int .i64 k] []=some (.tup [tyV y,.int .i64 k'],[])):
 den E 214 [tyV x,.ptr (.par 0) 0,.ptr (.par 1) 0] [[.slice fr],[.int .i64 k]]=some (tyV y,[[.slice fr],[.int .i64 k']]):=by
 rw[a0d g4f,h1m];rw[a0a,a0a] at h⊢;simp only[go_sem,Tryz.f214,h]
theorem c0n(t:Ty)(ys:List Ty)(fr:List AVal)(ks:List Nat)(hl:ys.length=t.args.length)(hb:t.sz<1000000)(hk:(t.kind==5)=false)
 (hc:∀(i:Nat) (x y:Ty),t.args[i]? =some x→ys[i]? =some y→den E 151 [tyV x,.slice fr,.int .i64 (ks.getD i 0:Nat)] []=some (.tup [tyV y,.int .i64 (ks.getD (i+1) 0:Nat)],[])):
 den E 151 [tyV t,.slice fr,.int .i64 (ks.getD 0 0:Nat)] []=some (.tup [tyV (.mk t.kind t.name t.n ys),.int .i64 (ks.getD t.args.length 0:Nat)],[]):=by
 have d:=d5s t ys fr (fun i=>((ks.getD i 0:Nat):Int)) hl hb fun i x y hx hy=>e3w (hc i x y hx hy)
 try simp only at d
 generalize ks.getD t.args.length 0=k' at d⊢;generalize ks.getD 0 0=k0 at d⊢;rw[a0d e3j,e5r];rw[a4n,a0a] at d⊢;simp only[go_sem,Tryz.f151,hk,d]
theorem i4v(t x x' y:Ty)(fr:List (List UInt8))(k m k':Nat)(hx:t.args=[x])(hk:(t.kind==5)=true)(hf:fr.length<1000000)(hkm:k≤m)(hm:m<999999999)
 (h2:fr.contains (a9c m)=false) (h3:∀j,k≤j→j<m→fr.contains (a9c j)=true) (hs:x'.sz<300000)
 (r1:den E 100 [tyV x,.str t.name,.str (a9c m)] []=some (tyV x',[])) (r2:den E 151 [tyV x',.slice (fr.map .str),.int .i64 ((m+1:Nat):Int)] []=some (.tup [tyV y,.int .i64 k'],[])):
 den E 151 [tyV t,.slice (fr.map .str),.int .i64 k] []=some (.tup [tyV (.mk 5 (a9c m) 0 [y]),.int .i64 k'],[]):=by
 have d:=d5s (.mk 5 (a9c m) 0 [x']) [y] (fr.map .str) (fun j=>if j=0 then ((m+1:Nat):Int) else (k':Int)) rfl (by rw[a0x,a1o];omega) fun j u v hu hv=>by
  cases j with
  | zero=>simp[Ty.args] at hu hv;subst hu hv;exact e3w r2
  | succ j=>simp[Ty.args] at hu
 have e1:(Ty.mk 5 (a9c m) 0 [x']).args.length=1:=rfl;rw[e1] at d;simp only[if_true,Nat.one_ne_zero,if_false] at d;simp only[a4n,a1c,a0h,Ty.kind,Ty.name,Ty.n] at d;rw[a0d e3j,e5r];have d0:=b0a k (by omega);have m0:=(c8w k (by omega)).2.2;rw[a4n,a1c,a0h];rw[a0a] at r1 d⊢;rw[a0a y] at d⊢;rw[a0a x'] at r1;rw[hx,a1c,a0h,a0a];obtain⟨fin,hfin⟩:∃fin,fin=(some (.tup [.agg [.int .i64 5,.str (a9c m),.int .i64 0,.slice [.agg [.int .i64 y.kind,.str y.name,.int .i64 y.n,.slice (a3a y.args)]]],.int .i64 k'],[]):Option (AVal×a3e)):=⟨_,rfl⟩
 rw[←hfin];simp only[go_sem,Tryz.f151,hk,d0,m0];refine a0p (fun j:Nat=>k≤j∧j≤m) (fun j=>⟨[(3,.ptr (.loc 3) 0),(4,.ptr (.loc 4) 0),(5,.ptr (.loc 5) 0),(6,.ptr (.loc 6) 0),(8,.str (a9c j))],[],
  [(3,[.int .i64 t.kind,.str t.name,.int .i64 t.n,.slice [.agg [.int .i64 x.kind,.str x.name,.int .i64 x.n,.slice (a3a x.args)]]]),(4,[.slice (fr.map .str)]),(5,[.int .i64 (j:Int)]),(6,[.int .i64 0,.str [],.int .i64 0,.own 25 0 []])],1⟩)
  (fun _=>fin) (fun j=>m - j) k ⟨Nat.le_refl _,hkm⟩ ?_ ?_
 · simp only[go_sem,a9c]
 · intro j hj h;obtain⟨q,w1,hq⟩:∃q:Nat,IntKind.i64.wrap ((j:Int)+1)=(q:Int)∧q=j+1:=⟨j+1,a1e (j+1) (by omega),rfl⟩
   have dc:=a3q fr (a9c j) hf
   by_cases hlt:j<m
   · rw[h3 j hj.1 hlt] at dc;have d1:=b0a q (by omega);have m1:=(c8w q (by omega)).2.2;simp only[go_sem,dc,w1,d1,m1];refine h q _ ⟨by omega,by omega⟩ (by omega) ?_;simp only[go_sem,a9c]
   · have hje:j=m:=by omega
     subst hje;rw[h2] at dc;rw[←hq] at d;simp only[go_sem,dc,w1,Int.le_refl,Int.toNat_zero,r1,d,hfin]
def g6p(o:List (List UInt8)):List (List UInt8)→Nat→Int
 | [],_=> -1
 | x::r,i=>if !o.contains x then (i:Int) else g6p o r (i+1)
def e3r(l o:List (List UInt8)):List UInt8×Bool:=match l.find? fun n=> !o.contains n with
 | none=>([],false)
 | some n=>(n,true)
theorem d6r(o:List (List UInt8)):∀(l:List (List UInt8)) (i:Nat),(g6p o l i= -1∧l.find? (fun n=> !o.contains n)=none)∨∃k n,g6p o l i=((i+k:Nat):Int)∧l[k]? =some n∧l.find? (fun n=> !o.contains n)=some n
 | [],i=>.inl ⟨rfl,rfl⟩
 | x::r,i=>by
  unfold g6p;rw[List.find?_cons];cases h:o.contains x
  · exact .inr ⟨0,x,by simp,rfl,by simp⟩
  · simp only[Bool.not_true,Bool.false_eq_true,if_false];rcases d6r o r (i+1) with⟨h1,h2⟩| ⟨k,n,h1,h2,h3⟩
    · exact .inl ⟨h1,h2⟩
    · exact .inr ⟨k+1,n,by rw[h1];congr 1;omega,by simpa using h2,h3⟩
theorem f4c(o:List (List UInt8))(n:List UInt8)(ho:o.length<1000000):den E 205 [.str n,.ptr (.par 0) 0] [[.slice (o.map .str)]]=some (.bool (!o.contains n),[[.slice (o.map .str)]]):=by
 rw[a0d g4m,h1t];have h1:=a3q o n ho;simp only[go_sem,Tryz.f205,h1]
theorem g7s(l o:List (List UInt8))(hl:l.length<1000000)(ho:o.length<1000000):den E 204 [.slice (l.map .str),.func 205 [] [.ptr (.par 0) 0]] [[.slice (o.map .str)]]=some (.int .i64 (g6p o l 0),[[.slice (o.map .str)]]):=by
 rw[a0d e3f,e5o];simp only[go_sem,Tryz.f204,List.length_map];refine a0p (fun i:Nat=>i≤l.length) (fun i=>⟨[(0,.slice (l.map .str)),(1,.func 205 [] [.ptr (.par 0) 0]),(7,.int .i64 l.length),(8,.int .i64 i)],[[.slice (o.map .str)]],[],1⟩) (fun i=>some (.int .i64 (g6p o (l.drop i) i),[[.slice (o.map .str)]])) (fun i=>l.length - i) 0 (Nat.zero_le _) ?_ ?_
 · simp only[go_sem]
 · intro i hi h
   by_cases hlt:i<l.length
   · obtain⟨x,hx⟩:=a7p hlt;rw[a2x hx];have w1:IntKind.i64.wrap ((i:Int)+1)=((i+1:Nat):Int):=a1e (i+1) (by omega);have d:=f4c o x ho;cases hq:o.contains x
     · simp only[go_sem,a0g,decide_eq_true hlt,a0c,a0j,a4b,hx,hq,d,g6p]
     · simp only[go_sem,a0g,decide_eq_true hlt,a0c,a0j,a4b,hx,hq,d,g6p];refine h (i+1) _ (by omega) (by omega) ?_;simp only[go_sem,w1]
   · have hie:i=l.length:=by omega
     subst hie;rw[List.drop_length];simp only[go_sem,a0g,Nat.lt_irrefl,g6p]
theorem b8y(l o:List (List UInt8))(hl:l.length<1000000)(ho:o.length<1000000):den E 141 [.slice (l.map .str),.slice (o.map .str)] []=some (twV (e3r l o),[]):=by
 rw[a0d g5u,h3a];have h1:=g7s l o hl ho;rcases d6r o l 0 with⟨h2,h3⟩| ⟨k,n,h2,h3,h4⟩
 · rw[h2] at h1;have e:e3r l o=([],false):=by unfold e3r;rw[h3]
   rw[e];simp only[go_sem,Tryz.f141,h1,twV]
 · rw[h2] at h1;have e:e3r l o=(n,true):=by unfold e3r;rw[h4]
   rw[e];have h5:decide (((0+k:Nat):Int)<0)=false:=by simp
   simp only[Nat.zero_add] at h1 h5;simp only[go_sem,Tryz.f141,h1,h5,a0c,a0j,a4b,h3,twV]
end Go.Proofs
namespace Go.Proofs
open Go.Av
set_option maxHeartbeats 16000000
set_option maxRecDepth 100000
section
variable{α:Type}(ext:List (List UInt8)→List (List UInt8)→List (List UInt8))(fa:Ex→List (List UInt8)→α→α)(fb:Al→α→α)
mutual
def a5i:Ex→List (List UInt8)→α→α
 | .mk k s tl t ks al,b,acc=>
  if k==3 then a2i ks (ext b [s]) (fa (.mk k s tl t ks al) b acc)
  else if k==5 then c1v ks b s (fa (.mk k s tl t ks al) b acc)
  else a1p al b (a2i ks b (fa (.mk k s tl t ks al) b acc))
def a2i:List Ex→List (List UInt8)→α→α
 | [],_,acc=>acc
 | e::r,b,acc=>a2i r b (a5i e b acc)
def c1v:List Ex→List (List UInt8)→List UInt8→α→α
 | [],_,_,acc=>acc
 | e::r,b,s,acc=>a2i r (ext b [s]) (a5i e b acc)
def f1x:Al→List (List UInt8)→α→α
 | .mk c vs e,b,acc=>a5i e (ext b vs) (fb (.mk c vs e) acc)
def a1p:List Al→List (List UInt8)→α→α
 | [],_,acc=>acc
 | a::r,b,acc=>a1p r b (f1x a b acc)
end
end
section
variable{α:Type}{ext:List (List UInt8)→List (List UInt8)→List (List UInt8)}{fa:Ex→List (List UInt8)→α→α}{fb:Al→α→α}
theorem b9o(e:Ex)(b:List (List UInt8))(acc:α):a5i ext fa fb e b acc=if e.kind==3 then a2i ext fa fb e.kids (ext b [e.name]) (fa e b acc)
 else if e.kind==5 then c1v ext fa fb e.kids b e.name (fa e b acc)
 else a1p ext fa fb e.alts b (a2i ext fa fb e.kids b (fa e b acc)):=by
 cases e;simp only[a5i,Ex.kind,Ex.name,Ex.kids,Ex.alts];rfl
theorem b6q(a:Al)(b:List (List UInt8))(acc:α):f1x ext fa fb a b acc=a5i ext fa fb a.body (ext b a.vars) (fb a acc):=by
 cases a;simp only[f1x,Al.body,Al.vars]
theorem a3y(b:List (List UInt8))(acc:α):a2i ext fa fb [] b acc=acc:=by simp only[a2i]
theorem a4a(e:Ex)(r:List Ex)(b:List (List UInt8))(acc:α):a2i ext fa fb (e::r) b acc=a2i ext fa fb r b (a5i ext fa fb e b acc):=by simp only[a2i]
theorem a8d(b:List (List UInt8))(acc:α):a1p ext fa fb [] b acc=acc:=by simp only[a1p]
theorem b1d(e:Al)(r:List Al)(b:List (List UInt8))(acc:α):a1p ext fa fb (e::r) b acc=a1p ext fa fb r b (f1x ext fa fb e b acc):=by simp only[a1p]
theorem a9t(e:Ex)(r:List Ex)(b:List (List UInt8))(s:List UInt8)(acc:α):c1v ext fa fb (e::r) b s acc=a2i ext fa fb r (ext b [s]) (a5i ext fa fb e b acc):=by simp only[c1v]
theorem d9l(b:List (List UInt8))(s:List UInt8)(acc:α):c1v ext fa fb [] b s acc=acc:=by simp only[c1v]
theorem b3k(l:List Ex)(x:Ex)(b:List (List UInt8))(acc:α):a2i ext fa fb (l++[x]) b acc=a5i ext fa fb x b (a2i ext fa fb l b acc):=by
 induction l generalizing acc with
 | nil=>rw[List.nil_append,a4a,a3y,a3y]
 | cons e r ih=>rw[List.cons_append,a4a,a4a,ih]
theorem b3l(l:List Al)(x:Al)(b:List (List UInt8))(acc:α):a1p ext fa fb (l++[x]) b acc=f1x ext fa fb x b (a1p ext fa fb l b acc):=by
 induction l generalizing acc with
 | nil=>rw[List.nil_append,b1d,a8d,a8d]
 | cons e r ih=>rw[List.cons_append,b1d,b1d,ih]
theorem a5u(e:Ex)(r:List Ex):Ex.tots (e::r)=e.tot+Ex.tots r:=by simp[Ex.tots]
theorem b4h(a:Al)(r:List Al):Al.tots (a::r)=a.tot+Al.tots r:=by simp[Al.tots]
theorem b7v(a:Al):a.tot=a.body.tot+a.vars.length+1:=by cases a;simp[Al.tot,Al.body,Al.vars]
theorem b4l(e:Ex):1≤e.ty.sz:=by rw[a3g];omega
theorem b3j(m:α→Nat)(h1:∀e b acc,m (fa e b acc)≤m acc+1)(h2:∀a acc,m (fb a acc)≤m acc+a.vars.length+1):∀(n:Nat) (e:Ex),e.tot≤n→∀b acc,m (a5i ext fa fb e b acc)≤m acc+e.tot:=by
 intro n
 induction n with
 | zero=>intro e he;have:=b0k e;have:=b4l e;omega
 | succ n ih=>
  have hks:∀(l:List Ex) b acc,Ex.tots l≤n→m (a2i ext fa fb l b acc)≤m acc+Ex.tots l:=by
   intro l
   induction l with
   | nil=>intro b acc _;rw[a3y];omega
   | cons e r ihr=>
    intro b acc hl;rw[a5u] at hl⊢;rw[a4a];have:=ih e (by omega) b acc;have:=ihr b (a5i ext fa fb e b acc) (by omega);omega
  have hal:∀(l:List Al) b acc,Al.tots l≤n→m (a1p ext fa fb l b acc)≤m acc+Al.tots l:=by
   intro l
   induction l with
   | nil=>intro b acc _;rw[a8d];omega
   | cons e r ihr=>
    intro b acc hl;rw[b4h,b7v] at hl⊢;rw[b1d,b6q];have:=h2 e acc;have:=ih e.body (by omega) (ext b e.vars) (fb e acc);have:=ihr b (a5i ext fa fb e.body (ext b e.vars) (fb e acc)) (by omega);omega
  intro e he b acc;have ht:=b0k e;have hp:=b4l e;have h0:=h1 e b acc;rw[b9o];split
  · have:=hks e.kids (ext b [e.name]) (fa e b acc) (by omega);omega
  · split
    · cases hk:e.kids with
      | nil=>rw[d9l];omega
      | cons x r=>
       rw[hk,a5u] at ht;rw[a9t];have:=ih x (by omega) b (fa e b acc);have:=hks r (ext b [e.name]) (a5i ext fa fb x b (fa e b acc)) (by omega);omega
    · have:=hks e.kids b (fa e b acc) (by omega);have:=hal e.alts b (a2i ext fa fb e.kids b (fa e b acc)) (by omega);omega
end
inductive SX:Ex→Prop
 | mk (e:Ex):(e.kind=1→e.kids=[]∧e.alts=[])→(e.kind=3→(∃x,e.kids=[x])∧e.alts=[])→(e.kind=5→(∃x y,e.kids=[x,y])∧e.alts=[])→(∀x∈e.kids,SX x)→(∀a∈e.alts,SX a.body)→SX e
theorem SX.nam{e:Ex}(h:SX e)(hk:(e.kind==1)=true):e.kids=[]∧e.alts=[]:=by cases h with|mk _ h _ _ _ _=>exact h (by simpa using hk)
theorem SX.lam{e:Ex}(h:SX e)(hk:(e.kind==3)=true):∃x,e.kids=[x]:=by cases h with|mk _ _ h _ _ _=>exact (h (by simpa using hk)).1
theorem SX.lett{e:Ex}(h:SX e)(hk:(e.kind==5)=true):∃x y,e.kids=[x,y]:=by cases h with|mk _ _ _ h _ _=>exact (h (by simpa using hk)).1
theorem SX.kid{e x:Ex}(h:SX e)(hx:x∈e.kids):SX x:=by cases h with|mk _ _ _ _ h _=>exact h x hx
theorem SX.alt{e:Ex}{a:Al}(h:SX e)(hx:a∈e.alts):SX a.body:=by cases h with|mk _ _ _ _ _ h=>exact h a hx
theorem c4u{l:List Ex}{i:Nat}{x:Ex}(h:l[i]? =some x):Ex.tots (l.take i)+x.tot≤Ex.tots l:=by
 induction l generalizing i with
 | nil=>simp at h
 | cons e r ih=>
  cases i with
  | zero=>simp at h;subst h;simp[Ex.tots]
  | succ i=>
   rw[List.take_succ_cons,a5u,a5u];have:=ih (i:=i) (by simpa using h);omega
theorem b7u{l:List Al}{i:Nat}{x:Al}(h:l[i]? =some x):Al.tots (l.take i)+x.tot≤Al.tots l:=by
 induction l generalizing i with
 | nil=>simp at h
 | cons e r ih=>
  cases i with
  | zero=>simp at h;subst h;simp[Al.tots]
  | succ i=>
   rw[List.take_succ_cons,b4h,b4h];have:=ih (i:=i) (by simpa using h);omega
theorem a7e{α:Type}{l:List α}{i:Nat}{x:α}(h:l[i]? =some x):l.take (i+1)=l.take i++[x]:=by rw[List.take_add_one,h];rfl
theorem a9u{α:Type}{ext:List (List UInt8)→List (List UInt8)→List (List UInt8)}{fa:Ex→List (List UInt8)→α→α}{fb:Al→α→α}(m:α→Nat)(h1:∀e b acc,m (fa e b acc)≤m acc+1)(h2:∀a acc,m (fb a acc)≤m acc+a.vars.length+1):
 ∀(l:List Ex) b acc,m (a2i ext fa fb l b acc)≤m acc+Ex.tots l:=by
 intro l
 induction l with
 | nil=>intro b acc;rw[a3y];omega
 | cons e r ih=>
  intro b acc;rw[a4a,a5u];have:=b3j (ext:=ext) m h1 h2 _ e (Nat.le_refl _) b acc;have:=ih b (a5i ext fa fb e b acc);omega
theorem b9p{α:Type}{ext:List (List UInt8)→List (List UInt8)→List (List UInt8)}{fa:Ex→List (List UInt8)→α→α}{fb:Al→α→α}(m:α→Nat)(h1:∀e b acc,m (fa e b acc)≤m acc+1)(h2:∀a acc,m (fb a acc)≤m acc+a.vars.length+1):
 ∀(l:List Al) b acc,m (a1p ext fa fb l b acc)≤m acc+Al.tots l:=by
 intro l
 induction l with
 | nil=>intro b acc;rw[a8d];omega
 | cons e r ih=>
  intro b acc;rw[b1d,b4h,b7v,b6q];have:=h2 e acc;have:=b3j (ext:=ext) m h1 h2 _ e.body (Nat.le_refl _) (ext b e.vars) (fb e acc);have:=ih b (a5i ext fa fb e.body (ext b e.vars) (fb e acc));omega
end Go.Proofs
namespace Go.Proofs
open Go.Av
set_option maxHeartbeats 16000000
set_option maxRecDepth 100000
theorem c5k(e:Ex):e.kids.length+1≤e.tot:=by have:=b3m e.kids;have:=b0k e;have:=b4l e;omega
theorem d9e(l:List (List UInt8))(n:List UInt8):(b4k l n).length≤l.length+1:=by
 unfold b4k;split
 · omega
 · simp
theorem e1p:∀(ns l:List (List UInt8)),(ns.foldl b4k l).length≤l.length+ns.length
 | [],l=>by simp
 | n::r,l=>by
  rw[List.foldl_cons,List.length_cons];have:=e1p r (b4k l n);have:=d9e l n;omega
def faF(e:Ex)(b acc:List (List UInt8)):List (List UInt8):=if e.kind==1&& !b.contains e.name then b4k acc e.name else acc
def fbF(_:Al)(acc:List (List UInt8)):List (List UInt8):=acc
def faC(e:Ex)(_ acc:List (List UInt8)):List (List UInt8):=if e.kind==2 then b4k acc e.name else acc
def fbC(a:Al)(acc:List (List UInt8)):List (List UInt8):=b4k acc a.con
def faB(e:Ex)(_ acc:List (List UInt8)):List (List UInt8):=if e.kind==3||e.kind==5 then b4k acc e.name else acc
def fbB(a:Al)(acc:List (List UInt8)):List (List UInt8):=a.vars.foldl b4k acc
def faT(_:Ex)(_:List (List UInt8))(acc:Bool×List UInt8):Bool×List UInt8:=acc
def fbT(a:Al)(acc:Bool×List UInt8):Bool×List UInt8:=if (twR a.vars [] a.vars 0).2&& !acc.1 then (true,(twR a.vars [] a.vars 0).1) else acc
theorem d1s(e:Ex)(b acc:List (List UInt8)):(faF e b acc).length≤acc.length+1:=by
 unfold faF;split
 · exact d9e _ _
 · omega
theorem d1p(a:Al)(acc:List (List UInt8)):(fbF a acc).length≤acc.length+a.vars.length+1:=by unfold fbF;omega
theorem d1t(e:Ex)(b acc:List (List UInt8)):(faC e b acc).length≤acc.length+1:=by
 unfold faC;split
 · exact d9e _ _
 · omega
theorem d1q(a:Al)(acc:List (List UInt8)):(fbC a acc).length≤acc.length+a.vars.length+1:=by unfold fbC;have:=d9e acc a.con;omega
theorem d1u(e:Ex)(b acc:List (List UInt8)):(faB e b acc).length≤acc.length+1:=by
 unfold faB;split
 · exact d9e _ _
 · omega
theorem d1r(a:Al)(acc:List (List UInt8)):(fbB a acc).length≤acc.length+a.vars.length+1:=by unfold fbB;have:=e1p a.vars acc;omega
theorem e4z(e:Ex)(b:List (List UInt8))(acc:Bool×List UInt8):(fun _:Bool×List UInt8=>0) (faT e b acc)≤(fun _:Bool×List UInt8=>0) acc+1:=Nat.zero_le _
theorem d8i(a:Al)(acc:Bool×List UInt8):(fun _:Bool×List UInt8=>0) (fbT a acc)≤(fun _:Bool×List UInt8=>0) acc+a.vars.length+1:=Nat.zero_le _
theorem i6c(e:Ex)(b acc:List (List UInt8))(h:acc.length<1000000):den E 240 [.agg (exC e),.pmap (a4u b),.ptr (.par 0) 0] [[.own 9 0 (acc.map .str),b0l 0 acc]]=some (.tup [],[[.own 9 0 ((faF e b acc).map .str),b0l 0 (faF e b acc)]]):=by
 rw[a0d g3o,h0v,a0f];have d:=c9h acc e.name h;have hf:=b6c e.name b;unfold f3b at d;unfold faF;cases h1:e.kind==1
 · simp only[go_sem,Tryz.f240,h1,↓a1a,↓a0w]
 · cases h2:b.contains e.name
   · rw[h2] at hf;simp only[go_sem,Tryz.f240,h1,hf,d,↓a1w,↓a7t,↓a4m,a5y,a4c,↓a1a,↓a0w]
   · rw[h2] at hf;simp only[go_sem,Tryz.f240,h1,hf,↓a1a,↓a0w]
theorem i5x(a:Al)(acc:List (List UInt8))(_:acc.length+a.vars.length<1000000):den E 241 [alV a] []=some (.tup [],[]):=by
 rw[a0d g3n,h0u,b1r,a0f];simp only[go_sem,Tryz.f241]
theorem i6d(e:Ex)(b acc:List (List UInt8))(h:acc.length<1000000):den E 242 [.agg (exC e),.pmap (a4u b),.ptr (.par 0) 0] [[.own 9 0 (acc.map .str),b0l 0 acc]]=some (.tup [],[[.own 9 0 ((faC e b acc).map .str),b0l 0 (faC e b acc)]]):=by
 rw[a0d g3m,h0t,a0f];have d:=c9h acc e.name h;unfold f3b at d;unfold faC;cases h1:e.kind==2
 · simp only[go_sem,Tryz.f242,h1,↓a1a,↓a0w]
 · simp only[go_sem,Tryz.f242,h1,d,↓a1w,↓a7t,↓a4m,a5y,a4c,↓a1a,↓a0w]
theorem i5y(a:Al)(acc:List (List UInt8))(h:acc.length+a.vars.length<1000000):den E 243 [alV a,.ptr (.par 0) 0] [[.own 9 0 (acc.map .str),b0l 0 acc]]=some (.tup [],[[.own 9 0 ((fbC a acc).map .str),b0l 0 (fbC a acc)]]):=by
 rw[a0d g3l,h0s,b1r,a0f];have d:=c9h acc a.con (by omega);unfold f3b at d;unfold fbC;simp only[go_sem,Tryz.f243,d,↓a1w,↓a7t,↓a4m,a5y,a4c,↓a1a,↓a0w]
theorem i6e(e:Ex)(b acc:List (List UInt8))(h:acc.length<1000000):den E 236 [.agg (exC e),.pmap (a4u b),.ptr (.par 0) 0] [[.own 9 0 (acc.map .str),b0l 0 acc]]=some (.tup [],[[.own 9 0 ((faB e b acc).map .str),b0l 0 (faB e b acc)]]):=by
 rw[a0d g3s,h0z,a0f];have d:=c9h acc e.name h;unfold f3b at d;unfold faB;cases h1:e.kind==3
 · cases h2:e.kind==5
   · simp only[go_sem,Tryz.f236,h1,h2,↓a1a,↓a0w]
   · simp only[go_sem,Tryz.f236,h1,h2,d,↓a1w,↓a7t,↓a4m,a5y,a4c,↓a1a,↓a0w]
 · simp only[go_sem,Tryz.f236,h1,d,↓a1w,↓a7t,↓a4m,a5y,a4c,↓a1a,↓a0w]
theorem i5z(a:Al)(acc:List (List UInt8))(h:acc.length+a.vars.length<1000000):den E 238 [alV a,.ptr (.par 0) 0] [[.own 9 0 (acc.map .str),b0l 0 acc]]=some (.tup [],[[.own 9 0 ((fbB a acc).map .str),b0l 0 (fbB a acc)]]):=by
 rw[a0d g3q,h0x,b1r,a0f];unfold fbB;simp only[go_sem,Tryz.f238,List.length_map];refine a0p (fun i:Nat=>i≤a.vars.length) (fun i=>⟨[(1,.ptr (.par 0) 0),(6,.slice (a.vars.map .str)),(7,.int .i64 a.vars.length),(8,.int .i64 i)],[[.own 9 0 (((a.vars.take i).foldl b4k acc).map .str),b0l 0 ((a.vars.take i).foldl b4k acc)]],[],1⟩)
  (fun _=>some (.tup [],[[.own 9 0 ((a.vars.foldl b4k acc).map .str),b0l 0 (a.vars.foldl b4k acc)]])) (fun i=>a.vars.length - i) 0 (Nat.zero_le _) ?_ ?_
 · simp only[go_sem,List.take_zero,List.foldl_nil,↓a1a,↓a0w]
 · intro i hi hr
   by_cases hlt:i<a.vars.length
   · obtain⟨x,hx⟩:=a7p hlt;have w1:IntKind.i64.wrap ((i:Int)+1)=((i+1:Nat):Int):=a1e (i+1) (by omega);have hle:=e1p (a.vars.take i) acc;rw[List.length_take] at hle;have d:=c9h ((a.vars.take i).foldl b4k acc) x (by omega);have e2:b4k ((a.vars.take i).foldl b4k acc) x=(a.vars.take (i+1)).foldl b4k acc:=by rw[a7e hx,List.foldl_append];rfl
     rw[e2] at d;unfold f3b at d;generalize (a.vars.take i).foldl b4k acc=a1 at *;simp only[go_sem,a0g,decide_eq_true hlt,a0c,a0j,a4b,hx,d,↓a1w,↓a7t,↓a4m,a5y,a4c,↓a0w];refine hr (i+1) _ (by omega) (by omega) ?_;simp only[go_sem,w1,↓a1a,↓a0w]
   · have hie:i=a.vars.length:=by omega
     subst hie;rw[List.take_length];simp only[go_sem,a0g,Nat.lt_irrefl,↓a1a,↓a0w]
theorem i6b(e:Ex)(b:List (List UInt8))(_acc:Bool×List UInt8)(_:0<1000000):den E 208 [.agg (exC e),.pmap (a4u b)] []=some (.tup [],[]):=by
 rw[a0d g4k,h1r,a0f];simp only[go_sem,Tryz.f208]
theorem i5w(a:Al)(acc:Bool×List UInt8)(h:a.vars.length<1000000):den E 209 [alV a,.ptr (.par 0) 0,.ptr (.par 1) 0] [[.bool acc.1],[.str acc.2]]=some (.tup [],[[.bool (fbT a acc).1],[.str (fbT a acc).2]]):=by
 rw[a0d g4j,h1q,b1r,a0f];have d:=b2s a.vars [] h (by simp);simp only[List.map_nil,twV] at d;unfold fbT;cases h1:(twR a.vars [] a.vars 0).2
 · rw[h1] at d;simp only[go_sem,Tryz.f209,d]
 · rw[h1] at d;cases h2:acc.1
   · simp only[go_sem,Tryz.f209,d]
   · simp only[go_sem,Tryz.f209,d,h2]
theorem f1u:∀(n:Nat) (e:Ex),e.tot≤n→SX e→∀(b:List (List UInt8)) (acc:List (List UInt8)),(acc).length+e.tot<1000000→den E 207 [.agg (exC e),.pmap (a4u b),.func 240 [] [.ptr (.par 0) 0],.func 241 [] []] [[.own 9 0 ((acc).map .str),b0l 0 (acc)]]=some (.tup [],[[.own 9 0 ((a5i a0q faF fbF e b acc).map .str),b0l 0 (a5i a0q faF fbF e b acc)]]):=by
 intro n
 induction n with
 | zero=>intro e he;exfalso;have:=b0k e;have:=b4l e;omega
 | succ n ih=>
 intro e he hs b acc hm;have ht:=b0k e;have hp:=b4l e;have d0:=i6c e b acc (by omega);obtain⟨a0,ha0⟩:∃a0,a0=faF e b acc:=⟨_,rfl⟩
 have m0:(a0).length≤(acc).length+1:=ha0▸d1s e b acc;rw[a0f] at d0;rw[a0d c5f,c5t,a0f,b9o,←ha0];rw[←ha0] at d0;cases h3:e.kind==3
 · cases h5:e.kind==5
   · simp only[Bool.false_eq_true,if_false];simp only[go_sem,Tryz.f207,d0,h3,h5,↓a1w,↓a7t,↓a4m,a5y,a4c,↓a0w,a3v];refine a0p (fun i:Nat=>i≤e.kids.length) (fun i=>⟨[(1,.pmap (a4u b)),(2,.func 240 [] [.ptr (.par 0) 0]),(3,.func 241 [] []),(4,.ptr (.loc 4) 0),(55,.slice (a8p e.kids)),(56,.int .i64 e.kids.length),(57,.int .i64 i)],[[.own 9 0 ((a2i a0q faF fbF (e.kids.take i) b a0).map .str),b0l 0 (a2i a0q faF fbF (e.kids.take i) b a0)]],[(4,[.int .i64 e.kind,.str e.name,.bool e.told,.int .i64 e.ty.kind,.str e.ty.name,.int .i64 e.ty.n,.slice (a3a e.ty.args),.slice (a8p e.kids),.slice (b4r e.alts)])],1⟩)
      (fun _=>some (.tup [],[[.own 9 0 ((a1p a0q faF fbF e.alts b (a2i a0q faF fbF e.kids b a0)).map .str),b0l 0 (a1p a0q faF fbF e.alts b (a2i a0q faF fbF e.kids b a0))]])) (fun i=>e.kids.length - i) 0 (Nat.zero_le _) ?_ ?_
     · simp only[go_sem,List.take_zero,a3y,↓a1a,↓a0w]
     · intro i hi h
       by_cases hlt:i<e.kids.length
       · obtain⟨x,hx⟩:=a7p hlt;have w1:IntKind.i64.wrap ((i:Int)+1)=((i+1:Nat):Int):=a1e (i+1) (by have:=c5k e;omega);have hts:=a7e hx;have hg:=c4u hx;have hle:(a2i a0q faF fbF (e.kids.take i) b a0).length≤(a0).length+Ex.tots (e.kids.take i):=a9u (ext:=a0q) (fa:=faF) (fb:=fbF) List.length d1s d1p (e.kids.take i) b a0;have d:=ih x (by have:=a5s (List.mem_of_getElem? hx);omega) (hs.kid (List.mem_of_getElem? hx)) b (a2i a0q faF fbF (e.kids.take i) b a0) (by omega);rw[←b3k,←hts] at d;rw[a0f] at d;generalize a2i a0q faF fbF (e.kids.take i) b a0=a1 at *;simp only[go_sem,a0g,decide_eq_true hlt,a0c,a0j,a6f,hx,a0f,d,↓a1w,↓a7t,↓a4m,a5y,a4c,↓a0w];refine h (i+1) _ (by omega) (by omega) ?_;simp only[go_sem,w1,↓a1a,↓a0w]
       · have hie:i=e.kids.length:=by omega
         subst hie;rw[List.take_length];have hle:(a2i a0q faF fbF e.kids b a0).length≤(a0).length+Ex.tots e.kids:=a9u (ext:=a0q) (fa:=faF) (fb:=fbF) List.length d1s d1p e.kids b a0;generalize a2i a0q faF fbF e.kids b a0=a1 at *;clear h d0;simp only[go_sem,a0g,Nat.lt_irrefl,b2i];refine a0p (fun i:Nat=>i≤e.alts.length) (fun i=>⟨[(1,.pmap (a4u b)),(2,.func 240 [] [.ptr (.par 0) 0]),(3,.func 241 [] []),(68,.slice (b4r e.alts)),(69,.int .i64 e.alts.length),(70,.int .i64 i)],[[.own 9 0 ((a1p a0q faF fbF (e.alts.take i) b a1).map .str),b0l 0 (a1p a0q faF fbF (e.alts.take i) b a1)]],[],1⟩)
          (fun _=>some (.tup [],[[.own 9 0 ((a1p a0q faF fbF e.alts b a1).map .str),b0l 0 (a1p a0q faF fbF e.alts b a1)]])) (fun i=>e.alts.length - i) 0 (Nat.zero_le _) ?_ ?_
         · simp only[go_sem,List.take_zero,a8d,↓a1a,↓a0w]
         · intro i hi h
           by_cases hlt:i<e.alts.length
           · obtain⟨x,hx⟩:=a7p hlt;have w1:IntKind.i64.wrap ((i:Int)+1)=((i+1:Nat):Int):=a1e (i+1) (by have:=d5j e;omega);have hts:=a7e hx;have hg:=b7u hx;rw[b7v] at hg;have hle2:(a1p a0q faF fbF (e.alts.take i) b a1).length≤(a1).length+Al.tots (e.alts.take i):=b9p (ext:=a0q) (fa:=faF) (fb:=fbF) List.length d1s d1p (e.alts.take i) b a1;have hb:(fbF x (a1p a0q faF fbF (e.alts.take i) b a1)).length≤(a1p a0q faF fbF (e.alts.take i) b a1).length+x.vars.length+1:=d1p x (a1p a0q faF fbF (e.alts.take i) b a1);have db:=i5x x (a1p a0q faF fbF (e.alts.take i) b a1) (by omega);have dw:=a7w b x.vars (by omega);have d:=ih x.body (by have:=c5x (List.mem_of_getElem? hx);omega) (hs.alt (List.mem_of_getElem? hx)) (a0q b x.vars) (fbF x (a1p a0q faF fbF (e.alts.take i) b a1)) (by omega);have e2:=b3l (ext:=a0q) (fa:=faF) (fb:=fbF) (e.alts.take i) x b a1;rw[b6q,←hts] at e2;rw[←e2] at d;clear e2;rw[a0f] at d;rw[b1r,a0f] at db
             skip
             rw[show fbF x (a1p a0q faF fbF (e.alts.take i) b a1)=a1p a0q faF fbF (e.alts.take i) b a1 from rfl] at d;generalize a1p a0q faF fbF (e.alts.take i) b a1=a2 at *;simp only[go_sem,a0g,decide_eq_true hlt,a0c,a0j,b4j,hx,b1r,a0f,db,dw,d,↓a1w,↓a7t,↓a4m,a5y,a4c,↓a0w];refine h (i+1) _ (by omega) (by omega) ?_;simp only[go_sem,w1,↓a1a,↓a0w]
           · have hie:i=e.alts.length:=by omega
             subst hie;rw[List.take_length];simp only[go_sem,a0g,Nat.lt_irrefl,↓a1a,↓a0w]
   · obtain⟨x,y,hk⟩:=hs.lett h5;have hx:=a5s (e:=e) (x:=x) (by rw[hk];simp);have hy:=a5s (e:=e) (x:=y) (by rw[hk];simp);have hxy:x.tot+y.tot+1≤e.tot:=by rw[ht,hk,a5u,a5u];omega
     have hl:(a5i a0q faF fbF x b a0).length≤(a0).length+x.tot:=b3j (ext:=a0q) (fa:=faF) (fb:=fbF) List.length d1s d1p _ x (Nat.le_refl _) b a0;have d1:=ih x (by omega) (hs.kid (by rw[hk];simp)) b a0 (by omega);have d2:=ih y (by omega) (hs.kid (by rw[hk];simp)) (a0q b [e.name]) (a5i a0q faF fbF x b a0) (by omega);have dw:=a7w b [e.name] (by simp);simp only[List.map_cons,List.map_nil] at dw;rw[a0f] at d1 d2;rw[hk,a0v,a0v,a0u,a0f,a0f] at d0;simp only[Bool.false_eq_true,if_false,if_true];rw[hk,a9t,a4a,a3y];generalize a5i a0q faF fbF x b a0=a1 at *;simp only[go_sem,Tryz.f207,d0,h3,h5,d1,d2,dw,a0v,a0u,a0f,Int.le_refl,Int.toNat_zero,Int.toNat_one,Int.zero_le_ofNat,↓a1w,↓a7t,↓a4m,a5y,a4c,↓a1a,↓a0w]
 · obtain⟨x,hk⟩:=hs.lam h3;have hx:=a5s (e:=e) (x:=x) (by rw[hk];simp);have d:=ih x (by omega) (hs.kid (by rw[hk];simp)) (a0q b [e.name]) a0 (by omega);have dw:=a7w b [e.name] (by simp);simp only[List.map_cons,List.map_nil] at dw;rw[a0f] at d;rw[hk,a0v,a0u,a0f] at d0;simp only[if_true];rw[hk,a4a,a3y];simp only[go_sem,Tryz.f207,d0,h3,d,dw,a0v,a0u,a0f,Int.le_refl,Int.toNat_zero,↓a1w,↓a7t,↓a4m,a5y,a4c,↓a1a,↓a0w]
theorem f1v:∀(n:Nat) (e:Ex),e.tot≤n→SX e→∀(b:List (List UInt8)) (acc:List (List UInt8)),(acc).length+e.tot<1000000→den E 207 [.agg (exC e),.pmap (a4u b),.func 242 [] [.ptr (.par 0) 0],.func 243 [] [.ptr (.par 0) 0]] [[.own 9 0 ((acc).map .str),b0l 0 (acc)]]=some (.tup [],[[.own 9 0 ((a5i a0q faC fbC e b acc).map .str),b0l 0 (a5i a0q faC fbC e b acc)]]):=by
 intro n
 induction n with
 | zero=>intro e he;exfalso;have:=b0k e;have:=b4l e;omega
 | succ n ih=>
 intro e he hs b acc hm;have ht:=b0k e;have hp:=b4l e;have d0:=i6d e b acc (by omega);obtain⟨a0,ha0⟩:∃a0,a0=faC e b acc:=⟨_,rfl⟩
 have m0:(a0).length≤(acc).length+1:=ha0▸d1t e b acc;rw[a0f] at d0;rw[a0d c5f,c5t,a0f,b9o,←ha0];rw[←ha0] at d0;cases h3:e.kind==3
 · cases h5:e.kind==5
   · simp only[Bool.false_eq_true,if_false];simp only[go_sem,Tryz.f207,d0,h3,h5,↓a1w,↓a7t,↓a4m,a5y,a4c,↓a0w,a3v];refine a0p (fun i:Nat=>i≤e.kids.length) (fun i=>⟨[(1,.pmap (a4u b)),(2,.func 242 [] [.ptr (.par 0) 0]),(3,.func 243 [] [.ptr (.par 0) 0]),(4,.ptr (.loc 4) 0),(55,.slice (a8p e.kids)),(56,.int .i64 e.kids.length),(57,.int .i64 i)],[[.own 9 0 ((a2i a0q faC fbC (e.kids.take i) b a0).map .str),b0l 0 (a2i a0q faC fbC (e.kids.take i) b a0)]],[(4,[.int .i64 e.kind,.str e.name,.bool e.told,.int .i64 e.ty.kind,.str e.ty.name,.int .i64 e.ty.n,.slice (a3a e.ty.args),.slice (a8p e.kids),.slice (b4r e.alts)])],1⟩)
      (fun _=>some (.tup [],[[.own 9 0 ((a1p a0q faC fbC e.alts b (a2i a0q faC fbC e.kids b a0)).map .str),b0l 0 (a1p a0q faC fbC e.alts b (a2i a0q faC fbC e.kids b a0))]])) (fun i=>e.kids.length - i) 0 (Nat.zero_le _) ?_ ?_
     · simp only[go_sem,List.take_zero,a3y,↓a1a,↓a0w]
     · intro i hi h
       by_cases hlt:i<e.kids.length
       · obtain⟨x,hx⟩:=a7p hlt;have w1:IntKind.i64.wrap ((i:Int)+1)=((i+1:Nat):Int):=a1e (i+1) (by have:=c5k e;omega);have hts:=a7e hx;have hg:=c4u hx;have hle:(a2i a0q faC fbC (e.kids.take i) b a0).length≤(a0).length+Ex.tots (e.kids.take i):=a9u (ext:=a0q) (fa:=faC) (fb:=fbC) List.length d1t d1q (e.kids.take i) b a0;have d:=ih x (by have:=a5s (List.mem_of_getElem? hx);omega) (hs.kid (List.mem_of_getElem? hx)) b (a2i a0q faC fbC (e.kids.take i) b a0) (by omega);rw[←b3k,←hts] at d;rw[a0f] at d;generalize a2i a0q faC fbC (e.kids.take i) b a0=a1 at *;simp only[go_sem,a0g,decide_eq_true hlt,a0c,a0j,a6f,hx,a0f,d,↓a1w,↓a7t,↓a4m,a5y,a4c,↓a0w];refine h (i+1) _ (by omega) (by omega) ?_;simp only[go_sem,w1,↓a1a,↓a0w]
       · have hie:i=e.kids.length:=by omega
         subst hie;rw[List.take_length];have hle:(a2i a0q faC fbC e.kids b a0).length≤(a0).length+Ex.tots e.kids:=a9u (ext:=a0q) (fa:=faC) (fb:=fbC) List.length d1t d1q e.kids b a0;generalize a2i a0q faC fbC e.kids b a0=a1 at *;clear h d0;simp only[go_sem,a0g,Nat.lt_irrefl,b2i];refine a0p (fun i:Nat=>i≤e.alts.length) (fun i=>⟨[(1,.pmap (a4u b)),(2,.func 242 [] [.ptr (.par 0) 0]),(3,.func 243 [] [.ptr (.par 0) 0]),(68,.slice (b4r e.alts)),(69,.int .i64 e.alts.length),(70,.int .i64 i)],[[.own 9 0 ((a1p a0q faC fbC (e.alts.take i) b a1).map .str),b0l 0 (a1p a0q faC fbC (e.alts.take i) b a1)]],[],1⟩)
          (fun _=>some (.tup [],[[.own 9 0 ((a1p a0q faC fbC e.alts b a1).map .str),b0l 0 (a1p a0q faC fbC e.alts b a1)]])) (fun i=>e.alts.length - i) 0 (Nat.zero_le _) ?_ ?_
         · simp only[go_sem,List.take_zero,a8d,↓a1a,↓a0w]
         · intro i hi h
           by_cases hlt:i<e.alts.length
           · obtain⟨x,hx⟩:=a7p hlt;have w1:IntKind.i64.wrap ((i:Int)+1)=((i+1:Nat):Int):=a1e (i+1) (by have:=d5j e;omega);have hts:=a7e hx;have hg:=b7u hx;rw[b7v] at hg;have hle2:(a1p a0q faC fbC (e.alts.take i) b a1).length≤(a1).length+Al.tots (e.alts.take i):=b9p (ext:=a0q) (fa:=faC) (fb:=fbC) List.length d1t d1q (e.alts.take i) b a1;have hb:(fbC x (a1p a0q faC fbC (e.alts.take i) b a1)).length≤(a1p a0q faC fbC (e.alts.take i) b a1).length+x.vars.length+1:=d1q x (a1p a0q faC fbC (e.alts.take i) b a1);have db:=i5y x (a1p a0q faC fbC (e.alts.take i) b a1) (by omega);have dw:=a7w b x.vars (by omega);have d:=ih x.body (by have:=c5x (List.mem_of_getElem? hx);omega) (hs.alt (List.mem_of_getElem? hx)) (a0q b x.vars) (fbC x (a1p a0q faC fbC (e.alts.take i) b a1)) (by omega);have e2:=b3l (ext:=a0q) (fa:=faC) (fb:=fbC) (e.alts.take i) x b a1;rw[b6q,←hts] at e2;rw[←e2] at d;clear e2;rw[a0f] at d;rw[b1r,a0f] at db
             skip
             generalize fbC x (a1p a0q faC fbC (e.alts.take i) b a1)=a3 at *;generalize a1p a0q faC fbC (e.alts.take i) b a1=a2 at *;simp only[go_sem,a0g,decide_eq_true hlt,a0c,a0j,b4j,hx,b1r,a0f,db,dw,d,↓a1w,↓a7t,↓a4m,a5y,a4c,↓a0w];refine h (i+1) _ (by omega) (by omega) ?_;simp only[go_sem,w1,↓a1a,↓a0w]
           · have hie:i=e.alts.length:=by omega
             subst hie;rw[List.take_length];simp only[go_sem,a0g,Nat.lt_irrefl,↓a1a,↓a0w]
   · obtain⟨x,y,hk⟩:=hs.lett h5;have hx:=a5s (e:=e) (x:=x) (by rw[hk];simp);have hy:=a5s (e:=e) (x:=y) (by rw[hk];simp);have hxy:x.tot+y.tot+1≤e.tot:=by rw[ht,hk,a5u,a5u];omega
     have hl:(a5i a0q faC fbC x b a0).length≤(a0).length+x.tot:=b3j (ext:=a0q) (fa:=faC) (fb:=fbC) List.length d1t d1q _ x (Nat.le_refl _) b a0;have d1:=ih x (by omega) (hs.kid (by rw[hk];simp)) b a0 (by omega);have d2:=ih y (by omega) (hs.kid (by rw[hk];simp)) (a0q b [e.name]) (a5i a0q faC fbC x b a0) (by omega);have dw:=a7w b [e.name] (by simp);simp only[List.map_cons,List.map_nil] at dw;rw[a0f] at d1 d2;rw[hk,a0v,a0v,a0u,a0f,a0f] at d0;simp only[Bool.false_eq_true,if_false,if_true];rw[hk,a9t,a4a,a3y];generalize a5i a0q faC fbC x b a0=a1 at *;simp only[go_sem,Tryz.f207,d0,h3,h5,d1,d2,dw,a0v,a0u,a0f,Int.le_refl,Int.toNat_zero,Int.toNat_one,Int.zero_le_ofNat,↓a1w,↓a7t,↓a4m,a5y,a4c,↓a1a,↓a0w]
 · obtain⟨x,hk⟩:=hs.lam h3;have hx:=a5s (e:=e) (x:=x) (by rw[hk];simp);have d:=ih x (by omega) (hs.kid (by rw[hk];simp)) (a0q b [e.name]) a0 (by omega);have dw:=a7w b [e.name] (by simp);simp only[List.map_cons,List.map_nil] at dw;rw[a0f] at d;rw[hk,a0v,a0u,a0f] at d0;simp only[if_true];rw[hk,a4a,a3y];simp only[go_sem,Tryz.f207,d0,h3,d,dw,a0v,a0u,a0f,Int.le_refl,Int.toNat_zero,↓a1w,↓a7t,↓a4m,a5y,a4c,↓a1a,↓a0w]
theorem f1w:∀(n:Nat) (e:Ex),e.tot≤n→SX e→∀(b:List (List UInt8)) (acc:List (List UInt8)),(acc).length+e.tot<1000000→den E 207 [.agg (exC e),.pmap (a4u b),.func 236 [] [.ptr (.par 0) 0],.func 238 [] [.ptr (.par 0) 0]] [[.own 9 0 ((acc).map .str),b0l 0 (acc)]]=some (.tup [],[[.own 9 0 ((a5i a0q faB fbB e b acc).map .str),b0l 0 (a5i a0q faB fbB e b acc)]]):=by
 intro n
 induction n with
 | zero=>intro e he;exfalso;have:=b0k e;have:=b4l e;omega
 | succ n ih=>
 intro e he hs b acc hm;have ht:=b0k e;have hp:=b4l e;have d0:=i6e e b acc (by omega);obtain⟨a0,ha0⟩:∃a0,a0=faB e b acc:=⟨_,rfl⟩
 have m0:(a0).length≤(acc).length+1:=ha0▸d1u e b acc;rw[a0f] at d0;rw[a0d c5f,c5t,a0f,b9o,←ha0];rw[←ha0] at d0;cases h3:e.kind==3
 · cases h5:e.kind==5
   · simp only[Bool.false_eq_true,if_false];simp only[go_sem,Tryz.f207,d0,h3,h5,↓a1w,↓a7t,↓a4m,a5y,a4c,↓a0w,a3v];refine a0p (fun i:Nat=>i≤e.kids.length) (fun i=>⟨[(1,.pmap (a4u b)),(2,.func 236 [] [.ptr (.par 0) 0]),(3,.func 238 [] [.ptr (.par 0) 0]),(4,.ptr (.loc 4) 0),(55,.slice (a8p e.kids)),(56,.int .i64 e.kids.length),(57,.int .i64 i)],[[.own 9 0 ((a2i a0q faB fbB (e.kids.take i) b a0).map .str),b0l 0 (a2i a0q faB fbB (e.kids.take i) b a0)]],[(4,[.int .i64 e.kind,.str e.name,.bool e.told,.int .i64 e.ty.kind,.str e.ty.name,.int .i64 e.ty.n,.slice (a3a e.ty.args),.slice (a8p e.kids),.slice (b4r e.alts)])],1⟩)
      (fun _=>some (.tup [],[[.own 9 0 ((a1p a0q faB fbB e.alts b (a2i a0q faB fbB e.kids b a0)).map .str),b0l 0 (a1p a0q faB fbB e.alts b (a2i a0q faB fbB e.kids b a0))]])) (fun i=>e.kids.length - i) 0 (Nat.zero_le _) ?_ ?_
     · simp only[go_sem,List.take_zero,a3y,↓a1a,↓a0w]
     · intro i hi h
       by_cases hlt:i<e.kids.length
       · obtain⟨x,hx⟩:=a7p hlt;have w1:IntKind.i64.wrap ((i:Int)+1)=((i+1:Nat):Int):=a1e (i+1) (by have:=c5k e;omega);have hts:=a7e hx;have hg:=c4u hx;have hle:(a2i a0q faB fbB (e.kids.take i) b a0).length≤(a0).length+Ex.tots (e.kids.take i):=a9u (ext:=a0q) (fa:=faB) (fb:=fbB) List.length d1u d1r (e.kids.take i) b a0;have d:=ih x (by have:=a5s (List.mem_of_getElem? hx);omega) (hs.kid (List.mem_of_getElem? hx)) b (a2i a0q faB fbB (e.kids.take i) b a0) (by omega);rw[←b3k,←hts] at d;rw[a0f] at d;generalize a2i a0q faB fbB (e.kids.take i) b a0=a1 at *;simp only[go_sem,a0g,decide_eq_true hlt,a0c,a0j,a6f,hx,a0f,d,↓a1w,↓a7t,↓a4m,a5y,a4c,↓a0w];refine h (i+1) _ (by omega) (by omega) ?_;simp only[go_sem,w1,↓a1a,↓a0w]
       · have hie:i=e.kids.length:=by omega
         subst hie;rw[List.take_length];have hle:(a2i a0q faB fbB e.kids b a0).length≤(a0).length+Ex.tots e.kids:=a9u (ext:=a0q) (fa:=faB) (fb:=fbB) List.length d1u d1r e.kids b a0;generalize a2i a0q faB fbB e.kids b a0=a1 at *;clear h d0;simp only[go_sem,a0g,Nat.lt_irrefl,b2i];refine a0p (fun i:Nat=>i≤e.alts.length) (fun i=>⟨[(1,.pmap (a4u b)),(2,.func 236 [] [.ptr (.par 0) 0]),(3,.func 238 [] [.ptr (.par 0) 0]),(68,.slice (b4r e.alts)),(69,.int .i64 e.alts.length),(70,.int .i64 i)],[[.own 9 0 ((a1p a0q faB fbB (e.alts.take i) b a1).map .str),b0l 0 (a1p a0q faB fbB (e.alts.take i) b a1)]],[],1⟩)
          (fun _=>some (.tup [],[[.own 9 0 ((a1p a0q faB fbB e.alts b a1).map .str),b0l 0 (a1p a0q faB fbB e.alts b a1)]])) (fun i=>e.alts.length - i) 0 (Nat.zero_le _) ?_ ?_
         · simp only[go_sem,List.take_zero,a8d,↓a1a,↓a0w]
         · intro i hi h
           by_cases hlt:i<e.alts.length
           · obtain⟨x,hx⟩:=a7p hlt;have w1:IntKind.i64.wrap ((i:Int)+1)=((i+1:Nat):Int):=a1e (i+1) (by have:=d5j e;omega);have hts:=a7e hx;have hg:=b7u hx;rw[b7v] at hg;have hle2:(a1p a0q faB fbB (e.alts.take i) b a1).length≤(a1).length+Al.tots (e.alts.take i):=b9p (ext:=a0q) (fa:=faB) (fb:=fbB) List.length d1u d1r (e.alts.take i) b a1;have hb:(fbB x (a1p a0q faB fbB (e.alts.take i) b a1)).length≤(a1p a0q faB fbB (e.alts.take i) b a1).length+x.vars.length+1:=d1r x (a1p a0q faB fbB (e.alts.take i) b a1);have db:=i5z x (a1p a0q faB fbB (e.alts.take i) b a1) (by omega);have dw:=a7w b x.vars (by omega);have d:=ih x.body (by have:=c5x (List.mem_of_getElem? hx);omega) (hs.alt (List.mem_of_getElem? hx)) (a0q b x.vars) (fbB x (a1p a0q faB fbB (e.alts.take i) b a1)) (by omega);have e2:=b3l (ext:=a0q) (fa:=faB) (fb:=fbB) (e.alts.take i) x b a1;rw[b6q,←hts] at e2;rw[←e2] at d;clear e2;rw[a0f] at d;rw[b1r,a0f] at db
             skip
             generalize fbB x (a1p a0q faB fbB (e.alts.take i) b a1)=a3 at *;generalize a1p a0q faB fbB (e.alts.take i) b a1=a2 at *;simp only[go_sem,a0g,decide_eq_true hlt,a0c,a0j,b4j,hx,b1r,a0f,db,dw,d,↓a1w,↓a7t,↓a4m,a5y,a4c,↓a0w];refine h (i+1) _ (by omega) (by omega) ?_;simp only[go_sem,w1,↓a1a,↓a0w]
           · have hie:i=e.alts.length:=by omega
             subst hie;rw[List.take_length];simp only[go_sem,a0g,Nat.lt_irrefl,↓a1a,↓a0w]
   · obtain⟨x,y,hk⟩:=hs.lett h5;have hx:=a5s (e:=e) (x:=x) (by rw[hk];simp);have hy:=a5s (e:=e) (x:=y) (by rw[hk];simp);have hxy:x.tot+y.tot+1≤e.tot:=by rw[ht,hk,a5u,a5u];omega
     have hl:(a5i a0q faB fbB x b a0).length≤(a0).length+x.tot:=b3j (ext:=a0q) (fa:=faB) (fb:=fbB) List.length d1u d1r _ x (Nat.le_refl _) b a0;have d1:=ih x (by omega) (hs.kid (by rw[hk];simp)) b a0 (by omega);have d2:=ih y (by omega) (hs.kid (by rw[hk];simp)) (a0q b [e.name]) (a5i a0q faB fbB x b a0) (by omega);have dw:=a7w b [e.name] (by simp);simp only[List.map_cons,List.map_nil] at dw;rw[a0f] at d1 d2;rw[hk,a0v,a0v,a0u,a0f,a0f] at d0;simp only[Bool.false_eq_true,if_false,if_true];rw[hk,a9t,a4a,a3y];generalize a5i a0q faB fbB x b a0=a1 at *;simp only[go_sem,Tryz.f207,d0,h3,h5,d1,d2,dw,a0v,a0u,a0f,Int.le_refl,Int.toNat_zero,Int.toNat_one,Int.zero_le_ofNat,↓a1w,↓a7t,↓a4m,a5y,a4c,↓a1a,↓a0w]
 · obtain⟨x,hk⟩:=hs.lam h3;have hx:=a5s (e:=e) (x:=x) (by rw[hk];simp);have d:=ih x (by omega) (hs.kid (by rw[hk];simp)) (a0q b [e.name]) a0 (by omega);have dw:=a7w b [e.name] (by simp);simp only[List.map_cons,List.map_nil] at dw;rw[a0f] at d;rw[hk,a0v,a0u,a0f] at d0;simp only[if_true];rw[hk,a4a,a3y];simp only[go_sem,Tryz.f207,d0,h3,d,dw,a0v,a0u,a0f,Int.le_refl,Int.toNat_zero,↓a1w,↓a7t,↓a4m,a5y,a4c,↓a1a,↓a0w]
theorem f1t:∀(n:Nat) (e:Ex),e.tot≤n→SX e→∀(b:List (List UInt8)) (acc:Bool×List UInt8),0+e.tot<1000000→den E 207 [.agg (exC e),.pmap (a4u b),.func 208 [] [],.func 209 [] [.ptr (.par 0) 0,.ptr (.par 1) 0]] [[.bool (acc).1],[.str (acc).2]]=some (.tup [],[[.bool (a5i a0q faT fbT e b acc).1],[.str (a5i a0q faT fbT e b acc).2]]):=by
 intro n
 induction n with
 | zero=>intro e he;exfalso;have:=b0k e;have:=b4l e;omega
 | succ n ih=>
 intro e he hs b acc hm;have ht:=b0k e;have hp:=b4l e;have d0:=i6b e b acc (by omega);obtain⟨a0,ha0⟩:∃a0,a0=faT e b acc:=⟨_,rfl⟩
 have m0:0≤0+1:=Nat.zero_le _;rw[a0f] at d0;rw[a0d c5f,c5t,a0f,b9o,←ha0];have ha1:a0=acc:=ha0;subst ha1;cases h3:e.kind==3
 · cases h5:e.kind==5
   · simp only[Bool.false_eq_true,if_false];simp only[go_sem,Tryz.f207,d0,h3,h5,a3v];refine a0p (fun i:Nat=>i≤e.kids.length) (fun i=>⟨[(1,.pmap (a4u b)),(2,.func 208 [] []),(3,.func 209 [] [.ptr (.par 0) 0,.ptr (.par 1) 0]),(4,.ptr (.loc 4) 0),(55,.slice (a8p e.kids)),(56,.int .i64 e.kids.length),(57,.int .i64 i)],[[.bool (a2i a0q faT fbT (e.kids.take i) b a0).1],[.str (a2i a0q faT fbT (e.kids.take i) b a0).2]],[(4,[.int .i64 e.kind,.str e.name,.bool e.told,.int .i64 e.ty.kind,.str e.ty.name,.int .i64 e.ty.n,.slice (a3a e.ty.args),.slice (a8p e.kids),.slice (b4r e.alts)])],1⟩)
      (fun _=>some (.tup [],[[.bool (a1p a0q faT fbT e.alts b (a2i a0q faT fbT e.kids b a0)).1],[.str (a1p a0q faT fbT e.alts b (a2i a0q faT fbT e.kids b a0)).2]])) (fun i=>e.kids.length - i) 0 (Nat.zero_le _) ?_ ?_
     · simp only[go_sem,List.take_zero,a3y]
     · intro i hi h
       by_cases hlt:i<e.kids.length
       · obtain⟨x,hx⟩:=a7p hlt;have w1:IntKind.i64.wrap ((i:Int)+1)=((i+1:Nat):Int):=a1e (i+1) (by have:=c5k e;omega);have hts:=a7e hx;have hg:=c4u hx;have hle:0≤0+Ex.tots (e.kids.take i):=a9u (ext:=a0q) (fa:=faT) (fb:=fbT) (fun _:Bool×List UInt8=>0) e4z d8i (e.kids.take i) b a0;have d:=ih x (by have:=a5s (List.mem_of_getElem? hx);omega) (hs.kid (List.mem_of_getElem? hx)) b (a2i a0q faT fbT (e.kids.take i) b a0) (by omega);rw[←b3k,←hts] at d;rw[a0f] at d;generalize a2i a0q faT fbT (e.kids.take i) b a0=a1 at *;simp only[go_sem,a0g,decide_eq_true hlt,a0c,a0j,a6f,hx,a0f,d];refine h (i+1) _ (by omega) (by omega) ?_;simp only[go_sem,w1]
       · have hie:i=e.kids.length:=by omega
         subst hie;rw[List.take_length];have hle:0≤0+Ex.tots e.kids:=a9u (ext:=a0q) (fa:=faT) (fb:=fbT) (fun _:Bool×List UInt8=>0) e4z d8i e.kids b a0;generalize a2i a0q faT fbT e.kids b a0=a1 at *;clear h d0;simp only[go_sem,a0g,Nat.lt_irrefl,b2i];refine a0p (fun i:Nat=>i≤e.alts.length) (fun i=>⟨[(1,.pmap (a4u b)),(2,.func 208 [] []),(3,.func 209 [] [.ptr (.par 0) 0,.ptr (.par 1) 0]),(68,.slice (b4r e.alts)),(69,.int .i64 e.alts.length),(70,.int .i64 i)],[[.bool (a1p a0q faT fbT (e.alts.take i) b a1).1],[.str (a1p a0q faT fbT (e.alts.take i) b a1).2]],[],1⟩)
          (fun _=>some (.tup [],[[.bool (a1p a0q faT fbT e.alts b a1).1],[.str (a1p a0q faT fbT e.alts b a1).2]])) (fun i=>e.alts.length - i) 0 (Nat.zero_le _) ?_ ?_
         · simp only[go_sem,List.take_zero,a8d]
         · intro i hi h
           by_cases hlt:i<e.alts.length
           · obtain⟨x,hx⟩:=a7p hlt;have w1:IntKind.i64.wrap ((i:Int)+1)=((i+1:Nat):Int):=a1e (i+1) (by have:=d5j e;omega);have hts:=a7e hx;have hg:=b7u hx;rw[b7v] at hg;have hle2:0≤0+Al.tots (e.alts.take i):=b9p (ext:=a0q) (fa:=faT) (fb:=fbT) (fun _:Bool×List UInt8=>0) e4z d8i (e.alts.take i) b a1;have hb:0≤0+x.vars.length+1:=d8i x (a1p a0q faT fbT (e.alts.take i) b a1);have db:=i5w x (a1p a0q faT fbT (e.alts.take i) b a1) (by omega);have dw:=a7w b x.vars (by omega);have d:=ih x.body (by have:=c5x (List.mem_of_getElem? hx);omega) (hs.alt (List.mem_of_getElem? hx)) (a0q b x.vars) (fbT x (a1p a0q faT fbT (e.alts.take i) b a1)) (by omega);have e2:=b3l (ext:=a0q) (fa:=faT) (fb:=fbT) (e.alts.take i) x b a1;rw[b6q,←hts] at e2;rw[←e2] at d;clear e2;rw[a0f] at d;rw[b1r,a0f] at db
             skip
             generalize fbT x (a1p a0q faT fbT (e.alts.take i) b a1)=a3 at *;generalize a1p a0q faT fbT (e.alts.take i) b a1=a2 at *;simp only[go_sem,a0g,decide_eq_true hlt,a0c,a0j,b4j,hx,b1r,a0f,db,dw,d];refine h (i+1) _ (by omega) (by omega) ?_;simp only[go_sem,w1]
           · have hie:i=e.alts.length:=by omega
             subst hie;rw[List.take_length];simp only[go_sem,a0g,Nat.lt_irrefl]
   · obtain⟨x,y,hk⟩:=hs.lett h5;have hx:=a5s (e:=e) (x:=x) (by rw[hk];simp);have hy:=a5s (e:=e) (x:=y) (by rw[hk];simp);have hxy:x.tot+y.tot+1≤e.tot:=by rw[ht,hk,a5u,a5u];omega
     have hl:0≤0+x.tot:=b3j (ext:=a0q) (fa:=faT) (fb:=fbT) (fun _:Bool×List UInt8=>0) e4z d8i _ x (Nat.le_refl _) b a0;have d1:=ih x (by omega) (hs.kid (by rw[hk];simp)) b a0 (by omega);have d2:=ih y (by omega) (hs.kid (by rw[hk];simp)) (a0q b [e.name]) (a5i a0q faT fbT x b a0) (by omega);have dw:=a7w b [e.name] (by simp);simp only[List.map_cons,List.map_nil] at dw;rw[a0f] at d1 d2;rw[hk,a0v,a0v,a0u,a0f,a0f] at d0;simp only[Bool.false_eq_true,if_false,if_true];rw[hk,a9t,a4a,a3y];generalize a5i a0q faT fbT x b a0=a1 at *;simp only[go_sem,Tryz.f207,d0,h3,h5,d1,d2,dw,a0v,a0u,a0f,Int.le_refl,Int.toNat_zero,Int.toNat_one,Int.zero_le_ofNat]
 · obtain⟨x,hk⟩:=hs.lam h3;have hx:=a5s (e:=e) (x:=x) (by rw[hk];simp);have d:=ih x (by omega) (hs.kid (by rw[hk];simp)) (a0q b [e.name]) a0 (by omega);have dw:=a7w b [e.name] (by simp);simp only[List.map_cons,List.map_nil] at dw;rw[a0f] at d;rw[hk,a0v,a0u,a0f] at d0;simp only[if_true];rw[hk,a4a,a3y];simp only[go_sem,Tryz.f207,d0,h3,d,dw,a0v,a0u,a0f,Int.le_refl,Int.toNat_zero]
def d8c(e:Ex):List (List UInt8):=a5i a0q faF fbF e [] []
def d8t(e:Ex):List (List UInt8):=a5i a0q faC fbC e [] []
def b4q(e:Ex):List (List UInt8):=a5i a0q faB fbB e [] []
theorem i5u(e:Ex):(d8c e).length≤e.tot:=by
 have:=b3j (ext:=a0q) List.length d1s d1p _ e (Nat.le_refl _) [] [];unfold d8c;simpa using this
theorem i6t(e:Ex):(d8t e).length≤e.tot:=by
 have:=b3j (ext:=a0q) List.length d1t d1q _ e (Nat.le_refl _) [] [];unfold d8t;simpa using this
theorem h0f(e:Ex):(b4q e).length≤e.tot:=by
 have:=b3j (ext:=a0q) List.length d1u d1r _ e (Nat.le_refl _) [] [];unfold b4q;simpa using this
theorem g8h(e:Ex)(hs:SX e)(ht:e.tot<1000000):den E 210 [.agg (exC e)] []=some (.slice ((d8c e).map .str),[]):=by
 have d:=f1u _ e (Nat.le_refl _) hs [] [] (by simpa using ht);rw[a0d g4i,h1p];rw[a0f] at d⊢;rw[show a4u []=[] from rfl] at d;simp only[List.map_nil,d4e] at d;unfold d8c;generalize a5i a0q faF fbF e [] []=r at *;simp only[go_sem,Tryz.f210,d,↓a1w,↓a4m,a5y,a4c]
theorem g9q(e:Ex)(hs:SX e)(ht:e.tot<1000000):den E 211 [.agg (exC e)] []=some (.slice ((d8t e).map .str),[]):=by
 have d:=f1v _ e (Nat.le_refl _) hs [] [] (by simpa using ht);rw[a0d g4h,h1o];rw[a0f] at d⊢;rw[show a4u []=[] from rfl] at d;simp only[List.map_nil,d4e] at d;unfold d8t;generalize a5i a0q faC fbC e [] []=r at *;simp only[go_sem,Tryz.f211,d,↓a1w,↓a4m,a5y,a4c]
theorem g0l(e:Ex)(hs:SX e)(ht:e.tot<1000000):den E 206 [.agg (exC e)] []=some (.slice ((b4q e).map .str),[]):=by
 have d:=f1w _ e (Nat.le_refl _) hs [] [] (by simpa using ht);rw[a0d g4l,h1s];rw[a0f] at d⊢;rw[show a4u []=[] from rfl] at d;simp only[List.map_nil,d4e] at d;unfold b4q;generalize a5i a0q faB fbB e [] []=r at *;simp only[go_sem,Tryz.f206,d,↓a1w,↓a4m,a5y,a4c]
structure Tab where
 data:List (List UInt8)
 cons:List (List UInt8)
 sigs:List (List UInt8)
 binds:List (List UInt8)
def Tab.len(T:Tab):Nat:=T.data.length+T.cons.length+T.sigs.length+T.binds.length
def h4h(T:Tab):List AVal:=[.own 9 0 (T.data.map .str),.own 9 0 (T.cons.map .str),.own 9 0 (T.sigs.map .str),.own 9 0 (T.binds.map .str)]
def j2m(T:Tab)(e:Ex):List UInt8×Int:=
 if (a5i a0q faT fbT e [] (false,[])).1 then ((a5i a0q faT fbT e [] (false,[])).2,90)
 else if (e3r (d8c e) T.binds).2 then ((e3r (d8c e) T.binds).1,91)
 else if (e3r (d8t e) T.cons).2 then ((e3r (d8t e) T.cons).1,91)
 else ([],0)
def f1c(T:Tab)(e:Ex):List (List UInt8)→List UInt8×Int
 | []=>j2m T e
 | x::r=>if T.binds.contains x then (x,90) else f1c T e r
def g0s(T:Tab)(e:Ex):List UInt8×Int:=f1c T e (b4q e)
def seV(p:List UInt8×Int):AVal:=.tup [.str p.1,.int .i64 p.2]
theorem e1h(T:Tab)(e:Ex)(hs:SX e)(ht:e.tot<1000000)(hT:T.len<1000000):den E 142 [.ptr (.par 0) 0,.agg (exC e)] [h4h T]=some (seV (g0s T e),[h4h T]):=by
 unfold Tab.len at hT;have d1:=g0l e hs ht;have d2:=f1t _ e (Nat.le_refl _) hs [] (false,[]) (by simpa using ht);have d3:=g8h e hs ht;have d4:=g9q e hs ht;have hb:=h0f e;have d5:=b8y (d8c e) T.binds (by have:=i5u e;omega) (by omega);have d6:=b8y (d8t e) T.cons (by have:=i6t e;omega) (by omega);rw[a0d g5t,h2z];rw[a0f] at d1 d2 d3 d4⊢;rw[show a4u []=[] from rfl] at d2;unfold h4h g0s;simp only[twV] at d5 d6;simp only[go_sem,Tryz.f142,d1,List.length_map];refine a0p (fun i:Nat=>i≤(b4q e).length) (fun i=>⟨[(0,.ptr (.par 0) 0),(3,.ptr (.loc 3) 0),(15,.slice ((b4q e).map .str)),(16,.int .i64 (b4q e).length),(17,.int .i64 i)],[[.own 9 0 (T.data.map .str),.own 9 0 (T.cons.map .str),.own 9 0 (T.sigs.map .str),.own 9 0 (T.binds.map .str)]],[(3,[.int .i64 e.kind,.str e.name,.bool e.told,.int .i64 e.ty.kind,.str e.ty.name,.int .i64 e.ty.n,.slice (a3a e.ty.args),.slice (a8p e.kids),.slice (b4r e.alts)])],1⟩)
  (fun i=>some (seV (f1c T e ((b4q e).drop i)),[[.own 9 0 (T.data.map .str),.own 9 0 (T.cons.map .str),.own 9 0 (T.sigs.map .str),.own 9 0 (T.binds.map .str)]])) (fun i=>(b4q e).length - i) 0 (Nat.zero_le _) ?_ ?_
 · simp only[go_sem]
 · intro i hi h
   by_cases hlt:i<(b4q e).length
   · obtain⟨x,hx⟩:=a7p hlt;rw[a2x hx];have w1:IntKind.i64.wrap ((i:Int)+1)=((i+1:Nat):Int):=a1e (i+1) (by omega);have d:=a3q T.binds x (by omega);cases hq:T.binds.contains x
     · rw[hq] at d;simp only[go_sem,a0g,decide_eq_true hlt,a0c,a0j,a4b,hx,d,hq,f1c];refine h (i+1) _ (by omega) (by omega) ?_;simp only[go_sem,w1]
     · rw[hq] at d;simp only[go_sem,a0g,decide_eq_true hlt,a0c,a0j,a4b,hx,d,hq,f1c,seV]
   · have hie:i=(b4q e).length:=by omega
     subst hie;rw[List.drop_length];unfold f1c j2m seV;generalize a5i a0q faT fbT e [] (false,[])=t at *;generalize e3r (d8c e) T.binds=p at *;generalize e3r (d8t e) T.cons=q at *;cases h1:t.1
     · rw[h1] at d2;cases h2:p.2
       · rw[h2] at d5;cases h3:q.2
         · rw[h3] at d6;simp only[go_sem,a0g,Nat.lt_irrefl,d2,d3,d4,d5,d6]
         · rw[h3] at d6;simp only[go_sem,a0g,Nat.lt_irrefl,d2,d3,d4,d5,d6]
       · rw[h2] at d5;simp only[go_sem,a0g,Nat.lt_irrefl,d2,d3,d5]
     · rw[h1] at d2;simp only[go_sem,a0g,Nat.lt_irrefl,d2]
def f1p:List UInt8:=[65,110,121]
def b3e(T:Tab)(d:De):(List UInt8×Bool)×Tab:=
 if d.kind==2 then (twR [d.name] T.sigs [d.name] 0,{T with sigs:=T.sigs++[d.name]})
 else if d.kind==3 then (twR [d.name] T.binds [d.name] 0,{T with binds:=T.binds++[d.name]})
 else if (twR [d.name] (T.data++[f1p]) [d.name] 0).2 then (twR [d.name] (T.data++[f1p]) [d.name] 0,T)
 else if (twR d.vars [] d.vars 0).2 then (twR d.vars [] d.vars 0,{T with data:=T.data++[d.name]})
 else (twR (d.cons.map Co.name) T.cons (d.cons.map Co.name) 0,{T with data:=T.data++[d.name],cons:=T.cons++d.cons.map Co.name})
theorem i6n(T:Tab)(d:De):(b3e T d).2.len≤T.len+1+d.cons.length:=by
 unfold b3e;split
 · simp[Tab.len];omega
 · split
   · simp[Tab.len];omega
   · split
     · simp;omega
     · split
       · simp[Tab.len];omega
       · simp[Tab.len];omega
theorem k1z(l:List Co)(i:Nat):(l.map coV)[i]? =(l[i]?).map coV:=by simp
theorem i4y{l:List Co}{i:Nat}{x:Co}(h:l[i]? =some x):(l.map Co.name).take (i+1)=(l.map Co.name).take i++[x.name]:=a7e (by simp[h])
theorem d8o(T:Tab)(d:De)(hd:d.tot<1000000)(hT:T.len<900000):den E 140 [.ptr (.par 0) 0,.agg (deC d)] [h4h T]=some (twV (b3e T d).1,[h4h (b3e T d).2]):=by
 unfold Tab.len at hT;unfold De.tot at hd;have e1:=b2s [d.name] T.sigs (by simp) (by omega);have e2:=b2s [d.name] T.binds (by simp) (by omega);have e3:=b2s [d.name] (T.data++[f1p]) (by simp) (by simp;omega);have e4:=b2s d.vars [] (by omega) (by simp);have a1:T.sigs.length+1≤a0s:=by unfold a0s;omega
 have a2:T.binds.length+1≤a0s:=by unfold a0s;omega
 have a3:T.data.length+1≤a0s:=by unfold a0s;omega
 rw[a0d g5v,h3b];unfold b3e h4h twV;simp only[List.map_cons,List.map_nil,List.map_append,twV,f1p] at e1 e2 e3 e4;simp only[f1p];cases k2:d.kind==2
 · cases k3:d.kind==3
   · simp only[Bool.false_eq_true,if_false];rcases Bool.eq_false_or_eq_true (twR [d.name] (T.data++[[65,110,121]]) [d.name] 0).2 with h3|h3
     rotate_left
     · rw[h3] at e3;simp only[h3,Bool.false_eq_true,if_false];rcases Bool.eq_false_or_eq_true (twR d.vars [] d.vars 0).2 with h4|h4
       rotate_left
       · rw[h4] at e4;simp only[h4,Bool.false_eq_true,if_false];have e5:=b2s (d.cons.map Co.name) T.cons (by rw[List.length_map];omega) (by omega);have a4:T.cons.length+(d.cons.map Co.name).length≤a0s:=by rw[List.length_map];unfold a0s;omega
         simp only[twV] at e5;simp only[go_sem,Tryz.f140,deC,k2,k3,e3,e4,a3,List.length_map,List.map_append];refine a0p (fun i:Nat=>i≤d.cons.length) (fun i=>⟨[(0,.ptr (.par 0) 0),(15,.own 9 0 (((d.cons.map Co.name).take i).map .str)),(108,.slice (d.cons.map coV)),(109,.int .i64 d.cons.length),(110,.int .i64 i)],[[.own 9 0 (T.data.map .str++[.str d.name]),.own 9 0 (T.cons.map .str),.own 9 0 (T.sigs.map .str),.own 9 0 (T.binds.map .str)]],[],1⟩)
          (fun _=>some (.tup [.str (twR (d.cons.map Co.name) T.cons (d.cons.map Co.name) 0).1,.bool (twR (d.cons.map Co.name) T.cons (d.cons.map Co.name) 0).2],[[.own 9 0 (T.data.map .str++[.str d.name]),.own 9 0 (T.cons.map .str++(d.cons.map Co.name).map .str),.own 9 0 (T.sigs.map .str),.own 9 0 (T.binds.map .str)]])) (fun i=>d.cons.length - i) 0 (Nat.zero_le _) ?_ ?_
         · simp only[go_sem,List.take_zero]
         · intro i hi h
           by_cases hlt:i<d.cons.length
           · obtain⟨x,hx⟩:=a7p hlt;have w1:IntKind.i64.wrap ((i:Int)+1)=((i+1:Nat):Int):=a1e (i+1) (by omega);have hts:=i4y hx;have a5:((d.cons.map Co.name).take i).length+1≤a0s:=by rw[List.length_take,List.length_map];unfold a0s;omega
             generalize (d.cons.map Co.name).take i=ns at *;simp only[go_sem,a0g,decide_eq_true hlt,a0c,a0j,k1z,hx,coV,List.length_map,a5];refine h (i+1) _ (by omega) (by omega) ?_;simp only[go_sem,w1,hts,List.map_append]
           · have hie:i=d.cons.length:=by omega
             subst hie;rw[show (d.cons.map Co.name).take d.cons.length=d.cons.map Co.name from List.take_of_length_le (by simp)];have e0:∀l:List (List UInt8),(l.map AVal.str).head? =none∨∃a,(l.map AVal.str).head? =some (.str a):=fun l=>by cases l<;>simp
             generalize d.cons.map Co.name=ns at *;generalize twR ns T.cons ns 0=p5 at *;rcases e0 ns with e0| ⟨z,e0⟩
             · simp only[go_sem,a0g,Nat.lt_irrefl,e5,List.length_map,a4,e0]
             · simp only[go_sem,a0g,Nat.lt_irrefl,e5,List.length_map,a4,e0]
       · rw[h4] at e4;simp only[h4,if_true];simp only[go_sem,Tryz.f140,deC,k2,k3,e3,e4,a3,List.length_map,List.map_append]
     · rw[h3] at e3;simp only[h3,if_true];simp only[go_sem,Tryz.f140,deC,k2,k3,e3,a3,List.length_map]
   · simp only[Bool.false_eq_true,if_false,if_true];generalize twR [d.name] T.binds [d.name] 0=p2 at *;simp only[go_sem,Tryz.f140,deC,k2,k3,e2,a2,List.length_map,List.map_append]
 · simp only[if_true];generalize twR [d.name] T.sigs [d.name] 0=p1 at *;simp only[go_sem,Tryz.f140,deC,k2,e1,a1,List.length_map,List.map_append]
def b6h:Tab→List De→Except (List UInt8) Tab
 | T,[]=>.ok T
 | T,d::r=>if (b3e T d).1.2 then .error (b3e T d).1.1 else b6h (b3e T d).2 r
def c3h(T:Tab):List De→List UInt8×Int
 | []=>([],0)
 | d::r=>if d.kind !=3 then c3h T r else if (g0s T d.val).2 !=0 then g0s T d.val else c3h T r
def h5j(T:Tab)(l0 l:List De):List UInt8×Int:=match b6h T l with
 | .error n=>(n,90)
 | .ok T=>if (e3r T.sigs T.binds).2 then ((e3r T.sigs T.binds).1,92) else c3h T l0
def g9v(l:List De):List UInt8×Int:=h5j ⟨[],[],[],[]⟩ l l
theorem g0b(T:Tab)(l0:List De)(d:De)(r:List De):h5j T l0 (d::r)=if (b3e T d).1.2 then ((b3e T d).1.1,90) else h5j (b3e T d).2 l0 r:=by
 unfold h5j;rw[b6h];rcases Bool.eq_false_or_eq_true (b3e T d).1.2 with h|h
 · simp only[h,if_true]
 · simp only[h,Bool.false_eq_true,if_false]
theorem f9u(l:List De)(i:Nat):(l.map deV)[i]? =(l[i]?).map deV:=by simp
theorem g0c(l:List De)(hg:∀d∈l,d.kind=3→SX d.val)(hsum:De.sum l<400000):den E 80 [.slice (l.map deV)] []=some (seV (g9v l),[]):=by
 have hlen:=b6f l;rw[a0d i3w,i7f];unfold g9v;simp only[go_sem,Tryz.f80,List.length_map];refine a0p (fun x:Nat×Tab=>x.1≤l.length∧x.2.len+De.sum (l.drop x.1)≤De.sum l) (fun x=>⟨[(0,.slice (l.map deV)),(4,.ptr (.loc 4) 0),(15,.slice (l.map deV)),(16,.int .i64 l.length),(17,.int .i64 x.1)],[],[(4,[.own 9 0 (x.2.data.map .str),.own 9 0 (x.2.cons.map .str),.own 9 0 (x.2.sigs.map .str),.own 9 0 (x.2.binds.map .str)])],1⟩)
  (fun x=>some (seV (h5j x.2 l (l.drop x.1)),[])) (fun x=>l.length - x.1) (0,⟨[],[],[],[]⟩) ⟨Nat.zero_le _,by simp[Tab.len]⟩ ?_ ?_
 · simp only[go_sem]
 · rintro⟨i,T⟩ ⟨hi,hT⟩ h;simp only at hi hT h⊢
   by_cases hlt:i<l.length
   · obtain⟨d,hx⟩:=a7p hlt;have hm:=b0b (List.mem_of_getElem? hx);rw[a2x hx,f0o] at hT;have w1:IntKind.i64.wrap ((i:Int)+1)=((i+1:Nat):Int):=a1e (i+1) (by omega);have dd:=d8o T d (by omega) (by omega);have hle:=i6n T d;have hdt:1+d.cons.length≤d.tot:=by unfold De.tot;have:=b0k d.val;have:=b4l d.val;omega
     rw[a2x hx,g0b];unfold h4h deC twV at dd;generalize b3e T d=p at *;obtain⟨⟨pn,pb⟩,T'⟩:=p;simp only at dd hle⊢;cases pb
     · simp only[go_sem,a0g,decide_eq_true hlt,a0c,a0j,f9u,hx,deV,deC,dd];refine h (i+1,T') _ ⟨by omega,?_⟩ (by simp only;omega) ?_
       · simp only;omega
       · simp only[go_sem,w1]
     · simp only[go_sem,a0g,decide_eq_true hlt,a0c,a0j,f9u,hx,deV,deC,dd,seV]
   · have hie:i=l.length:=by omega
     subst hie;have hT':T.len<900000:=by omega
     clear h;rw[List.drop_length];unfold h5j b6h;simp only;have dout:=b8y T.sigs T.binds (by unfold Tab.len at hT';omega) (by unfold Tab.len at hT';omega);unfold twV at dout;generalize e3r T.sigs T.binds=p at *;obtain⟨pn,pb⟩:=p;cases pb
     · simp only[Bool.false_eq_true,if_false];simp only[go_sem,a0g,Nat.lt_irrefl,dout,List.length_map];refine a0p (fun j:Nat=>j≤l.length) (fun j=>⟨[(4,.ptr (.loc 4) 0),(39,.slice (l.map deV)),(40,.int .i64 l.length),(41,.int .i64 j)],[],[(4,[.own 9 0 (T.data.map .str),.own 9 0 (T.cons.map .str),.own 9 0 (T.sigs.map .str),.own 9 0 (T.binds.map .str)])],1⟩)
        (fun j=>some (seV (c3h T (l.drop j)),[])) (fun j=>l.length - j) 0 (Nat.zero_le _) ?_ ?_
       · simp only[go_sem]
       · intro j hj h
         by_cases hlt:j<l.length
         · obtain⟨d,hx⟩:=a7p hlt;have hm:=b0b (List.mem_of_getElem? hx);have w1:IntKind.i64.wrap ((j:Int)+1)=((j+1:Nat):Int):=a1e (j+1) (by omega);rw[a2x hx];unfold c3h;cases hk:d.kind !=3
           · have hk3:d.kind=3:=by simpa using hk
             have db:=e1h T d.val (hg d (List.mem_of_getElem? hx) hk3) (by unfold De.tot at hm;omega) (by omega);unfold h4h at db;rw[a0f] at db;unfold seV at db;simp only[Bool.false_eq_true,if_false];generalize g0s T d.val=q at *;obtain⟨qn,qe⟩:=q;simp only at db⊢;cases hq:qe !=0
             · simp only[Bool.false_eq_true,if_false];simp only[go_sem,a0g,decide_eq_true hlt,a0c,a0j,f9u,hx,deV,deC,hk,db,hq];refine h (j+1) _ (by omega) (by omega) ?_;simp only[go_sem,w1]
             · simp only[if_true];simp only[go_sem,a0g,decide_eq_true hlt,a0c,a0j,f9u,hx,deV,deC,hk,db,hq,seV]
           · simp only[if_true];simp only[go_sem,a0g,decide_eq_true hlt,a0c,a0j,f9u,hx,deV,deC,hk];refine h (j+1) _ (by omega) (by omega) ?_;simp only[go_sem,w1]
         · have hje:j=l.length:=by omega
           subst hje;rw[List.drop_length];simp only[go_sem,a0g,Nat.lt_irrefl,c3h,seV]
     · simp only[if_true];simp only[go_sem,a0g,Nat.lt_irrefl,dout,seV]
end Go.Proofs
namespace Go.Proofs
open Go.Av
set_option maxHeartbeats 16000000
set_option maxRecDepth 100000
theorem e4o(l:List (List UInt8)):(l.map AVal.str).head? =none∨∃a,(l.map AVal.str).head? =some (.str a):=by cases l<;>simp
section
variable{α:Type}{fa:Ex→List (List UInt8)→α→α}{fb:Al→α→α}
end
end Go.Proofs
