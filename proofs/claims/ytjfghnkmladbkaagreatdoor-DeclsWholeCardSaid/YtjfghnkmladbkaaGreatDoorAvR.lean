/- Types renamed, put and peeled otherwise; shapes; the table of a program. -/
import Derived.Test.YtjfghnkmladbkaaGreatDoorAvM
import Derived.Test.YtjfghnkmladbkaaGreatDoorAvI
import Derived.Test.YtjfghnkmladbkaaGreatDoorAvK
import Derived.Test.YtjfghnkmladbkaaGreatDoorAvL
import Derived.Test.YtjfghnkmladbkaaGreatDoorAvP
namespace Go.Proofs
open Go.Av
set_option maxHeartbeats 64000000
set_option maxRecDepth 100000
theorem GT.kid{t x:Ty}(h:GT t)(hx:x∈t.args):GT x:=by
 cases h with
 | var s _=>cases hx
 | unk n _ _=>cases hx
 | con s a _ h=>exact h x hx
 | fn a b ha hb=>
  rcases List.mem_cons.1 hx with rfl|hx
  · exact ha
  · rw[List.mem_singleton.1 hx];exact hb
 | all s t _ ht=>rw[List.mem_singleton.1 hx];exact ht
def lkD:List (List UInt8×List UInt8)→List UInt8→List UInt8
 | [],s=>s
 | p::r,s=>if p.1==s then p.2 else lkD r s
def j3y(c:UInt8)(but:List (List UInt8)):Nat→Ty→List (List UInt8×List UInt8)→Nat→Ty×Nat
 | 0,t,_,k=>(t,k)
 | n+1,.mk q s m l,es,k=>
  if q==1 then (.mk q (lkD es s) m [],k)
  else if q==5 then (.mk q (a5l c (a5b c but k)) m (c2q (fun t j=>j3y c but n t ((s,a5l c (a5b c but k))::es) j) l (a5b c but k+1)).1,(c2q (fun t j=>j3y c but n t ((s,a5l c (a5b c but k))::es) j) l (a5b c but k+1)).2)
  else (.mk q s m (c2q (fun t k=>j3y c but n t es k) l k).1,(c2q (fun t k=>j3y c but n t es k) l k).2)
def h5m(t u:Ty)(n:List UInt8):Ty:=(j3y 121 (n::(a0m u [] []++a0m t [] [])) t.sz t [] 0).1
def k2i:Nat→Ty→List UInt8→Ty→Ty
 | 0,t,_,_=>t
 | n+1,.mk q s m l,a,u=>if (q==1&&s==a)&&m==0 then u else .mk q s m (l.map fun x=>k2i n x a u)
def putD(t:Ty)(a:List UInt8)(u:Ty):Ty:=k2i (h5m t u a).sz (h5m t u a) a u
def arL:List De→List UInt8→Int
 | [],_=> -1
 | d::r,n=>if d.kind==1&&d.name==n then (d.vars.length:Int) else arL r n
def arD(l:List De)(n:List UInt8):Int:=if n==[65,110,121] then 0 else arL l n
def xBD(c:Co)(d:De)(univ exis:List (List UInt8))(gs:List Gv)(ts:List Ty):List AVal:=[.str c.name,.str d.name,.int .i64 0,.int .i64 c.ty.kind,.str c.ty.name,.int .i64 c.ty.n,.slice (a3a c.ty.args),.own 9 0 (univ.map .str),.own 9 0 (exis.map .str),.own 176 0 (gs.map gvV),.own 38 0 (a3a ts)]
def zBD:List AVal:=[.str [],.str [],.int .i64 0,.int .i64 0,.str [],.int .i64 0,.own 38 0 [],.own 9 0 [],.own 9 0 [],.own 176 0 [],.own 38 0 []]
attribute [go_sem] xBD zBD
theorem f2t:∀(n:Nat) (t:Ty) (acc:List Ty),GT t→∀x∈(spF n t acc).1,x∈acc∨x.sz≤t.sz
 | 0,t,acc,_,x,hx=>.inl hx
 | n+1,t,acc,hg,x,hx=>by
  cases hk:t.kind==4
  · rw[b1w _ t acc hk] at hx;exact .inl hx
  · obtain⟨u,v,rfl,hu,hv⟩:=hg.fn_inv hk;rw[c3s] at hx;rw[a0x,a1u];rcases f2t n v _ hv x hx with h|h
    · rcases List.mem_append.1 h with h|h
      · exact .inl h
      · rw[List.mem_singleton.1 h];exact .inr (by omega)
    · exact .inr (by omega)
theorem GD.gt{d:De}(h:GD d):GT d.ty∨d.ty=zTy:=by
 cases h with
 | data _ _ _ _ _ _=>exact .inr rfl
 | sig _ _ _ h=>exact .inl h
 | bind _ _ _ _=>exact .inr rfl
def b1q:List (List UInt8)→List De→Prop
 | _,[]=>True
 | seen,d::r=>if d.kind==1 then d.name∉seen∧d.name≠f1p∧b1q (seen++[d.name]) r else b1q seen r
theorem h5z{n:List UInt8}{o:List (List UInt8)}(h:(twR [n] o [n] 0).2=false):o.contains n=false:=by
 cases hc:o.contains n
 · rfl
 · have:(twR [n] o [n] 0).2=true:=by
    unfold twR;simp only[hc,Bool.or_true,if_true]
   rw[this] at h;cases h
theorem f9v:∀(l:List De) (T T':Tab),b6h T l=.ok T'→b1q T.data l
 | [],_,_,_=>trivial
 | d::r,T,T',h=>by
  rw[b6h] at h;split at h
  · cases h
  · rename_i hc;have ih:=f9v r _ _ h;unfold b1q;split
    · rename_i k1;have k2:(d.kind==2)=false:=by
       have:d.kind=1:=by simpa using k1
       rw[this];rfl
      have k3:(d.kind==3)=false:=by
       have:d.kind=1:=by simpa using k1
       rw[this];rfl
      unfold b3e at hc ih;rw[k2,k3] at hc ih;simp only[Bool.false_eq_true,if_false] at hc ih;split at hc
      · rename_i h3;exact absurd h3 (by simpa using hc)
      · rename_i h3;rw[if_neg h3] at ih;have h4:=h5z (by simpa using h3);have h5:d.name∉T.data++[f1p]:=by simpa using h4
        split at hc
        · rename_i h6;exact absurd h6 (by simpa using hc)
        · rename_i h6;rw[if_neg h6] at ih;exact⟨fun hm=>h5 (List.mem_append_left _ hm),fun hm=>h5 (by rw[hm];simp),ih⟩
    · rename_i k1;have hd:(b3e T d).2.data=T.data∨∃x,(b3e T d).2.data=T.data++x:=by
       unfold b3e;split
       · exact .inl rfl
       · split
         · exact .inl rfl
         · split
           · exact .inl rfl
           · split
             · exact .inr ⟨_,rfl⟩
             · exact .inr ⟨_,rfl⟩
      have mono:∀(l:List De) (s x:List (List UInt8)),b1q (s++x) l→b1q s l:=by
       intro l
       induction l with
       | nil=>intro _ _ _;trivial
       | cons e r ih=>
        intro s x h;unfold b1q at h⊢;split
        · rename_i hk;rw[if_pos hk] at h;refine⟨fun hm=>h.1 (List.mem_append_left _ hm),h.2.1,?_⟩;have:∀(l:List De) (s s':List (List UInt8)),(∀y,y∈s'→y∈s)→b1q s l→b1q s' l:=by
           intro l
           induction l with
           | nil=>intro _ _ _ _;trivial
           | cons e r ih=>
            intro s s' hs h;unfold b1q at h⊢;split
            · rename_i hk;rw[if_pos hk] at h;exact⟨fun hm=>h.1 (hs _ hm),h.2.1,ih _ _ (fun y hy=>by
               rcases List.mem_append.1 hy with hy|hy
               · exact List.mem_append_left _ (hs y hy)
               · exact List.mem_append_right _ hy) h.2.2⟩
            · rename_i hk;rw[if_neg hk] at h;exact ih _ _ hs h
          exact this r _ _ (fun y hy=>by
           rcases List.mem_append.1 hy with hy|hy
           · exact List.mem_append_left _ (List.mem_append_left _ hy)
           · exact List.mem_append_right _ hy) h.2.2
        · rename_i hk;rw[if_neg hk] at h;exact ih s x h
      rcases hd with hd| ⟨x,hd⟩
      · rw[hd] at ih;exact ih
      · rw[hd] at ih;exact mono r _ _ ih
theorem g9t{l:List De}(h:(g9v l).2=0):b1q [] l:=by
 unfold g9v h5j at h;split at h
 · exact absurd h (by simp)
 · rename_i T hT;exact f9v l _ _ hT
theorem d5h{n:List UInt8}:∀(l:List De) (s:List (List UInt8)),b1q s l→n∈s→arL l n= -1
 | [],_,_,_=>rfl
 | d::r,s,h,hn=>by
  unfold b1q at h;rw[arL];split at h
  · rename_i hk;have:(d.name==n)=false:=by
     have:d.name≠n:=fun e=>h.1 (by rw[e];exact hn);simpa using this
    rw[this,Bool.and_false];exact d5h r _ h.2.2 (List.mem_append_left _ hn)
  · rename_i hk;rw[show (d.kind==1)=false by simpa using hk,Bool.false_and];exact d5h r s h hn
theorem e1m:∀(l:List De) (s:List (List UInt8)),b1q s l→arL l f1p= -1
 | [],_,_=>rfl
 | d::r,s,h=>by
  unfold b1q at h;rw[arL];split at h
  · rename_i hk;have:(d.name==f1p)=false:=by simpa using h.2.1
    rw[this,Bool.and_false];exact e1m r _ h.2.2
  · rename_i hk;rw[show (d.kind==1)=false by simpa using hk,Bool.false_and];exact e1m r s h
theorem h5k{a b:List UInt8}:ba a=ba b↔a=b:=by
 unfold ba;constructor
 · intro h;have:=congrArg (fun x:ByteArray=>x.data.toList) h;simpa using this
 · intro h;rw[h]
theorem i7u(x:ByteArray):ba x.data.toList=x:=by unfold ba;simp
theorem e4h{α β:Type}(f:α→β)(n:List UInt8):∀l:List (ByteArray×α),a1i n (l.map fun p=>(p.1.data.toList,f p.2))=(Go.Kn.look (ba n) l).map f
 | []=>rfl
 | p::r=>by
  rw[List.map_cons,a1i,Go.Kn.look,e4h f n r]
  by_cases h:p.1=ba n
  · rw[if_pos h];have:n=p.1.data.toList:=by rw[h];simp[ba]
    rw[show (n==p.1.data.toList)=true by simpa using this];rfl
  · rw[if_neg h];have:n≠p.1.data.toList:=fun e=>h (by rw[e,i7u]);rw[show (n==p.1.data.toList)=false by simpa using this];rfl
theorem d7j{α:Type}(k n:ByteArray)(v:α):∀l:List (ByteArray×α),Go.Kn.look n (Go.Kn.upd k v l)=if k=n then some v else Go.Kn.look n l
 | []=>rfl
 | p::r=>by
  rw[Go.Kn.upd]
  by_cases h:p.1=k
  · rw[if_pos h,Go.Kn.look,Go.Kn.look,h]
    by_cases h2:k=n
    · rw[if_pos h2,if_pos h2]
    · rw[if_neg h2,if_neg h2,if_neg h2]
  · rw[if_neg h,Go.Kn.look,Go.Kn.look,d7j k n v r]
    by_cases h2:p.1=n
    · rw[if_pos h2,if_pos h2,if_neg (fun e=>h (by rw[h2,e]))]
    · rw[if_neg h2,if_neg h2]
theorem e1k(n:List UInt8):∀(l:List De) (s:List (List UInt8)) (acc:List (ByteArray×Int)),b1q s l→Go.Kn.look (ba n) ((l.map dcT).foldl Go.Kn.arS acc)=if 0≤arL l n then some (arL l n) else Go.Kn.look (ba n) acc
 | [],_,_,_=>rfl
 | d::r,s,acc,h=>by
  unfold b1q at h;rw[List.map_cons,List.foldl_cons,arL];split at h
  · rename_i hk;have hk1:d.kind=1:=by simpa using hk
    have e:Go.Kn.arS acc (dcT d)=Go.Kn.upd (ba d.name) (d.vars.length:Int) acc:=by unfold Go.Kn.arS dcT;simp only[hk1,if_true]
    rw[e1k n r _ _ h.2.2,e,d7j,hk,Bool.true_and]
    by_cases hn:d.name=n
    · subst hn;rw[d5h r _ h.2.2 (by simp)];simp
    · rw[show (d.name==n)=false by simpa using hn,if_neg (fun e=>hn (h5k.1 e))];simp
  · rename_i hk;have hk1:¬d.kind=1:=by simpa using hk
    have e:Go.Kn.arS acc (dcT d)=acc:=by unfold Go.Kn.arS dcT;simp only[hk1,if_false]
    rw[e,e1k n r s acc h,show (d.kind==1)=false by simpa using hk];simp
theorem h3w{l:List De}(h:b1q [] l)(n:List UInt8):a1i n (arU l)=if 0≤arD l n then some (arD l n) else none:=by
 unfold arU;rw[show (fun p:ByteArray×Int=>(p.1.data.toList,p.2))=(fun p:ByteArray×Int=>(p.1.data.toList,id p.2)) from rfl,e4h];unfold Go.Kn.arF;rw[e1k n l [] _ h];unfold arD
 by_cases hn:n=f1p
 · subst hn;rw[e1m l [] h];rfl
 · rw[show (n==[65,110,121])=false from beq_eq_false_iff_ne.2 hn];have:Go.Kn.look (ba n) [(Go.Kn.h5p,(0:Int))]=none:=by
    unfold Go.Kn.look;rw[if_neg (fun e=>hn ?_)]
    · rfl
    · have:Go.Kn.h5p=ba f1p:=rfl;rw[this] at e;exact (h5k.1 e).symm
   rw[this]
   by_cases h0:0≤arL l n
   · rw[if_pos h0];simp[h0]
   · rw[if_neg h0];simp[h0]
mutual
def skT:Ty→Ty
 | .mk k s _ l=>if k==1 then .mk 1 [] 0 [] else .mk k (if k==5 then [] else s) 0 (skL l)
def skL:List Ty→List Ty
 | []=>[]
 | t::l=>skT t::skL l
end
theorem b4m(k:Int)(s:List UInt8)(m:Int)(l:List Ty):skT (.mk k s m l)=if k==1 then .mk 1 [] 0 [] else .mk k (if k==5 then [] else s) 0 (skL l):=rfl
theorem b1x(t:Ty)(l:List Ty):skL (t::l)=skT t::skL l:=rfl
theorem d9q:∀l:List Ty,skL l=l.map skT
 | []=>rfl
 | t::l=>by rw[b1x,List.map_cons,d9q l]
theorem d3b{g:Ty→Ty}:∀l:List Ty,(∀x∈l,skT (g x)=skT x)→skL (l.map g)=skL l
 | [],_=>rfl
 | t::l,h=>by rw[List.map_cons,b1x,b1x,h t (List.mem_cons_self ..),d3b l fun x hx=>h x (List.mem_cons_of_mem _ hx)]
theorem e2g:∀(n:Nat) (t:Ty) (a b:List UInt8),skT (b1i n t a b)=skT t
 | 0,t,_,_=>rfl
 | n+1,.mk k s m l,a,b=>by
  unfold b1i;split
  · rename_i h;simp only[Bool.and_eq_true] at h;rw[b4m,b4m,h.1];rfl
  · split
    · rfl
    · split
      · rename_i h;simp only[Bool.and_eq_true] at h;split
        · rename_i x;have hk:k=5:=by simpa using h.1
          subst hk;rw[b4m,b4m,b1x,b1x,e2g n,e2g n];rfl
        · rfl
      · rw[b4m,b4m,d3b l fun x _=>e2g n x a b]
theorem f2u:∀(n:Nat) (t:Ty) (a b:List UInt8),skT (a8n n t a (.mk 1 b 0 []))=skT t
 | 0,t,_,_=>rfl
 | n+1,.mk k s m l,a,b=>by
  unfold a8n;split
  · rfl
  · split
    · rename_i h;simp only[Bool.and_eq_true] at h;rw[b4m,b4m,h.1];rfl
    · split
      · rename_i h;simp only[Bool.and_eq_true] at h;split
        · rename_i x;have hk:k=5:=by simpa using h.1
          subst hk;rw[b4m,b4m,b1x,b1x,f2u n,e2g n];rfl
        · rfl
      · rw[b4m,b4m,d3b l fun x _=>f2u n x a b]
theorem a6n{α:Type}(k n:List UInt8)(v:α):∀l:List (List UInt8×α),a1i n (b2n k v l)=if n=k then some v else a1i n l
 | []=>by
  by_cases h:n=k
  · subst h;simp[b2n,a1i]
  · simp[b2n,a1i,h]
 | p::r=>by
  rw[b2n];cases h:k==p.1
  · simp only[Bool.false_eq_true,if_false,a1i];cases h2:n==p.1
    · simp only[Bool.false_eq_true,if_false];exact a6n k n v r
    · simp only[if_true];have e1:n=p.1:=by simpa using h2
      have e2:k≠p.1:=by simpa using h
      rw[if_neg (fun e=>e2 (by rw[←e,e1]))]
  · simp only[if_true,a1i];have e1:k=p.1:=by simpa using h
    by_cases h2:n=k
    · rw[if_pos h2,show (n==k)=true by simpa using h2];rfl
    · rw[if_neg h2,show (n==k)=false by simpa using h2];simp only[Bool.false_eq_true,if_false];rw[show (n==p.1)=false by rw[←e1];simpa using h2];rfl
end Go.Proofs
