/- Both tables of a program agree. -/
import Derived.Test.YtjfghnkmladbkaaGreatDoorAvR
import Derived.Test.YtjfghnkmladbkaaGreatDoorAvP
namespace Go.Proofs
open Go.Av
set_option maxHeartbeats 64000000
set_option maxRecDepth 100000
def c3a(q:List De)(d:De):List Co→Nat→List CX→(List UInt8×Int) ⊕ List CX
 | [],_,out=>.inr out
 | c::r,i,out=>if b8a q c.ty==0 then (if (b7z d c).2 then c3a q d r (i+1) (out++[{(b7z d c).1 with tag:=(i:Int)}]) else .inl (c.name,112)) else .inl (c.name,b8a q c.ty)
def g4p(q:List De):List De→List CX→(List UInt8×Int) ⊕ List CX
 | [],out=>.inr out
 | d::r,out=>if d.kind==2&&b8a q d.ty !=0 then .inl (d.name,b8a q d.ty) else (match c3a q d d.cons 0 out with
  | .inl e=>.inl e
  | .inr m=>g4p q r m)
def j1o(l:List De):(List UInt8×Int) ⊕ List CX:=g4p l l []
def f6x:(List UInt8×Int) ⊕ List CX→AVal
 | .inl e=>.tup [.slice [],.str e.1,.int .i64 e.2]
 | .inr out=>.tup [.slice (out.map c1b),.str [],.int .i64 0]
theorem c2z(q:List De)(d:De)(c:Co)(r:List Co)(i:Nat)(out:List CX):c3a q d (c::r) i out=if b8a q c.ty==0 then (if (b7z d c).2 then c3a q d r (i+1) (out++[{(b7z d c).1 with tag:=(i:Int)}]) else .inl (c.name,112)) else .inl (c.name,b8a q c.ty):=rfl
theorem d9l(q:List De)(d:De)(r:List De)(out:List CX):g4p q (d::r) out=if d.kind==2&&b8a q d.ty !=0 then .inl (d.name,b8a q d.ty) else (match c3a q d d.cons 0 out with
 | .inl e=>.inl e
 | .inr m=>g4p q r m):=rfl
structure NewT where
 i:Nat
 m:List CX
theorem GD.gt{d:De}(h:GD d):GT d.ty∨d.ty=zTy:=by
 cases h with
 | data _ _ _ _ _ _=>exact .inr rfl
 | sig _ _ _ h=>exact .inl h
 | bind _ _ _ _=>exact .inr rfl
theorem e8a(l:List De)(hg:∀d∈l,GD d)(hs:De.sum l≤12000):den E 26 [.slice (l.map deV)] []=some (f6x (j1o l),[]):=by
 have hlen:=b3f l;obtain⟨fin,hfin⟩:∃fin,fin=(some (f6x (j1o l),[]):Option (AVal×a2z)):=⟨_,rfl⟩
 rw[←hfin];unfold f6x j1o at hfin;rw[a0d i7e,j0v];simp only[go_sem,Tryz.f26];refine a0p (fun a:NewT=>a.i≤l.length∧g4p l (l.drop a.i) a.m=g4p l l []∧a.m.length+De.sum (l.drop a.i)≤12000) (fun a=>⟨[(0,.slice (l.map deV)),(5,.own 80 0 (a.m.map c1b)),(6,.int .i64 a.i)],[],[],1⟩)
  (fun _=>fin) (fun a=>l.length - a.i) ⟨0,[]⟩ ⟨Nat.zero_le _,rfl,by simpa using hs⟩ ?_ ?_
 · simp only[go_sem]
 · rintro⟨i,m⟩ ⟨hi,hdf,hml⟩ h;simp only at hi hdf hml⊢
   by_cases hlt:i<l.length
   · obtain⟨d,hx⟩:=a6u hlt;have hmem:=List.mem_of_getElem? hx;have hm:=b0a hmem;have hgd:=hg d hmem;rw[a1z hx,d9l] at hdf;have hds:De.sum (l.drop i)=d.tot+De.sum (l.drop (i+1)):=by rw[a1z hx];simp[De.sum]
     rw[hds] at hml;have w1:IntKind.i64.wrap ((i:Int)+1)=((i+1:Nat):Int):=a1c (i+1) (by omega);have hdl:(l.map deV)[i]? =some (deV d):=by simp[hx]
     have dg:=b9a l (by omega) d.ty hgd.gt (by unfold De.tot at hm;omega);rw[a0a] at dg;have hcons:∀c∈d.cons,GT c.ty∧c.ty.sz<12000:=fun c hc=>by
      have h1:c.ty.sz≤Ty.szs (d.cons.map Co.ty):=c2y hc;have h2:=b0c d.val;unfold De.tot at hm;refine⟨?_,by omega⟩;cases hgd with
      | data s vs cs _ _ h3=>exact (h3 c hc).2
      | sig _ _ _ _=>cases hc
      | bind _ _ _ _=>cases hc
     have hclen:d.cons.length≤d.tot:=by unfold De.tot;omega
     by_cases hbad:(d.kind==2&&b8a l d.ty !=0)=true
     · rw[if_pos hbad] at hdf;rw[←hdf] at hfin;simp only[Bool.and_eq_true] at hbad;obtain⟨k2,hz⟩:=hbad;simp only at hfin;simp only[go_sem,List.length_map,a0f,decide_eq_true hlt,a0c,a0i,hdl,deV,deC,k2,dg,hz];rw[hfin]
     · rw[if_neg hbad] at hdf;have hk:(d.kind==2)=false∨((d.kind==2)=true∧(b8a l d.ty !=0)=false):=by
        cases k2:d.kind==2
        · exact .inl rfl
        · rw[k2] at hbad;exact .inr ⟨rfl,by simpa using hbad⟩
       rcases hk with k2| ⟨k2,hz⟩
       · simp only[go_sem,List.length_map,a0f,decide_eq_true hlt,a0c,a0i,hdl,deV,deC,k2];refine a0p (fun a:NewT=>a.i≤d.cons.length∧c3a l d (d.cons.drop a.i) a.i a.m=c3a l d d.cons 0 m∧a.m.length=m.length+a.i) (fun a=>⟨[(0,.slice (l.map deV)),(5,.own 80 0 (a.m.map c1b)),(6,.int .i64 i),(8,.int .i64 a.i)],[],[],1⟩)
          (fun _=>fin) (fun a=>d.cons.length - a.i) ⟨0,m⟩ ⟨Nat.zero_le _,rfl,rfl⟩ ?_ ?_
         · simp only[go_sem]
         · rintro⟨k,m2⟩ ⟨hk,hcf,hm2⟩ hh;simp only at hk hcf hm2⊢
           by_cases hltk:k<d.cons.length
           · obtain⟨c,hc⟩:=a6u hltk;have hcm:=List.mem_of_getElem? hc;obtain⟨gc,sc⟩:=hcons c hcm;rw[a1z hc,c2z] at hcf;have w2:IntKind.i64.wrap ((k:Int)+1)=((k+1:Nat):Int):=a1c (k+1) (by omega);have hcl:(d.cons.map coV)[k]? =some (coV c):=by simp[hc]
             have dgc:=b9a l (by omega) c.ty (.inl gc) (by omega);rw[a0a] at dgc;cases hz2:b8a l c.ty==0
             · rw[hz2] at hcf;simp only[Bool.false_eq_true,if_false] at hcf;rw[←hcf] at hdf;simp only at hdf;rw[←hdf] at hfin;simp only at hfin;simp only[go_sem,List.length_map,a0f,decide_eq_true hltk,a0c,a0i,hdl,deV,hcl,coV,deC,dgc,hz2,bne];rw[hfin]
             · rw[hz2] at hcf;simp only[if_true] at hcf;have dm:=c7b d c gc sc;unfold deC xcC at dm;rw[d2o c] at dm;cases hmd:(b7z d c).2
               · rw[hmd] at hcf dm;simp only[Bool.false_eq_true,if_false] at hcf;rw[←hcf] at hdf;simp only at hdf;rw[←hdf] at hfin;simp only at hfin;simp only[go_sem,List.length_map,a0f,decide_eq_true hltk,a0c,a0i,hdl,deV,hcl,coV,deC,dgc,hz2,bne,dm];rw[hfin]
               · rw[hmd] at hcf dm;simp only[if_true] at hcf;have a1:m2.length+1≤a0l:=by unfold a0l;omega
                 simp only[go_sem,List.length_map,a0f,decide_eq_true hltk,a0c,a0i,hdl,deV,hcl,coV,deC,dgc,hz2,bne,dm,a1];refine hh ⟨k+1,m2++[{(b7z d c).1 with tag:=(k:Int)}]⟩ _ ⟨show k+1≤d.cons.length by omega,hcf,by simp;omega⟩ (show d.cons.length - (k+1)<d.cons.length - k by omega) ?_;simp only[go_sem,w2,List.map_append,c1b,xcC]
           · have hke:k=d.cons.length:=by omega
             subst hke;rw[List.drop_length] at hcf;have hcf:(.inr m2:(List UInt8×Int) ⊕ List CX)=c3a l d d.cons 0 m:=hcf;rw[←hcf] at hdf;simp only at hdf;simp only[go_sem,List.length_map,a0f,Nat.lt_irrefl,a0c,a0i,hdl,deV,deC];refine h ⟨i+1,m2⟩ _ ⟨show i+1≤l.length by omega,hdf,show m2.length+De.sum (l.drop (i+1))≤12000 by omega⟩ (show l.length - (i+1)<l.length - i by omega) ?_;simp only[go_sem,w1]
       · simp only[go_sem,List.length_map,a0f,decide_eq_true hlt,a0c,a0i,hdl,deV,deC,k2,dg,hz];refine a0p (fun a:NewT=>a.i≤d.cons.length∧c3a l d (d.cons.drop a.i) a.i a.m=c3a l d d.cons 0 m∧a.m.length=m.length+a.i) (fun a=>⟨[(0,.slice (l.map deV)),(5,.own 80 0 (a.m.map c1b)),(6,.int .i64 i),(8,.int .i64 a.i)],[],[],1⟩)
          (fun _=>fin) (fun a=>d.cons.length - a.i) ⟨0,m⟩ ⟨Nat.zero_le _,rfl,rfl⟩ ?_ ?_
         · simp only[go_sem]
         · rintro⟨k,m2⟩ ⟨hk,hcf,hm2⟩ hh;simp only at hk hcf hm2⊢
           by_cases hltk:k<d.cons.length
           · obtain⟨c,hc⟩:=a6u hltk;have hcm:=List.mem_of_getElem? hc;obtain⟨gc,sc⟩:=hcons c hcm;rw[a1z hc,c2z] at hcf;have w2:IntKind.i64.wrap ((k:Int)+1)=((k+1:Nat):Int):=a1c (k+1) (by omega);have hcl:(d.cons.map coV)[k]? =some (coV c):=by simp[hc]
             have dgc:=b9a l (by omega) c.ty (.inl gc) (by omega);rw[a0a] at dgc;cases hz2:b8a l c.ty==0
             · rw[hz2] at hcf;simp only[Bool.false_eq_true,if_false] at hcf;rw[←hcf] at hdf;simp only at hdf;rw[←hdf] at hfin;simp only at hfin;simp only[go_sem,List.length_map,a0f,decide_eq_true hltk,a0c,a0i,hdl,deV,hcl,coV,deC,dgc,hz2,bne];rw[hfin]
             · rw[hz2] at hcf;simp only[if_true] at hcf;have dm:=c7b d c gc sc;unfold deC xcC at dm;rw[d2o c] at dm;cases hmd:(b7z d c).2
               · rw[hmd] at hcf dm;simp only[Bool.false_eq_true,if_false] at hcf;rw[←hcf] at hdf;simp only at hdf;rw[←hdf] at hfin;simp only at hfin;simp only[go_sem,List.length_map,a0f,decide_eq_true hltk,a0c,a0i,hdl,deV,hcl,coV,deC,dgc,hz2,bne,dm];rw[hfin]
               · rw[hmd] at hcf dm;simp only[if_true] at hcf;have a1:m2.length+1≤a0l:=by unfold a0l;omega
                 simp only[go_sem,List.length_map,a0f,decide_eq_true hltk,a0c,a0i,hdl,deV,hcl,coV,deC,dgc,hz2,bne,dm,a1];refine hh ⟨k+1,m2++[{(b7z d c).1 with tag:=(k:Int)}]⟩ _ ⟨show k+1≤d.cons.length by omega,hcf,by simp;omega⟩ (show d.cons.length - (k+1)<d.cons.length - k by omega) ?_;simp only[go_sem,w2,List.map_append,c1b,xcC]
           · have hke:k=d.cons.length:=by omega
             subst hke;rw[List.drop_length] at hcf;have hcf:(.inr m2:(List UInt8×Int) ⊕ List CX)=c3a l d d.cons 0 m:=hcf;rw[←hcf] at hdf;simp only at hdf;simp only[go_sem,List.length_map,a0f,Nat.lt_irrefl,a0c,a0i,hdl,deV,deC];refine h ⟨i+1,m2⟩ _ ⟨show i+1≤l.length by omega,hdf,show m2.length+De.sum (l.drop (i+1))≤12000 by omega⟩ (show l.length - (i+1)<l.length - i by omega) ?_;simp only[go_sem,w1]
   · have hie:i=l.length:=by omega
     subst hie;rw[List.drop_length] at hdf;have hdf:(.inr m:(List UInt8×Int) ⊕ List CX)=g4p l l []:=hdf;rw[←hdf] at hfin;simp only at hfin;simp only[go_sem,List.length_map,a0f,Nat.lt_irrefl];rw[hfin]
def b0z:List (List UInt8)→List De→Prop
 | _,[]=>True
 | seen,d::r=>if d.kind==1 then d.name∉seen∧d.name≠g4e∧b0z (seen++[d.name]) r else b0z seen r
theorem h8n{n:List UInt8}{o:List (List UInt8)}(h:(twR [n] o [n] 0).2=false):o.contains n=false:=by
 cases hc:o.contains n
 · rfl
 · have:(twR [n] o [n] 0).2=true:=by
    unfold twR;simp only[hc,Bool.or_true,if_true]
   rw[this] at h;cases h
theorem g3g:∀(l:List De) (T T':Tab),b6e T l=.ok T'→b0z T.data l
 | [],_,_,_=>trivial
 | d::r,T,T',h=>by
  rw[b6e] at h;split at h
  · cases h
  · rename_i hc;have ih:=g3g r _ _ h;unfold b0z;split
    · rename_i k1;have k2:(d.kind==2)=false:=by
       have:d.kind=1:=by simpa using k1
       rw[this];rfl
      have k3:(d.kind==3)=false:=by
       have:d.kind=1:=by simpa using k1
       rw[this];rfl
      unfold b3g at hc ih;rw[k2,k3] at hc ih;simp only[Bool.false_eq_true,if_false] at hc ih;split at hc
      · rename_i h3;exact absurd h3 (by simpa using hc)
      · rename_i h3;rw[if_neg h3] at ih;have h4:=h8n (by simpa using h3);have h5:d.name∉T.data++[g4e]:=by simpa using h4
        split at hc
        · rename_i h6;exact absurd h6 (by simpa using hc)
        · rename_i h6;rw[if_neg h6] at ih;exact⟨fun hm=>h5 (List.mem_append_left _ hm),fun hm=>h5 (by rw[hm];simp),ih⟩
    · rename_i k1;have hd:(b3g T d).2.data=T.data∨∃x,(b3g T d).2.data=T.data++x:=by
       unfold b3g;split
       · exact .inl rfl
       · split
         · exact .inl rfl
         · split
           · exact .inl rfl
           · split
             · exact .inr ⟨_,rfl⟩
             · exact .inr ⟨_,rfl⟩
      have mono:∀(l:List De) (s x:List (List UInt8)),b0z (s++x) l→b0z s l:=by
       intro l
       induction l with
       | nil=>intro _ _ _;trivial
       | cons e r ih=>
        intro s x h;unfold b0z at h⊢;split
        · rename_i hk;rw[if_pos hk] at h;refine⟨fun hm=>h.1 (List.mem_append_left _ hm),h.2.1,?_⟩;have:∀(l:List De) (s s':List (List UInt8)),(∀y,y∈s'→y∈s)→b0z s l→b0z s' l:=by
           intro l
           induction l with
           | nil=>intro _ _ _ _;trivial
           | cons e r ih=>
            intro s s' hs h;unfold b0z at h⊢;split
            · rename_i hk;rw[if_pos hk] at h;exact⟨fun hm=>h.1 (hs _ hm),h.2.1,ih _ _ (fun y hy=>by
               rcases List.mem_append.1 hy with hy|hy
               · exact List.mem_append_left _ (hs y hy)
               · exact List.mem_append_right _ hy) h.2.2⟩
            · rename_i hk;rw[if_neg hk] at h;exact ih _ _ hs h
          exact this r _ _ (fun y hy=>by
           rcases List.mem_append.1 hy with hy|hy
           · exact List.mem_append_left _ (List.mem_append_left _ hy)
           · exact List.mem_append_right _ hy) h.2.2
        · rename_i hk;rw[if_neg hk] at h;exact ih s x h
      rcases hd with hd| ⟨x,hd⟩
      · rw[hd] at ih;exact ih
      · rw[hd] at ih;exact mono r _ _ ih
theorem h2p{l:List De}(h:(h2r l).2=0):b0z [] l:=by
 unfold h2r h7y at h;split at h
 · exact absurd h (by simp)
 · rename_i T hT;exact g3g l _ _ hT
theorem d6e{n:List UInt8}:∀(l:List De) (s:List (List UInt8)),b0z s l→n∈s→arL l n= -1
 | [],_,_,_=>rfl
 | d::r,s,h,hn=>by
  unfold b0z at h;rw[arL];split at h
  · rename_i hk;have:(d.name==n)=false:=by
     have:d.name≠n:=fun e=>h.1 (by rw[e];exact hn);simpa using this
    rw[this,Bool.and_false];exact d6e r _ h.2.2 (List.mem_append_left _ hn)
  · rename_i hk;rw[show (d.kind==1)=false by simpa using hk,Bool.false_and];exact d6e r s h hn
theorem e2j:∀(l:List De) (s:List (List UInt8)),b0z s l→arL l g4e= -1
 | [],_,_=>rfl
 | d::r,s,h=>by
  unfold b0z at h;rw[arL];split at h
  · rename_i hk;have:(d.name==g4e)=false:=by simpa using h.2.1
    rw[this,Bool.and_false];exact e2j r _ h.2.2
  · rename_i hk;rw[show (d.kind==1)=false by simpa using hk,Bool.false_and];exact e2j r s h
theorem h8a{a b:List UInt8}:ba a=ba b↔a=b:=by
 unfold ba;constructor
 · intro h;have:=congrArg (fun x:ByteArray=>x.data.toList) h;simpa using this
 · intro h;rw[h]
theorem j1a(x:ByteArray):ba x.data.toList=x:=by unfold ba;simp
theorem e5h{α β:Type}(f:α→β)(n:List UInt8):∀l:List (ByteArray×α),a2a n (l.map fun p=>(p.1.data.toList,f p.2))=(Go.Kn.look (ba n) l).map f
 | []=>rfl
 | p::r=>by
  rw[List.map_cons,a2a,Go.Kn.look,e5h f n r]
  by_cases h:p.1=ba n
  · rw[if_pos h];have:n=p.1.data.toList:=by rw[h];simp[ba]
    rw[show (n==p.1.data.toList)=true by simpa using this];rfl
  · rw[if_neg h];have:n≠p.1.data.toList:=fun e=>h (by rw[e,j1a]);rw[show (n==p.1.data.toList)=false by simpa using this];rfl
theorem d8l{α:Type}(k n:ByteArray)(v:α):∀l:List (ByteArray×α),Go.Kn.look n (Go.Kn.upd k v l)=if k=n then some v else Go.Kn.look n l
 | []=>rfl
 | p::r=>by
  rw[Go.Kn.upd]
  by_cases h:p.1=k
  · rw[if_pos h,Go.Kn.look,Go.Kn.look,h]
    by_cases h2:k=n
    · rw[if_pos h2,if_pos h2]
    · rw[if_neg h2,if_neg h2,if_neg h2]
  · rw[if_neg h,Go.Kn.look,Go.Kn.look,d8l k n v r]
    by_cases h2:p.1=n
    · rw[if_pos h2,if_pos h2,if_neg (fun e=>h (by rw[h2,e]))]
    · rw[if_neg h2,if_neg h2]
theorem e2i(n:List UInt8):∀(l:List De) (s:List (List UInt8)) (acc:List (ByteArray×Int)),b0z s l→Go.Kn.look (ba n) ((l.map dcT).foldl Go.Kn.arS acc)=if 0≤arL l n then some (arL l n) else Go.Kn.look (ba n) acc
 | [],_,_,_=>rfl
 | d::r,s,acc,h=>by
  unfold b0z at h;rw[List.map_cons,List.foldl_cons,arL];split at h
  · rename_i hk;have hk1:d.kind=1:=by simpa using hk
    have e:Go.Kn.arS acc (dcT d)=Go.Kn.upd (ba d.name) (d.vars.length:Int) acc:=by unfold Go.Kn.arS dcT;simp only[hk1,if_true]
    rw[e2i n r _ _ h.2.2,e,d8l,hk,Bool.true_and]
    by_cases hn:d.name=n
    · subst hn;rw[d6e r _ h.2.2 (by simp)];simp
    · rw[show (d.name==n)=false by simpa using hn,if_neg (fun e=>hn (h8a.1 e))];simp
  · rename_i hk;have hk1:¬d.kind=1:=by simpa using hk
    have e:Go.Kn.arS acc (dcT d)=acc:=by unfold Go.Kn.arS dcT;simp only[hk1,if_false]
    rw[e,e2i n r s acc h,show (d.kind==1)=false by simpa using hk];simp
theorem h6q{l:List De}(h:b0z [] l)(n:List UInt8):a2a n (arU l)=if 0≤arD l n then some (arD l n) else none:=by
 unfold arU;rw[show (fun p:ByteArray×Int=>(p.1.data.toList,p.2))=(fun p:ByteArray×Int=>(p.1.data.toList,id p.2)) from rfl,e5h];unfold Go.Kn.arF;rw[e2i n l [] _ h];unfold arD
 by_cases hn:n=g4e
 · subst hn;rw[e2j l [] h];rfl
 · rw[show (n==[65,110,121])=false from beq_eq_false_iff_ne.2 hn];have:Go.Kn.look (ba n) [(Go.Kn.h8e,(0:Int))]=none:=by
    unfold Go.Kn.look;rw[if_neg (fun e=>hn ?_)]
    · rfl
    · have:Go.Kn.h8e=ba g4e:=rfl;rw[this] at e;exact (h8a.1 e).symm
   rw[this]
   by_cases h0:0≤arL l n
   · rw[if_pos h0];simp[h0]
   · rw[if_neg h0];simp[h0]
theorem j0z{l:List De}(h:b0z [] l)(s:List UInt8)(k:Nat):j8r (arU l) s k=(arD l s !=(k:Int)):=by
 unfold j8r;rw[h6q h]
 by_cases h0:0≤arD l s
 · rw[if_pos h0]
 · rw[if_neg h0];have:arD l s≠(k:Int):=by omega
   simpa [bne] using this.symm∘Eq.symm
theorem i8s{l:List De}(h:b0z [] l):∀(n:Nat) (t:Ty),t.sz≤n→b3v (arU l) t=d9e l t:=by
 intro n
 induction n with
 | zero=>intro t ht;have:=a2f t;omega
 | succ n ih=>
  intro t ht;have hsz:=a2f t;have key:∀r:List Ty,Ty.szs r≤n→d5k (arU l) r=c3x l r:=by
   intro r
   induction r with
   | nil=>intro _;rfl
   | cons x r ihr=>
    intro hr;rw[a3b] at hr;rw[c2v,c8g,ih x (by omega),ihr (by omega)]
  rw[b7j,e5q,j0z h,key t.args (by omega)]
theorem g0j{l:List De}(h:b0z [] l)(t:Ty):b3b (arU l) t=b8a l t:=by
 unfold b3b b8a;rw[i8s h _ t (Nat.le_refl _)]
mutual
def skT:Ty→Ty
 | .mk k s _ l=>if k==1 then .mk 1 [] 0 [] else .mk k (if k==5 then [] else s) 0 (skL l)
def skL:List Ty→List Ty
 | []=>[]
 | t::l=>skT t::skL l
end
theorem a6e(k:Int)(s:List UInt8)(m:Int)(l:List Ty):skT (.mk k s m l)=if k==1 then .mk 1 [] 0 [] else .mk k (if k==5 then [] else s) 0 (skL l):=rfl
theorem a5h(t:Ty)(l:List Ty):skL (t::l)=skT t::skL l:=rfl
theorem c1u:∀l:List Ty,skL l=l.map skT
 | []=>rfl
 | t::l=>by rw[a5h,List.map_cons,c1u l]
theorem c4s{g:Ty→Ty}:∀l:List Ty,(∀x∈l,skT (g x)=skT x)→skL (l.map g)=skL l
 | [],_=>rfl
 | t::l,h=>by rw[List.map_cons,a5h,a5h,h t (List.mem_cons_self ..),c4s l fun x hx=>h x (List.mem_cons_of_mem _ hx)]
theorem e3d:∀(n:Nat) (t:Ty) (a b:List UInt8),skT (a9n n t a b)=skT t
 | 0,t,_,_=>rfl
 | n+1,.mk k s m l,a,b=>by
  unfold a9n;split
  · rename_i h;simp only[Bool.and_eq_true] at h;rw[a6e,a6e,h.1];rfl
  · split
    · rfl
    · split
      · rename_i h;simp only[Bool.and_eq_true] at h;split
        · rename_i x;have hk:k=5:=by simpa using h.1
          subst hk;rw[a6e,a6e,a5h,a5h,e3d n,e3d n];rfl
        · rfl
      · rw[a6e,a6e,c4s l fun x _=>e3d n x a b]
theorem f4k:∀(n:Nat) (t:Ty) (a b:List UInt8),skT (b0t n t a (.mk 1 b 0 []))=skT t
 | 0,t,_,_=>rfl
 | n+1,.mk k s m l,a,b=>by
  unfold b0t;split
  · rfl
  · split
    · rename_i h;simp only[Bool.and_eq_true] at h;rw[a6e,a6e,h.1];rfl
    · split
      · rename_i h;simp only[Bool.and_eq_true] at h;split
        · rename_i x;have hk:k=5:=by simpa using h.1
          subst hk;rw[a6e,a6e,a5h,a5h,f4k n,e3d n];rfl
        · rfl
      · rw[a6e,a6e,c4s l fun x _=>f4k n x a b]
theorem h7e:∀(n:Nat) (t:Ty) (a b:List UInt8),skT (b8t n t a (.mk 1 b 0 []))=skT t
 | 0,t,_,_=>rfl
 | n+1,.mk k s m l,a,b=>by
  unfold b8t;split
  · rename_i h;simp only[Bool.and_eq_true] at h;rw[a6e,a6e,h.1.1];rfl
  · rw[a6e,a6e,c4s l fun x _=>h7e n x a b]
theorem e0q(g:Ty→Nat→Ty×Nat):∀(l:List Ty) (k:Nat),(∀x∈l,∀k,skT (g x k).1=skT x)→skL (a7g g l k).1=skL l
 | [],k,_=>rfl
 | t::l,k,h=>by
  rw[a7g,a5h,a5h,h t (List.mem_cons_self ..),e0q g l _ fun x hx=>h x (List.mem_cons_of_mem _ hx)]
theorem f4l(c:UInt8)(but:List (List UInt8)):∀(n:Nat) (t:Ty) (es:List (List UInt8×List UInt8)) (k:Nat),skT (a6t c but n t es k).1=skT t
 | 0,t,_,_=>rfl
 | n+1,.mk q s m l,es,k=>by
  rw[a6t];split
  · rename_i h;rw[a6e,a6e,h];rfl
  · split
    · rename_i h;have hq:q=5:=by simpa using h
      subst hq;rw[a6e,a6e,e0q _ l _ fun x _ j=>f4l c but n x _ j];rfl
    · rw[a6e,a6e,e0q _ l _ fun x _ j=>f4l c but n x es j]
theorem i1j(t:Ty)(a b:List UInt8):skT (putD t a (.mk 1 b 0 []))=skT t:=by
 unfold putD;rw[h7e];unfold b6n;rw[f4l]
theorem f4m(t:Ty):(skT t).kind=t.kind:=by
 cases t with
 | mk k s m l=>
  rw[a6e];split
  · rename_i h;have:k=1:=by simpa using h
    exact this.symm
  · rfl
theorem d3l{t u:Ty}(h:skT t=skT u):t.kind=u.kind∧((t.kind==1)=false→skL t.args=skL u.args∧((t.kind==5)=false→t.name=u.name)):=by
 have hk:t.kind=u.kind:=by rw[←f4m t,←f4m u,h]
 refine⟨hk,fun h1=>?_⟩;cases t with
 | mk k s m l=>
  cases u with
  | mk k' s' m' l'=>
   simp only[Ty.kind] at hk h1;subst hk;rw[a6e,a6e,h1] at h;simp only[Bool.false_eq_true,if_false,Ty.mk.injEq,true_and] at h;refine⟨h.2,fun h5=>?_⟩;simp only[Ty.kind] at h5;rw[h5] at h;have:s=s':=by simpa using h.1
   exact this
theorem h7f{l l':List Ty}(h:skL l=skL l'):l.length=l'.length:=by
 rw[c1u,c1u] at h;have:=congrArg List.length h;simpa using this
theorem e0p(c:UInt8)(but:List (List UInt8)):∀(n:Nat) (t u:Ty) (i:Nat),skT t=skT u→(a7y c but n t i).1=(b0g c but n u i).1∧skT (a7y c but n t i).2=skT (b0g c but n u i).2
 | 0,t,u,i,h=>⟨rfl,h⟩
 | n+1,.mk k s m l,.mk k' s' m' l',i,h=>by
  obtain⟨hk,h2⟩:=d3l h;simp only[Ty.kind] at hk h2;subst hk;cases h5:k==5
  · rw[b5r c but _ _ _ (by simpa [Ty.kind] using h5),b7c c but _ _ _ (by simpa [Ty.kind] using h5)];exact⟨rfl,h⟩
  · have hk5:k=5:=by simpa using h5
    subst hk5;obtain⟨h3,_⟩:=h2 rfl;simp only[Ty.args] at h3;have hl:=h7f h3
    match l,l',hl with
    | [],[],_=>exact⟨rfl,h⟩
    | [x],[y],_=>
     have hxy:skT x=skT y:=by rw[a5h,a5h] at h3;injection h3
     have ih:=e0p c but n (b0t x.sz x s (.mk 1 (a0y c (a3j c but i)) 0 [])) (putD y s' (.mk 1 (a0y c (a3j c but i)) 0 [])) (a3j c but i+1) (by rw[f4k,i1j,hxy]);show (_::_:List (List UInt8))=_::_∧_
     exact⟨by rw[ih.1],ih.2⟩
    | x::x2::r,y::y2::r',_=>exact⟨rfl,h⟩
theorem g5g:∀(n:Nat) (t:Ty),t.sz≤n→GT t→(skT t).sz=t.sz:=by
 intro n
 induction n with
 | zero=>intro t h;have:=a2f t;omega
 | succ n ih=>
  intro t hn hg;cases hg with
  | var s hs=>rfl
  | unk m h1 h2=>rfl
  | con s l hs hl=>
   rw[a0t] at hn;rw[a6e];show (Ty.mk 3 s 0 (skL l)).sz=_
   rw[a0t,a0t,c1u];refine congrArg (· +1) (d0i (by simp) fun i x y hx hy=>?_);simp[hx] at hy;subst hy;have hm:=List.mem_of_getElem? hx;have:=a2i hm;exact ih x (by omega) (hl x hm)
  | fn x y hx hy=>
   rw[a0t,a1g] at hn;show (Ty.mk 4 [] 0 [skT x,skT y]).sz=_
   rw[a0t,a0t,a1g,a1g,ih x (by omega) hx,ih y (by omega) hy]
  | all s x hs hx=>
   rw[a0t,a1e] at hn;show (Ty.mk 5 [] 0 [skT x]).sz=_
   rw[a0t,a0t,a1e,a1e,ih x (by omega) hx]
theorem i1i:∀(n:Nat) (t u:Ty) (acc acc':List Ty),skT t=skT u→skL acc=skL acc'→skL (spF n t acc).1=skL (spF n u acc').1∧skT (spF n t acc).2=skT (spF n u acc').2
 | 0,t,u,_,_,h,h2=>⟨h2,h⟩
 | n+1,.mk k s m l,.mk k' s' m' l',acc,acc',h,h2=>by
  obtain⟨hk,h3⟩:=d3l h;simp only[Ty.kind] at hk h3;subst hk;cases h4:k==4
  · rw[a8r _ _ _ (by simpa [Ty.kind] using h4),a8r _ _ _ (by simpa [Ty.kind] using h4)];exact⟨h2,h⟩
  · have hk4:k=4:=by simpa using h4
    subst hk4;obtain⟨h5,_⟩:=h3 rfl;simp only[Ty.args] at h5;have hl:=h7f h5
    match l,l',hl with
    | [],[],_=>exact⟨h2,h⟩
    | [x],[y],_=>exact⟨h2,h⟩
    | [x,x2],[y,y2],_=>
     rw[a5h,a5h,a5h,a5h] at h5;injection h5 with e1 e2;injection e2 with e2 _;have e3:skL (acc++[x])=skL (acc'++[y]):=by
      rw[c1u,c1u] at h2⊢;rw[List.map_append,List.map_append,h2,List.map_cons,List.map_cons,e1]
     exact i1i n x2 y2 (acc++[x]) (acc'++[y]) e2 e3
    | x::x2::x3::r,y::y2::y3::r',_=>exact⟨h2,h⟩
theorem i1k:∀(n:Nat) (t:Ty),t.sz≤n→GT t→b1k (skT t)=b1k t:=by
 intro n
 induction n with
 | zero=>intro t h;have:=a2f t;omega
 | succ n ih=>
  intro t hn hg;have key:∀l:List Ty,(∀x∈l,GT x)→Ty.szs l≤n→a9i (skL l)=a9i l:=by
   intro l
   induction l with
   | nil=>intro _ _;rfl
   | cons x r ihr=>
    intro h1 h2;rw[a3b] at h2;rw[a5h,a8g,a8g,ih x (by omega) (h1 x (List.mem_cons_self ..)),ihr (fun y hy=>h1 y (List.mem_cons_of_mem _ hy)) (by omega)]
  cases hg with
  | var s hs=>rfl
  | unk m h1 h2=>rfl
  | con s l hs hl=>
   rw[a0t] at hn;show b1k (.mk 3 s 0 (skL l))=_
   rw[c5j,c5j,key l hl (by omega)]
  | fn x y hx hy=>
   rw[a0t] at hn;show b1k (.mk 4 [] 0 (skL [x,y]))=_
   rw[c5j,c5j,key [x,y] (fun z hz=>by simp at hz;rcases hz with rfl|rfl;exact hx;exact hy) (by omega)]
  | all s x hs hx=>rfl
theorem c0a:∀l:List Ty,(∀x∈l,GT x)→a9i (skL l)=a9i l
 | [],_=>rfl
 | x::r,h=>by rw[a5h,a8g,a8g,i1k _ x (Nat.le_refl _) (h x (List.mem_cons_self ..)),c0a r fun y hy=>h y (List.mem_cons_of_mem _ hy)]
theorem d4x(names:List (List UInt8)):∀(l:List Ty) (i:Nat) (c:List (List UInt8)) (g:List Nat),(mk1 names l i c g).isRight= !a9i l
 | [],_,_,_=>rfl
 | t::r,i,c,g=>by
  rw[c5k,a8g];cases hp:b1k t
  · simp only[Bool.false_eq_true,if_false,Bool.false_or];split
    · exact d4x names r _ _ _
    · exact d4x names r _ _ _
  · rfl
theorem f7s(d:De)(c:Co)(names:List (List UInt8))(args ts:List Ty)(x:Nat ⊕ (List (List UInt8)×List Nat)):(f7t d c names args ts x).2=x.isRight:=by cases x<;>rfl
theorem e8o{d:De}{c:Co}{x:CX}(h:b3s d c=some x):x.name=c.name∧x.data=d.name:=by
 unfold b3s at h;simp only at h;split at h
 · injection h with h;subst h;exact⟨rfl,rfl⟩
 · cases h
theorem f7p(d:De)(c:Co)(hg:GT c.ty)(hb:c.ty.sz<12000):(b3s d c).isSome=(b7z d c).2:=by
 have hfl:=a2v _ c.ty (Nat.le_refl _) [] [];simp only[List.length_nil,Nat.zero_add] at hfl;have hbd:c.ty.sz*((a0n c.ty [] []).length+1)≤900000000:=Nat.le_trans (Nat.mul_le_mul (show c.ty.sz≤12000 by omega) (show _≤12001 by omega)) (by omega);obtain⟨g1,s1,_,_⟩:=c7e 112 (a0n c.ty [] []) c.ty.sz c.ty 0 (Nat.le_refl _) hg (by omega) (by omega);obtain⟨g2,s2,_,_⟩:=d4e 112 (a0n c.ty [] []) c.ty.sz c.ty 0 (Nat.le_refl _) hg (by omega) (by omega);obtain⟨e1,e2⟩:=e0p 112 (a0n c.ty [] []) c.ty.sz c.ty c.ty 0 rfl;unfold b3s b7z;simp only;generalize a7y 112 (a0n c.ty [] []) c.ty.sz c.ty 0=p at *;generalize b0g 112 (a0n c.ty [] []) c.ty.sz c.ty 0=q at *;have hsz:p.2.sz=q.2.sz:=by rw[←g5g _ p.2 (Nat.le_refl _) g1,←g5g _ q.2 (Nat.le_refl _) g2,e2]
 rw[hsz];obtain⟨_,e3⟩:=i1i q.2.sz p.2 q.2 [] [] e2 rfl;obtain⟨h1,_,_,_⟩:=b9y q.2.sz p.2 [] (by omega) g1 (fun x hx=>by cases hx) (by omega);obtain⟨h2,_,_,_⟩:=b9y q.2.sz q.2 [] (by omega) g2 (fun x hx=>by cases hx) (by omega);generalize spF q.2.sz p.2 []=a at *;generalize spF q.2.sz q.2 []=b at *;obtain⟨hk,h4⟩:=d3l e3;rw[hk];cases k3:b.2.kind==3
 · rfl
 · have kk:a.2.kind=3:=by rw[hk];simpa using k3
   obtain⟨h5,h6⟩:=h4 (by rw[kk];rfl);rw[h6 (by rw[kk];rfl)];have hp:a9i a.2.args=a9i b.2.args:=by rw[←c0a _ h1.args,←c0a _ h2.args,h5]
   rw[hp];cases kn:b.2.name==d.name
   · rfl
   · simp only[Bool.true_and,Bool.and_self,if_true];rw[f7s,d4x];cases a9i b.2.args<;>rfl
theorem c0o{α:Type}(k n:List UInt8)(v:α):∀l:List (List UInt8×α),a2a n (b4i k v l)=if n=k then some v else a2a n l
 | []=>by
  by_cases h:n=k
  · subst h;simp[b4i,a2a]
  · simp[b4i,a2a,h]
 | p::r=>by
  rw[b4i];cases h:k==p.1
  · simp only[Bool.false_eq_true,if_false,a2a];cases h2:n==p.1
    · simp only[Bool.false_eq_true,if_false];exact c0o k n v r
    · simp only[if_true];have e1:n=p.1:=by simpa using h2
      have e2:k≠p.1:=by simpa using h
      rw[if_neg (fun e=>e2 (by rw[←e,e1]))]
  · simp only[if_true,a2a];have e1:k=p.1:=by simpa using h
    by_cases h2:n=k
    · rw[if_pos h2,show (n==k)=true by simpa using h2];rfl
    · rw[if_neg h2,show (n==k)=false by simpa using h2];simp only[Bool.false_eq_true,if_false];rw[show (n==p.1)=false by rw[←e1];simpa using h2];rfl
end Go.Proofs
