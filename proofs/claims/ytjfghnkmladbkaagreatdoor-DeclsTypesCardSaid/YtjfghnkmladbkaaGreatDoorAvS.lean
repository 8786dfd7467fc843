/- Both tables of a program agree; the law DeclsTypes. -/
import Derived.Test.YtjfghnkmladbkaaGreatDoorAvR
import Derived.Test.YtjfghnkmladbkaaGreatDoorAvP
namespace Go.Proofs
open Go.Av
set_option maxHeartbeats 64000000
set_option maxRecDepth 100000
def c2r(q:List De)(d:De):List Co→Nat→List CX→(List UInt8×Int) ⊕ List CX
 | [],_,out=>.inr out
 | c::r,i,out=>if b6w q c.ty==0 then (if (b2w d c).2 then c2r q d r (i+1) (out++[{(b2w d c).1 with tag:=(i:Int)}]) else .inl (c.name,112)) else .inl (c.name,b6w q c.ty)
def h2z(q:List De):List De→List CX→(List UInt8×Int) ⊕ List CX
 | [],out=>.inr out
 | d::r,out=>if d.kind==2&&b6w q d.ty !=0 then .inl (d.name,b6w q d.ty) else (match c2r q d d.cons 0 out with
  | .inl e=>.inl e
  | .inr m=>h2z q r m)
def j2j(l:List De):(List UInt8×Int) ⊕ List CX:=h2z l l []
def g5n:(List UInt8×Int) ⊕ List CX→AVal
 | .inl e=>.tup [.slice [],.str e.1,.int .i64 e.2]
 | .inr out=>.tup [.slice (out.map b2h),.str [],.int .i64 0]
theorem c1g(q:List De)(d:De)(c:Co)(r:List Co)(i:Nat)(out:List CX):c2r q d (c::r) i out=if b6w q c.ty==0 then (if (b2w d c).2 then c2r q d r (i+1) (out++[{(b2w d c).1 with tag:=(i:Int)}]) else .inl (c.name,112)) else .inl (c.name,b6w q c.ty):=rfl
theorem d6p(q:List De)(d:De)(r:List De)(out:List CX):h2z q (d::r) out=if d.kind==2&&b6w q d.ty !=0 then .inl (d.name,b6w q d.ty) else (match c2r q d d.cons 0 out with
 | .inl e=>.inl e
 | .inr m=>h2z q r m):=rfl
structure NewT where
 i:Nat
 m:List CX
theorem GD.gt{d:De}(h:GD d):GT d.ty∨d.ty=zTy:=by
 cases h with
 | data _ _ _ _ _ _=>exact .inr rfl
 | sig _ _ _ h=>exact .inl h
 | bind _ _ _ _=>exact .inr rfl
theorem e4r(l:List De)(hg:∀d∈l,GD d)(hs:De.sum l≤12000):den E 26 [.slice (l.map deV)] []=some (g5n (j2j l),[]):=by
 have hlen:=b2g l;obtain⟨fin,hfin⟩:∃fin,fin=(some (g5n (j2j l),[]):Option (AVal×a2p)):=⟨_,rfl⟩
 rw[←hfin];unfold g5n j2j at hfin;rw[a0d i1z,i5n];simp only[go_sem,Tryz.f26];refine a0o (fun a:NewT=>a.i≤l.length∧h2z l (l.drop a.i) a.m=h2z l l []∧a.m.length+De.sum (l.drop a.i)≤12000) (fun a=>⟨[(0,.slice (l.map deV)),(5,.own 80 0 (a.m.map b2h)),(6,.int .i64 a.i)],[],[],1⟩)
  (fun _=>fin) (fun a=>l.length - a.i) ⟨0,[]⟩ ⟨Nat.zero_le _,rfl,by simpa using hs⟩ ?_ ?_
 · simp only[go_sem]
 · rintro⟨i,m⟩ ⟨hi,hdf,hml⟩ h;simp only at hi hdf hml⊢
   by_cases hlt:i<l.length
   · obtain⟨d,hx⟩:=a6v hlt;have hmem:=List.mem_of_getElem? hx;have hm:=a9i hmem;have hgd:=hg d hmem;rw[a2a hx,d6p] at hdf;have hds:De.sum (l.drop i)=d.tot+De.sum (l.drop (i+1)):=by rw[a2a hx];simp[De.sum]
     rw[hds] at hml;have w1:IntKind.i64.wrap ((i:Int)+1)=((i+1:Nat):Int):=a0z (i+1) (by omega);have hdl:(l.map deV)[i]? =some (deV d):=by simp[hx]
     have dg:=b2t l (by omega) d.ty hgd.gt (by unfold De.tot at hm;omega);rw[a0a] at dg;have hcons:∀c∈d.cons,GT c.ty∧c.ty.sz<12000:=fun c hc=>by
      have h1:c.ty.sz≤Ty.szs (d.cons.map Co.ty):=c1f hc;have h2:=a9k d.val;unfold De.tot at hm;refine⟨?_,by omega⟩;cases hgd with
      | data s vs cs _ _ h3=>exact (h3 c hc).2
      | sig _ _ _ _=>cases hc
      | bind _ _ _ _=>cases hc
     have hclen:d.cons.length≤d.tot:=by unfold De.tot;omega
     by_cases hbad:(d.kind==2&&b6w l d.ty !=0)=true
     · rw[if_pos hbad] at hdf;rw[←hdf] at hfin;simp only[Bool.and_eq_true] at hbad;obtain⟨k2,hz⟩:=hbad;simp only at hfin;simp only[go_sem,List.length_map,a0e,decide_eq_true hlt,a0c,a0i,hdl,deV,deC,k2,dg,hz];rw[hfin]
     · rw[if_neg hbad] at hdf;have hk:(d.kind==2)=false∨((d.kind==2)=true∧(b6w l d.ty !=0)=false):=by
        cases k2:d.kind==2
        · exact .inl rfl
        · rw[k2] at hbad;exact .inr ⟨rfl,by simpa using hbad⟩
       rcases hk with k2| ⟨k2,hz⟩
       · simp only[go_sem,List.length_map,a0e,decide_eq_true hlt,a0c,a0i,hdl,deV,deC,k2];refine a0o (fun a:NewT=>a.i≤d.cons.length∧c2r l d (d.cons.drop a.i) a.i a.m=c2r l d d.cons 0 m∧a.m.length=m.length+a.i) (fun a=>⟨[(0,.slice (l.map deV)),(5,.own 80 0 (a.m.map b2h)),(6,.int .i64 i),(8,.int .i64 a.i)],[],[],1⟩)
          (fun _=>fin) (fun a=>d.cons.length - a.i) ⟨0,m⟩ ⟨Nat.zero_le _,rfl,rfl⟩ ?_ ?_
         · simp only[go_sem]
         · rintro⟨k,m2⟩ ⟨hk,hcf,hm2⟩ hh;simp only at hk hcf hm2⊢
           by_cases hltk:k<d.cons.length
           · obtain⟨c,hc⟩:=a6v hltk;have hcm:=List.mem_of_getElem? hc;obtain⟨gc,sc⟩:=hcons c hcm;rw[a2a hc,c1g] at hcf;have w2:IntKind.i64.wrap ((k:Int)+1)=((k+1:Nat):Int):=a0z (k+1) (by omega);have hcl:(d.cons.map coV)[k]? =some (coV c):=by simp[hc]
             have dgc:=b2t l (by omega) c.ty (.inl gc) (by omega);rw[a0a] at dgc;cases hz2:b6w l c.ty==0
             · rw[hz2] at hcf;simp only[Bool.false_eq_true,if_false] at hcf;rw[←hcf] at hdf;simp only at hdf;rw[←hdf] at hfin;simp only at hfin;simp only[go_sem,List.length_map,a0e,decide_eq_true hltk,a0c,a0i,hdl,deV,hcl,coV,deC,dgc,hz2,bne];rw[hfin]
             · rw[hz2] at hcf;simp only[if_true] at hcf;have dm:=c5e d c gc sc;unfold deC xcC at dm;rw[d0w c] at dm;cases hmd:(b2w d c).2
               · rw[hmd] at hcf dm;simp only[Bool.false_eq_true,if_false] at hcf;rw[←hcf] at hdf;simp only at hdf;rw[←hdf] at hfin;simp only at hfin;simp only[go_sem,List.length_map,a0e,decide_eq_true hltk,a0c,a0i,hdl,deV,hcl,coV,deC,dgc,hz2,bne,dm];rw[hfin]
               · rw[hmd] at hcf dm;simp only[if_true] at hcf;have a1:m2.length+1≤a0l:=by unfold a0l;omega
                 simp only[go_sem,List.length_map,a0e,decide_eq_true hltk,a0c,a0i,hdl,deV,hcl,coV,deC,dgc,hz2,bne,dm,a1];refine hh ⟨k+1,m2++[{(b2w d c).1 with tag:=(k:Int)}]⟩ _ ⟨show k+1≤d.cons.length by omega,hcf,by simp;omega⟩ (show d.cons.length - (k+1)<d.cons.length - k by omega) ?_;simp only[go_sem,w2,List.map_append,b2h,xcC]
           · have hke:k=d.cons.length:=by omega
             subst hke;rw[List.drop_length] at hcf;have hcf:(.inr m2:(List UInt8×Int) ⊕ List CX)=c2r l d d.cons 0 m:=hcf;rw[←hcf] at hdf;simp only at hdf;simp only[go_sem,List.length_map,a0e,Nat.lt_irrefl,a0c,a0i,hdl,deV,deC];refine h ⟨i+1,m2⟩ _ ⟨show i+1≤l.length by omega,hdf,show m2.length+De.sum (l.drop (i+1))≤12000 by omega⟩ (show l.length - (i+1)<l.length - i by omega) ?_;simp only[go_sem,w1]
       · simp only[go_sem,List.length_map,a0e,decide_eq_true hlt,a0c,a0i,hdl,deV,deC,k2,dg,hz];refine a0o (fun a:NewT=>a.i≤d.cons.length∧c2r l d (d.cons.drop a.i) a.i a.m=c2r l d d.cons 0 m∧a.m.length=m.length+a.i) (fun a=>⟨[(0,.slice (l.map deV)),(5,.own 80 0 (a.m.map b2h)),(6,.int .i64 i),(8,.int .i64 a.i)],[],[],1⟩)
          (fun _=>fin) (fun a=>d.cons.length - a.i) ⟨0,m⟩ ⟨Nat.zero_le _,rfl,rfl⟩ ?_ ?_
         · simp only[go_sem]
         · rintro⟨k,m2⟩ ⟨hk,hcf,hm2⟩ hh;simp only at hk hcf hm2⊢
           by_cases hltk:k<d.cons.length
           · obtain⟨c,hc⟩:=a6v hltk;have hcm:=List.mem_of_getElem? hc;obtain⟨gc,sc⟩:=hcons c hcm;rw[a2a hc,c1g] at hcf;have w2:IntKind.i64.wrap ((k:Int)+1)=((k+1:Nat):Int):=a0z (k+1) (by omega);have hcl:(d.cons.map coV)[k]? =some (coV c):=by simp[hc]
             have dgc:=b2t l (by omega) c.ty (.inl gc) (by omega);rw[a0a] at dgc;cases hz2:b6w l c.ty==0
             · rw[hz2] at hcf;simp only[Bool.false_eq_true,if_false] at hcf;rw[←hcf] at hdf;simp only at hdf;rw[←hdf] at hfin;simp only at hfin;simp only[go_sem,List.length_map,a0e,decide_eq_true hltk,a0c,a0i,hdl,deV,hcl,coV,deC,dgc,hz2,bne];rw[hfin]
             · rw[hz2] at hcf;simp only[if_true] at hcf;have dm:=c5e d c gc sc;unfold deC xcC at dm;rw[d0w c] at dm;cases hmd:(b2w d c).2
               · rw[hmd] at hcf dm;simp only[Bool.false_eq_true,if_false] at hcf;rw[←hcf] at hdf;simp only at hdf;rw[←hdf] at hfin;simp only at hfin;simp only[go_sem,List.length_map,a0e,decide_eq_true hltk,a0c,a0i,hdl,deV,hcl,coV,deC,dgc,hz2,bne,dm];rw[hfin]
               · rw[hmd] at hcf dm;simp only[if_true] at hcf;have a1:m2.length+1≤a0l:=by unfold a0l;omega
                 simp only[go_sem,List.length_map,a0e,decide_eq_true hltk,a0c,a0i,hdl,deV,hcl,coV,deC,dgc,hz2,bne,dm,a1];refine hh ⟨k+1,m2++[{(b2w d c).1 with tag:=(k:Int)}]⟩ _ ⟨show k+1≤d.cons.length by omega,hcf,by simp;omega⟩ (show d.cons.length - (k+1)<d.cons.length - k by omega) ?_;simp only[go_sem,w2,List.map_append,b2h,xcC]
           · have hke:k=d.cons.length:=by omega
             subst hke;rw[List.drop_length] at hcf;have hcf:(.inr m2:(List UInt8×Int) ⊕ List CX)=c2r l d d.cons 0 m:=hcf;rw[←hcf] at hdf;simp only at hdf;simp only[go_sem,List.length_map,a0e,Nat.lt_irrefl,a0c,a0i,hdl,deV,deC];refine h ⟨i+1,m2⟩ _ ⟨show i+1≤l.length by omega,hdf,show m2.length+De.sum (l.drop (i+1))≤12000 by omega⟩ (show l.length - (i+1)<l.length - i by omega) ?_;simp only[go_sem,w1]
   · have hie:i=l.length:=by omega
     subst hie;rw[List.drop_length] at hdf;have hdf:(.inr m:(List UInt8×Int) ⊕ List CX)=h2z l l []:=hdf;rw[←hdf] at hfin;simp only at hfin;simp only[go_sem,List.length_map,a0e,Nat.lt_irrefl];rw[hfin]
def b0d:List (List UInt8)→List De→Prop
 | _,[]=>True
 | seen,d::r=>if d.kind==1 then d.name∉seen∧d.name≠f9x∧b0d (seen++[d.name]) r else b0d seen r
theorem h3l{n:List UInt8}{o:List (List UInt8)}(h:(twR [n] o [n] 0).2=false):o.contains n=false:=by
 cases hc:o.contains n
 · rfl
 · have:(twR [n] o [n] 0).2=true:=by
    unfold twR;simp only[hc,Bool.or_true,if_true]
   rw[this] at h;cases h
theorem f8w:∀(l:List De) (T T':Tab),c1e T l=.ok T'→b0d T.data l
 | [],_,_,_=>trivial
 | d::r,T,T',h=>by
  rw[c1e] at h;split at h
  · cases h
  · rename_i hc;have ih:=f8w r _ _ h;unfold b0d;split
    · rename_i k1;have k2:(d.kind==2)=false:=by
       have:d.kind=1:=by simpa using k1
       rw[this];rfl
      have k3:(d.kind==3)=false:=by
       have:d.kind=1:=by simpa using k1
       rw[this];rfl
      unfold b5f at hc ih;rw[k2,k3] at hc ih;simp only[Bool.false_eq_true,if_false] at hc ih;split at hc
      · rename_i h3;exact absurd h3 (by simpa using hc)
      · rename_i h3;rw[if_neg h3] at ih;have h4:=h3l (by simpa using h3);have h5:d.name∉T.data++[f9x]:=by simpa using h4
        split at hc
        · rename_i h6;exact absurd h6 (by simpa using hc)
        · rename_i h6;rw[if_neg h6] at ih;exact⟨fun hm=>h5 (List.mem_append_left _ hm),fun hm=>h5 (by rw[hm];simp),ih⟩
    · rename_i k1;have hd:(b5f T d).2.data=T.data∨∃x,(b5f T d).2.data=T.data++x:=by
       unfold b5f;split
       · exact .inl rfl
       · split
         · exact .inl rfl
         · split
           · exact .inl rfl
           · split
             · exact .inr ⟨_,rfl⟩
             · exact .inr ⟨_,rfl⟩
      have mono:∀(l:List De) (s x:List (List UInt8)),b0d (s++x) l→b0d s l:=by
       intro l
       induction l with
       | nil=>intro _ _ _;trivial
       | cons e r ih=>
        intro s x h;unfold b0d at h⊢;split
        · rename_i hk;rw[if_pos hk] at h;refine⟨fun hm=>h.1 (List.mem_append_left _ hm),h.2.1,?_⟩;have:∀(l:List De) (s s':List (List UInt8)),(∀y,y∈s'→y∈s)→b0d s l→b0d s' l:=by
           intro l
           induction l with
           | nil=>intro _ _ _ _;trivial
           | cons e r ih=>
            intro s s' hs h;unfold b0d at h⊢;split
            · rename_i hk;rw[if_pos hk] at h;exact⟨fun hm=>h.1 (hs _ hm),h.2.1,ih _ _ (fun y hy=>by
               rcases List.mem_append.1 hy with hy|hy
               · exact List.mem_append_left _ (hs y hy)
               · exact List.mem_append_right _ hy) h.2.2⟩
            · rename_i hk;rw[if_neg hk] at h;exact ih _ _ hs h
          exact this r _ _ (fun y hy=>by
           rcases List.mem_append.1 hy with hy|hy
           · exact List.mem_append_left _ (List.mem_append_left _ hy)
           · exact List.mem_append_right _ hy) h.2.2
        · rename_i hk;rw[if_neg hk] at h;exact ih s x h
      rcases hd with hd| ⟨x,hd⟩
      · rw[hd] at ih;exact ih
      · rw[hd] at ih;exact mono r _ _ ih
theorem g8f{l:List De}(h:(h3b l).2=0):b0d [] l:=by
 unfold h3b i4j at h;split at h
 · exact absurd h (by simp)
 · rename_i T hT;exact f8w l _ _ hT
theorem d3s{n:List UInt8}:∀(l:List De) (s:List (List UInt8)),b0d s l→n∈s→arL l n= -1
 | [],_,_,_=>rfl
 | d::r,s,h,hn=>by
  unfold b0d at h;rw[arL];split at h
  · rename_i hk;have:(d.name==n)=false:=by
     have:d.name≠n:=fun e=>h.1 (by rw[e];exact hn);simpa using this
    rw[this,Bool.and_false];exact d3s r _ h.2.2 (List.mem_append_left _ hn)
  · rename_i hk;rw[show (d.kind==1)=false by simpa using hk,Bool.false_and];exact d3s r s h hn
theorem d9j:∀(l:List De) (s:List (List UInt8)),b0d s l→arL l f9x= -1
 | [],_,_=>rfl
 | d::r,s,h=>by
  unfold b0d at h;rw[arL];split at h
  · rename_i hk;have:(d.name==f9x)=false:=by simpa using h.2.1
    rw[this,Bool.and_false];exact d9j r _ h.2.2
  · rename_i hk;rw[show (d.kind==1)=false by simpa using hk,Bool.false_and];exact d9j r s h
theorem f9u{a b:List UInt8}:ba a=ba b↔a=b:=by
 unfold ba;constructor
 · intro h;have:=congrArg (fun x:ByteArray=>x.data.toList) h;simpa using this
 · intro h;rw[h]
theorem i5s(x:ByteArray):ba x.data.toList=x:=by unfold ba;simp
theorem d2w{α β:Type}(f:α→β)(n:List UInt8):∀l:List (ByteArray×α),a2o n (l.map fun p=>(p.1.data.toList,f p.2))=(Go.Kn.look (ba n) l).map f
 | []=>rfl
 | p::r=>by
  rw[List.map_cons,a2o,Go.Kn.look,d2w f n r]
  by_cases h:p.1=ba n
  · rw[if_pos h];have:n=p.1.data.toList:=by rw[h];simp[ba]
    rw[show (n==p.1.data.toList)=true by simpa using this];rfl
  · rw[if_neg h];have:n≠p.1.data.toList:=fun e=>h (by rw[e,i5s]);rw[show (n==p.1.data.toList)=false by simpa using this];rfl
theorem c6e{α:Type}(k n:ByteArray)(v:α):∀l:List (ByteArray×α),Go.Kn.look n (Go.Kn.upd k v l)=if k=n then some v else Go.Kn.look n l
 | []=>rfl
 | p::r=>by
  rw[Go.Kn.upd]
  by_cases h:p.1=k
  · rw[if_pos h,Go.Kn.look,Go.Kn.look,h]
    by_cases h2:k=n
    · rw[if_pos h2,if_pos h2]
    · rw[if_neg h2,if_neg h2,if_neg h2]
  · rw[if_neg h,Go.Kn.look,Go.Kn.look,c6e k n v r]
    by_cases h2:p.1=n
    · rw[if_pos h2,if_pos h2,if_neg (fun e=>h (by rw[h2,e]))]
    · rw[if_neg h2,if_neg h2]
theorem d9i(n:List UInt8):∀(l:List De) (s:List (List UInt8)) (acc:List (ByteArray×Int)),b0d s l→Go.Kn.look (ba n) ((l.map dcT).foldl Go.Kn.arS acc)=if 0≤arL l n then some (arL l n) else Go.Kn.look (ba n) acc
 | [],_,_,_=>rfl
 | d::r,s,acc,h=>by
  unfold b0d at h;rw[List.map_cons,List.foldl_cons,arL];split at h
  · rename_i hk;have hk1:d.kind=1:=by simpa using hk
    have e:Go.Kn.arS acc (dcT d)=Go.Kn.upd (ba d.name) (d.vars.length:Int) acc:=by unfold Go.Kn.arS dcT;simp only[hk1,if_true]
    rw[d9i n r _ _ h.2.2,e,c6e,hk,Bool.true_and]
    by_cases hn:d.name=n
    · subst hn;rw[d3s r _ h.2.2 (by simp)];simp
    · rw[show (d.name==n)=false by simpa using hn,if_neg (fun e=>hn (f9u.1 e))];simp
  · rename_i hk;have hk1:¬d.kind=1:=by simpa using hk
    have e:Go.Kn.arS acc (dcT d)=acc:=by unfold Go.Kn.arS dcT;simp only[hk1,if_false]
    rw[e,d9i n r s acc h,show (d.kind==1)=false by simpa using hk];simp
theorem e3n{l:List De}(h:b0d [] l)(n:List UInt8):a2o n (arU l)=if 0≤arD l n then some (arD l n) else none:=by
 unfold arU;rw[show (fun p:ByteArray×Int=>(p.1.data.toList,p.2))=(fun p:ByteArray×Int=>(p.1.data.toList,id p.2)) from rfl,d2w];unfold Go.Kn.arF;rw[d9i n l [] _ h];unfold arD
 by_cases hn:n=f9x
 · subst hn;rw[d9j l [] h];rfl
 · rw[show (n==[65,110,121])=false from beq_eq_false_iff_ne.2 hn];have:Go.Kn.look (ba n) [(Go.Kn.h3f,(0:Int))]=none:=by
    unfold Go.Kn.look;rw[if_neg (fun e=>hn ?_)]
    · rfl
    · have:Go.Kn.h3f=ba f9x:=rfl;rw[this] at e;exact (f9u.1 e).symm
   rw[this]
   by_cases h0:0≤arL l n
   · rw[if_pos h0];simp[h0]
   · rw[if_neg h0];simp[h0]
theorem i5r{l:List De}(h:b0d [] l)(s:List UInt8)(k:Nat):j3f (arU l) s k=(arD l s !=(k:Int)):=by
 unfold j3f;rw[e3n h]
 by_cases h0:0≤arD l s
 · rw[if_pos h0]
 · rw[if_neg h0];have:arD l s≠(k:Int):=by omega
   simpa [bne] using this.symm∘Eq.symm
theorem i3k{l:List De}(h:b0d [] l):∀(n:Nat) (t:Ty),t.sz≤n→b4z (arU l) t=d6i l t:=by
 intro n
 induction n with
 | zero=>intro t ht;have:=a2s t;omega
 | succ n ih=>
  intro t ht;have hsz:=a2s t;have key:∀r:List Ty,Ty.szs r≤n→d6h (arU l) r=c2d l r:=by
   intro r
   induction r with
   | nil=>intro _;rfl
   | cons x r ihr=>
    intro hr;rw[a3o] at hr;rw[d0f,c6l,ih x (by omega),ihr (by omega)]
  rw[e2g,e2h,i5r h,key t.args (by omega)]
theorem d8q{l:List De}(h:b0d [] l)(t:Ty):b6v (arU l) t=b6w l t:=by
 unfold b6v b6w;rw[i3k h _ t (Nat.le_refl _)]
mutual
def skT:Ty→Ty
 | .mk k s _ l=>if k==1 then .mk 1 [] 0 [] else .mk k (if k==5 then [] else s) 0 (skL l)
def skL:List Ty→List Ty
 | []=>[]
 | t::l=>skT t::skL l
end
theorem a5r(k:Int)(s:List UInt8)(m:Int)(l:List Ty):skT (.mk k s m l)=if k==1 then .mk 1 [] 0 [] else .mk k (if k==5 then [] else s) 0 (skL l):=rfl
theorem a4v(t:Ty)(l:List Ty):skL (t::l)=skT t::skL l:=rfl
theorem c0b:∀l:List Ty,skL l=l.map skT
 | []=>rfl
 | t::l=>by rw[a4v,List.map_cons,c0b l]
theorem c2y{g:Ty→Ty}:∀l:List Ty,(∀x∈l,skT (g x)=skT x)→skL (l.map g)=skL l
 | [],_=>rfl
 | t::l,h=>by rw[List.map_cons,a4v,a4v,h t (List.mem_cons_self ..),c2y l fun x hx=>h x (List.mem_cons_of_mem _ hx)]
theorem e0c:∀(n:Nat) (t:Ty) (a b:List UInt8),skT (b6u n t a b)=skT t
 | 0,t,_,_=>rfl
 | n+1,.mk k s m l,a,b=>by
  unfold b6u;split
  · rename_i h;simp only[Bool.and_eq_true] at h;rw[a5r,a5r,h.1];rfl
  · split
    · rfl
    · split
      · rename_i h;simp only[Bool.and_eq_true] at h;split
        · rename_i x;have hk:k=5:=by simpa using h.1
          subst hk;rw[a5r,a5r,a4v,a4v,e0c n,e0c n];rfl
        · rfl
      · rw[a5r,a5r,c2y l fun x _=>e0c n x a b]
theorem f1h:∀(n:Nat) (t:Ty) (a b:List UInt8),skT (b2u n t a (.mk 1 b 0 []))=skT t
 | 0,t,_,_=>rfl
 | n+1,.mk k s m l,a,b=>by
  unfold b2u;split
  · rfl
  · split
    · rename_i h;simp only[Bool.and_eq_true] at h;rw[a5r,a5r,h.1];rfl
    · split
      · rename_i h;simp only[Bool.and_eq_true] at h;split
        · rename_i x;have hk:k=5:=by simpa using h.1
          subst hk;rw[a5r,a5r,a4v,a4v,f1h n,e0c n];rfl
        · rfl
      · rw[a5r,a5r,c2y l fun x _=>f1h n x a b]
theorem h2j:∀(n:Nat) (t:Ty) (a b:List UInt8),skT (c8a n t a (.mk 1 b 0 []))=skT t
 | 0,t,_,_=>rfl
 | n+1,.mk k s m l,a,b=>by
  unfold c8a;split
  · rename_i h;simp only[Bool.and_eq_true] at h;rw[a5r,a5r,h.1.1];rfl
  · rw[a5r,a5r,c2y l fun x _=>h2j n x a b]
theorem d7v(g:Ty→Nat→Ty×Nat):∀(l:List Ty) (k:Nat),(∀x∈l,∀k,skT (g x k).1=skT x)→skL (b1q g l k).1=skL l
 | [],k,_=>rfl
 | t::l,k,h=>by
  rw[b1q,a4v,a4v,h t (List.mem_cons_self ..),d7v g l _ fun x hx=>h x (List.mem_cons_of_mem _ hx)]
theorem f1j(c:UInt8)(but:List (List UInt8)):∀(n:Nat) (t:Ty) (es:List (List UInt8×List UInt8)) (k:Nat),skT (b2l c but n t es k).1=skT t
 | 0,t,_,_=>rfl
 | n+1,.mk q s m l,es,k=>by
  rw[b2l];split
  · rename_i h;rw[a5r,a5r,h];rfl
  · split
    · rename_i h;have hq:q=5:=by simpa using h
      subst hq;rw[a5r,a5r,d7v _ l _ fun x _ j=>f1j c but n x _ j];rfl
    · rw[a5r,a5r,d7v _ l _ fun x _ j=>f1j c but n x es j]
theorem h6f(t:Ty)(a b:List UInt8):skT (putD t a (.mk 1 b 0 []))=skT t:=by
 unfold putD;rw[h2j];unfold b9n;rw[f1j]
theorem f1k(t:Ty):(skT t).kind=t.kind:=by
 cases t with
 | mk k s m l=>
  rw[a5r];split
  · rename_i h;have:k=1:=by simpa using h
    exact this.symm
  · rfl
theorem d7u{t u:Ty}(h:skT t=skT u):t.kind=u.kind∧((t.kind==1)=false→skL t.args=skL u.args∧((t.kind==5)=false→t.name=u.name)):=by
 have hk:t.kind=u.kind:=by rw[←f1k t,←f1k u,h]
 refine⟨hk,fun h1=>?_⟩;cases t with
 | mk k s m l=>
  cases u with
  | mk k' s' m' l'=>
   simp only[Ty.kind] at hk h1;subst hk;rw[a5r,a5r,h1] at h;simp only[Bool.false_eq_true,if_false,Ty.mk.injEq,true_and] at h;refine⟨h.2,fun h5=>?_⟩;simp only[Ty.kind] at h5;rw[h5] at h;have:s=s':=by simpa using h.1
   exact this
theorem h2k{l l':List Ty}(h:skL l=skL l'):l.length=l'.length:=by
 rw[c0b,c0b] at h;have:=congrArg List.length h;simpa using this
theorem f1i(c:UInt8)(but:List (List UInt8)):∀(n:Nat) (t u:Ty) (i:Nat),skT t=skT u→(a9y c but n t i).1=(b0y c but n u i).1∧skT (a9y c but n t i).2=skT (b0y c but n u i).2
 | 0,t,u,i,h=>⟨rfl,h⟩
 | n+1,.mk k s m l,.mk k' s' m' l',i,h=>by
  obtain⟨hk,h2⟩:=d7u h;simp only[Ty.kind] at hk h2;subst hk;cases h5:k==5
  · rw[c5j c but _ _ _ (by simpa [Ty.kind] using h5),c0l c but _ _ _ (by simpa [Ty.kind] using h5)];exact⟨rfl,h⟩
  · have hk5:k=5:=by simpa using h5
    subst hk5;obtain⟨h3,_⟩:=h2 rfl;simp only[Ty.args] at h3;have hl:=h2k h3
    match l,l',hl with
    | [],[],_=>exact⟨rfl,h⟩
    | [x],[y],_=>
     have hxy:skT x=skT y:=by rw[a4v,a4v] at h3;injection h3
     have ih:=f1i c but n (b2u x.sz x s (.mk 1 (a2u c (a4a c but i)) 0 [])) (putD y s' (.mk 1 (a2u c (a4a c but i)) 0 [])) (a4a c but i+1) (by rw[f1h,h6f,hxy]);show (_::_:List (List UInt8))=_::_∧_
     exact⟨by rw[ih.1],ih.2⟩
    | x::x2::r,y::y2::r',_=>exact⟨rfl,h⟩
theorem j0k:∀(n:Nat) (t:Ty),t.sz≤n→GT t→(skT t).sz=t.sz:=by
 intro n
 induction n with
 | zero=>intro t h;have:=a2s t;omega
 | succ n ih=>
  intro t hn hg;cases hg with
  | var s hs=>rfl
  | unk m h1 h2=>rfl
  | con s l hs hl=>
   rw[a0y] at hn;rw[a5r];show (Ty.mk 3 s 0 (skL l)).sz=_
   rw[a0y,a0y,c0b];refine congrArg (· +1) (c8s (by simp) fun i x y hx hy=>?_);simp[hx] at hy;subst hy;have hm:=List.mem_of_getElem? hx;have:=a2w hm;exact ih x (by omega) (hl x hm)
  | fn x y hx hy=>
   rw[a0y,a1h] at hn;show (Ty.mk 4 [] 0 [skT x,skT y]).sz=_
   rw[a0y,a0y,a1h,a1h,ih x (by omega) hx,ih y (by omega) hy]
  | all s x hs hx=>
   rw[a0y,a1l] at hn;show (Ty.mk 5 [] 0 [skT x]).sz=_
   rw[a0y,a0y,a1l,a1l,ih x (by omega) hx]
theorem j0l:∀(n:Nat) (t u:Ty) (acc acc':List Ty),skT t=skT u→skL acc=skL acc'→skL (spF n t acc).1=skL (spF n u acc').1∧skT (spF n t acc).2=skT (spF n u acc').2
 | 0,t,u,_,_,h,h2=>⟨h2,h⟩
 | n+1,.mk k s m l,.mk k' s' m' l',acc,acc',h,h2=>by
  obtain⟨hk,h3⟩:=d7u h;simp only[Ty.kind] at hk h3;subst hk;cases h4:k==4
  · rw[b1c _ _ _ (by simpa [Ty.kind] using h4),b1c _ _ _ (by simpa [Ty.kind] using h4)];exact⟨h2,h⟩
  · have hk4:k=4:=by simpa using h4
    subst hk4;obtain⟨h5,_⟩:=h3 rfl;simp only[Ty.args] at h5;have hl:=h2k h5
    match l,l',hl with
    | [],[],_=>exact⟨h2,h⟩
    | [x],[y],_=>exact⟨h2,h⟩
    | [x,x2],[y,y2],_=>
     rw[a4v,a4v,a4v,a4v] at h5;injection h5 with e1 e2;injection e2 with e2 _;have e3:skL (acc++[x])=skL (acc'++[y]):=by
      rw[c0b,c0b] at h2⊢;rw[List.map_append,List.map_append,h2,List.map_cons,List.map_cons,e1]
     exact j0l n x2 y2 (acc++[x]) (acc'++[y]) e2 e3
    | x::x2::x3::r,y::y2::y3::r',_=>exact⟨h2,h⟩
theorem h6g:∀(n:Nat) (t:Ty),t.sz≤n→GT t→b0o (skT t)=b0o t:=by
 intro n
 induction n with
 | zero=>intro t h;have:=a2s t;omega
 | succ n ih=>
  intro t hn hg;have key:∀l:List Ty,(∀x∈l,GT x)→Ty.szs l≤n→b0p (skL l)=b0p l:=by
   intro l
   induction l with
   | nil=>intro _ _;rfl
   | cons x r ihr=>
    intro h1 h2;rw[a3o] at h2;rw[a4v,a8q,a8q,ih x (by omega) (h1 x (List.mem_cons_self ..)),ihr (fun y hy=>h1 y (List.mem_cons_of_mem _ hy)) (by omega)]
  cases hg with
  | var s hs=>rfl
  | unk m h1 h2=>rfl
  | con s l hs hl=>
   rw[a0y] at hn;show b0o (.mk 3 s 0 (skL l))=_
   rw[c3n,c3n,key l hl (by omega)]
  | fn x y hx hy=>
   rw[a0y] at hn;show b0o (.mk 4 [] 0 (skL [x,y]))=_
   rw[c3n,c3n,key [x,y] (fun z hz=>by simp at hz;rcases hz with rfl|rfl;exact hx;exact hy) (by omega)]
  | all s x hs hx=>rfl
theorem d1r:∀l:List Ty,(∀x∈l,GT x)→b0p (skL l)=b0p l
 | [],_=>rfl
 | x::r,h=>by rw[a4v,a8q,a8q,h6g _ x (Nat.le_refl _) (h x (List.mem_cons_self ..)),d1r r fun y hy=>h y (List.mem_cons_of_mem _ hy)]
theorem d2s(names:List (List UInt8)):∀(l:List Ty) (i:Nat) (c:List (List UInt8)) (g:List Nat),(mk1 names l i c g).isRight= !b0p l
 | [],_,_,_=>rfl
 | t::r,i,c,g=>by
  rw[d2t,a8q];cases hp:b0o t
  · simp only[Bool.false_eq_true,if_false,Bool.false_or];split
    · exact d2s names r _ _ _
    · exact d2s names r _ _ _
  · rfl
theorem f3x(d:De)(c:Co)(names:List (List UInt8))(args ts:List Ty)(x:Nat ⊕ (List (List UInt8)×List Nat)):(e5g d c names args ts x).2=x.isRight:=by cases x<;>rfl
theorem e5f(d:De)(c:Co)(names:List (List UInt8))(args ts:List Ty)(x:Nat ⊕ (List (List UInt8)×List Nat)):(e5g d c names args ts x).1.name=c.name∧(e5g d c names args ts x).1.data=d.name:=by cases x<;>exact⟨rfl,rfl⟩
theorem e5e(d:De)(c:Co):(b2w d c).1.name=c.name∧(b2w d c).1.data=d.name:=by
 unfold b2w;simp only;split
 · exact e5f ..
 · exact⟨rfl,rfl⟩
theorem f3v(d:De)(c:Co)(hg:GT c.ty)(hb:c.ty.sz<12000):(b7u d c).isSome=(b2w d c).2:=by
 have hfl:=a3p _ c.ty (Nat.le_refl _) [] [];simp only[List.length_nil,Nat.zero_add] at hfl;have hbd:c.ty.sz*((a0r c.ty [] []).length+1)≤900000000:=Nat.le_trans (Nat.mul_le_mul (show c.ty.sz≤12000 by omega) (show _≤12001 by omega)) (by omega);obtain⟨g1,s1,_,_⟩:=d2k 112 (a0r c.ty [] []) c.ty.sz c.ty 0 (Nat.le_refl _) hg (by omega) (by omega);obtain⟨g2,s2,_,_⟩:=e1e 112 (a0r c.ty [] []) c.ty.sz c.ty 0 (Nat.le_refl _) hg (by omega) (by omega);obtain⟨e1,e2⟩:=f1i 112 (a0r c.ty [] []) c.ty.sz c.ty c.ty 0 rfl;unfold b7u b2w;simp only;generalize a9y 112 (a0r c.ty [] []) c.ty.sz c.ty 0=p at *;generalize b0y 112 (a0r c.ty [] []) c.ty.sz c.ty 0=q at *;have hsz:p.2.sz=q.2.sz:=by rw[←j0k _ p.2 (Nat.le_refl _) g1,←j0k _ q.2 (Nat.le_refl _) g2,e2]
 rw[hsz];obtain⟨_,e3⟩:=j0l q.2.sz p.2 q.2 [] [] e2 rfl;obtain⟨h1,_,_,_⟩:=c4t q.2.sz p.2 [] (by omega) g1 (fun x hx=>by cases hx) (by omega);obtain⟨h2,_,_,_⟩:=c4t q.2.sz q.2 [] (by omega) g2 (fun x hx=>by cases hx) (by omega);generalize spF q.2.sz p.2 []=a at *;generalize spF q.2.sz q.2 []=b at *;obtain⟨hk,h4⟩:=d7u e3;rw[hk];cases k3:b.2.kind==3
 · rfl
 · have kk:a.2.kind=3:=by rw[hk];simpa using k3
   obtain⟨h5,h6⟩:=h4 (by rw[kk];rfl);rw[h6 (by rw[kk];rfl)];have hp:b0p a.2.args=b0p b.2.args:=by rw[←d1r _ h1.args,←d1r _ h2.args,h5]
   rw[hp];cases kn:b.2.name==d.name
   · rfl
   · simp only[Bool.true_and,Bool.and_self,if_true];rw[f3x,d2s];cases b0p b.2.args<;>rfl
theorem e4o(s:List UInt8):∃(w:Ty) (e:Int),den E 34 [.str s] []=some (.tup [tyV w,.int .i64 e],[])∧∀l t,a5d s=(l,0)→tyR F0 .typ l=some (t,true,[])→t.depth≤50→w=t:=by
 obtain⟨pos,hT⟩:=d1u s;have hsc:=c1x s;rw[hT] at hsc;obtain⟨h1,h2⟩:=b8q s;cases h0:(a5d s).2 !=0
 · have h00:(a5d s).2=0:=by rw[b0v] at h0;simpa using h0
   obtain⟨⟨t,ok,l'⟩,hr⟩:=d7q F0 .typ (a5d s).1 (by unfold F0;simp only[b2s];omega);obtain⟨t',j,hd,hRR⟩:=f0j (a5d s).1 (k0o h2) (by omega) F0 .typ 0 (t,ok,l') (Nat.zero_le _) (by rw[List.drop_zero];exact hr);have k:=a0w (a5d s).1;rw[Int.natCast_zero] at hd;cases hj:(j !=((a5d s).1.length:Int))
   · have hje:j=((a5d s).1.length:Int):=by rw[b0v] at hj;simpa using hj
     cases ok with
     | false=>
      have:=b9q hRR;omega
     | true=>
      obtain⟨rfl,hj2⟩:=c7w hRR;have ok:=f0k F0 .typ _ t' l' h2 hr;have ok:GT t'∧t'.sz+l'.length≤(a5d s).1.length:=ok;have hl0:l'=[]:=by
       have:l'.length=0:=by omega
       exact List.eq_nil_of_length_eq_zero this
      have dd:=b5y _ t' (Nat.le_refl _) (by omega);have td:=c8p t';rw[a0a] at hd dd;cases hdp:decide (t'.depth>50)
      · refine⟨t',0,?_,fun l t hl ht _=>?_⟩
        · rw[hdp] at td;rw[a0d d2g,d3m,a0a];simp only[go_sem,Tryz.f34,hsc,h0,hd,k,hj,dd,td]
        · have e1:l=(a5d s).1:=by rw[hl]
          rw[e1,hr] at ht;injection ht with ht;injection ht
      · refine⟨zTy,3,?_,fun l t hl ht hd2=>?_⟩
        · rw[hdp] at td;rw[a0d d2g,d3m,b9r];simp only[go_sem,Tryz.f34,hsc,h0,hd,k,hj,dd,td]
        · have e1:l=(a5d s).1:=by rw[hl]
          rw[e1,hr] at ht;injection ht with ht;injection ht with ht;rw[←ht] at hd2;have:t'.depth>50:=by simpa using hdp
          omega
   · refine⟨zTy,20,?_,fun l t2 hl ht hd2=>?_⟩
     · rw[a0a] at hd;rw[a0d d2g,d3m,b9r];simp only[go_sem,Tryz.f34,hsc,h0,hd,k,hj]
     · exfalso;have e1:l=(a5d s).1:=by rw[hl]
       rw[e1,hr] at ht;injection ht with ht;injection ht with e2 e3;injection e3 with e3 e4;subst e2 e3 e4;obtain⟨_,hj2⟩:=c7w hRR;rw[hj2] at hj;simp[bne] at hj
 · refine⟨zTy,(a5d s).2,?_,fun l t hl ht _=>?_⟩
   · rw[a0d d2g,d3m,b9r];simp only[go_sem,Tryz.f34,hsc,h0]
   · rw[hl] at h0;cases h0
theorem e3u(ar:List (List UInt8×Int))(cs co:List AVal)(n:List UInt8):den E 35 [.ptr (.par 0) 0,.str n] [b1v ar cs co]=some (.tup [.int .i64 ((a2o n ar).getD 0),.bool (a2o n ar).isSome],[b1v ar cs co]):=by
 have hf:=a8e g0f n ar;rw[a0d i1u,i5i];cases hk:a2o n ar with
 | none=>
  rw[hk] at hf;simp only[Option.map_none] at hf;simp only[go_sem,Tryz.f35,hf]
  all_goals rfl
 | some x=>
  rw[hk] at hf;simp only[Option.map_some,g0f] at hf;simp only[go_sem,Tryz.f35,hf]
  all_goals rfl
theorem e9d(l:List (List UInt8))(h:l.length≤1073741824):den E 96 [.slice (l.map .str)] []=some (.slice (l.map .str),[]):=by
 have hs:∀l:List (List UInt8),c2l (l.map .str)=some (l.map ba):=by
  intro l
  induction l with
  | nil=>rfl
  | cons x l ih=>rw[List.map_cons,c2l,ih];rfl
 have hb:∀l:List (List UInt8),(l.map ba).map d3x=l.map .str:=by
  intro l
  induction l with
  | nil=>rfl
  | cons x l ih=>rw[List.map_cons,List.map_cons,List.map_cons,ih];rfl
 rw[a8x i0v];unfold b3d;simp only[hs,Option.bind_some];rw[if_pos (by rw[List.length_map];exact h),hb]
theorem f0v(ar:List (List UInt8×Int))(cs:List (List UInt8×List (List UInt8)))(co:List AVal)(n:List UInt8)(h:((a2o n cs).getD []).length≤1073741824):
 den E 37 [.ptr (.par 0) 0,.str n] [b1v ar (a8w lsA cs) co]=some (.slice (((a2o n cs).getD []).map .str),[b1v ar (a8w lsA cs) co]):=by
 have hf:=a8e lsA n cs;have dc:=e9d _ h;rw[a0d i1s,i5g];cases hk:a2o n cs with
 | none=>
  rw[hk] at hf dc;simp only[Option.map_none,Option.getD_none,List.map_nil] at hf dc;simp only[go_sem,Tryz.f37,hf,dc]
  all_goals rfl
 | some x=>
  rw[hk] at hf dc;simp only[Option.map_some,Option.getD_some,lsA] at hf dc;simp only[go_sem,Tryz.f37,hf,dc]
  all_goals rfl
def c8j(n:List UInt8):List CX→CX×Bool
 | []=>(zCX,false)
 | x::r=>if x.name==n then (x,true) else c8j n r
theorem d8e(l:List CX)(n:List UInt8)(hl:l.length<1000000):den E 38 [.slice (l.map b2h),.str n] []=some (.tup [.agg (xcC (c8j n l).1),.bool (c8j n l).2],[]):=by
 rw[a0d i1r,i5f];simp only[go_sem,Tryz.f38];refine a0o (fun i:Nat=>i≤l.length) (fun i=>⟨[(0,.slice (l.map b2h)),(1,.str n),(4,.ptr (.loc 4) 0),(6,.int .i64 i)],[],[(4,zBD)],1⟩) (fun i=>some (.tup [.agg (xcC (c8j n (l.drop i)).1),.bool (c8j n (l.drop i)).2],[])) (fun i=>l.length - i) 0 (Nat.zero_le _) ?_ ?_
 · simp only[go_sem]
 · intro i hi h
   by_cases hlt:i<l.length
   · obtain⟨x,hx⟩:=a6v hlt;rw[a2a hx,c8j];have w1:IntKind.i64.wrap ((i:Int)+1)=((i+1:Nat):Int):=a0z (i+1) (by omega);have hxl:(l.map b2h)[i]? =some (b2h x):=by simp[hx]
     cases hq:x.name==n
     · simp only[go_sem,List.length_map,a0e,decide_eq_true hlt,a0c,a0i,hxl,b2h,xcC,hq];refine h (i+1) _ (by omega) (by omega) ?_;simp only[go_sem,w1]
     · simp only[go_sem,List.length_map,a0e,decide_eq_true hlt,a0c,a0i,hxl,b2h,xcC,hq]
   · have hie:i=l.length:=by omega
     subst hie;rw[List.drop_length];simp only[go_sem,List.length_map,a0e,Nat.lt_irrefl,c8j,xcC,zCX,zTy,List.map_nil,b0r,b0q,f3i,b3i,a0f]
def d7a(l:List De)(n:List UInt8):List (List UInt8):=l.flatMap fun d=>if d.kind==1&&d.name==n then d.cons.map Co.name else []
theorem d7j(k n:ByteArray):∀(l:List ByteArray) (cs:List (ByteArray×List ByteArray)),(Go.Kn.look n (Go.Kn.e3p k cs l)).getD []=if k=n then (Go.Kn.look n cs).getD []++l else (Go.Kn.look n cs).getD []
 | [],cs=>by
  show (Go.Kn.look n cs).getD []=_
  split
  · rw[List.append_nil]
  · rfl
 | x::l,cs=>by
  have ih:=d7j k n l (Go.Kn.upd k ((Go.Kn.look k cs).getD []++[x]) cs);have e:Go.Kn.e3p k cs (x::l)=Go.Kn.e3p k (Go.Kn.upd k ((Go.Kn.look k cs).getD []++[x]) cs) l:=rfl;rw[e,ih,c6e]
  by_cases h:k=n
  · subst h;rw[if_pos rfl,if_pos rfl,if_pos rfl,Option.getD_some,List.append_assoc,List.singleton_append]
  · rw[if_neg h,if_neg h,if_neg h]
theorem f8y(n:List UInt8):∀(l:List De) (cs:List (ByteArray×List ByteArray)),(Go.Kn.look (ba n) ((l.map dcT).foldl Go.Kn.csS cs)).getD []=(Go.Kn.look (ba n) cs).getD []++(d7a l n).map ba
 | [],cs=>by simp[d7a]
 | d::r,cs=>by
  rw[List.map_cons,List.foldl_cons,f8y n r];have e:d7a (d::r) n=(if d.kind==1&&d.name==n then d.cons.map Co.name else [])++d7a r n:=rfl;rw[e,List.map_append,←List.append_assoc]
  congr 1
  unfold Go.Kn.csS dcT
  by_cases hk:d.kind=1
  · simp only[hk,if_true];rw[d7j]
    by_cases hn:d.name=n
    · subst hn;rw[if_pos rfl];simp[Function.comp_def]
    · rw[if_neg (fun e=>hn (f9u.1 e)),show (d.name==n)=false by simpa using hn];simp
  · simp only[hk,if_false];rw[show (d.kind==1)=false by simpa using hk];simp
theorem g7z(l:List De)(n:List UInt8):(a2o n (csU l)).getD []=d7a l n:=by
 unfold csU;rw[d2w (fun x:List ByteArray=>x.map fun s=>s.data.toList)];have h:=f8y n l [];unfold Go.Kn.csF;have e:∀o:Option (List ByteArray),(o.map fun x=>x.map fun s=>s.data.toList).getD []=(o.getD []).map fun s=>s.data.toList:=fun o=>by cases o<;>rfl
 rw[e,h];simp[Go.Kn.look,Function.comp_def,ba]
def g5f(l:List De):List (List UInt8×List UInt8):=l.flatMap fun d=>d.cons.map fun c=>(c.name,d.name)
def nmD(x:CX):List UInt8×List UInt8:=(x.name,x.data)
theorem d5r{α:Type}(k n:List UInt8)(v:α):∀l:List (List UInt8×α),a2o n (b6s k v l)=if n=k then some v else a2o n l
 | []=>by
  by_cases h:n=k
  · subst h;simp[b6s,a2o]
  · simp[b6s,a2o,h]
 | p::r=>by
  rw[b6s];cases h:k==p.1
  · simp only[Bool.false_eq_true,if_false,a2o];cases h2:n==p.1
    · simp only[Bool.false_eq_true,if_false];exact d5r k n v r
    · simp only[if_true];have e1:n=p.1:=by simpa using h2
      have e2:k≠p.1:=by simpa using h
      rw[if_neg (fun e=>e2 (by rw[←e,e1]))]
  · simp only[if_true,a2o];have e1:k=p.1:=by simpa using h
    by_cases h2:n=k
    · rw[if_pos h2,show (n==k)=true by simpa using h2];rfl
    · rw[if_neg h2,show (n==k)=false by simpa using h2];simp only[Bool.false_eq_true,if_false];rw[show (n==p.1)=false by rw[←e1];simpa using h2];rfl
theorem d6x{l:List De}(hu:b0d [] l)(d:De):∀(cs:List Co) (i:Nat) (m m':c1q) (out:List CX),(∀c∈cs,GT c.ty∧c.ty.sz<12000)→(∀n,(a2o n m).isSome=out.any fun x=>x.name==n)→b8a (arU l) d cs i m=.inr m'→
 ∃out',c2r l d cs i out=.inr (out++out')∧out'.map nmD=cs.map (fun c=>(c.name,d.name))∧∀n,(a2o n m').isSome=(out++out').any fun x=>x.name==n
 | [],i,m,m',out,_,hk,h=>by
  have h:(.inr m:(List UInt8×Int) ⊕ c1q)=.inr m':=h;injection h with h;subst h;exact⟨[],by rw[List.append_nil];rfl,rfl,by simpa using hk⟩
 | c::r,i,m,m',out,hg,hk,h=>by
  rw[b6h] at h;rw[c1g,←d8q hu];split at h
  · rename_i hz;rw[if_pos hz];obtain⟨g1,g2⟩:=hg c (List.mem_cons_self ..);have hs:=f3v d c g1 g2;cases hm:b7u d c with
    | none=>rw[hm] at h;simp only at h;cases h
    | some x=>
     rw[hm] at h hs;simp only at h;rw[←hs];simp only[Option.isSome_some,if_true];obtain⟨n1,n2⟩:=e5e d c;obtain⟨out',q1,q2,q3⟩:=d6x hu d r (i+1) _ m' (out++[{(b2w d c).1 with tag:=(i:Int)}]) (fun y hy=>hg y (List.mem_cons_of_mem _ hy)) (fun n=>by
      rw[d5r,List.any_append,←hk n]
      by_cases hn:n=c.name
      · rw[if_pos hn];subst hn;simp[n1]
      · rw[if_neg hn];have:(c.name==n)=false:=by simpa using fun e=>hn e.symm
        simp[n1,this]) h
     refine⟨{(b2w d c).1 with tag:=(i:Int)}::out',by rw[q1,List.append_assoc,List.singleton_append],?_,fun n=>?_⟩
     · rw[List.map_cons,List.map_cons,q2];unfold nmD;simp only[n1,n2]
     · rw[q3 n,List.append_assoc,List.singleton_append]
  · cases h
theorem e2u{q:List De}(hu:b0d [] q):∀(l:List De) (m m':c1q) (out:List CX),(∀d∈l,∀c∈d.cons,GT c.ty∧c.ty.sz<12000)→(∀n,(a2o n m).isSome=out.any fun x=>x.name==n)→g7w (arU q) l m=.inr m'→
 ∃out',h2z q l out=.inr (out++out')∧out'.map nmD=g5f l∧∀n,(a2o n m').isSome=(out++out').any fun x=>x.name==n
 | [],m,m',out,_,hk,h=>by
  have h:(.inr m:(List UInt8×Int) ⊕ c1q)=.inr m':=h;injection h with h;subst h;exact⟨[],by rw[List.append_nil];rfl,rfl,by simpa using hk⟩
 | d::r,m,m',out,hg,hk,h=>by
  rw[c6v] at h;rw[d6p,←d8q hu];split at h
  · cases h
  · rename_i hb;rw[if_neg hb];cases hc:b8a (arU q) d d.cons 0 m with
    | inl e=>rw[hc] at h;simp only at h;cases h
    | inr m2=>
     rw[hc] at h;simp only at h;obtain⟨o1,p1,p2,p3⟩:=d6x hu d d.cons 0 m m2 out (fun c hc=>hg d (List.mem_cons_self ..) c hc) hk hc;rw[p1];simp only;obtain⟨o2,q1,q2,q3⟩:=e2u hu r m2 m' (out++o1) (fun e he=>hg e (List.mem_cons_of_mem _ he)) p3 h;refine⟨o1++o2,by rw[q1,List.append_assoc],?_,fun n=>by rw[q3 n,List.append_assoc]⟩;rw[List.map_append,p2,q2];rfl
theorem g5m{l:List De}(hu:b0d [] l)(hg:∀d∈l,∀c∈d.cons,GT c.ty∧c.ty.sz<12000){m:c1q}(h:d2q l=.inr m):∃out,j2j l=.inr out∧out.map nmD=g5f l∧∀n,(a2o n m).isSome=out.any fun x=>x.name==n:=by
 obtain⟨out,q1,q2,q3⟩:=e2u hu l [] m [] hg (fun n=>rfl) h;exact⟨out,by unfold j2j;rw[q1,List.nil_append],q2,fun n=>by rw[q3 n,List.nil_append]⟩
theorem e2k(n:List UInt8):∀l:List CX,(c8j n l).2=l.any fun x=>x.name==n
 | []=>rfl
 | x::r=>by
  rw[c8j,List.any_cons];cases h:x.name==n
  · simp only[Bool.false_eq_true,if_false,Bool.false_or];exact e2k n r
  · simp
def ofN(n:List UInt8)(l:List CX):List (List UInt8):=(l.filter fun x=>x.data==n).map CX.name
theorem j2h(n:List UInt8)(l:List CX):ofN n l=((l.map nmD).filter fun p=>p.2==n).map Prod.fst:=by
 unfold ofN;rw[List.filter_map,List.map_map];rfl
theorem f2v(n:List UInt8):∀l:List De,(∀d∈l,(d.kind==1)=false→d.cons=[])→((g5f l).filter fun p=>p.2==n).map Prod.fst=d7a l n
 | [],_=>rfl
 | d::r,h=>by
  have e1:g5f (d::r)=(d.cons.map fun c=>(c.name,d.name))++g5f r:=rfl;have e2:d7a (d::r) n=(if d.kind==1&&d.name==n then d.cons.map Co.name else [])++d7a r n:=rfl;rw[e1,e2,List.filter_append,List.map_append,f2v n r fun x hx=>h x (List.mem_cons_of_mem _ hx)]
  congr 1
  cases hk:d.kind==1
  · rw[h d (List.mem_cons_self ..) hk];rfl
  · rw[Bool.true_and];cases hn:d.name==n
    · rw[List.filter_eq_nil_iff.2 (fun p hp=>by
       obtain⟨c,_,rfl⟩:=List.mem_map.1 hp;simp[hn])]
      rfl
    · rw[List.filter_eq_self.2 (fun p hp=>by
       obtain⟨c,_,rfl⟩:=List.mem_map.1 hp;exact hn),List.map_map]
      rfl
theorem g5i(n:List UInt8){l:List CX}{i:Nat}{x:CX}(h:l[i]? =some x):ofN n (l.take (i+1))=ofN n (l.take i)++if x.data==n then [x.name] else []:=by
 rw[a4c h];unfold ofN;rw[List.filter_append,List.map_append]
 congr 1
 cases hx:x.data==n
 · simp[hx]
 · simp[hx]
theorem f3c(n:List UInt8)(l:List CX)(i:Nat):ofN n l=ofN n (l.take i)++ofN n (l.drop i):=by
 unfold ofN;rw[←List.map_append,←List.filter_append,List.take_append_drop]
theorem g5e(l:List De):(g5f l).length≤De.sum l:=by
 induction l with
 | nil=>simp[g5f]
 | cons d r ih=>
  have e1:g5f (d::r)=(d.cons.map fun c=>(c.name,d.name))++g5f r:=rfl;have e2:De.sum (d::r)=d.tot+De.sum r:=by simp[De.sum]
  rw[e1,List.length_append,List.length_map,e2];have:d.cons.length≤d.tot:=by unfold De.tot;omega
  omega
theorem f0i(s u nm:List UInt8):den E 7 [.str s,.str u,.str nm] []=some (.bool true,[]):=by
 have ha:=f9v;obtain⟨p,hp⟩:=e4v s;have dr:=e0o hp;unfold g1m at dr;obtain⟨w,e2,dw,hw⟩:=e4o u;rw[a0a] at dw;rw[a0d j2d,j3a];rcases f0n u with⟨e,he,du⟩| ⟨l,v,hl1,hl2,hl3,hgv,hsv,du⟩
 · rw[b9r] at du;cases h0:(p.2 !=0)
   · rw[h0] at dr;simp only[Bool.false_eq_true,if_false] at dr;cases hc:(h3b p.1).2==0
     · rw[hc] at dr;simp only[go_sem,Tryz.f7,ha,dr,du,dw]
     · rw[hc] at dr;simp only[go_sem,Tryz.f7,ha,dr,du,dw,he]
   · rw[h0] at dr;simp only[if_true] at dr;simp only[go_sem,Tryz.f7,ha,dr,du,dw]
 · rw[a0a] at du;obtain rfl:=hw l v hl1 hl2 hl3;cases h0:(p.2 !=0)
   · rw[h0] at dr;simp only[Bool.false_eq_true,if_false] at dr;cases hc:(h3b p.1).2==0
     · rw[hc] at dr;simp only[go_sem,Tryz.f7,ha,dr,du,dw]
     · rw[hc] at dr;have h00:p.2=0:=by rw[b0v] at h0;simpa using h0
       have key:=c0m hp h00;have dn:=f3g p.1 key.1 key.2;have hne:((0:Int)!=0)=false:=rfl;cases hn:d2q p.1 with
       | inl e=>
        rw[hn] at dn;unfold i2m at dn;simp only at dn;simp only[go_sem,Tryz.f7,ha,dr,du,dw,dn,hne]
       | inr m=>
        rw[hn] at dn;unfold i2m b1v at dn;simp only at dn;have hu:=g8f (l:=p.1) (by simpa using hc);have hcon:∀d∈p.1,∀c∈d.cons,GT c.ty∧c.ty.sz<12000:=fun d hd c hcm=>by
         have hm:=a9i hd;have h1:c.ty.sz≤Ty.szs (d.cons.map Co.ty):=c1f hcm;have h2:=a9k d.val;have h3:=key.2;unfold De.tot at hm;refine⟨?_,by omega⟩;have hgd:=key.1 d hd;cases hgd with
         | data s vs cs _ _ h3=>exact (h3 c hcm).2
         | sig _ _ _ _=>cases hcm
         | bind _ _ _ _=>cases hcm
        have hemp:∀d∈p.1,(d.kind==1)=false→d.cons=[]:=fun d hd hk=>by
         have hgd:=key.1 d hd;cases hgd with
         | data s vs cs _ _ h3=>cases hk
         | sig _ _ _ _=>rfl
         | bind _ _ _ _=>rfl
        obtain⟨out,ho1,ho2,ho3⟩:=g5m hu hcon hn;have drn:=e4r p.1 key.1 key.2;rw[ho1] at drn;unfold g5n at drn;simp only at drn;have hgd:=d8q hu w;have hal:=e3n hu nm;have hcl:=g7z p.1 nm;have hof:=f2v nm p.1 hemp;rw[←ho2,←j2h] at hof;have hol:=g5e p.1;rw[←ho2,List.length_map] at hol;have hfa:=e2k nm out;rw[←ho3 nm] at hfa;have hk2:=key.2;have hlen:=b2g p.1;generalize arU p.1=ar at *;generalize csU p.1=cs at *;obtain⟨L,hL⟩:∃L,L=p.1:=⟨_,rfl⟩
        rw[←hL] at dr dn drn hgd hal hcl hof hol hk2 hlen;rw[←hof] at hcl;have holn:(ofN nm out).length≤out.length:=by unfold ofN;rw[List.length_map];exact List.length_filter_le ..
        have g1:=c3r ar (a8w lsA cs) (a8w b2h m) w (by omega);have g2:=e3u ar (a8w lsA cs) (a8w b2h m) nm;have g3:=c2b L nm (by omega);have g4:=f0v ar cs (a8w b2h m) nm (by rw[hcl];omega);have g5:=d9s ar (a8w lsA cs) m nm;have g6:=d8e out nm (by omega);have g7:=b2t L (by omega) w (.inl hgv) (by omega);rw[hcl] at g4;rw[a0a] at g1 g7;unfold b1v at g1 g2 g4 g5;obtain⟨X,hX⟩:∃X:CX,den E 27 [.ptr (.par 0) 0,.str nm] [[.own 1099511627777 0 (a8w g0f ar),.own 1099511627777 0 (a8w lsA cs),.own 1099511627777 0 (a8w b2h m)]]=some (.tup [.agg (xcC X),.bool (a2o nm m).isSome],[[.own 1099511627777 0 (a8w g0f ar),.own 1099511627777 0 (a8w lsA cs),.own 1099511627777 0 (a8w b2h m)]]):=by
         cases hk:a2o nm m with
         | none=>rw[hk] at g5;exact⟨zCX,g5⟩
         | some x=>rw[hk] at g5;exact⟨x,g5⟩
        unfold xcC at hX g6;rw[hfa] at g6;generalize c8j nm out=FD at g6;obtain⟨fin,hfin⟩:∃fin,fin=(some (.bool true,[]):Option (AVal×a2p)):=⟨_,rfl⟩
        rw[←hfin];simp only[go_sem,Tryz.f7,ha,dr,du,dw,dn,hne,g1,g2,g3,g4,hX,drn];refine a0o (fun i:Nat=>i≤out.length) (fun i=>⟨[(2,.str nm),(7,.bool true),(9,.slice (L.map deV)),(13,.ptr (.loc 13) 0),(18,.int .i64 (b6v ar w)),(19,.int .i64 ((a2o nm ar).getD 0)),(20,.bool (a2o nm ar).isSome),(21,.int .i64 (arD L nm)),(22,.slice ((ofN nm out).map .str)),(24,.bool (a2o nm m).isSome),(25,.slice (out.map b2h)),(28,.int .i64 ((ofN nm (out.take i)).length:Nat)),(29,.int .i64 i)],[],[(13,tB w),(58,b1v ar (a8w lsA cs) (a8w b2h m))],1⟩) (fun _=>fin) (fun i=>out.length - i) 0 (Nat.zero_le _) ?_ ?_
        · simp only[go_sem,tB,ofN,List.take_zero,List.filter_nil,List.map_nil]
        · intro i hi h
          by_cases hlt:i<out.length
          · obtain⟨x,hx⟩:=a6v hlt;have hts:=g5i nm hx;have hsp:=f3c nm out (i+1);have w1:IntKind.i64.wrap ((i:Int)+1)=((i+1:Nat):Int):=a0z (i+1) (by omega);have hxl:(out.map b2h)[i]? =some (b2h x):=by simp[hx]
            cases hq:x.data==nm
            · rw[hq] at hts;simp only[Bool.false_eq_true,if_false,List.append_nil] at hts;simp only[go_sem,List.length_map,a0e,decide_eq_true hlt,a0c,a0i,hxl,b2h,xcC,hq];refine h (i+1) _ (by omega) (by omega) ?_;simp only[go_sem,w1,hts,tB]
            · rw[hq] at hts;simp only[if_true] at hts;rw[hts] at hsp;have hkl:(ofN nm (out.take i)).length<(ofN nm out).length:=by rw[hsp];simp
              have hcg:((ofN nm out).map AVal.str)[(ofN nm (out.take i)).length]? =some (.str x.name):=by
               rw[List.getElem?_map,hsp,List.append_assoc,List.getElem?_append_right (Nat.le_refl _),Nat.sub_self];rfl
              have w2:IntKind.i64.wrap (((ofN nm (out.take i)).length:Int)+1)=(((ofN nm (out.take i)).length+1:Nat):Int):=a0z ((ofN nm (out.take i)).length+1) (by omega);have hge:decide (((ofN nm (out.take i)).length:Int)≥((ofN nm out).length:Int))=false:=by simp;omega
              have htl:(ofN nm (out.take (i+1))).length=(ofN nm (out.take i)).length+1:=by rw[hts];simp
              generalize (ofN nm (out.take i)).length=K at *;simp only[go_sem,List.length_map,a0e,decide_eq_true hlt,a0c,a0i,hxl,b2h,xcC,hq,hge,hcg];refine h (i+1) _ (by omega) (by omega) ?_;simp only[go_sem,w1,w2,htl,tB]
          · have hie:i=out.length:=by omega
            subst hie;rw[List.take_length];rw[←hgd] at g7
            by_cases h0:0≤arD L nm
            · rw[if_pos h0] at hal;have hge:decide (arD L nm≥0)=true:=by simpa using h0
              simp only[go_sem,List.length_map,a0e,Nat.lt_irrefl,g6,g7,hal,hge,tB,Option.getD_some,Option.isSome_some];exact hfin.symm
            · rw[if_neg h0] at hal;have hge:decide (arD L nm≥0)=false:=by simp;omega
              simp only[go_sem,List.length_map,a0e,Nat.lt_irrefl,g6,g7,hal,hge,tB,Option.getD_none,Option.isSome_none];exact hfin.symm
   · rw[h0] at dr;simp only[if_true] at dr;simp only[go_sem,Tryz.f7,ha,dr,du,dw]
end Go.Proofs
