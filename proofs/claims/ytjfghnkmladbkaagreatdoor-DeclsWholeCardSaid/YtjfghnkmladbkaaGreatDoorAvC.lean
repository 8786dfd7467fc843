/- The abstract machine answers as the model does: places, marked operations, loops. -/
import Derived.Test.YtjfghnkmladbkaaGreatDoorAvB
import Derived.Laws.AppendOwn
namespace Go.Av
section
variable{E:Env}{w0:World}{V0:Vis}{T0:Tch}{Q Q':Nat→Prop}{s s':St}{a a':Act}{w w':World}{V V':Vis}{μ μ':a5m}{γ γ':a7a}
theorem c9w{P:Program}{T:TypeId}{y z:Value}(h:(Instr.loadAt T y).run P w=.ok z w):(do loadVar T (←asAddr y):Sem Value).run P w=.ok z w:=by
 simp only[Instr.loadAt,Sem.run_bind] at h⊢;cases y with
 | pointer p=>
  cases p with
  | some a=>simpa [Instr.sureAddr,asAddr] using h
  | none=>simp[Instr.sureAddr] at h
 | _=>simp[Instr.sureAddr] at h
def c3x(tmps:Array Value):ResultVar→Sem Value
 | .tmp t=>pure (tmps.getD t undef)
 | .cell a t=>do loadVar t (←asAddr (tmps.getD a undef))
theorem e6m(h:SRel E.P Q s a w V μ γ){r:ResultVar}{v:AVal}(hr:e0b E s r=some v):a1k v=true∧∃x,(c3x a.tmps r).run E.P w=.ok x w∧a4r w V μ v x:=by
 cases r with
 | tmp t=>
  obtain⟨u,h1,rfl⟩:=map_some hr;obtain⟨x,h2,h3⟩:=h.tm t u h1;refine⟨a3d u,x,?_,h3.read.strip⟩;simp[c3x,Array.getD_eq_getD_getElem?,h2]
 | cell t T=>
  obtain⟨p,h1,hr⟩:=bind_some hr;obtain⟨u,h2,rfl⟩:=map_some hr;obtain⟨y,h3,h4⟩:=h.tm t p h1;obtain⟨h5,z,h6,h7⟩:=e4i h h4.read h2;refine⟨a3d u,z,?_,(h6 (.tmp 0)).read.strip⟩;have:a.tmps.getD t undef=y:=by simp[Array.getD_eq_getD_getElem?,h3]
  simp only[c3x,this];exact c9w h7
theorem b5n(h:SRel E.P Q s a w V μ γ):∀ {rs:List ResultVar} {vs:List AVal},b6y E s rs=some vs→(∀v∈vs,a1k v=true∧c4k v=true)∧∃xs,(rs.mapM (c3x a.tmps)).run E.P w=.ok xs w∧a3r (a4r w V μ) vs xs
 | [],vs,hr=>by simp only[b6y] at hr;injection hr with hr;subst hr;exact⟨by simp,[],by simp,trivial⟩
 | r::rs,vs,hr=>by
  simp only[b6y] at hr;obtain⟨v,h1,hr⟩:=bind_some hr;split at hr
  · rename_i hn;obtain⟨vs',h2,rfl⟩:=map_some hr;obtain⟨k1,x,k2,k3⟩:=e6m h h1;obtain⟨k4,xs,k5,k6⟩:=b5n h h2;refine⟨fun u hu=>?_,x::xs,?_,k3,k6⟩
    · rcases List.mem_cons.1 hu with rfl|hu
      · exact⟨k1,hn⟩
      · exact k4 u hu
    · simp only[List.mapM_cons,Sem.run_bind,k2,k5,Result.andThen_ok,Sem.run_pure]
  · cases hr
def j3t:List Value→Value
 | [x]=>x
 | xs=>.tuple xs.toArray
theorem c2h(fn:Func)(tmps:Array Value){xs:List Value}{P:Program}(h:(fn.results.toList.mapM (c3x tmps)).run P w=.ok xs w):
 (results fn tmps).run P w=.ok (j3t xs) w:=by
 have h1:(fn.results.mapM (c3x tmps)).run P w=.ok xs.toArray w:=by
  rw[Array.mapM_eq_mapM_toList];simp only[Sem.run_map,h,Result.andThen_ok]
 have h0:results fn tmps=(do
  let vs←fn.results.mapM (c3x tmps)
  pure (if h:vs.size=1 then vs[0] else .tuple vs)):=rfl
 rw[h0,Sem.run_bind,h1,Result.andThen_ok,Sem.run_pure]
 match xs with
 | []=>rfl
 | [x]=>rfl
 | _::_::_=>rfl
theorem i3a{v:AVal}{x:Value}(h:a4r w V μ v x)(hn:c4k v=true):b2r w V μ v x:=by
 cases v<;>first|exact h|cases hn
theorem e3q{vs:List AVal}{xs:List Value}(h:a3r (a4r w V μ) vs xs)(hn:∀v∈vs,a1k v=true∧c4k v=true):a1k (j5e vs)=true∧a4r w V μ (j5e vs) (j3t xs):=by
 have h2:a3r (b2r w V μ) vs xs:=by
  refine a3r.of_get h.length fun i c hc=>?_;obtain⟨b,hb,hr⟩:=h.get hc;exact⟨b,hb,i3a hr (hn c (List.mem_of_getElem? hc)).2⟩
 match vs,xs,h,h2 with
 | [v],[x],h,_=>exact⟨(hn v (by simp)).1,h.1⟩
 | [],[],_,h2=>exact⟨rfl,_,rfl,h2⟩
 | _::_::_,_::_::_,_,h2=>exact⟨rfl,_,rfl,h2⟩
 | [_],_::_::_,h,_=>exact h.2.elim
 | _::_::_,[_],h,_=>exact h.2.elim
 | [],_::_,h,_=>exact h.elim
 | _::_,[],h,_=>exact h.elim
theorem d7r(h:SRel E.P Q s a w V μ γ){rs:List ResultVar}{v:AVal}(hk:g7q s rs=some v):∃t T es q m x,rs=[.tmp t]∧v=.own T 0 es∧s.at q=some (.own T m es)∧(∀i off,q≠ .cell (.par i) off)∧a.tmps[t]? =some x∧γ q m=some x:=by
 unfold g7q at hk;split at hk
 · rename_i t;obtain⟨u,h1,hk⟩:=bind_some hk;obtain⟨x,h2,h3⟩:=h.tm t u h1;cases u<;>simp only at hk<;>try (cases hk;done)
   case own T m es=>
    injection hk with hk;exact⟨t,T,es,.tmp t,m,x,rfl,hk.symm,h1,fun _ _ e=>(by cases e),h2,h3.2⟩
   case view T n es p=>
    cases p with
    | tmp j=>
     simp only at hk;obtain⟨u2,h4,hk⟩:=bind_some hk;cases u2<;>simp only at hk<;>try (cases hk;done)
     case own T' n' es'=>
      split at hk
      · rename_i hc;injection hk with hk9;obtain⟨rfl,rfl⟩:=hc;exact⟨t,T',es',.tmp j,n',x,rfl,hk9.symm,h4,fun _ _ e=>(by cases e),h2,h3.2⟩
      · cases hk
    | cell b off=>
     cases b with
     | par i=>cases hk
     | loc k=>
      simp only at hk;obtain⟨cs,h4,hk⟩:=bind_some hk;obtain⟨u2,h5,hk⟩:=bind_some hk;cases u2<;>simp only at hk<;>try (cases hk;done)
      case own T' n' es'=>
       split at hk
       · rename_i hc;injection hk with hk9;obtain⟨rfl,rfl⟩:=hc;exact⟨t,T',es',.cell (.loc k) off,n',x,rfl,hk9.symm,by simp[St.at,St.box,h4,h5],fun _ _ e=>(by cases e),h2,h3.2⟩
       · cases hk
 · cases hk
def gaF(s:St)(γ:a7a)(x:Value):a7a:=fun p m=>
 if m=0 then match p with
  | .cell (.par i) off=>a7f s (.cell (.par i) off) γ
  | .tmp _=>some x
  | _=>none
 else none
theorem d7l:∀ {l:List BName} {j:Nat},e7j l=some j→BName.loc j∈l
 | [],_,h=>by cases h
 | .loc i::r,j,h=>by simp only[e7j] at h;injection h with h;subst h;simp
 | .par i::r,j,h=>List.mem_cons_of_mem _ (d7l (by simpa only[e7j] using h))
def muN(μ μ0:a5m)(j n:Nat):a5m
 | .par i=>if i=n then μ (.loc j) else μ0 (.par i)
 | .loc _=>none
def gaN(s:St)(γ:a7a)(j n:Nat):a7a:=fun p m=>
 if m=0 then match p with
  | .cell (.par i) off=>if i=n then a7f s (.cell (.loc j) off) γ else a7f s (.cell (.par i) off) γ
  | _=>none
 else none
theorem e0w{μ0:a5m}{v:AVal}{r:AVal×a3e}{x:Value}(h:SRel E.P Q s a w V μ γ)(hf:Fr w0 V0 T0 w V)(hl:Loc w0 T0 s μ γ)(hm:∀i,μ0 (.par i)=T0.m (.par i))(hm2:∀k,μ0 (.loc k)=none)
 (hp:a1k v=true) (hr3:a4r w V μ v x) (hr:c7z s v=some r):i8m E.P w0 V0 T0 μ0 r x w:=by
 unfold c7z at hr;obtain⟨j,hj,hr⟩:=bind_some hr;obtain⟨cs0,hcs0,hr⟩:=bind_some hr;split at hr
 · rename_i hck;injection hr with hr;subst hr;simp only[Bool.and_eq_true] at hck;obtain⟨c1,c2,c3⟩:=hck;have hμ:∀i,μ (.par i)=μ0 (.par i):=fun i=>(hl.par i).trans (hm i).symm;obtain⟨n,hn⟩:∃n,n=s.pb.length:=⟨_,rfl⟩
   rw[←hn] at c1⊢;have hbj:s.box (.loc j)=some cs0:=hcs0;have hlt:∀i g,μ (.par i)=some g→i<n:=fun i g hg=>by
    obtain⟨cs,hc⟩:=h.dom _ g hg;rw[hn];exact (List.getElem?_eq_some_iff.1 (show s.pb[i]? =some cs from hc)).1
   have hpar:∀i g,μ (.par i)=some g→muN μ μ0 j n (.par i)=some g:=fun i g hg=>by
    have:=hlt i g hg;have hne:¬i=n:=by omega
    simp only[muN,hne,if_false];rw[←hμ i];exact hg
   have hnew:∀g,μ (.loc j)=some g→muN μ μ0 j n (.par n)=some g:=fun g hg=>by simp only[muN,if_true];exact hg
   have hback:∀b g,muN μ μ0 j n b=some g→(b=.par n∧μ (.loc j)=some g)∨∃i,b=.par i∧i≠n∧μ (.par i)=some g:=by
    intro b g hg;cases b with
    | loc k=>cases hg
    | par i=>
     simp only[muN] at hg;split at hg
     · rename_i e;exact .inl ⟨by rw[e],hg⟩
     · rename_i e;exact .inr ⟨i,rfl,e,by rw[hμ i];exact hg⟩
   have hsub:∀(c:AVal),(∀b∈a1h c,c9r b=true)→∀b∈a1h c,∀g,μ b=some g→muN μ μ0 j n b=some g:=by
    intro c hc b hb g hg;cases b with
    | par i=>exact hpar i g hg
    | loc k=>have:=hc _ hb;cases this
   have gbox:∀b cs,(a2u (ren (c7g j n) v) (s.pb.map (·.map a3n)++[cs0.map a3n])).box b=some cs→∃i u q,b=.par i∧s.box q=some u∧cs=u.map a3n∧(∀c∈u,∀m∈a1h c,c9r m=true)∧((i=n∧q=.loc j)∨(i≠n∧q=.par i)):=by
    intro b cs hcs;cases b with
    | loc k=>simp[a2u,St.box,a0i] at hcs
    | par i=>
     simp only[a2u,St.box] at hcs
     by_cases hi:i<n
     · rw[List.getElem?_append_left (by simp;omega),List.getElem?_map] at hcs;obtain⟨u,h1,h2⟩:=map_some hcs;exact⟨i,u,.par i,rfl,h1,h2.symm,fun c hc m hm=>List.all_eq_true.1 (List.all_eq_true.1 c2 u (List.mem_of_getElem? h1)) m (List.mem_flatMap.2 ⟨c,hc,hm⟩),.inr ⟨by omega,rfl⟩⟩
     · rw[List.getElem?_append_right (by simp;omega)] at hcs;simp only[List.length_map,←hn] at hcs;have hin:i=n:=by
        have:=(List.getElem?_eq_some_iff.1 hcs).1;simp at this;omega
       subst hin;simp at hcs;exact⟨i,cs0,.loc j,rfl,hbj,hcs.symm,fun c hc m hm=>List.all_eq_true.1 c3 m (List.mem_flatMap.2 ⟨c,hc,hm⟩),.inl ⟨rfl,rfl⟩⟩
   have gat:∀p T m es y,(a2u (ren (c7g j n) v) (s.pb.map (·.map a3n)++[cs0.map a3n])).at p=some (.own T m es)→gaN s γ j n p m=some y→
    ∃i off q m',p=.cell (.par i) off∧s.at (.cell q off)=some (.own T m' es)∧γ (.cell q off) m'=some y∧((i=n∧q=.loc j)∨(i≠n∧q=.par i)):=by
    intro p T m es y hp2 hy;cases p with
    | tmp k=>
     simp only[a2u,St.at,a0i] at hp2;split at hp2
     · injection hp2 with hp2;have:=b2x (ρ:=c7g j n) (c:=v);rw[hp2,hp] at this;cases this
     · cases hp2
    | cell b off=>
     simp only[St.at] at hp2;obtain⟨cs,h1,h2⟩:=bind_some hp2;obtain⟨i,u,q,rfl,h3,rfl,_,h6⟩:=gbox b cs h1;rw[List.getElem?_map] at h2;obtain⟨c,h4,h5⟩:=map_some h2;obtain⟨rfl,m',rfl⟩:=c2b h5;have hat:s.at (.cell q off)=some (.own T m' es):=by simp[St.at,h3,h4]
     refine⟨i,off,q,m',rfl,hat,?_,h6⟩;rcases h6 with⟨rfl,rfl⟩| ⟨hne,rfl⟩
     · simpa [gaN,a7f,hat] using hy
     · simpa [gaN,a7f,hat,hne] using hy
   refine⟨V,gaN s γ j n,⟨#[x],[]⟩,muN μ μ0 j n,rfl,fun b g hg=>?_,?_,hf,?_,.inl (by rw[b2x];exact hp)⟩
   · cases b with
     | loc k=>rw[hm2] at hg;cases hg
     | par i=>exact hpar i g (by rw[hμ i];exact hg)
   · refine {tm:=?_,bx:=?_,dom:=?_,inj:=?_,visb:=?_,vis:=h.vis,ow:=?_,ow2:=?_,gq:=fun _ _ _=>trivial}
     · intro k u hu;simp only[a2u,a0i] at hu;split at hu
       · rename_i hk;subst hk;injection hu with hu;subst hu;refine⟨x,by simp,?_⟩;refine (hr3.ren fun b hb g hg=>?_).repS (by rw[b2x];exact hp);have hb1:=List.all_eq_true.1 c1 b hb;cases b with
         | par i=>exact hpar i g hg
         | loc i=>
          simp only[c7g] at hb1⊢;split at hb1
          · rename_i e;subst e;simp only[if_true];exact hnew g hg
          · cases hb1
       · cases hu
     · intro b cs hcs;obtain⟨i,u,q,rfl,h1,rfl,hnm,h6⟩:=gbox b cs hcs;obtain⟨g,T,cur,h2,h3,h4,h5⟩:=h.bx _ u h1;refine⟨g,T,cur,?_,h3,by simpa using h4,fun k c hc=>?_⟩
       · rcases h6 with⟨rfl,rfl⟩| ⟨hne,rfl⟩
         · exact hnew g h2
         · exact hpar i g h2
       · rw[List.getElem?_map] at hc;obtain⟨c0,h7,rfl⟩:=map_some hc;obtain⟨y,h8,h9⟩:=h5 k c0 h7;have hc0:=hnm c0 (List.mem_of_getElem? h7);refine⟨y,h8,h9.head2 (fun m hm' g' hg'=>hsub c0 hc0 m (by cases c0<;>first|exact hm'|(simp[a3n,strip1,a1h] at hm')) g' hg') fun T' m es e=>?_⟩;subst e;have hat:s.at (.cell q k)=some (.own T' m es):=by simp[St.at,h1,h7]
         rcases h6 with⟨rfl,rfl⟩| ⟨hne,rfl⟩
         · simp[gaN,a7f,hat]
         · simp[gaN,a7f,hat,hne]
     · intro b g hb;rcases hback b g hb with⟨rfl,hg⟩| ⟨i,rfl,hne,hg⟩
       · refine⟨cs0.map a3n,?_⟩;simp only[a2u,St.box];rw[List.getElem?_append_right (by simp;omega)];simp[←hn]
       · obtain⟨cs,h1⟩:=h.dom _ g hg;refine⟨cs.map a3n,?_⟩;have hi:=hlt i g hg;simp only[a2u,St.box] at h1⊢;rw[List.getElem?_append_left (by simp;omega),List.getElem?_map,h1];rfl
     · intro b b' g hb hb';rcases hback b g hb with⟨rfl,hg⟩| ⟨i,rfl,hne,hg⟩<;>rcases hback b' g hb' with⟨rfl,hg'⟩| ⟨i',rfl,hne',hg'⟩
       · rfl
       · have:=h.inj _ _ g hg hg';cases this
       · have:=h.inj _ _ g hg hg';cases this
       · exact h.inj _ _ g hg hg'
     · intro b g hb;rcases hback b g hb with⟨rfl,hg⟩| ⟨i,rfl,hne,hg⟩
       · exact h.visb _ g hg
       · exact h.visb _ g hg
     · intro p T m es y g hp2 hy hg;obtain⟨i,off,q,m',rfl,h1,h2,_⟩:=gat p T m es y hp2 hy;obtain⟨h3,h4⟩:=h.ow _ T m' es y g h1 h2 hg;refine⟨fun b hb=>?_,h4⟩;rcases hback b g hb with⟨rfl,hg⟩| ⟨i,rfl,hne,hg⟩
       · exact h3 _ hg
       · exact h3 _ hg
     · intro p p' T m es T' m' es' y y' g hp2 hp3 hy hy' hg hg';obtain⟨i,off,q,m1,rfl,h1,h2,h3⟩:=gat p T m es y hp2 hy;obtain⟨i',off',q',m2,rfl,h4,h5,h6⟩:=gat p' T' m' es' y' hp3 hy';have e:=h.ow2 _ _ T m1 es T' m2 es' y y' g h1 h4 h2 h5 hg hg';injection e with e1 e2;subst e2;rcases h3 with⟨rfl,rfl⟩| ⟨hne,rfl⟩<;>rcases h6 with⟨rfl,e3⟩| ⟨hne',e3⟩
       · rfl
       · rw[e3] at e1;cases e1
       · rw[e3] at e1;cases e1
       · rw[e3] at e1;injection e1 with e1;rw[e1]
   · refine⟨fun b g hb=>?_,fun p T m es y g hp2 hy hg=>?_⟩
     · rcases hback b g hb with⟨rfl,hg⟩| ⟨i,rfl,hne,hg⟩
       · exact hl.box _ g hg
       · exact hl.box _ g hg
     · obtain⟨i,off,q,m',rfl,h1,h2,_⟩:=gat p T m es y hp2 hy;exact hl.own _ T m' es y g h1 h2 hg
 · cases hr
theorem e9v{f:FuncId}{fn:Func}(hfn:E.P.funcs[f]? =some fn){r:AVal×a3e}(hr:b3x E f s=some r)(hsim:Sim E.P w0 V0 T0 Q s a w){μ0:a5m}(hm:∀i,μ0 (.par i)=T0.m (.par i))(hm2:∀k,μ0 (.loc k)=none):
 ∃x,(results fn a.tmps).run E.P w=.ok x w∧i8m E.P w0 V0 T0 μ0 r x w:=by
 obtain⟨hd,V,μ,γ,h,hf,hl⟩:=hsim;unfold b3x at hr;obtain⟨rs,hrs,hr⟩:=bind_some hr;obtain⟨v,hv,hr⟩:=bind_some hr;split at hr
 · rename_i hck;injection hr with hr;subst hr;have hrs':rs=fn.results.toList:=by unfold a0t at hrs;rw[hfn] at hrs;simpa using hrs.symm
   simp only[Bool.and_eq_true] at hck;obtain⟨c1,c2⟩:=hck;have hμ:∀i,μ (.par i)=μ0 (.par i):=fun i=>(hl.par i).trans (hm i).symm;have hsub:∀b g,c9r b=true→μ b=some g→μ0 b=some g:=by
    intro b g hb hg;cases b with
    | par i=>rw[←hμ i];exact hg
    | loc k=>cases hb
   have hsup:∀b g,μ0 b=some g→μ b=some g∧∃i,b=.par i:=by
    intro b g hg;cases b with
    | par i=>rw[←hμ i] at hg;exact⟨hg,i,rfl⟩
    | loc k=>rw[hm2] at hg;cases hg
   -- the result
   have hres:∃x,(results fn a.tmps).run E.P w=.ok x w∧((a1k v=true∧a4r w V μ v x)∨∃T es q m,v=.own T 0 es∧s.at q=some (.own T m es)∧(∀i off,q≠ .cell (.par i) off)∧γ q m=some x):=by
    split at hv
    · obtain⟨t,T,es,q,m,x,k1,k2,k3,k4,k5,k6⟩:=d7r h hv;rw[hrs'] at k1;refine⟨x,?_,.inr ⟨T,es,q,m,k2,k3,k4,k6⟩⟩;have:=c2h (w:=w) (P:=E.P) fn a.tmps (xs:=[x]) (by
       rw[k1];simp[c3x,Array.getD_eq_getD_getElem?,k5])
      exact this
    · obtain⟨vs,h1,rfl⟩:=map_some hv;obtain⟨k1,xs,k2,k3⟩:=b5n h h1;rw[hrs'] at k2;obtain⟨k4,k5⟩:=e3q k3 k1;exact⟨_,c2h fn a.tmps k2,.inl ⟨k4,k5⟩⟩
   obtain⟨x,hx,hres⟩:=hres;refine⟨x,hx,h4d.back ⟨V,gaF s γ x,⟨#[x],[]⟩,rfl,?_,hf,?_,hres.imp (fun h=>h.1) (fun ⟨T,es,q,m,e,_⟩=>⟨T,0,es,e⟩)⟩⟩
   all_goals
    have gbox:∀b cs,(a2u v (s.pb.map (·.map a3n))).box b=some cs→∃i u,b=.par i∧s.box b=some u∧cs=u.map a3n∧∀c∈u,∀m∈a1h c,c9r m=true:=by
     intro b cs hcs;cases b with
     | loc k=>simp[a2u,St.box,a0i] at hcs
     | par i=>
      simp only[a2u,St.box,List.getElem?_map] at hcs;obtain⟨u,h1,h2⟩:=map_some hcs;exact⟨i,u,rfl,h1,h2.symm,fun c hc m hm=>List.all_eq_true.1 (List.all_eq_true.1 c2 u (List.mem_of_getElem? h1)) m (List.mem_flatMap.2 ⟨c,hc,hm⟩)⟩
    have gat:∀p T m es y,(a2u v (s.pb.map (·.map a3n))).at p=some (.own T m es)→gaF s γ x p m=some y→
     ∃q m',s.at q=some (.own T m' es)∧γ q m'=some y∧((∃i off,p=.cell (.par i) off∧q=p)∨(p=.tmp 0∧∀i off,q≠ .cell (.par i) off)):=by
     intro p T m es y hp hy;cases p with
     | tmp k=>
      simp only[a2u,St.at,a0i] at hp;split at hp
      · rename_i hk;subst hk;injection hp with hp;rcases hres with⟨hpl,_⟩| ⟨T',es',q,m',e,k1,k2,k3⟩
        · rw[hp] at hpl;cases hpl
        · rw[hp] at e;injection e with e1 e2 e3;subst e1 e2 e3;refine⟨q,m',k1,?_,.inr ⟨rfl,k2⟩⟩;have:x=y:=by simpa [gaF] using hy
          rw[←this];exact k3
      · cases hp
     | cell b off=>
      simp only[St.at] at hp;obtain⟨cs,h1,h2⟩:=bind_some hp;obtain⟨i,u,rfl,h3,rfl,_⟩:=gbox b cs h1;rw[List.getElem?_map] at h2;obtain⟨c,h4,h5⟩:=map_some h2;obtain⟨rfl,m',rfl⟩:=c2b h5;have hat:s.at (.cell (.par i) off)=some (.own T m' es):=by simp[St.at,h3,h4]
      refine⟨_,m',hat,?_,.inl ⟨i,off,rfl,rfl⟩⟩;simpa [gaF,a7f,hat] using hy
   · refine {tm:=?_,bx:=?_,dom:=?_,inj:=?_,visb:=?_,vis:=h.vis,ow:=?_,ow2:=?_,gq:=fun _ _ _=>trivial}
     · intro k u hu;simp only[a2u,a0i] at hu;split at hu
       · rename_i hk;subst hk;injection hu with hu;subst hu;refine⟨x,by simp,?_⟩;rcases hres with⟨hpl,hr3⟩| ⟨T',es',q,m',e,k1,k2,k3⟩
         · exact (hr3.sub fun b hb g hg=>hsub b g (List.all_eq_true.1 c1 b hb) hg).repS hpl
         · subst e;obtain⟨y,hy,ho⟩:=h.conc_own k1;rw[k3] at hy;injection hy with hy;subst hy;exact⟨ho,by simp[gaF]⟩
       · cases hu
     · intro b cs hcs;obtain⟨i,u,rfl,h1,rfl,hnm⟩:=gbox b cs hcs;obtain⟨g,T,cur,h2,h3,h4,h5⟩:=h.bx _ u h1;refine⟨g,T,cur,hsub _ g rfl h2,h3,by simpa using h4,fun j c hc=>?_⟩;rw[List.getElem?_map] at hc;obtain⟨c0,h6,rfl⟩:=map_some hc;obtain⟨y,h7,h8⟩:=h5 j c0 h6;refine⟨y,h7,h8.head (fun m hm g' hg'=>hsub m g' (hnm c0 (List.mem_of_getElem? h6) m (by cases c0<;>first|exact hm|(simp[a3n,strip1,a1h] at hm))) hg') fun T' m es e=>?_⟩;subst e;have hat:s.at (.cell (.par i) j)=some (.own T' m es):=by simp[St.at,h1,h6]
       simp[gaF,a7f,hat]
     · intro b g hb;obtain⟨hb,i,rfl⟩:=hsup b g hb;obtain⟨cs,h1⟩:=h.dom _ g hb;refine⟨cs.map a3n,?_⟩;simp only[a2u,St.box] at h1⊢;rw[List.getElem?_map,h1];rfl
     · intro b b' g hb hb';exact h.inj b b' g (hsup b g hb).1 (hsup b' g hb').1
     · intro b g hb;exact h.visb b g (hsup b g hb).1
     · intro p T m es y g hp hy hg;obtain⟨q,m',h1,h2,_⟩:=gat p T m es y hp hy;obtain⟨h3,h4⟩:=h.ow q T m' es y g h1 h2 hg;exact⟨fun b hb=>h3 b (hsup b g hb).1,h4⟩
     · intro p p' T m es T' m' es' y y' g hp hp' hy hy' hg hg';obtain⟨q,m1,h1,h2,h3⟩:=gat p T m es y hp hy;obtain⟨q',m2,h4,h5,h6⟩:=gat p' T' m' es' y' hp' hy';have e:=h.ow2 q q' T m1 es T' m2 es' y y' g h1 h4 h2 h5 hg hg';subst e;rcases h3 with⟨i,off,rfl,rfl⟩| ⟨rfl,h3⟩
       · rcases h6 with⟨i',off',rfl,e⟩| ⟨rfl,h6⟩
         · exact e
         · exact absurd rfl (h6 i off)
       · rcases h6 with⟨i',off',rfl,rfl⟩| ⟨rfl,h6⟩
         · exact absurd rfl (h3 i' off')
         · rfl
   · refine⟨fun b g hb=>hl.box b g (hsup b g hb).1,hm,fun p T m es y g hp hy hg=>?_⟩;obtain⟨q,m',h1,h2,_⟩:=gat p T m es y hp hy;exact hl.own q T m' es y g h1 h2 hg
 · split at hr
   · have hrs':rs=fn.results.toList:=by unfold a0t at hrs;rw[hfn] at hrs;simpa using hrs.symm
     split at hv
     · exfalso;obtain⟨t,T,es,q,m,x,k1,k2,_⟩:=d7r h hv;subst k2;unfold c7z at hr;obtain⟨j,hj,_⟩:=bind_some hr;have:=d7l hj;simp[names,a5c,a1h] at this
     · obtain⟨vs,h1,rfl⟩:=map_some hv;obtain⟨k1,xs,k2,k3⟩:=b5n h h1;rw[hrs'] at k2;obtain⟨k4,k5⟩:=e3q k3 k1;exact⟨_,c2h fn a.tmps k2,e0w h hf hl hm hm2 k4 k5 hr⟩
   · cases hr
end
end Go.Av
namespace Go.Av
theorem b3i{α:Type}(l:List (Nat×α))(k j:Nat):a0i (b6p l k) j=if k=j then none else a0i l j:=by
 induction l with
 | nil=>simp[b6p,a0i]
 | cons x r ih=>
  obtain⟨i,u⟩:=x
  by_cases h:i=k
  · subst h;simp only[b6p,if_true,ih,a0i]
    by_cases h2:i=j<;>simp[h2]
  · simp only[b6p,h,if_false,a0i,ih]
    by_cases h2:i=j
    · subst h2;simp[Ne.symm h]
    · simp[h2]
theorem b2c{b:BName}:∀ {l:List (Nat×AVal)} {k:Nat} {v:AVal},a0i (b2d b l) k=some v→a0i l k=some v∧b∉names v
 | [],_,_,h=>by cases h
 | (i,u)::r,k,v,h=>by
  simp only[b2d] at h;split at h
  · rw[b3i] at h;split at h
    · cases h
    · rename_i hc hne;obtain⟨h1,h2⟩:=b2c h;exact⟨by simp only[a0i,hne,if_false];exact h1,h2⟩
  · rename_i hc;simp only[a0i] at h⊢;split at h
    · rename_i he;injection h with h;subst h;exact⟨by simp[he],by simpa using hc⟩
    · rename_i he;obtain⟨h1,h2⟩:=b2c h;exact⟨by simp only[he,if_false];exact h1,h2⟩
section
variable{E:Env}{w0:World}{V0:Vis}{T0:Tch}{Q Q':Nat→Prop}{s s':St}{a:Act}{w:World}{V V':Vis}{μ μ':a5m}{γ γ':a7a}
theorem c1p.sub{P:Program}{p:Place}{v:AVal}{x:Value}(h:c1p P w V μ γ p v x)(hs:∀b∈names v,∀g,μ b=some g→μ' b=some g):c1p P w V μ' γ p v x:=by
 cases v with
 | own=>exact h
 | dead=>exact h
 | view=>exact h
 | full=>exact h
 | int k n=>exact a4r.sub (w:=w) (V:=V) (c:=.int k n) h hs
 | bool b=>exact a4r.sub (w:=w) (V:=V) (c:=.bool b) h hs
 | str t=>exact a4r.sub (w:=w) (V:=V) (c:=.str t) h hs
 | agg cs=>exact a4r.sub (w:=w) (V:=V) (c:=.agg cs) h hs
 | tup vs=>exact a4r.sub (w:=w) (V:=V) (c:=.tup vs) h hs
 | slice es=>exact a4r.sub (w:=w) (V:=V) (c:=.slice es) h hs
 | ptr b o=>exact a4r.sub (w:=w) (V:=V) (c:=.ptr b o) h hs
 | pel e o=>exact a4r.sub (w:=w) (V:=V) (c:=.pel e o) h hs
 | nilp=>exact a4r.sub (w:=w) (V:=V) (c:=.nilp) h hs
 | func f p q=>exact a4r.sub (w:=w) (V:=V) (c:=.func f p q) h hs
 | nilf=>exact a4r.sub (w:=w) (V:=V) (c:=.nilf) h hs
 | pmap=>exact h
 | nilm=>exact h
 | mview=>exact h
 | opaq=>exact h
theorem b2m.sub{P:Program}{p:Place}{c:AVal}{x:Value}(h:b2m P w V μ γ p c x)(hs:∀b∈a1h c,∀g,μ b=some g→μ' b=some g):b2m P w V μ' γ p c x:=by
 cases c with
 | own=>exact h
 | dead=>exact h
 | int k n=>exact a3k.sub (w:=w) (V:=V) (c:=.int k n) h hs
 | bool b=>exact a3k.sub (w:=w) (V:=V) (c:=.bool b) h hs
 | str t=>exact a3k.sub (w:=w) (V:=V) (c:=.str t) h hs
 | agg cs=>exact absurd h (by simp[b2m,a3k,a1t])
 | tup vs=>exact absurd h (by simp[b2m,a3k,a1t])
 | slice es=>exact a3k.sub (w:=w) (V:=V) (c:=.slice es) h hs
 | full es=>exact absurd h (by simp[b2m,a3k,a1t])
 | view T n es q=>exact absurd h (by simp[b2m,a3k,a1t])
 | ptr b o=>exact a3k.sub (w:=w) (V:=V) (c:=.ptr b o) h hs
 | pel e o=>exact a3k.sub (w:=w) (V:=V) (c:=.pel e o) h hs
 | nilp=>exact a3k.sub (w:=w) (V:=V) (c:=.nilp) h hs
 | func f p q=>exact a3k.sub (w:=w) (V:=V) (c:=.func f p q) h hs
 | nilf=>exact a3k.sub (w:=w) (V:=V) (c:=.nilf) h hs
 | pmap=>exact h
 | nilm=>exact h
 | mview n q=>exact absurd h (by simp[b2m,a3k,a1t])
 | opaq=>exact h
theorem f3t{c:AVal}{x:Value}(h:a3k w V μ c x)(hp:c9n c=true):a1t w V c x:=by
 cases c<;>first|exact h|cases hp
theorem d2e{g size:Nat}(hpos:0<size){t:Bool}(ht:t=true∨size=1):∀(n o:Nat) (cs:List AVal),cs.length=n*size→
 (∀i c,cs[i]? =some c→V g (o+i)∧∃x,w.cell? ⟨g,o+i,none⟩=some x∧a1t w V c x)→(t=false→∀c∈cs,∀l,c≠ .agg l)→b0v w V size g o (b4p t size n cs)∧(b4p t size n cs).length=n
 | 0,o,cs,_,_,_=>by simp[b4p,b0v]
 | n+1,o,cs,hl,hc,hna=>by
  rw[Nat.succ_mul] at hl;have ih:=d2e hpos ht n (o+size) (cs.drop size) (by rw[List.length_drop];omega) (fun i c hi=>by
   rw[List.getElem?_drop] at hi;have:=hc (size+i) c hi;rw[←Nat.add_assoc] at this;exact this) (fun h c hm=>hna h c (List.mem_of_mem_drop hm))
  simp only[b4p];refine⟨?_,by simp[ih.2]⟩;rw[a2y];refine⟨?_,ih.1⟩;have cells:∀(l:List AVal) (o':Nat),(∀i c,l[i]? =some c→V g (o'+i)∧∃x,w.cell? ⟨g,o'+i,none⟩=some x∧a1t w V c x)→a3b w V g o' l:=by
   intro l
   induction l with
   | nil=>intro o' _;simp[a3b]
   | cons c l ihl=>
    intro o' h;simp only[a3b];refine⟨by simpa using h 0 c rfl,ihl (o'+1) fun i c' hi=>?_⟩;have:=h (i+1) c' (by simpa using hi);rw[show o'+1+i=o'+(i+1) by omega];exact this
  cases t with
  | true=>
   simp only[if_true,cellsOf];exact⟨by rw[List.length_take];omega,cells _ o fun i c hi=>hc i c (by
    rw[List.getElem?_take] at hi;split at hi
    · exact hi
    · cases hi)⟩
  | false=>
   have hs1:size=1:=by
    rcases ht with h|h; · cases h
    exact h
   subst hs1;simp only[Bool.false_eq_true,if_false];cases cs with
   | nil=>simp at hl
   | cons c r=>
    simp only[List.headD_cons];have hcell:cellsOf c=[c]:=by
     cases c<;>first|rfl|exact absurd rfl (hna rfl _ (List.mem_cons_self ..) _)
    rw[hcell];exact⟨rfl,cells [c] o fun i c' hi=>hc i c' (by
     cases i with
     | zero=>simpa using hi
     | succ i=>simp at hi)⟩
theorem d0x{b:BName}{cs:List AVal}(h:d6v b cs=true):∀c∈cs,b∉a1h c:=by
 intro c hc hb;simp only[d6v,Bool.not_eq_true',List.contains_eq_mem,decide_eq_false_iff_not] at h;exact h (List.mem_flatMap.2 ⟨c,hc,hb⟩)
theorem c9e{α:Type}:∀(l:List (Nat×α)) (k:Nat) (u v:α),a7v (a7v l k u) k v=a7v l k v
 | [],k,u,v=>by simp[a7v]
 | (i,x)::r,k,u,v=>by
  by_cases h:i=k
  · simp[a7v,h]
  · simp[a7v,h,c9e r k u v]
theorem e3b{k:Nat}{x:Value}(h:a.tmps[k]? =some x):a.put (some k) x=a:=by
 have:a.tmps.setIfInBounds k x=a.tmps:=by
  apply Array.ext_getElem?;intro j
  by_cases hj:k=j
  · subst hj;rw[Array.getElem?_setIfInBounds_self,if_pos (Array.getElem?_eq_some_iff.1 h).1,h]
  · rw[Array.getElem?_setIfInBounds_ne hj]
 simp only[Act.put,this]
theorem e9q{k n:Nat}{es:List AVal}(hil:isL es=none)(hk:a0i s.tm k=some (.own a3i n es))(h:Sim E.P w0 V0 T0 Q s a w):Sim E.P w0 V0 T0 Q (s.put k (.pmap es)) a w:=by
 obtain⟨hd,V,μ,γ,hr,hf,hl⟩:=h;obtain⟨x,hx,hrx⟩:=hr.tm _ _ hk;obtain⟨hT,g,ents,cl,rfl,hh,he⟩:=hrx.1.map hil;obtain⟨_,hfa⟩:=b5t hr hl hk;have hev:a.eval (.tmp k)=.map (some g):=by simp[Act.eval,Array.getD_eq_getD_getElem?,hx]
 obtain⟨f1,f2,f3,f4⟩:=hfa g (by rw[hev];rfl)
 let V':Vis:=fun x o=>V x o∨x=g
 have hk':a3x w V w V':=fun x o h=>⟨.inl h,.refl _ _ _⟩
 have h1:SRel E.P Q (s.put k (b4t a3i n es)) a w V' μ γ:=by
  refine (hr.demote hk).world hk' (fun _ _ _=>rfl) (fun _ _ _ _ _ _ _ _ _=>rfl) (fun x o hv=>?_) (fun x o hv=>?_)
  · rcases hv with hv|rfl
    · exact .inl hv
    · exact .inr ⟨f1,f3⟩
  · rcases hv with hv|rfl
    · exact hr.vis x o hv
    · exact (Array.getElem?_eq_some_iff.1 hh).1
 have hf1:Fr w0 V0 T0 w V':=hf.vis (fun x o=>.inl) fun x o hv=>by
  rcases hv with hv|rfl
  · exact .inl hv
  · exact .inr f4.symm
 have hlt:=(Array.getElem?_eq_some_iff.1 hx).1;have:=b5h (v:=.pmap es) (x:=.map (some g)) (dst:=some k) (Q':=Q) hd h1 hf1 (Loc.demote hl) (fun _ h=>h) (fun j e=>by injection e with e;subst e;exact hlt) rfl ⟨g,ents,cl,rfl,.inr rfl,hh,he.keep hk'⟩;rw[e3b hx] at this;have e:(s.put k (b4t a3i n es)).putD (some k) (.pmap es)=s.put k (.pmap es):=by simp only[St.putD,St.put,c9e]
 rwa[e] at this
theorem e0v{k n:Nat}{es:List AVal}{r:TypeId×List AVal}(hil:isL es=some r)(hk:a0i s.tm k=some (.own a3i n es))(h:Sim E.P w0 V0 T0 Q s a w):Sim E.P w0 V0 T0 Q (s.put k (.own r.1 n r.2)) a w:=by
 obtain⟨hd,V,μ,γ,hr,hf,hl⟩:=h;obtain⟨x,hx,hrx⟩:=hr.tm _ _ hk;obtain⟨hT,U,m,fs,g,c,cur,rfl,hU,rfl,hc,hh,hsz,hpos,hrow⟩:=hrx.1.list hil;simp only[isL,Option.some.injEq] at hil;subst hil;obtain⟨_,hfa⟩:=b5t hr hl hk;have hev:a.eval (.tmp k)=.slice (some ⟨g,0,none⟩) fs.length c:=by simp[Act.eval,Array.getD_eq_getD_getElem?,hx]
 obtain⟨f1,f2,f3,f4⟩:=hfa g (by rw[hev];rfl)
 let V':Vis:=fun x o=>V x o∨(x=g∧o<fs.length*E.P.cellsOf U)
 have hk':a3x w V w V':=fun x o h=>⟨.inl h,.refl _ _ _⟩
 have h1:SRel E.P Q (s.put k (b4t a3i n [.own U m fs])) a w V' μ γ:=by
  refine (hr.demote hk).world hk' (fun _ _ _=>rfl) (fun _ _ _ _ _ _ _ _ _=>rfl) (fun x o hv=>?_) (fun x o hv=>?_)
  · rcases hv with hv| ⟨rfl,_⟩
    · exact .inl hv
    · exact .inr ⟨f1,f3⟩
  · rcases hv with hv| ⟨rfl,_⟩
    · exact hr.vis x o hv
    · exact (Array.getElem?_eq_some_iff.1 hh).1
 have hf1:Fr w0 V0 T0 w V':=hf.vis (fun x o=>.inl) fun x o hv=>by
  rcases hv with hv| ⟨rfl,_⟩
  · exact .inl hv
  · exact .inr f4.symm
 have hlt:=(Array.getElem?_eq_some_iff.1 hx).1;have hcl:(cur.toList.take (fs.length*E.P.cellsOf U)).length=fs.length*E.P.cellsOf U:=hrow.length;have hrow2:b0v w V' (E.P.cellsOf U) g 0 fs:=by
  refine a8a (hrow.keep hk') (fun j hj=>.inr ⟨rfl,by omega⟩) (fun j u hj=>?_);rw[Nat.zero_add,a5t hh];rw[List.getElem?_take] at hj;split at hj
  · simpa using hj
  · cases hj
 have hown:a2t E.P w V' U fs (.slice (some ⟨g,0,none⟩) fs.length c):=.ofS hU (.inr ⟨g,c,cur,rfl,hc,hh,hsz,hpos,hrow2⟩);have h2:SRel E.P Q ((s.put k (b4t a3i n [.own U m fs])).put k (.own U n fs)) (a.put (some k) (.slice (some ⟨g,0,none⟩) fs.length c)) w V' μ γ:=by
  refine h1.put hlt (GLe.refl _) h1.gq ⟨hown,hrx.2⟩ (fun T' m' es' g' e hg'=>?_);injection e with e1 e2 e3;subst e1 e2 e3;simp only[ownBlock] at hg';injection hg' with hg';subst hg';refine⟨f1,fun o hv=>?_,fun p' T' n' es' x' hp hp2 hx'=>f3 p' T' n' es' x' hp2 hx'⟩;rcases hv with hv| ⟨_,hv⟩
  · have:=f2 o hv;rw[hT] at this;omega
  · exact hv
 rw[e3b hx] at h2;have e:(s.put k (b4t a3i n [.own U m fs])).put k (.own U n fs)=s.put k (.own U n fs):=by simp only[St.put,c9e]
 rw[e] at h2;refine⟨hd,V',μ,γ,h2,hf1,⟨hl.box,hl.par,fun p T' m' es' y g' hp hy hg'=>?_⟩⟩;rw[b3g] at hp
 by_cases hpk:p=.tmp k
 · simp only[hpk,if_true] at hp;injection hp with hp;injection hp with e1 e2 e3;subst e1 e2 e3 hpk;rw[hrx.2] at hy;injection hy with hy;subst hy;simp only[ownBlock] at hg';injection hg' with hg';subst hg';exact f4
 · simp only[hpk,if_false] at hp;exact hl.own p T' m' es' y g' hp hy hg'
theorem g8f{k:Nat}{T:TypeId}(hs:j5j E s k T=some s')(h:Sim E.P w0 V0 T0 Q s a w):Sim E.P w0 V0 T0 Q s' a w∧s'.ver=s.ver:=by
 unfold j5j at hs;obtain⟨v,hk,hs⟩:=bind_some hs;split at hs
 · rename_i j off;obtain⟨cs,hcs,hs⟩:=bind_some hs;obtain⟨e,he,hs⟩:=bind_some hs;obtain⟨t,htg,hs⟩:=bind_some hs;split at hs
   · rename_i hcnd;obtain⟨c1,c2,c3,c4,c5,c6,c7⟩:=hcnd;injection hs with hs;subst hs;refine⟨?_,rfl⟩;obtain⟨hd,V,μ,γ,hr,hf,hl⟩:=h;have hbox:s.box (.loc j)=some cs:=hcs;obtain⟨g,U,cur,hg,hheap,hsz,hcells⟩:=hr.bx _ _ hbox
     let μ':a5m:=fun b=>if b=.loc j then none else μ b
     let V':Vis:=fun x o=>V x o∨(x=g∧o<cs.length)
     have hVV:∀x o,V x o→V' x o:=fun x o h=>.inl h;have hk':a3x w V w V':=fun x o h=>⟨.inl h,.refl _ _ _⟩
     have hμ:∀b x,μ' b=some x→b≠ .loc j∧μ b=some x:=by
      intro b x hb
      by_cases hj:b=.loc j
      · simp[μ',hj] at hb
      · simp only[μ',hj,if_false] at hb;exact⟨hj,hb⟩
     have hsub:∀l:List BName,.loc j∉l→∀b∈l,∀x,μ b=some x→μ' b=some x:=by
      intro l hn b hb x hx;have:b≠ .loc j:=fun e=>hn (e▸hb);simp only[μ',this,if_false];exact hx
     have gbox:∀b cs',({s with tm:=a7v (b2d (.loc j) s.tm) k (.slice (b4p t (a1d E.P e) (off - a2s) (cs.map Av.strip1))),lb:=b6p s.lb j}:St).box b=some cs'→b≠ .loc j∧s.box b=some cs'∧∀c∈cs',.loc j∉a1h c:=by
      intro b cs' hb;cases b with
      | par i=>
       simp only[St.box] at hb⊢;exact⟨(fun e=>by cases e),hb,d0x (List.all_eq_true.1 c6 cs' (List.mem_of_getElem? hb))⟩
      | loc i=>
       simp only[St.box] at hb⊢;have hm:=b3h hb;rw[b3i] at hb;split at hb
       · cases hb
       · rename_i hne;exact⟨(fun e=>by injection e with e;exact hne e.symm),hb,d0x (List.all_eq_true.1 c7 _ hm)⟩
     have gat:∀p T' m es,({s with tm:=a7v (b2d (.loc j) s.tm) k (.slice (b4p t (a1d E.P e) (off - a2s) (cs.map Av.strip1))),lb:=b6p s.lb j}:St).at p=some (.own T' m es)→s.at p=some (.own T' m es):=by
      intro p T' m es hp;cases p with
      | tmp i=>
       simp only[St.at,a1r] at hp⊢;split at hp
       · cases hp
       · exact (b2c hp).1
      | cell b o=>
       simp only[St.at] at hp⊢;obtain⟨cs',h1,h2⟩:=bind_some hp;rw[(gbox b cs' h1).2.1,Option.bind_some];exact h2
     have elem:b0v w V' (a1d E.P e) g 0 (b4p t (a1d E.P e) (off - a2s) (cs.map Av.strip1))∧(b4p t (a1d E.P e) (off - a2s) (cs.map Av.strip1)).length=off - a2s:=by
      refine d2e c2 c4 _ 0 _ (by rw[List.length_map];exact c3) (fun i c hi=>?_) (fun _ c hc l e=>?_)
      · rw[List.getElem?_map] at hi;obtain⟨c0,h1,rfl⟩:=map_some hi;obtain⟨x,hx,hrx⟩:=hcells i c0 h1;have hlt:=(List.getElem?_eq_some_iff.1 h1).1;rw[Nat.zero_add];refine⟨.inr ⟨rfl,hlt⟩,x,by rw[a5t hheap];exact hx,?_⟩;have hp:c9n (Av.strip1 c0)=true:=List.all_eq_true.1 c5 _ (List.mem_map_of_mem (List.mem_of_getElem? h1));exact (f3t hrx.strip1 hp).keep hk'
      · have:=List.all_eq_true.1 c5 c hc;rw[e] at this;cases this
     refine⟨hd,V',μ',γ,?_,?_,?_⟩
     · constructor
       · intro i u hi;simp only[a1r] at hi;split at hi
         · rename_i hik;subst hik;injection hi with hi;subst hi;obtain⟨x,hx,hrx⟩:=hr.tm _ _ hk;refine⟨x,hx,?_⟩;obtain⟨g',hg',hxe⟩:=(show ∃g',μ (.loc j)=some g'∧d9i g' off x from hrx)
           rw[hg] at hg';injection hg' with hg';subst hg';rw[d3o c1] at hxe;obtain⟨cp,hcp,hxe⟩:=hxe;show a1t w V' (.slice _) x
           simp only[a1t];rw[elem.2];have e1:=elem.1;generalize off - a2s=m at hcp hxe e1⊢;exact⟨some ⟨g,0,none⟩,cp,hxe,hcp,.inr ⟨g,0,a1d E.P e,rfl,c2,e1⟩⟩
         · obtain⟨h1,h2⟩:=b2c hi;obtain⟨x,hx,hrx⟩:=hr.tm _ _ h1;exact⟨x,hx,(hrx.sub (hsub _ h2)).keep hk' (BLe.refl _) (GLe.refl _) (fun _ _ _ _ _ _=>rfl)⟩
       · intro b cs' hb;obtain⟨h1,h2,h3⟩:=gbox b cs' hb;obtain⟨g',U',cur',hg',hh,hz,hc⟩:=hr.bx b cs' h2;refine⟨g',U',cur',by simp only[μ',h1,if_false];exact hg',hh,hz,fun i c hi=>?_⟩;obtain⟨x,hx,hrx⟩:=hc i c hi;exact⟨x,hx,(hrx.sub (hsub _ (h3 c (List.mem_of_getElem? hi)))).keep hk' (BLe.refl _) (GLe.refl _) (fun _ _ _ _ _ _=>rfl)⟩
       · intro b x hb;obtain⟨h1,h2⟩:=hμ b x hb;obtain⟨cs',h3⟩:=hr.dom b x h2;cases b with
         | par i=>exact⟨cs',h3⟩
         | loc i=>
          refine⟨cs',?_⟩;simp only[St.box] at h3⊢;rw[b3i,if_neg (fun e=>h1 (by rw[e]))];exact h3
       · exact fun b b' x hb hb'=>hr.inj b b' x (hμ b x hb).2 (hμ b' x hb').2
       · rintro b x hb o (hv| ⟨rfl,_⟩)
         · exact hr.visb b x (hμ b x hb).2 o hv
         · exact (hμ b x hb).1 (hr.inj b (.loc j) x (hμ b x hb).2 hg)
       · rintro x o (hv| ⟨rfl,_⟩)
         · exact hr.vis x o hv
         · exact b2g hr hg
       · intro p T' m es x g' hp hx hgx;obtain⟨h1,h2⟩:=hr.ow p T' m es x g' (gat p T' m es hp) hx hgx;refine⟨fun b hb=>h1 b (hμ b _ hb).2,?_⟩;rintro o (hv| ⟨rfl,_⟩)
         · exact h2 o hv
         · exact absurd hg (h1 (.loc j))
       · exact fun p p' T' m es T'' m' es' x x' g' hp hp'=>hr.ow2 p p' T' m es T'' m' es' x x' g' (gat _ _ _ _ hp) (gat _ _ _ _ hp')
       · exact hr.gq
     · exact hf.vis hVV fun x o hv=>by
        rcases hv with hv| ⟨rfl,_⟩
        · exact .inl hv
        · rcases hl.box _ _ hg with h|h
          · exact .inr (.inr h)
          · exact .inr (.inl h)
     · constructor
       · exact fun b x hb=>hl.box b x (hμ b x hb).2
       · intro i;have:BName.par i≠ .loc j:=by intro e;cases e
         simp only[μ',this,if_false];exact hl.par i
       · exact fun p T' m es x g' hp=>hl.own p T' m es x g' (gat p T' m es hp)
   · cases hs
 · split at hs
   · rename_i hU;subst hU;split at hs
     · rename_i r hil;injection hs with hs;subst hs;exact⟨e0v hil hk h,rfl⟩
     · rename_i hil;injection hs with hs;subst hs;exact⟨e9q hil hk h,rfl⟩
   · injection hs with hs;subst hs;exact⟨h,rfl⟩
 · injection hs with hs;subst hs;exact⟨h,rfl⟩
 · injection hs with hs;subst hs;exact⟨h,rfl⟩
 · cases hs
theorem d1k:∀ {l:List (Nat×TypeId)} {s s':St},d1l E l s=some s'→Sim E.P w0 V0 T0 Q s a w→Sim E.P w0 V0 T0 Q s' a w∧s'.ver=s.ver
 | [],s,s',hs,h=>by simp only[d1l] at hs;injection hs with hs;subst hs;exact⟨h,rfl⟩
 | (k,T)::r,s,s',hs,h=>by
  simp only[d1l] at hs;obtain⟨s1,h1,hs⟩:=bind_some hs;obtain⟨h2,h3⟩:=g8f h1 h;obtain⟨h4,h5⟩:=d1k hs h2;exact⟨h4,h5.trans h3⟩
theorem g8e{f:FuncId}{id:Nat}{N:Nat}(hs:i8l E f id s=some s')(h:b8m E.P w0 V0 T0 N s.ver s a w):b8m E.P w0 V0 T0 N s'.ver s' a w:=by
 unfold i8l at hs;split at hs
 · injection hs with hs;subst hs;exact h
 · obtain⟨h1,h2⟩:=d1k hs h.1;rw[h2];exact⟨h1,h.2⟩
end
end Go.Av
namespace Go.Av
structure Ap (w:World) (V:Vis) (x:Value) (T:TypeId) (es:List AVal) (r:Value) (w1:World) (V1:Vis):Prop where
 os:w1.os=w.os
 tape:w1.tape=w.tape
 output:w1.output=w.output
 size:w.heap.size≤w1.heap.size
 keep:a3x w V w1 V1
 rep:a1t w1 V1 (.slice es) r
 heap:∀g:Nat,g<w.heap.size→w1.heap[g]? =w.heap[g]? ∨(ownBlock x=some g∧∃cur cur',w.heap[g]? =some (.cells cur T (0,0))∧w1.heap[g]? =some (.cells cur' T (0,0))∧cur'.size=cur.size)
 vis:∀g o,V1 g o→g<w1.heap.size
section
variable{E:Env}{w0:World}{V0:Vis}{T0:Tch}{Q Q':Nat→Prop}{s s' s1:St}{a:Act}{w w1 w':World}{V V1 V':Vis}{μ μ':a5m}{γ γ':a7a}
theorem i7x(h:SRel E.P Q s a w V μ γ)(hl:Loc w0 T0 s μ γ){o:Oper}{x y:Operand}{t t2 T:TypeId}(ho:o.op=.call {callee:=.builtin .append,args:= #[x,y],argTypes:= #[t,t2]})(hte:a1g E.P t=some T){v:AVal}(hv:rd s y=some v)
 {news:List AVal} (hnews:d4b E (some t2) v=some news) {es:List AVal} {fl:Bool} (how:b4n s T x=some (es,s1,fl)) (c1:es.length+news.length≤a0s) (c2:c8d (a1d E.P T) news=true) (c3:E.P.bytesOf T≤32768) (c4:a9v E.P T=some (a1d E.P T))
 (c5:(fl&&news.isEmpty)=false) (c6:(fl&& !c8d (a1d E.P T) es)=false):
 ∃r w1 V1,(execOp a.eval o).run E.P w=.ok (.value r) w1∧Ap w V (a.eval x) T (es++news) r w1 V1∧∀g:Nat,g<w.heap.size→w1.heap[g]? =w.heap[g]? ∨((∀b,μ b≠some g)∧(T0 g∨w0.heap.size≤g)):=by
 unfold a1d at c2 c4 c6;have hpos:0<E.P.cellsOf T:=by unfold c8d at c2;simp only[Bool.and_eq_true,decide_eq_true_eq] at c2;exact c2.1
 obtain⟨i,hi,hisz⟩:=a8u (P:=E.P) (t:=T) (by omega);obtain⟨z,hz0,hzs⟩:=map_some c4;rw[hi,Option.bind_some] at hz0;have hby:i.bytes≤32768:=by unfold Program.bytesOf at c3;rw[hi] at c3;simpa using c3
 obtain⟨_,d,ht2,hud,hnd,hlen,nvs,hnv,hnf⟩:=c2r h hv hnews c2;injection ht2 with ht2;subst ht2;have hTm:=b3n hte;obtain⟨h1,hl1,hcase⟩:=b8x h hl hTm how;unfold a0s at c1;have hexec:∀r w',(Builtin.append_ #[t,t2] o.type #[a.eval x,a.eval y]).run E.P w=.ok r w'→(execOp a.eval o).run E.P w=.ok (.value r) w':=by
  intro r w' hr;simp[execOp,ho,resolve,invoke,builtin,hr]
 have hfit:∀c,c<es.length+news.length→Builtin.nextslicecap (es.length+news.length) c*i.bytes≤281474976710656:=fun c hc=>
  growslice_fits hc (Nat.le_trans (Nat.mul_le_mul c1 hby) (by decide))
 have grow:∀A c vs,a.eval x=.slice A es.length c→c<es.length+news.length→b7w w V (E.P.cellsOf T) es vs→(∀w2:World,w2.heap=w.heap→(Builtin.firstCells (E.P.cellsOf T) es.length (.slice A es.length c)).run E.P w2=.ok vs.toArray w2)→
  ∃r w1 V1,(execOp a.eval o).run E.P w=.ok (.value r) w1∧Ap w V (a.eval x) T (es++news) r w1 V1∧∀g:Nat,g<w.heap.size→w1.heap[g]? =w.heap[g]? ∨((∀b,μ b≠some g)∧(T0 g∨w0.heap.size≤g)):=by
  intro A c vs hx hlt hvs hfc;have hr:=b0f (P:=E.P) (w:=w) (ty:=o.type) (a2z hte) hud hnd hi hz0 (A:=A) (sLen:=es.length) (sCap:=c) (m:=news.length) (x:=a.eval y) (olds:=vs) (news:=nvs) hlen
   (by rw[hisz];exact hfc _ rfl) (by rw[hisz];exact hnf _ rfl) hlt (by omega) (hfit c hlt)
  rw[←hx] at hr;have hge:=b5z w (es.length+news.length) c T;have hlv:=hvs.length;have hln:=hnv.length
  let V1:Vis:=fun g o=>V g o∨(g=w.heap.size∧o<(es++news).length*E.P.cellsOf T)
  have hdr:w.drew.heap=w.heap:=rfl;refine⟨_,_,V1,hexec _ _ hr,?_,fun g hg=>.inl (by rw[a6p (by exact hg)];rfl)⟩;generalize hcells:(vs.toArray++nvs.toArray++Builtin.zeroCells z.cells (grownCap w (es.length+news.length) c T - (es.length+news.length)))=cells;have hkeep:a3x w V (w.drew.alloc (.cells cells T)) V1:=fun g o hg=>⟨.inl hg,.of (by rw[a6p (by exact h.vis g o hg)];rfl)⟩
  refine {os:=rfl,tape:=rfl,output:=rfl,size:=by simp,keep:=hkeep,rep:=?_,heap:=fun g hg=>.inl (by rw[a6p (by exact hg)];rfl),vis:=?_}
  · have hvn:=b7w.keep hkeep (hvs.append hnv);have hrow:b0v (w.drew.alloc (.cells cells T)) V1 (E.P.cellsOf T) w.heap.size 0 (es++news):=by
     refine a8a hvn (fun j hj=>.inr ⟨rfl,by have:=hvn.length;rw[this] at hj;omega⟩) (fun j u hj=>?_);have hh:(w.drew.alloc (.cells cells T)).heap[w.heap.size]? =some (.cells cells T (0,0)):=a5z (w:=w.drew);rw[Nat.zero_add,a5t hh,←hcells];have hlt2:j<(vs++nvs).length:=(List.getElem?_eq_some_iff.1 hj).1;rw[Array.getElem?_append_left (by simpa using hlt2)];simpa using hj
    simp only[a1t];exact⟨_,_,by rw[List.length_append],by rw[List.length_append];exact hge,.inr ⟨w.heap.size,0,E.P.cellsOf T,rfl,hpos,hrow⟩⟩
  · rintro g o (hv| ⟨rfl,_⟩)
    · have:=h.vis g o hv;simp;omega
    · simp
 rcases hcase with⟨rfl,hr1,A,hx⟩| ⟨rfl,hown,hblk⟩
 · simp only[Bool.true_and,Bool.not_eq_false'] at c5 c6;obtain⟨vs,hvs,hfc⟩:=d8b (E:=E) (T:=T) hr1 hx c6;have hne:0<news.length:=by
    cases news with
    | nil=>simp at c5
    | cons _ _=>simp
   exact grow A es.length vs hx (by omega) hvs hfc
 · obtain⟨A,c,hx,hcap,vs,hvs,hfc⟩:=d3w hTm hown
   by_cases hroom:es.length+news.length≤c
   · rcases hown.toS hTm with⟨rfl,hxn⟩| ⟨g,c',cur,hxr,_,hheap,hcsz,_,hrow⟩
     · rw[hxn] at hx;injection hx with e1 e2 e3;subst e3;subst e1;have hnil:news=[]:=List.eq_nil_of_length_eq_zero (by simp only[List.length_nil] at hroom;omega);subst hnil;have hr:=a4z (P:=E.P) (w:=w) (w':=w) (ty:=o.type) (a2z hte) hud hnd hi (A:=none) (sLen:=0) (sCap:=0) (m:=0) (x:=a.eval y) (news:=nvs) hlen
        (by rw[hisz];exact hnf _ rfl) (by omega) (fun _ e=>by cases e) (fun _=>rfl)
       rw[←hxn] at hr;refine⟨_,_,V,hexec _ _ hr,?_,fun g _=>.inl rfl⟩;refine {os:=rfl,tape:=rfl,output:=rfl,size:=Nat.le_refl _,keep:=.refl _ _,rep:=?_,heap:=fun g _=>.inl rfl,vis:=h.vis};rw[hxn];simp only[a1t];exact⟨none,0,rfl,Nat.le_refl _,.inl rfl⟩
     · rw[hxr] at hx;injection hx with e1 e2 e3;subst e3;subst e1;have hln:=hnv.length;obtain⟨w',cur',hst,hob,hheap',hsz',hcur'⟩:=a7s (P:=E.P) (g:=g) (o:=es.length*E.P.cellsOf T) nvs 0 w cur hheap hnv.one (by
        rw[hcsz,hln,Nat.add_zero,←Nat.add_mul];exact Nat.mul_le_mul_right _ hroom)
       have hr:=a4z (P:=E.P) (w:=w) (w':=w') (ty:=o.type) (a2z hte) hud hnd hi (A:=some ⟨g,0,none⟩) (sLen:=es.length) (sCap:=c') (m:=news.length) (x:=a.eval y) (news:=nvs) hlen
        (by rw[hisz];exact hnf _ rfl) hroom (fun ad e=>by injection e with e;subst e;rw[a6i,hisz,Nat.zero_add];exact hst) (fun e=>by cases e)
       rw[←hxr] at hr;obtain⟨b1,b2,b3,b4⟩:=hblk g (by rw[hxr];rfl)
       let V1:Vis:=fun g' o=>V g' o∨(g'=g∧o<(es++news).length*E.P.cellsOf T)
       have hkeep:a3x w V w' V1:=by
        intro g' p hv;refine⟨.inl hv,?_⟩
        by_cases hg':g'=g
        · subst hg';have:=b2 p hv;refine⟨?_,fun e c hm=>by rw[hheap] at hm;cases hm⟩;rw[a5t hheap,a5t hheap',hcur'];have hni:¬(es.length*E.P.cellsOf T+0≤p∧p<es.length*E.P.cellsOf T+0+nvs.length):=by omega
          simp only[hni,if_false]
        · exact .of (hob.other g' hg')
       have hlt:g<w.heap.size:=(Array.getElem?_eq_some_iff.1 hheap).1;refine⟨_,_,V1,hexec _ _ hr,?_,fun g' _=>?_⟩
       · refine {os:=hob.os,tape:=hob.tape,output:=hob.output,size:=by rw[hob.size];exact Nat.le_refl _,keep:=hkeep,rep:=?_,heap:=fun g' _=>?_,vis:=?_}
         · have hrow2:b0v w' V1 (E.P.cellsOf T) g 0 (es++news):=by
            refine b6x (hrow.keep hkeep) ?_;rw[Nat.zero_add];refine a8a (hnv.keep hkeep) (fun j hj=>.inr ⟨rfl,by rw[List.length_append,Nat.add_mul];omega⟩) (fun j u hj=>?_);rw[a5t hheap',hcur'];have hjl:j<nvs.length:=(List.getElem?_eq_some_iff.1 hj).1;have hin:es.length*E.P.cellsOf T+0≤es.length*E.P.cellsOf T+j∧es.length*E.P.cellsOf T+j<es.length*E.P.cellsOf T+0+nvs.length:=by omega
            simp only[hin,and_self,if_true];rw[show es.length*E.P.cellsOf T+j - (es.length*E.P.cellsOf T+0)=j by omega];exact hj
           simp only[a1t];exact⟨_,_,by rw[List.length_append],by rw[List.length_append];exact hroom,.inr ⟨g,0,E.P.cellsOf T,rfl,hpos,hrow2⟩⟩
         · by_cases hg':g'=g
           · subst hg';exact .inr ⟨by rw[hxr];rfl,cur,cur',hheap,hheap',hsz'⟩
           · exact .inl (hob.other g' hg')
         · rintro g' o (hv| ⟨rfl,_⟩)
           · rw[hob.size];exact h.vis g' o hv
           · rw[hob.size];exact hlt
       · by_cases hg':g'=g
         · subst hg';exact .inr ⟨b1,b4⟩
         · exact .inl (hob.other g' hg')
   · exact grow A c vs hx (by omega) hvs hfc
theorem e7c(hs:d4a s=true){p:Place}{n:Nat}{es:List AVal}(hp:s.at p=some (.own a3i n es)):∀U m fs,es≠[.own U m fs]:=by
 rintro U m fs rfl;unfold d4a at hs;simp only[Bool.and_eq_true] at hs;have key:i8i (.own a3i n [.own U m fs])=false:=by simp[i8i,isL]
 cases p with
 | tmp k=>
  have:=List.all_eq_true.1 hs.1 _ (b3h (show a0i s.tm k=some _ from hp));rw[key] at this;cases this
 | cell b off=>
  simp only[St.at] at hp;obtain⟨cs,h1,h2⟩:=bind_some hp;have hm:=List.mem_of_getElem? h2;cases b with
  | par i=>
   have:=List.all_eq_true.1 (List.all_eq_true.1 hs.2.1 cs (List.mem_of_getElem? (show s.pb[i]? =some cs from h1))) _ hm;rw[key] at this;cases this
  | loc j=>
   have:=List.all_eq_true.1 (List.all_eq_true.1 hs.2.2 _ (b3h (show a0i s.lb j=some cs from h1))) _ hm;rw[key] at this;cases this
theorem Ap.own{x r:Value}{T:TypeId}{es:List AVal}(hap:Ap w V x T es r w1 V1){T':TypeId}{fs:List AVal}{y:Value}(hnl:T'=a3i→∀U m gs,fs≠[.own U m gs])(h:a2t E.P w V T' fs y):a2t E.P w1 V T' fs y:=by
 have hk:a3x w V w1 V:=fun g o hv=>⟨hv,(hap.keep g o hv).2⟩
 by_cases hT:T'=a3i
 · subst hT;rcases h.toM with⟨hc,g,ents,cl,rfl,hh,he⟩| ⟨h1,U,m,fs',g,c,cur,h2,h3,rfl,h5,h6,h7,h8,h9⟩
   · refine .ofM ⟨hc,g,ents,cl,rfl,?_,he.keep hk⟩;rcases hap.heap g (Array.getElem?_eq_some_iff.1 hh).1 with e| ⟨_,cur,cur',e,_⟩
     · rw[e];exact hh
     · rw[hh] at e;cases e
   · exact absurd h2 (hnl rfl U m fs')
 · rcases h.toS hT with⟨rfl,rfl⟩| ⟨g,c,cur,rfl,hc,hh,hs,hp,hr⟩
   · exact .ofS hT (.inl ⟨rfl,rfl⟩)
   · rcases hap.heap g (Array.getElem?_eq_some_iff.1 hh).1 with e| ⟨_,cur0,cur',e,e',hz⟩
     · exact .ofS hT (.inr ⟨g,c,cur,rfl,hc,e.trans hh,hs,hp,hr.keep hk⟩)
     · rw[hh] at e;injection e with e;injection e with e1 e2;subst e1;subst e2;exact .ofS hT (.inr ⟨g,c,cur',rfl,hc,e',by rw[hz,hs],hp,hr.keep hk⟩)
theorem SRel.touch{P:Program}(h:SRel P Q s a w V μ γ)(hk:a3x w V w' V)(hb:∀b g,μ b=some g→w'.heap[g]? =w.heap[g]?)
 (ho:∀p T n es x,s.at p=some (.own T n es)→a2t P w V T es x→a2t P w' V T es x) (hvis:∀g o,V g o→g<w'.heap.size):SRel P Q s a w' V μ γ where
 tm k v hv':=by
  obtain⟨x,h1,h2⟩:=h.tm k v hv';refine⟨x,h1,?_⟩
  by_cases hown:∃T n es,v=.own T n es
  · obtain⟨T,n,es,rfl⟩:=hown;exact⟨ho (.tmp k) T n es x hv' h2.1,h2.2⟩
  · exact h2.keep hk (BLe.refl _) (GLe.refl _) fun T n es g e hg=>absurd ⟨T,n,es,e⟩ hown
 bx b cs hcs:=by
  obtain⟨g,T,cur,h1,h2,h3,h4⟩:=h.bx b cs hcs;refine⟨g,T,cur,h1,(hb b g h1).trans h2,h3,fun i c hc=>?_⟩;obtain⟨x,h5,h6⟩:=h4 i c hc;refine⟨x,h5,?_⟩
  by_cases hown:∃T n es,c=.own T n es
  · obtain⟨T,n,es,rfl⟩:=hown;exact⟨ho (.cell b i) T n es x (by simp[St.at,hcs,hc]) h6.1,h6.2⟩
  · exact h6.keep hk (BLe.refl _) (GLe.refl _) fun T n es g e hg=>absurd ⟨T,n,es,e⟩ hown
 dom:=h.dom
 inj:=h.inj
 visb:=h.visb
 vis:=hvis
 ow:=h.ow
 ow2:=h.ow2
 gq:=h.gq
theorem f7s{u:AVal}{x:Value}(hu:f7t u=true)(h:b2r w V μ u x):b2r w' V' μ' u x:=by
 cases u<;>first|exact h|cases hu
theorem e4s:∀ {vs:List AVal} {xs:List Value},vs.all f7t=true→a3r (b2r w V μ) vs xs→a3r (b2r w' V' μ') vs xs
 | [],[],_,_=>trivial
 | v::vs,x::xs,hv,⟨h1,h2⟩=>by
  simp only[List.all_cons,Bool.and_eq_true] at hv;exact⟨f7s hv.1 h1,e4s hv.2 h2⟩
theorem g8j{u:AVal}{x:Value}(hu:f7r u=true)(h:a4r w V μ u x):a4r w' V' μ' u x:=by
 cases u<;>first|exact h|(cases hu;done)|skip
 obtain⟨z,rfl,h1⟩:=h;exact⟨z,rfl,e4s hu h1⟩
theorem e9t{u:AVal}(hu:f7r u=true):a1k u=true:=by
 cases u<;>first|rfl|cases hu
theorem f7q{P:Program}{p:Place}{u:AVal}{x:Value}(hu:f7r u=true)(h:c1p P w V μ γ p u x):a4r w V μ u x:=by
 cases u<;>first|exact h|cases hu
theorem d1i{o:Oper}{d:Nat}{f:FuncId}{args:List Operand}(h:g8d o=some (d,f,args)):o.dst=some d∧o.guard=none∧∃as ats,o.op=.call {callee:=.value (.func f),args:=as,argTypes:=ats}∧as.toList=args:=by
 unfold g8d at h;split at h
 · rename_i h1 h2 h3;simp only[Option.some.injEq,Prod.mk.injEq] at h;obtain⟨rfl,rfl,rfl⟩:=h;exact⟨h1,h2,_,_,h3,rfl⟩
 · cases h
theorem e4q{o:Oper}{d x z:Nat}{t t2:TypeId}(h:d4n o=some (d,x,z,t,t2)):o.dst=some d∧o.guard=none∧o.op=.call {callee:=.builtin .append,args:= #[.tmp x,.tmp z],argTypes:= #[t,t2]}:=by
 unfold d4n at h;split at h
 · rename_i h1 h2 h3;split at h
   · rename_i h4 h5;simp only[Option.some.injEq,Prod.mk.injEq] at h;obtain⟨rfl,rfl,rfl,rfl,rfl⟩:=h;exact⟨h1,h2,by rw[h3,a8e h4,a8e h5]⟩
   · cases h
 · cases h
theorem i3e(h:SRel E.P Q s a w V μ γ){d:Nat}{u:AVal}{r:Value}(hd:d<a.tmps.size)(hk:a3x w V w1 V1)(hu:strip u=u)(hr:a4r w1 V1 μ u r){x:Operand}{v:AVal}(hv:rd (s.put d u) x=some v):
 a4r w1 V1 μ (strip v) ((a.put (some d) r).eval x):=by
 have old:rd s x=some v→(a.put (some d) r).eval x=a.eval x→a4r w1 V1 μ (strip v) ((a.put (some d) r).eval x):=fun h1 h2=>by
  rw[h2];exact (h.rd h1).strip.keep hk (BLe.refl _)
 cases x with
 | const c=>exact old hv rfl
 | global g=>exact old hv rfl
 | func f=>exact old hv rfl
 | tmp k=>
  by_cases hdk:d=k
  · subst hdk;simp only[rd,St.put,a1r,if_true] at hv;injection hv with hv;subst hv;rw[hu];have:(a.put (some d) r).eval (.tmp d)=r:=by simp[Act.eval,Act.put,Array.getD_eq_getD_getElem?,hd]
    rw[this];exact hr
  · simp only[rd,St.put,a1r,hdk,if_false] at hv;exact old hv (by simp only[Act.eval,Act.put,Array.getD_eq_getD_getElem?];rw[Array.getElem?_setIfInBounds_ne hdk])
theorem d0l(h:SRel E.P Q s a w V μ γ){d:Nat}{u:AVal}{r:Value}(hd:d<a.tmps.size)(hk:a3x w V w1 V1)(hu:strip u=u)(hr:a4r w1 V1 μ u r):∀ {xs:List Operand} {vs:List AVal},a9z (s.put d u) xs=some vs→
 a3r (a4r w1 V1 μ) vs (xs.map (a.put (some d) r).eval)
 | [],vs,hv=>by simp only[a9z] at hv;injection hv with hv;subst hv;trivial
 | x::xs,vs,hv=>by
  simp only[a9z] at hv;obtain⟨v,h1,hv⟩:=bind_some hv;obtain⟨vs',h2,rfl⟩:=map_some hv;exact⟨i3e h hd hk hu hr h1,d0l h hd hk hu hr h2⟩
theorem SRel.dropT{P:Program}(h:SRel P Q s a w V μ γ)(d:Nat)(r:Value):SRel P Q (s.drop d) (a.put (some d) r) w V μ γ:=by
 have gt:∀k v,a0i (s.drop d).tm k=some v→d≠k∧a0i s.tm k=some v:=by
  intro k v hv;simp only[St.drop,b3i] at hv;split at hv
  · cases hv
  · rename_i hne;exact⟨hne,hv⟩
 have gb:∀b,(s.drop d).box b=s.box b:=fun b=>by cases b<;>rfl
 have gat:∀p v,(s.drop d).at p=some v→s.at p=some v:=by
  intro p v hp;cases p with
  | tmp k=>exact (gt k v hp).2
  | cell b off=>simp only[St.at] at hp⊢;rw[gb] at hp;exact hp
 refine {tm:=?_,bx:=fun b cs hb=>h.bx b cs (by rw[←gb];exact hb),dom:=fun b g hg=>by rw[gb];exact h.dom b g hg,inj:=h.inj,visb:=h.visb,vis:=h.vis,ow:=fun p T n es x g hp=>h.ow p T n es x g (gat p _ hp),ow2:=fun p p' T n es T' n' es' x x' g hp hp'=>h.ow2 p p' T n es T' n' es' x x' g (gat p _ hp) (gat p' _ hp'),gq:=h.gq};intro k v hv;obtain⟨hne,h1⟩:=gt k v hv;obtain⟨x,h2,h3⟩:=h.tm k v h1;exact⟨x,by simp only[Act.put];rw[Array.getElem?_setIfInBounds_ne hne];exact h2,h3⟩
theorem Loc.dropT(hl:Loc w0 T0 s μ γ)(d:Nat):Loc w0 T0 (s.drop d) μ γ:=by
 refine⟨hl.box,hl.par,fun p T n es x g hp hx hg=>hl.own p T n es x g ?_ hx hg⟩;cases p with
 | tmp k=>
  simp only[St.at,St.drop,b3i] at hp⊢;split at hp
  · cases hp
  · exact hp
 | cell b off=>cases b<;>exact hp
theorem i5e{D:Den}(hD:a4x E.P T0.F D)(hd:a.defers=[])(h:SRel E.P Q s a w V μ γ)(hf:Fr w0 V0 T0 w V)(hl:Loc w0 T0 s μ γ)(hQ:QLe Q Q'){ap cl:Oper}(hok1:c4j a.tmps.size ap=true)(hok2:c4j a.tmps.size cl=true)
 (hs:c2v E D s ap cl=some s') {X:Exit→Act→World→Prop}:ap.wp E.P a w (fun a1 w1=>cl.wp E.P a1 w1 (Sim E.P w0 V0 T0 Q' s') X) X:=by
 unfold c2v at hs;split at hs
 · rename_i d x z t t2 d' f args hap hcl;obtain⟨T,hT,hs⟩:=bind_some hs;obtain⟨v,hv,hs⟩:=bind_some hs;obtain⟨news,hnews,hs⟩:=bind_some hs;obtain⟨⟨es,s1,fl⟩,how,hs⟩:=bind_some hs;split at hs
   · rename_i hc;obtain⟨c1,c2,c3,c4,c5,c6,c7⟩:=hc;unfold d7o at hs;obtain⟨as,has,hs⟩:=bind_some hs;split at hs
     · rename_i hno;obtain⟨q,hq,hs⟩:=bind_some hs;split at hs
       · rename_i hfl;injection hs with hs;subst hs;obtain⟨p1,p2,p3⟩:=e4q hap;obtain⟨q1,q2,as0,ats,q3,q4⟩:=d1i hcl;obtain⟨r,w1,V1,hrun,hA,hbx⟩:=i7x h hl p3 hT (y:=.tmp z) hv hnews how c1 c2 c3 c4 c5 c6;have hdl:d<a.tmps.size:=a6y hok1 d p1;have hdl':d'<a.tmps.size:=a6y hok2 d' q1;refine a9s hrun ?_;rw[p1];have hrep:a4r w1 V1 μ (.slice (es++news)) r:=hA.rep;have hargs:=d0l h hdl hA.keep rfl hrep has;have hno':∀u∈as,names u=[]:=fun u hu=>by
          have:=List.flatMap_eq_nil_iff.1 (List.isEmpty_iff.1 hno) u hu;exact this
         have hq2:q.2=[]:=List.isEmpty_iff.1 hfl.1
         let T1:Tch:=⟨fun _=>False,fun _=>none,T0.S,T0.F⟩
         have hseal:Sealed T1 w1:=by
          have key:∀g,T0.S g→w1.heap[g]? =w0.heap[g]? :=fun g hg=>by
           have hlt:=hf.sl.lt g hg;have hnt:=hf.sl.no g hg;rcases hbx g (Nat.lt_of_lt_of_le hlt hf.size) with e| ⟨_,e⟩
           · rw[e];exact hf.keep g hlt hnt
           · rcases e with e|e
             · exact absurd e hnt
             · omega
          exact⟨fun g hg=>Nat.lt_of_lt_of_le (hf.sl.lt g hg) (Nat.le_trans hf.size hA.size),fun _ _ h=>h,hf.sl.cong _ _ key hf.sl.fact,hf.sl.cong⟩
         obtain⟨hen,hcalls⟩:=hD.plain f as [] q hq ((as0.map (a.put (some d) r).eval)) w1 V1 T1 (fun _=>none) (fun _ _=>none) a
          (by
            have e:(as0.map (a.put (some d) r).eval).toList=args.map (a.put (some d) r).eval:=by rw[Array.toList_map,q4]
            rw[e];have:=hargs;have go:∀ {us:List AVal} {ys:List Value},(∀u∈us,names u=[])→a3r (a4r w1 V1 μ) us ys→a3r (a4r w1 V1 fun _=>none) us ys:=by
             intro us
             induction us with
             | nil=>intro ys _ h;cases ys<;>exact h
             | cons u us ih=>
              intro ys hn h;cases ys with
              | nil=>exact h
              | cons y ys=>exact⟨h.1.sub fun b hb=>(by rw[hn u (by simp)] at hb;cases hb),ih (fun u hu=>hn u (by simp[hu])) h.2⟩
            exact go hno' this)
          (b3p has)
          { tm:=fun k v hv=>by simp[a5q,a0i] at hv
            bx:=fun b cs hb=>by cases b<;>simp[a5q,St.box,a0i] at hb
            dom:=fun b g hg=>by cases hg
            inj:=fun b b' g hg=>by cases hg
            visb:=fun b g hg=>by cases hg
            vis:=hA.vis
            ow:=fun p T n es x g hp hx=>by cases hx
            ow2:=fun p p' T n es T' n' es' x x' g hp hp' hx=>by cases hx
            gq:=fun p n hp=>absurd rfl hp}
          ⟨fun b g hg=>(by cases hg),fun _=>rfl,fun p T n es x g hp hx=>(by cases hx)⟩ rfl hseal
         have hrun2:(execOp (a.put (some d) r).eval cl).run E.P w1=.ok (.enter f (as0.map (a.put (some d) r).eval)) w1:=by
          have:=c6u (a:=a.put (some d) r) (w:=w1) (x:= #[]) (y:= #[]) q3 (by rfl) hen;simpa using this
         refine d2m hrun2 (Calls.mono hcalls fun e w2 he=>?_);obtain⟨u,rfl,V2,γ2,a2,μ2,ha2,_,hk2,hfc,_,_⟩:=he;refine⟨u,rfl,?_⟩;rw[q1];have hKv:a3x w V w2 V:=fun g o hg=>⟨hg,((hA.keep.trans hfc.vkeep) g o hg).2⟩
         have heq:∀g:Nat,g<w1.heap.size→w2.heap[g]? =w1.heap[g]? :=fun g hg=>hfc.keep g hg (fun h=>h);have h2:SRel E.P Q s a w2 V μ γ:=by
          refine h.touch hKv (fun b g hb=>?_) (fun p0 T n es x hp0 ho=>?_) (fun g o hg=>Nat.lt_of_lt_of_le (h.vis g o hg) (Nat.le_trans hA.size hfc.size))
          · have hlt:=b2g h hb;rw[heq g (Nat.lt_of_lt_of_le hlt hA.size)];rcases hbx g hlt with e| ⟨e,_⟩
            · exact e
            · exact absurd hb (e b)
          · have ho1:=hA.own (fun e=>by subst e;exact e7c c7 hp0) ho;refine ho1.keep (fun g o hg=>⟨hg,(hfc.vkeep g o ?_).2⟩) fun g hg=>heq g ?_
            · exact (hA.keep g o hg).1
            · have hlt:g<w.heap.size:=by
               by_cases hT:T=a3i
               · subst hT;rcases ho.toM with⟨_,g',ents,cl,rfl,hh,_⟩| ⟨_,U,m,fs,g',c,cur,_,_,rfl,_,hh,_⟩
                 · simp only[ownBlock] at hg;injection hg with hg;subst hg;exact (Array.getElem?_eq_some_iff.1 hh).1
                 · simp only[ownBlock] at hg;injection hg with hg;subst hg;exact (Array.getElem?_eq_some_iff.1 hh).1
               · rcases ho.toS hT with⟨rfl,rfl⟩| ⟨g',c,cur,rfl,_,hh,_⟩
                 · cases hg
                 · simp only[ownBlock] at hg;injection hg with hg;subst hg;exact (Array.getElem?_eq_some_iff.1 hh).1
              exact Nat.lt_of_lt_of_le hlt hA.size
         have hf2:Fr w0 V0 T0 w2 V:=
          { os:=(hfc.os.trans hA.os).trans hf.os,tape:=(hfc.tape.trans hA.tape).trans hf.tape,output:=(hfc.output.trans hA.output).trans hf.output,
            size:=Nat.le_trans hf.size (Nat.le_trans hA.size hfc.size),
            keep:=fun g hg ht=>by
             have hlt:=Nat.lt_of_lt_of_le hg hf.size;rw[heq g (Nat.lt_of_lt_of_le hlt hA.size)];rcases hbx g hlt with e| ⟨_,e⟩
             · rw[e];exact hf.keep g hg ht
             · rcases e with e|e
               · exact absurd e ht
               · omega,
            vkeep:=hf.vkeep.trans hKv,vnew:=hf.vnew,sl:=hf.sl}
         obtain⟨y,hy0,hy⟩:=hk2.tm 0 q.1 rfl;have:y=u:=by rw[ha2] at hy0;simpa using hy0.symm
         subst this;exact b5h (dst:=some d') (by exact hd) (h2.dropT d r) hf2 (hl.dropT d) hQ (fun k e=>by injection e with e;subst e;rw[b1y];exact hdl') (e9t hfl.2) (g8j hfl.2 (f7q hfl.2 hy))
       · cases hs
     · cases hs
   · cases hs
 · cases hs
theorem g6r{D:Den}(hD:a4x E.P T0.F D){ops:Array Oper}{N:Nat}{Qx:Exit→Act→World→Prop}{m:Option Nat}{n:Nat}(hok:∀o∈ops.toList,c4j N o=true)(hs:f4f E D m (ops.toList.map (·.dst)) n ops.toList s=some s')(hsim:b8m E.P w0 V0 T0 N n s a w)
 (hQx:∀a' w',b8m E.P w0 V0 T0 N (n+ops.size) s' a' w'→Qx .normal a' w'):wpOps E.P ops Qx (List.range' 0 ops.toList.length) a w:=by
 unfold f4f at hs;split at hs
 · exact i4q hD ops.toList 0 n s s' a w (fun j o hj=>by simpa using hj) (by simp) hok hs hsim (fun a' w' h'=>hQx a' w' (by simpa using h'))
 · rename_i m;obtain⟨s1,h1,hs⟩:=bind_some hs;split at hs
   · rename_i ap cl r hdr;obtain⟨s2,h2,hs⟩:=bind_some hs;have hlen:m+(r.length+2)=ops.size:=by
      have e1:=congrArg List.length hdr;simp only[List.length_drop,Array.length_toList,List.length_cons] at e1;omega
     have htk:(ops.toList.take m).length=m:=by rw[List.length_take,Array.length_toList];omega
     have e:List.range' 0 ops.toList.length=List.range' 0 (ops.toList.take m).length++(m::(m+1)::List.range' (m+2) r.length):=by
      rw[htk,Array.length_toList,←hlen,←List.range'_append_1,Nat.zero_add,List.range'_succ,List.range'_succ]
     have hget:∀j o,(ap::cl::r)[j]? =some o→ops[m+j]? =some o:=fun j o hj=>by
      rw[←hdr,List.getElem?_drop] at hj;simpa using hj
     have hmem:∀o∈ap::cl::r,c4j N o=true:=fun o ho=>hok o (List.mem_of_mem_drop (by rw[hdr];exact ho));rw[e];refine b2b hD (ops.toList.take m) 0 n s s1 a w (fun j o hj=>?_) (fun o ho=>hok o (List.mem_of_mem_take ho)) h1 hsim fun a1 w1 hs1=>?_
     · rw[List.getElem?_take] at hj;split at hj
       · simpa using hj
       · cases hj
     · rw[htk] at hs1;obtain⟨⟨hd,V,μ,γ,h,hf,hl⟩,hN⟩:=hs1;have g1:ap.guard=none:=by
        unfold c2v at h2;split at h2
        · rename_i q _;exact (e4q q).2.1
        · cases h2
       have g2:cl.guard=none:=by
        unfold c2v at h2;split at h2
        · rename_i q;exact (d1i q).2.1
        · cases h2
       have o1:ops[m]? =some ap:=by simpa using hget 0 ap rfl
       have o2:ops[m+1]? =some cl:=hget 1 cl rfl;rw[wpOps_cons];unfold wpOp;simp only[o1,Region.wanted,g1,if_true];refine .inl (Oper.wp_mono (fun a2 w2 h3=>?_) (b8n (i5e (Q':=fun k=>k<n+m+2) hD hd h hf hl (fun k hk=>by omega) (by rw[hN];exact hmem ap (by simp)) (by rw[hN];exact hmem cl (by simp)) h2)));obtain⟨h3,hz⟩:=h3;rw[wpOps_cons];unfold wpOp;simp only[o2,Region.wanted,g2,if_true];refine .inl (Oper.wp_mono (fun a3 w3 h4=>?_) (b8n h3));obtain⟨h4,hz2⟩:=h4;have:=b2b (Qx:=Qx) (R:=[]) hD r (m+2) (n+m+2) s2 s' a3 w3 (fun j o hj=>by
        have:=hget (j+2) o (by simpa using hj);rw[show m+2+j=m+(j+2) by omega];exact this) (fun o ho=>hmem o (by simp[ho])) hs ⟨h4,by rw[hz2,hz,hN]⟩ (fun a' w' h'=>hQx a' w' (by rw[←hlen,show n+(m+(r.length+2))=n+m+2+r.length by omega];exact h'))
       simpa using this
   · cases hs
end
end Go.Av
namespace Go.Av
open Go.RowKit (Below)
def h5o(P:Program)(g:FuncId)(T:TypeId):Prop:=b0m P g∧
 (∀(n c:Nat) (w:World),Calls P g #[.slice none n c] w fun e w'=>e=.returned (.slice none 0 0)∧w'=w)∧
 (∀(ad:Addr) (c:Nat) (w:World),Calls P g #[.slice (some ad) 0 c] w fun e w'=>(∃A c',e=.returned (.slice A 0 c'))∧Below w.heap.size w w')∧
 ∀(b off n c:Nat) (news:List Value) (w:World),news.length=n*P.cellsOf T→0<n→n≤1073741824→P.bytesOf T≤32768→(∀j u,news[j]? =some u→w.cell? ⟨b,off+j,none⟩=some u)→(∀u∈news,u.oneCell'=true)→
  Calls P g #[.slice (some ⟨b,off,none⟩) n c] w fun e w'=>∃v',e=.returned v'∧w'.ownsRow w.heap.size T (P.cellsOf T) v' n news∧Below w.heap.size w w'
def c4g(_:Env):Prop:=True
section
variable{E:Env}{w0:World}{V0:Vis}{T0:Tch}{Q Q':Nat→Prop}{s s1 s':St}{a:Act}{w w':World}{V V':Vis}{μ μ':a5m}{γ γ':a7a}
theorem c9c(h:SRel E.P Q s a w V μ γ)(hb:Below w.heap.size w w'):a3x w V w' V:=fun g o hv=>⟨hv,.of (hb.block g (h.vis g o hv))⟩
theorem SRel.below(h:SRel E.P Q s a w V μ γ)(hb:Below w.heap.size w w'):SRel E.P Q s a w' V μ γ:=
 h.world (c9c h hb) (fun _ _ hm=>hb.block _ (b2g h hm)) (fun _ _ _ _ _ _ hp hx hg=>hb.block _ (b2a h hp hx hg)) (fun _ _ hv=>.inl hv) (fun g o hv=>Nat.lt_of_lt_of_le (h.vis g o hv) hb.size)
theorem Fr.below(hf:Fr w0 V0 T0 w V)(h:SRel E.P Q s a w V μ γ)(hb:Below w.heap.size w w'):Fr w0 V0 T0 w' V where
 os:=hb.os.trans hf.os
 tape:=hb.tape.trans hf.tape
 output:=hb.output.trans hf.output
 size:=Nat.le_trans hf.size hb.size
 keep g hg ht:=(hb.block g (Nat.lt_of_lt_of_le hg hf.size)).trans (hf.keep g hg ht)
 vkeep:=hf.vkeep.trans (c9c h hb)
 vnew:=hf.vnew
 sl:=hf.sl
theorem g2b(hd:a.defers=[])(h:SRel E.P Q s a w V μ γ)(hf:Fr w0 V0 T0 w V)(hl:Loc w0 T0 s μ γ)(hQ:QLe Q Q'){n:Nat}(hn:¬Q n)(hn':Q' n){dst:Option Nat}(hdst:∀k,dst=some k→k<a.tmps.size)
 {T:TypeId} {g off:Nat} {cs:List AVal} {cur:Array Value} {pv:Value} (hheap:w.heap[g]? =some (.cells cur T (0,0))) (hlen:cs.length≤cur.size) (hc:a3r (a3k w V μ) cs (cur.toList.take cs.length))
 (hnb:∀b,μ b≠some g) (hnv:∀o,¬V g o) (hno:∀p T n es x,s.at p=some (.own T n es)→γ p n=some x→ownBlock x≠some g) (ht:T0 g∨w0.heap.size≤g) (hpv:d9i g off pv) (hs:g1h s n dst off cs=some s'):
 Sim E.P w0 V0 T0 Q' s' (a.put dst pv) w:=by
 unfold g1h at hs;split at hs
 · rename_i k;split at hs
   · rename_i hnone;injection hs with hs;subst hs
     let μ':a5m:=fun b=>if b=.loc k then some g else μ b
     let γ':a7a:=fun p m=>match p with
      | .cell (.loc j) i=>if j=k∧m=n then cur[i]? else γ p m
      | p=>γ p m
     have hg:GLe γ γ':=by
      intro p m x hx;have hne:m≠n:=by rintro rfl;rw[b7k h hn] at hx;cases hx
      cases p with
      | tmp j=>exact hx
      | cell b i=>cases b<;>simp[γ',hne,hx]
     have hq:∀p m,γ' p m≠none→Q' m:=by
      intro p m hm;cases p with
      | tmp j=>exact hQ m (h.gq _ m hm)
      | cell b i=>
       cases b with
       | par j=>exact hQ m (h.gq _ m hm)
       | loc j=>
        by_cases hj:j=k∧m=n
        · rw[hj.2];exact hn'
        · simp only[γ',hj,if_false] at hm;exact hQ m (h.gq _ m hm)
     have hle:BLe μ μ':=by
      intro b g' hb;have:b≠ .loc k:=by
       rintro rfl;obtain⟨cs',h2⟩:=h.dom _ _ hb;simp only[St.box] at h2;rw[hnone] at h2;cases h2
      simp[μ',this,hb]
     have htk:∀i x,(cur.toList.take cs.length)[i]? =some x→cur[i]? =some x:=fun i x hx=>by
      rw[List.getElem?_take] at hx;split at hx
      · simpa using hx
      · cases hx
     have hγc:∀i x,(cur.toList.take cs.length)[i]? =some x→γ' (.cell (.loc k) i) n=some x:=fun i x hx=>by simpa [γ'] using htk i x hx
     have h2:SRel E.P Q' {s with lb:=a7v s.lb k (cs.map (a4g n))} a w V μ' γ':=by
      refine h.addBox (T:=T) (cur:=cur) (g:=g) hnone rfl hg hq hheap hnb hnv hno (by rw[List.length_map];exact hlen) (fun i c hi=>?_) (fun i T' m es x hi hx=>?_)
      · obtain⟨x,h3,h4⟩:=b8r (E:=E) hc hle hγc i c hi;exact⟨x,htk i x h3,h4⟩
      · obtain⟨rfl,m',h3⟩:=a7r hi;obtain⟨y,h4,h5⟩:=hc.get h3;have h6:=hγc i y h4;rw[h6] at hx;injection hx with hx;subst hx;rw[h5.2.2];rfl
     refine⟨hd,V,μ',γ',?_,hf,?_⟩
     · exact h2.put (hdst k rfl) (GLe.refl _) h2.gq ⟨g,by simp[μ'],hpv⟩ (fun T' m es g' e=>by cases e)
     · constructor
       · intro b g' hb
         by_cases hbk:b=.loc k
         · simp only[μ',hbk,if_true] at hb;injection hb with hb;subst hb;exact ht
         · simp only[μ',hbk,if_false] at hb;exact hl.box b g' hb
       · intro i;have:BName.par i≠ .loc k:=by intro e;cases e
         simp only[μ',this,if_false];exact hl.par i
       · intro p T' m es x g' hp hx hgx;rw[b3g] at hp
         by_cases hpk:p=.tmp k
         · simp[hpk] at hp
         · simp only[hpk,if_false] at hp;rw[h3v] at hp;have old:s.at p=some (.own T' m es)→T0 g'∨w0.heap.size≤g':=by
            intro hp;obtain⟨z,hz,_⟩:=h.conc_own hp;have:=hg _ _ _ hz;rw[this] at hx;injection hx with hx;subst hx;exact hl.own p T' m es _ g' hp hz hgx
           cases p with
           | tmp j=>exact old hp
           | cell b off=>
            cases b with
            | par j=>exact old hp
            | loc j=>
             simp only at hp
             by_cases hj:j=k
             · subst hj;simp only[if_true] at hp;obtain⟨rfl,m',h3⟩:=a7r hp;obtain⟨y,h4,h5⟩:=hc.get h3;have h6:=hγc off y h4;rw[h6] at hx;injection hx with hx;subst hx;rw[h5.2.2] at hgx;cases hgx
             · simp only[hj,if_false] at hp;exact old hp
   · cases hs
 · cases hs
theorem a3r.setAt{α β:Type}{R:α→β→Prop}{l:List α}{m:List β}{i:Nat}{a:α}{b:β}(h:a3r R l m)(hb:m[i]? =some b)(hr:R a b):a3r R (l.set i a) m:=by
 refine a3r.of_get (by rw[List.length_set];exact h.length) fun j c hc=>?_;rw[List.getElem?_set] at hc;split at hc
 · rename_i e;subst e;split at hc
   · injection hc with hc;subst hc;exact⟨b,hb,hr⟩
   · cases hc
 · exact h.get hc
theorem i5p{D:Den}(hD:a4x E.P T0.F D)(hd:a.defers=[])(h:SRel E.P Q s a w V μ γ)(hf:Fr w0 V0 T0 w V)(hl:Loc w0 T0 s μ γ)(hQ:QLe Q Q'){n:Nat}(hn:¬Q n)(hn':Q' n){o:Oper}(hdst:∀k,o.dst=some k→k<a.tmps.size)
 {f:FuncId} {i:Nat} {T:TypeId} {args:Array Operand} {ats:Array TypeId} (ho:o.op=.call {callee:=.value (.func f),args,argTypes:=ats}) (hs:e0t D s n o.dst f i T args.toList=some s') {X:Exit→Act→World→Prop}:o.wp E.P a w (Sim E.P w0 V0 T0 Q' s') X:=by cases hs
theorem x_wp(hmk:c4g E){D:Den}(hD:a4x E.P T0.F D)(hd:a.defers=[])(h:SRel E.P Q s a w V μ γ)(hf:Fr w0 V0 T0 w V)(hl:Loc w0 T0 s μ γ)(hQ:QLe Q Q'){n:Nat}(hn:¬Q n)(hn':Q' n){o:Oper}(hdst:∀k,o.dst=some k→k<a.tmps.size)
 (hs:xF E D n o s=some s') {X:Exit→Act→World→Prop}:o.guard=none∧o.wp E.P a w (Sim E.P w0 V0 T0 Q' s') X:=by
 unfold xF at hs;split at hs
 · cases hs
 · rename_i hg;refine⟨hg,?_⟩;split at hs
   · rename_i g args ats ho;split at hs
     · exact i5p hD hd h hf hl hQ hn hn' hdst ho hs
     split at hs
     · exact f2y hD hd h hf hl hQ hn hn' hdst ho hs
     split at hs
     · rename_i x hx;rw[d0b hx] at ho;split at hs
       · rename_i T hT;obtain⟨v,hv,hs⟩:=bind_some hs;obtain⟨es,hes,hs⟩:=bind_some hs;cases hs
       · obtain⟨T,hT,hs⟩:=bind_some hs;cases hs
     · cases hs
   · rename_i b args ats ho;split at hs
     · rename_i x y hb;rw[a8e hb] at ho;obtain⟨T,hT,hs⟩:=bind_some hs;obtain⟨v,hv,hs⟩:=bind_some hs;obtain⟨news,hnews,hs⟩:=bind_some hs;split at hs
       · rename_i hsz;cases hs
       · cases hs
     · cases hs
   · cases hs
theorem f3r(a:Act)(d:Option Nat)(x:Value):(a.put d x).tmps.size=a.tmps.size:=by cases d<;>simp[Act.put]
theorem g0i{o:Oper}{T:TypeId}{ps:Array (Nat×Operand)}(ho:o.op=.build T ps)(hok:a3f E.P T=true){cs:List AVal}(h1:a6u E.P T=some cs):
 ∃(z:Value) (place:Nat→Option (Nat×Nat)),(∀i f,a1x E.P T i=some f→place i=some f)∧a3r (a3k w V μ) cs z.cells.toList∧∀cells',Instr.fill place z.cells (ps.toList.map fun (i,x)=>(i,a.eval x))=some cells'→(execOp a.eval o).run E.P w=.ok (.value (.agg cells')) w:=by
 obtain⟨z,i,hi,hz,hrep⟩:=b9n (w:=w) (V:=V) (μ:=μ) h1;have h5:(ps.map fun (i,x)=>(i,a.eval x)).toList=ps.toList.map fun (i,x)=>(i,a.eval x):=by simp
 unfold a3f at hok;split at hok
 · rename_i fs hu;have hpl:((fs.mapM fun f=>do pure (f.offset,←Go.sizeOf f.type):Sem (Array (Nat×Nat)))).run E.P w=.ok (fs.map fun f=>(f.offset,E.P.cellsOf f.type)) w:=by
    rw[Array.mapM_eq_mapM_toList];have:=b9c (P:=E.P) (w:=w) fs.toList (fun f hf=>by
     have:=List.all_eq_true.1 hok f hf;obtain⟨j,hj⟩:=Option.isSome_iff_exists.1 this;exact⟨j,hj,by unfold Program.cellsOf;rw[hj];rfl⟩)
    simp only[Sem.run_map,this,Result.andThen_ok]
    congr 1
    apply Array.ext';simp
   refine⟨z,((fs.map fun f=>(f.offset,E.P.cellsOf f.type))[·]?),fun i f hp=>?_,hrep,fun cells' h3=>?_⟩
   · unfold a1x at hp;rw[hu] at hp;obtain⟨fd,h6,h7⟩:=map_some hp;simp[h6,h7]
   · simp only[execOp,ho,Instr.build,Sem.run_bind,zeroValue,typeInfo,Sem.run_pure,run_program,Result.andThen_ok,hi,hz,a0e hu];simp only[hpl,Result.andThen_ok,h5,h3,Sem.run_pure]
 · rename_i n e hu;obtain⟨j,hj⟩:=Option.isSome_iff_exists.1 hok;have hsz:=a8s (w:=w) ⟨j,hj,(by unfold Program.cellsOf;rw[hj];rfl:j.size=E.P.cellsOf e)⟩;refine⟨z,fun i=>some (i*E.P.cellsOf e,E.P.cellsOf e),fun i f hp=>?_,hrep,fun cells' h3=>?_⟩
   · unfold a1x at hp;rw[hu] at hp;exact hp
   · simp only[execOp,ho,Instr.build,Sem.run_bind,zeroValue,typeInfo,Sem.run_pure,run_program,Result.andThen_ok,hi,hz,a0e hu];simp only[hsz,Result.andThen_ok,h5,h3,Sem.run_pure]
 · cases hok
theorem k1x{P:Program}(h:SRel P Q s a w V μ γ)(hl:Loc w0 T0 s μ γ){ka kc n m i:Nat}{es:List AVal}{x:Value}{cs:List AVal}(hk:a0i s.tm ka=some (.own a3i n es))(hxr:a.tmps[ka]? =some x)(hxo:Opq x)
 (hb:s.box (.loc kc)=some cs) (hi:cs[i]? =some .opaq) (hcur:∀g T cur,μ (.loc kc)=some g→w.heap[g]? =some (.cells cur T (0,0))→cur[i]? =some x) (hm:∀p,γ p m=none) (hQ:QLe Q Q') (hm':Q' m):
 ∃γ',SRel P Q' ((s.setBox (.loc kc) (cs.set i (.own a3i m es))).put ka .opaq) a w V μ γ'∧Loc w0 T0 ((s.setBox (.loc kc) (cs.set i (.own a3i m es))).put ka .opaq) μ γ':=by
 obtain⟨y,hy,hown,hγ⟩:=h.tm ka _ hk;rw[hxr] at hy;injection hy with hy;subst hy;have hil:i<cs.length:=(List.getElem?_eq_some_iff.1 hi).1
 let γ':a7a:=fun p q=>if p=.cell (.loc kc) i∧q=m then some x else γ p q
 have hg:GLe γ γ':=fun p q y hy=>by
  have hne:q≠m:=by rintro rfl;rw[hm p] at hy;cases hy
  simp[γ',hne,hy]
 have hγ':∀p q,p≠ .cell (.loc kc) i→γ' p q=γ p q:=fun p q hp=>by simp[γ',hp]
 have hset:∀j,(cs.set i (.own a3i m es))[j]? =if j=i then some (.own a3i m es) else cs[j]? :=fun j=>by
  by_cases hj:j=i
  · subst hj;rw[List.getElem?_set_self hil,if_pos rfl]
  · rw[List.getElem?_set_ne (Ne.symm hj),if_neg hj]
 have hat:s.at (.tmp ka)=some (.own a3i n es):=hk;have key:∀p T n' es' z,((s.setBox (.loc kc) (cs.set i (.own a3i m es))).put ka .opaq).at p=some (.own T n' es')→γ' p n'=some z→
  (p=.cell (.loc kc) i∧T=a3i∧es'=es∧z=x)∨(p≠ .tmp ka∧s.at p=some (.own T n' es')∧γ p n'=some z):=by
  intro p T n' es' z hp hz;rw[b3g] at hp
  by_cases hpk:p=.tmp ka
  · simp[hpk] at hp
  · simp only[hpk,if_false] at hp;rw[c1n hb] at hp;cases p with
    | tmp k=>exact .inr ⟨hpk,hp,by rw[hγ' _ _ (by intro e;cases e)] at hz;exact hz⟩
    | cell b off=>
     simp only at hp
     by_cases hbk:b=.loc kc
     · subst hbk;simp only[if_true] at hp;rw[hset] at hp
       by_cases ho:off=i
       · subst ho;simp only[if_true] at hp;injection hp with hp;injection hp with e1 e2 e3;subst e1;subst e2;subst e3;simp only[γ',and_self,if_true] at hz;injection hz with hz;exact .inl ⟨rfl,rfl,rfl,hz.symm⟩
       · simp only[ho,if_false] at hp;refine .inr ⟨hpk,?_,by rw[hγ' _ _ (by intro e;injection e with _ e;exact ho e)] at hz;exact hz⟩;simp only[St.at,hb,Option.bind_some];exact hp
     · simp only[hbk,if_false] at hp;exact .inr ⟨hpk,hp,by rw[hγ' _ _ (by intro e;injection e with e _;exact hbk e)] at hz;exact hz⟩
 refine⟨γ',?_,?_⟩
 · refine {tm:=fun k v hv=>?_,bx:=fun b cs' hb'=>?_,dom:=fun b g hb'=>?_,inj:=h.inj,visb:=h.visb,vis:=h.vis,ow:=?_,ow2:=?_,gq:=?_}
   · simp only[St.put,a1r] at hv
     by_cases hka:ka=k
     · subst hka;simp only[if_true] at hv;injection hv with hv;subst hv;exact⟨x,hxr,hxo⟩
     · simp only[hka,if_false] at hv;obtain⟨y,h1,h2⟩:=h.tm k v hv;exact⟨y,h1,h2.keep (a3x.refl _ _) (BLe.refl _) hg fun _ _ _ _ _ _=>rfl⟩
   · rw[b9l,a6s hb] at hb'
     by_cases hbk:b=.loc kc
     · subst hbk;simp only[if_true] at hb';injection hb' with hb';subst hb';obtain⟨g,T,cur,h1,h2,h3,h4⟩:=h.bx _ cs hb;refine⟨g,T,cur,h1,h2,by rw[List.length_set];exact h3,fun j c hc=>?_⟩;rw[hset] at hc
       by_cases hj:j=i
       · subst hj;simp only[if_true] at hc;injection hc with hc;subst hc;exact⟨x,hcur g T cur h1 h2,hown,by simp[γ']⟩
       · simp only[hj,if_false] at hc;obtain⟨y,h5,h6⟩:=h4 j c hc;exact⟨y,h5,h6.keep (a3x.refl _ _) (BLe.refl _) hg fun _ _ _ _ _ _=>rfl⟩
     · simp only[hbk,if_false] at hb';obtain⟨g,T,cur,h1,h2,h3,h4⟩:=h.bx b cs' hb';refine⟨g,T,cur,h1,h2,h3,fun j c hc=>?_⟩;obtain⟨y,h5,h6⟩:=h4 j c hc;exact⟨y,h5,h6.keep (a3x.refl _ _) (BLe.refl _) hg fun _ _ _ _ _ _=>rfl⟩
   · rw[b9l,a6s hb]
     by_cases hbk:b=.loc kc
     · exact⟨_,if_pos hbk⟩
     · rw[if_neg hbk];exact h.dom b g hb'
   · intro p T n' es' z g hp hz hgz;rcases key p T n' es' z hp hz with⟨rfl,rfl,rfl,rfl⟩| ⟨_,h2,h3⟩
     · exact h.ow _ _ _ _ _ g hat hγ hgz
     · exact h.ow p T n' es' z g h2 h3 hgz
   · intro p p' T n' es' T2 n2 es2 z z2 g hp hp' hz hz2 hgz hgz2;rcases key p T n' es' z hp hz with⟨rfl,rfl,rfl,rfl⟩| ⟨h1,h2,h3⟩<;>rcases key p' T2 n2 es2 z2 hp' hz2 with⟨rfl,rfl,rfl,rfl⟩| ⟨k1,k2,k3⟩
     · rfl
     · exact absurd (h.ow2 _ p' _ _ _ _ _ _ _ _ g hat k2 hγ k3 hgz hgz2).symm k1
     · exact absurd (h.ow2 p _ _ _ _ _ _ _ _ _ g h2 hat h3 hγ hgz hgz2) h1
     · exact h.ow2 p p' _ _ _ _ _ _ _ _ g h2 k2 h3 k3 hgz hgz2
   · intro p q hq
     by_cases hc:p=.cell (.loc kc) i∧q=m
     · rw[hc.2];exact hm'
     · simp only[γ',hc,if_false] at hq;exact hQ q (h.gq p q hq)
 · refine⟨hl.box,hl.par,fun p T n' es' z g hp hz hgz=>?_⟩;rcases key p T n' es' z hp hz with⟨rfl,rfl,rfl,rfl⟩| ⟨_,h2,h3⟩
   · exact hl.own _ _ _ _ _ g hat hγ hgz
   · exact hl.own p T n' es' z g h2 h3 hgz
theorem j4f(hd:a.defers=[])(h:SRel E.P Q s a w V μ γ)(hf:Fr w0 V0 T0 w V)(hl:Loc w0 T0 s μ γ)(hQ:QLe Q Q'){n:Nat}(hn:¬Q n)(hn1:¬Q (n+1))(hn2:¬Q (n+2))(hm:Q' n)(hm1:Q' (n+1))(hm2:Q' (n+2)){o1 o2 o3:Oper}
 (hd1:∀k,o1.dst=some k→k<a.tmps.size) (hd2:∀k,o2.dst=some k→k<a.tmps.size) (hd3:∀k,o3.dst=some k→k<a.tmps.size) (hs:mbF E n o1 o2 o3 s=some s'):
 o1.guard=none∧o2.guard=none∧o3.guard=none∧∃v1 v2 v3 wa wb wc,(execOp a.eval o1).run E.P w=.ok (.value v1) wa∧(execOp (a.put o1.dst v1).eval o2).run E.P wa=.ok (.value v2) wb∧(execOp ((a.put o1.dst v1).put o2.dst v2).eval o3).run E.P wb=.ok (.value v3) wc∧
  Sim E.P w0 V0 T0 Q' s' (((a.put o1.dst v1).put o2.dst v2).put o3.dst v3) wc:=by
 unfold mbF at hs;split at hs
 rotate_left
 · cases hs
 rename_i T ka S ps kb S3 kb' kc g1 g2 g3 p1 q1 p2 q2 p3 q3;split at hs
 rotate_left
 · cases hs
 rename_i x ka' hps;obtain⟨v,hv,hs⟩:=bind_some hs;split at hs
 rotate_left
 · cases hs
 rename_i hc;obtain⟨rfl,rfl,c1,c2,c3,hT,hfo,ht0,ht1,hz,hcl,hnt⟩:=hc;obtain⟨s2,hs2,hs⟩:=bind_some hs;obtain⟨cs,hcs,rfl⟩:=map_some hs;refine⟨g1,g2,g3,?_⟩;rw[q1,q2,q3];rw[q1] at hd1;rw[q2] at hd2;rw[q3] at hd3;have ka_lt:=hd1 ka' rfl;have kb_lt:=hd2 kb' rfl;have kc_lt:=hd3 kc rfl
 -- the map
 have r1:(execOp a.eval o1).run E.P w=.ok (.value (.map (some w.heap.size))) (w.alloc (.map #[] 0)):=by simp[execOp,p1,Instr.makeMap]
 let Q1:Nat→Prop:=fun k=>Q k∨k=n
 obtain⟨hdA,VA,μA,γA,hA,hfA,hlA⟩:=b3o (Q':=Q1) (n:=n) (T:=a3i) (es:=[]) (x:=.map (some w.heap.size)) (dst:=some ka') hd (h.alloc (.map #[] 0)) (hf.alloc h.vis _) hl (fun k hk=>.inl hk) hn (.inr rfl) (fun k hk=>by injection hk with hk;subst hk;exact ka_lt)
  (.ofM ⟨hT,w.heap.size,#[],0,rfl,a5z,trivial⟩) (fun k g _ hg=>by
    simp only[ownBlock] at hg;injection hg with hg;subst hg;exact⟨fun b hb=>by have:=b2g h hb;omega,fun o hv=>by have:=h.vis _ _ hv;omega,fun p' T' n' es' x' _ hp hx hg=>by have:=b2a h hp hx hg;omega,.inr hf.size⟩)
 have hA:SRel E.P Q1 (s.put ka' (.own a3i n [])) (a.put (some ka') (.map (some w.heap.size))) (w.alloc (.map #[] 0)) VA μA γA:=hA;have hlA:Loc w0 T0 (s.put ka' (.own a3i n [])) μA γA:=hlA;generalize hw1:w.alloc (.map #[] 0)=w1 at *;generalize ha1:a.put (some ka') (.map (some w.heap.size))=a1 at *;have hka1:a1.tmps[ka']? =some (.map (some w.heap.size)):=by rw[←ha1];simp[Act.put,ka_lt]
 have sz1:a1.tmps.size=a.tmps.size:=by rw[←ha1];exact f3r _ _ _
 -- the struct
 cases hz0:a6u E.P S with
 | none=>rw[hz0] at hz;cases hz
 | some zs=>
  rw[hz0] at hz;simp only[Option.map_some,Option.some.injEq] at hz;obtain⟨z,place,hpl,hzr,hrun⟩:=g0i (a:=a1) (w:=w1) (V:=VA) (μ:=μA) p2 hfo hz0;have hzl:z.cells.size=2:=by have:=hzr.length;simp only[Array.length_toList] at this;omega
  have hx:=c2m (hA.rd hv) hnt;have hxl:=hx.length;simp only[List.length_map,Array.length_toList] at hxl;have e2:a1.eval (.tmp ka')=.map (some w.heap.size):=by simp[Act.eval,hka1]
  have hfill:Instr.fill place z.cells (ps.toList.map fun (i,x)=>(i,a1.eval x))=some (b0c (b0c z.cells 0 (a1.eval x).cells) 1 #[.map (some w.heap.size)]):=by
   rw[hps];simp only[List.map_cons,List.map_nil];rw[c1a (off:=0) (size:=1) (hpl 0 _ ht0) (by omega) (by omega),e2,c1a (off:=1) (size:=1) (hpl 1 _ ht1) rfl (by rw[a8c];show 1+1≤_;omega)];rfl
  have r2:=hrun _ hfill;generalize hcells:b0c (b0c z.cells 0 (a1.eval x).cells) 1 #[.map (some w.heap.size)]=cells at *;have csz:cells.size=2:=by rw[←hcells,a8c,a8c,hzl]
  have cg1:cells[1]? =some (.map (some w.heap.size)):=by rw[←hcells,b4w (by rw[a8c];show 1+1≤_;omega)];simp
  have cg0:∃y,cells[0]? =some y∧(a1.eval x).cells.toList=[y]:=by
   have hs1:(a1.eval x).cells.toList.length=1:=by rw[Array.length_toList];omega
   have:∃y,(a1.eval x).cells.toList=[y]:=by
    generalize (a1.eval x).cells.toList=L at hs1
    match L,hs1 with
    | [y],_=>exact⟨y,rfl⟩
   obtain⟨y,hy⟩:=this;refine⟨y,?_,hy⟩;rw[←hcells,b4w (by rw[a8c];show 1+1≤_;omega)];simp only[show ¬(1≤0∧0<1+(#[Value.map (some w.heap.size)]:Array Value).size) by omega,if_false];rw[b4w (by omega)];simp only[show 0≤0∧0<0+(a1.eval x).cells.size from⟨Nat.le_refl _,by omega⟩,and_self,if_true,Nat.sub_zero];have:(a1.eval x).cells.toList[0]? =some y:=by rw[hy];rfl
   simpa using this
  obtain⟨y0,cg0,hy0⟩:=cg0;have clist:cells.toList=[y0,.map (some w.heap.size)]:=by
   apply List.ext_getElem?;intro j
   match j with
   | 0=>simpa using cg0
   | 1=>simpa using cg1
   | j+2=>simp[csz]
  have hB:=hA.dropT kb' (.agg cells);have hlB:=hlA.dropT kb';have hcs2:a3r (a3k w1 VA μA) ((cellsOf v).map strip1++[.opaq]) cells.toList:=by
   rw[clist];rw[hy0] at hx;have:=hx.append (show a3r (a3k w1 VA μA) [AVal.opaq] [.map (some w.heap.size)] from⟨.inl ⟨_,rfl⟩,trivial⟩);simpa using this
  generalize ha2:a1.put (some kb') (.agg cells)=a2 at *;have sz2:a2.tmps.size=a.tmps.size:=by rw[←ha2,f3r];exact sz1
  have hka2:a2.tmps[ka']? =some (.map (some w.heap.size)):=by
   rw[←ha2];simp only[Act.put];rw[Array.getElem?_setIfInBounds_ne (Ne.symm c1)];exact hka1
  have ekb:a2.eval (.tmp kb')=.agg cells:=by
   have:a2.tmps[kb']? =some (.agg cells):=by rw[←ha2];simp[Act.put,sz1,kb_lt]
   simp[Act.eval,this]
  -- the variable
  have r3:(execOp a2.eval o3).run E.P w1=.ok (.value (.pointer (some ⟨w1.heap.size,0,none⟩))) (w1.alloc (.cells cells S3)):=by
   simp[execOp,p3,ekb,Instr.box,newVar,newRow,Value.cells]
  let Q2:Nat→Prop:=fun k=>Q1 k∨k=n+2
  have hC:=hB.alloc (.cells cells S3);have hdB:a2.defers=[]:=by rw[←ha2,←ha1];exact hd
  obtain⟨hdD,VD,μD,γD,hD,hfD,hlD⟩:=g2b (Q':=Q2) (n:=n+2) (dst:=some kc) (off:=0) (cs:=(cellsOf v).map strip1++[.opaq]) (cur:=cells) (T:=S3) (g:=w1.heap.size) (pv:=.pointer (some ⟨w1.heap.size,0,none⟩)) hdB hC (hfA.alloc hA.vis _) hlB (fun k hk=>.inl hk)
   (fun e=>by rcases e with e|e;exact hn2 e;omega) (.inr rfl) (fun k hk=>by injection hk with hk;subst hk;rw[sz2];exact kc_lt) a5z (by simp[hcl,csz]) (by
     have:cells.toList.take ((cellsOf v).map strip1++[AVal.opaq]).length=cells.toList:=List.take_of_length_le (by simp[hcl,csz]);rw[this];exact a3r.imp (fun _ _=>a3k.keep (a7i hA.vis) (BLe.refl _)) hcs2)
   (fun b hb=>by have:=b2g hA hb;omega) (fun o hv=>by have:=hA.vis _ _ hv;omega) (fun p T n es x hp hx hg=>by have:=b2a hB hp hx hg;omega) (.inr hfA.size) (c6x _) hs2
  -- the map's owner
  have hkk:a0i s2.tm ka'=some (.own a3i n []):=by
   unfold g1h at hs2;simp only at hs2;split at hs2
   · injection hs2 with hs2;subst hs2;simp[St.put,St.drop,a1r,b3i,Ne.symm c1,Ne.symm c2]
   · cases hs2
  have hpk:a0i s2.tm kc=some (.ptr (.loc kc) 0):=by
   unfold g1h at hs2;simp only at hs2;split at hs2
   · injection hs2 with hs2;subst hs2;simp[St.put,a1r]
   · cases hs2
  have hcs1:cs[1]? =some .opaq:=by
   unfold g1h at hs2;simp only at hs2;split at hs2
   · injection hs2 with hs2;subst hs2;rw[b9l] at hcs;simp only[St.box,a1r,if_true] at hcs;injection hcs with hcs;rw[←hcs];cases hcv:cellsOf v with
     | nil=>rw[hcv] at hcl;cases hcl
     | cons c r=>
      rw[hcv] at hcl;have:r=[]:=List.eq_nil_of_length_eq_zero (by simpa using hcl);subst this;rfl
   · cases hs2
  have hka3:(a2.put (some kc) (.pointer (some ⟨w1.heap.size,0,none⟩))).tmps[ka']? =some (.map (some w.heap.size)):=by
   simp only[Act.put];rw[Array.getElem?_setIfInBounds_ne (Ne.symm c2)];exact hka2
  have hkc3:(a2.put (some kc) (.pointer (some ⟨w1.heap.size,0,none⟩))).tmps[kc]? =some (.pointer (some ⟨w1.heap.size,0,none⟩)):=by
   simp[Act.put,sz2,kc_lt]
  obtain⟨γE,hE,hlE⟩:=k1x (Q':=Q') (m:=n+1) (i:=1) (cs:=cs) (x:=.map (some w.heap.size)) hD hlD hkk hka3 (.inl ⟨_,rfl⟩) hcs hcs1 (fun g T cur hg hcur=>by
   obtain⟨y,hy,g',hg',hpt⟩:=hD.tm kc _ hpk;rw[hkc3] at hy;injection hy with hy;subst hy;rw[hg] at hg';injection hg' with hg';subst hg';rw[a6e (by rw[a9a];decide)] at hpt;injection hpt with hpt;injection hpt with hpt;injection hpt with hpt;subst hpt;rw[a5z] at hcur;injection hcur with hcur;injection hcur with hcur;subst hcur;exact cg1) (fun p=>b7k hD (fun e=>by rcases e with (e|e)|e;exact hn1 e;omega;omega) p) (fun k hk=>by
   rcases hk with (hk|rfl)|rfl
   · exact hQ k hk
   · exact hm
   · exact hm2) hm1
  refine⟨_,.agg cells,.pointer (some ⟨w1.heap.size,0,none⟩),_,w1,w1.alloc (.cells cells S3),r1,?_,?_,?_⟩
  · rw[ha1];exact r2
  · rw[ha1,ha2];exact r3
  · rw[ha1,ha2];exact⟨hdD,VD,μD,γE,hE,hfD,hlE⟩
theorem g6q(hmk:c4g E){D:Den}(hD:a4x E.P T0.F D){ops:Array Oper}{N:Nat}{Qx:Exit→Act→World→Prop}{k m:Option Nat}{n:Nat}(hok:∀o∈ops.toList,c4j N o=true)(hs:f1m E D k m (ops.toList.map (·.dst)) n ops.toList s=some s')(hsim:b8m E.P w0 V0 T0 N n s a w)
 (hQx:∀a' w',b8m E.P w0 V0 T0 N (n+ops.size) s' a' w'→Qx .normal a' w'):wpOps E.P ops Qx (List.range' 0 ops.toList.length) a w:=by
 unfold f1m at hs;split at hs
 · exact g6r hD hok hs hsim hQx
 · rename_i m;obtain⟨s1,h1,hs⟩:=bind_some hs;split at hs
   · rename_i o r hdr;have hlen:m+(r.length+1)=ops.size:=by
      have e1:=congrArg List.length hdr;simp only[List.length_drop,Array.length_toList,List.length_cons] at e1;omega
     have htk:(ops.toList.take m).length=m:=by rw[List.length_take,Array.length_toList];omega
     have e:List.range' 0 ops.toList.length=List.range' 0 (ops.toList.take m).length++(m::List.range' (m+1) r.length):=by
      rw[htk,Array.length_toList,←hlen,←List.range'_append_1,Nat.zero_add,List.range'_succ]
     have hget:∀j o',(o::r)[j]? =some o'→ops[m+j]? =some o':=fun j o' hj=>by
      rw[←hdr,List.getElem?_drop] at hj;simpa using hj
     have hmem:∀o'∈o::r,c4j N o'=true:=fun o' ho=>hok o' (List.mem_of_mem_drop (by rw[hdr];exact ho));split at hs
     · rename_i hmk1;split at hs
       rotate_left
       · cases hs
       rename_i o2 o3 r';obtain⟨s2,h2,hs⟩:=bind_some hs;rw[e];refine b2b hD (ops.toList.take m) 0 n s s1 a w (fun j o' hj=>?_) (fun o' ho=>hok o' (List.mem_of_mem_take ho)) h1 hsim fun a1 w1 hs1=>?_
       · rw[List.getElem?_take] at hj;split at hj
         · simpa using hj
         · cases hj
       rw[htk] at hs1;obtain⟨⟨hd,V,μ,γ,h,hf,hl⟩,hN⟩:=hs1;have g1:ops[m]? =some o:=by simpa using hget 0 o rfl
       have g2:ops[m+1]? =some o2:=hget 1 o2 rfl;have g3:ops[m+2]? =some o3:=hget 2 o3 rfl;obtain⟨e1,e2,e3,v1,v2,v3,wa,wb,wc,r1,r2,r3,hf2⟩:=j4f (Q':=fun k=>k<n+m+3) (n:=n+m) hd h hf hl (fun k hk=>by omega) (by omega) (by omega) (by omega) (by omega) (by omega) (by omega)
        (by rw[hN];exact a6y (hmem o (by simp))) (by rw[hN];exact a6y (hmem o2 (by simp))) (by rw[hN];exact a6y (hmem o3 (by simp))) h2
       rw[show (o2::o3::r').length=r'.length+1+1 from rfl,List.range'_succ,List.range'_succ,wpOps_cons];unfold wpOp;simp only[g1,Region.wanted,e1,if_true];refine .inl (a9s r1 ?_);rw[wpOps_cons];unfold wpOp;simp only[g2,Region.wanted,e2,if_true];refine .inl (a9s r2 ?_);rw[wpOps_cons];unfold wpOp;simp only[g3,Region.wanted,e3,if_true];refine .inl (a9s r3 ?_);have hsz:(((a1.put o.dst v1).put o2.dst v2).put o3.dst v3).tmps.size=N:=by simp only[f3r,hN]
       have:=b2b (Qx:=Qx) (R:=[]) hD r' (m+3) (n+m+3) s2 s' _ wc (fun j o' hj=>by
        rw[show m+3+j=m+(j+3) by omega];exact hget (j+3) o' (by simpa using hj)) (fun o' ho=>hmem o' (by simp[ho])) hs ⟨hf2,hsz⟩ (fun a' w' h'=>hQx a' w' (by
         have hl2:(o2::o3::r').length=r'.length+2:=rfl;rw[←hlen,hl2,show n+(m+(r'.length+2+1))=n+m+3+r'.length by omega];exact h'))
       simpa using this
     rename_i hmk1;obtain⟨s2,h2,hs⟩:=bind_some hs;rw[e];refine b2b hD (ops.toList.take m) 0 n s s1 a w (fun j o' hj=>?_) (fun o' ho=>hok o' (List.mem_of_mem_take ho)) h1 hsim fun a1 w1 hs1=>?_
     · rw[List.getElem?_take] at hj;split at hj
       · simpa using hj
       · cases hj
     · rw[htk] at hs1;obtain⟨⟨hd,V,μ,γ,h,hf,hl⟩,hN⟩:=hs1;have o1:ops[m]? =some o:=by simpa using hget 0 o rfl
       have hx:=fun (X:Exit→Act→World→Prop)=>x_wp (Q':=fun k=>k<n+m+1) (n:=n+m) (X:=X) hmk hD hd h hf hl (fun k hk=>by omega) (by omega) (by omega) (by rw[hN];exact a6y (hmem o (by simp))) h2;rw[wpOps_cons];unfold wpOp;simp only[o1,Region.wanted,(hx fun _ _ _=>False).1,if_true];refine .inl (Oper.wp_mono (fun a2 w2 h3=>?_) (b8n (hx _).2));obtain⟨h3,hz⟩:=h3;have:=b2b (Qx:=Qx) (R:=[]) hD r (m+1) (n+m+1) s2 s' a2 w2 (fun j o' hj=>by
        have:=hget (j+1) o' (by simpa using hj);rw[show m+1+j=m+(j+1) by omega];exact this) (fun o' ho=>hmem o' (by simp[ho])) hs ⟨h3,by rw[hz,hN]⟩ (fun a' w' h'=>hQx a' w' (by rw[←hlen,show n+(m+(r.length+1))=n+m+1+r.length by omega];exact h'))
       simpa using this
   · cases hs
end
end Go.Av
namespace Go.Av
def h5n(P:Program)(b:Frame)(cs:List Frame)(K:List Item)(a:Act)(w:World)(R:Act→World→Prop):Prop:=
 ∃a' w' todo,R a' w'∧Steps P (lone (b.at a K) cs w) (lone {b.at a' todo with mode:=.returning} cs w')
theorem h5n.step{P:Program}{b:Frame}{cs:List Frame}{K K':List Item}{a a1:Act}{w w1:World}{R:Act→World→Prop}(h:step P (lone (b.at a K) cs w)=.next (lone (b.at a1 K') cs w1))(hr:h5n P b cs K' a1 w1 R):h5n P b cs K a w R:=
 let ⟨a',w',todo,h1,h2⟩:=hr
 ⟨a',w',todo,h1,.head h h2⟩
theorem h5n.steps{P:Program}{b:Frame}{cs:List Frame}{K K':List Item}{a a1:Act}{w w1:World}{R:Act→World→Prop}(h:Steps P (lone (b.at a K) cs w) (lone (b.at a1 K') cs w1))(hr:h5n P b cs K' a1 w1 R):h5n P b cs K a w R:=
 let ⟨a',w',todo,h1,h2⟩:=hr
 ⟨a',w',todo,h1,h.trans h2⟩
def b8f(E:Env)(N:Nat)(f:FuncId):Item→Bool
 | .code c=>b2e E N f c
 | .inLoop c=>b2e E N f c
 | _=>true
theorem d1v{id:Nat}:∀ {K K':List Item},exitTo id K=some K'→∀i∈K',i∈K
 | [],_,h=>by simp[exitTo] at h
 | x::K,K',h=>by
  have rest:exitTo id K=some K'→∀i∈K',i∈x::K:=fun h i hi=>List.mem_cons_of_mem _ (d1v h i hi);cases x with
  | inBlock id'=>
   simp only[exitTo] at h;split at h
   · injection h with h;subst h;exact fun i hi=>List.mem_cons_of_mem _ hi
   · exact rest h
  | _=>exact rest (by simpa [exitTo] using h)
theorem f4g{N M:Nat}{o:Oper}(h:N≤M)(ho:c4j N o=true):c4j M o=true:=by
 unfold c4j at *;simp only[Bool.and_eq_true] at *;refine⟨?_,ho.2⟩;have h1:=ho.1;cases hd:o.dst with
 | none=>rfl
 | some k=>rw[hd] at h1;exact decide_eq_true (Nat.lt_of_lt_of_le (of_decide_eq_true h1) h)
def c3o(E:Env):Prop:=
 ∀(D:Den) (w0:World) (V0:Vis) (T0:Tch),a4x E.P T0.F D→∀(N n:Nat) (ps:List (Nat×Nat)) (id:Nat) (ops:Array Oper) (s s1:St) (a:Act) (w:World),
  d4u ps ops.toList=true→(∀o∈ops.toList,c4j N o=true)→b6e E D ps ops.toList (ops.toList.map fun o=>o.dst) s=some s1→
  b8m E.P w0 V0 T0 N s.ver s a w→(Code.region id ops true).wp E.P (fun e a' w'=>e=.normal∧b8m E.P w0 V0 T0 N (s.ver+ops.size) s1 a' w') a w
def c3n(E:Env):Prop:=
 ∀(D:Den) (w0:World) (V0:Vis) (T0:Tch),a4x E.P T0.F D→∀(N n:Nat) (id:Nat) (ops:Array Oper) (s s1:St) (a:Act) (w:World),
  e0r ops=true→(∀o∈ops.toList,c4j N o=true)→b8g E D ops.toList (ops.toList.map fun o=>o.dst) s=some s1→
  b8m E.P w0 V0 T0 N s.ver s a w→(Code.region id ops true).wp E.P (fun e a' w'=>e=.normal∧b8m E.P w0 V0 T0 N (s.ver+ops.size) s1 a' w') a w
def g1c(E:Env)(F:World→Prop):Prop:=∀g p,E.prim g=some p→a4x E.P F fun f as H=>if f=g then p as H else none
section
variable{E:Env}
theorem e6o(hdr:c3o E∧c3n E∧c4g E){D:Den}{w0:World}{V0:Vis}{T0:Tch}(hD:a4x E.P T0.F D){N M:Nat}(hN:M≤N){f:FuncId}{id:Nat}{ops:Array Oper}{d:Bool}{s s1:St}{a:Act}{w:World}
 (hok:b2e E M f (.region id ops d)=true) (hs:a9k E D f id ops d s=some s1) (h:b8m E.P w0 V0 T0 N s.ver s a w):
 (Code.region id ops d).wp E.P (fun e a' w'=>e=.normal∧b8m E.P w0 V0 T0 N s1.ver s1 a' w') a w:=by
 obtain⟨s2,hs2,rfl⟩:=map_some hs;simp only[b2e,Bool.and_eq_true] at hok;obtain⟨k1,k2⟩:=hok;have k1':∀o∈ops.toList,c4j N o=true:=fun o ho=>f4g hN (List.all_eq_true.1 k1 o ho);have fin:∀a' w',b8m E.P w0 V0 T0 N (s.ver+ops.size) s2 a' w'→b8m E.P w0 V0 T0 N (s.ver+ops.size) {s2 with ver:=s.ver+ops.size} a' w':=by
  rintro a' w' ⟨⟨hd,V,μ,γ,h1,h2,h3⟩,h4⟩;exact⟨⟨hd,V,μ,γ,{tm:=h1.tm,bx:=h1.bx,dom:=h1.dom,inj:=h1.inj,visb:=h1.visb,vis:=h1.vis,ow:=h1.ow,ow2:=h1.ow2,gq:=h1.gq},h2,⟨h3.box,h3.par,h3.own⟩⟩,h4⟩
 cases d with
 | false=>
  simp only[Bool.false_eq_true,if_false] at hs2;refine wp_region ?_;rw[List.range_eq_range'];have:=g6q (Qx:=fun e a' w'=>e=.normal∧b8m E.P w0 V0 T0 N (s.ver+ops.size) {s2 with ver:=s.ver+ops.size} a' w') hdr.2.2 hD k1' hs2 h (fun a' w' h'=>⟨rfl,fin a' w' h'⟩);simpa using this
 | true=>
  simp only[if_true] at hs2;split at hs2
  · rename_i ps h1;simp only[h1,Bool.not_true,Bool.false_or] at k2;have:=hdr.1 D w0 V0 T0 hD N s.ver ps id ops s s2 a w k2 k1' hs2 h;intro b k cs;obtain⟨e,a',w',⟨he,hq⟩,harr⟩:=this b k cs;exact⟨e,a',w',⟨he,fin a' w' hq⟩,harr⟩
  · rename_i h1;simp only[h1,Bool.not_true,Bool.false_or] at k2;have:=hdr.2.1 D w0 V0 T0 hD N s.ver id ops s s2 a w k2 k1' hs2 h;intro b k cs;obtain⟨e,a',w',⟨he,hq⟩,harr⟩:=this b k cs;exact⟨e,a',w',⟨he,fin a' w' hq⟩,harr⟩
theorem e2o{F:World→Prop}(hdr:c3o E∧c3n E∧c4g E):∀(n:Nat),(∀m,m<n→a4x E.P F (a8y E (b0w E m)))→∀(f:FuncId) (M N:Nat) (K:List Item) (s:St) (r:AVal×a3e) (b:Frame) (cs:List Frame) (a:Act) (w w0:World) (V0:Vis) (T0:Tch),T0.F=F→
 b0w E n f K s=some r→(∀i∈K,b8f E M f i=true)→M≤N→b8m E.P w0 V0 T0 N s.ver s a w→
 h5n E.P b cs K a w fun a' w'=>∃s',b8m E.P w0 V0 T0 N s'.ver s' a' w'∧b3x E f s'=some r
 | 0,_,_,_,_,_,_,_,_,_,_,_,_,_,_,_,h,_,_,_=>by cases h
 | n+1,hS,f,M,N,K,s,r,b,cs,a,w,w0,V0,T0,hF,h,hK,hN,hsim=>by
  have ih:∀ {K':List Item} {s':St} {a':Act} {w':World},b0w E n f K' s'=some r→(∀i∈K',b8f E M f i=true)→b8m E.P w0 V0 T0 N s'.ver s' a' w'→
   h5n E.P b cs K' a' w' fun a' w'=>∃s',b8m E.P w0 V0 T0 N s'.ver s' a' w'∧b3x E f s'=some r:=
   fun h1 h2 h3=>e2o hdr n (fun m hm=>hS m (by omega)) f M N _ _ r b cs _ _ w0 V0 T0 hF h1 h2 hN h3
  have hd:∀ {i:Item} {k:List Item},K=i::k→b8f E M f i=true∧∀j∈k,b8f E M f j=true:=fun e=>by
   subst e;exact⟨hK _ (by simp),fun j hj=>hK j (by simp[hj])⟩
  have cons:∀ {i:Item} {k:List Item},b8f E M f i=true→(∀j∈k,b8f E M f j=true)→∀j∈i::k,b8f E M f j=true:=fun h1 h2 j hj=>by
   rcases List.mem_cons.1 hj with rfl|hj
   · exact h1
   · exact h2 j hj
  have head:∀ {k:List Item} {s1:St},c2y E f s k=some s1→b8m E.P w0 V0 T0 N s1.ver s1 a w:=by
   intro k s1 hh;unfold c2y at hh;split at hh
   · split at hh
     · obtain⟨h1,_⟩:=d6l hh hsim.1;exact⟨h1,hsim.2⟩
     · injection hh with hh;subst hh;exact hsim
   · injection hh with hh;subst hh;exact hsim
  unfold b0w at h;split at h
  · exact⟨a,w,_,⟨s,hsim,h⟩,.one step_end⟩
  · exact⟨a,w,_,⟨s,hsim,h⟩,.one step_ret⟩
  · exact .step step_skip (ih h (hd rfl).2 hsim)
  · exact .step step_inBlock (ih h (hd rfl).2 hsim)
  · obtain⟨h1,h2⟩:=hd rfl;simp only[b8f,b2e,Bool.and_eq_true] at h1;exact .step step_seq (ih h (cons h1.1 (cons h1.2 h2)) hsim)
  · obtain⟨h1,h2⟩:=hd rfl;simp only[b8f,b2e,Bool.and_eq_true] at h1;obtain⟨v,hv,h⟩:=bind_some h;cases v<;>try (cases h;done)
    rename_i t;obtain⟨⟨hdf,V,μ,γ,hrel,hf,hl⟩,hsz⟩:=hsim;have he:a.eval _=.bool t:=hrel.rd hv;cases t with
    | true=>exact .step (step_cond he) (ih h (cons h1.1 h2) ⟨⟨hdf,V,μ,γ,hrel,hf,hl⟩,hsz⟩)
    | false=>exact .step (step_cond he) (ih h (cons h1.2 h2) ⟨⟨hdf,V,μ,γ,hrel,hf,hl⟩,hsz⟩)
  · obtain⟨h1,h2⟩:=hd rfl;exact .step step_block (ih h (cons h1 (cons rfl h2)) hsim)
  · obtain⟨h1,h2⟩:=hd rfl;obtain⟨s1,hh,h⟩:=bind_some h;exact .step step_loop (ih h (cons h1 (cons h1 h2)) (head hh))
  · obtain⟨h1,h2⟩:=hd rfl;obtain⟨s1,hh,h⟩:=bind_some h;exact .step step_inLoop (ih h (cons h1 (cons h1 h2)) (head hh))
  · obtain⟨h1,h2⟩:=hd rfl;obtain⟨k',hk,h⟩:=bind_some h;exact .step (step_exit hk) (ih h (fun j hj=>h2 j (d1v hk j hj)) hsim)
  · obtain⟨h1,h2⟩:=hd rfl;obtain⟨s0,h0,h⟩:=bind_some h;obtain⟨s1,hh,h⟩:=bind_some h;obtain⟨e,a',w',⟨rfl,hq⟩,harr⟩:=e6o hdr (hF▸hS n (by omega)) hN h1 hh (g8e h0 hsim) b _ cs;exact .steps harr (ih h h2 hq)
  · cases h
theorem g0n{g:FuncId}{c:Code}(h:a0k E g=some c):∃fn,E.P.funcs[g]? =some fn∧fn.body=some c∧(fn.name== "runtime.NumGoroutine")=false∧b2e E fn.ntmps g c=true:=by
 obtain⟨fn,h1,h⟩:=bind_some h;split at h
 · rename_i hok;unfold k2m at hok;rw[h] at hok;simp only[Bool.and_eq_true,Bool.not_eq_true'] at hok;exact⟨fn,h1,h,hok.1,hok.2⟩
 · cases h
theorem g7v{P:Program}{as:List AVal}{H:a3e}{xs:Array Value}{n:Nat}{w:World}{V:Vis}{T0:Tch}{μ:a5m}{γ:a7a}
 (h:SRel P old (b1u as H) ⟨xs,[]⟩ w V μ γ) (hl:Loc w T0 (b1u as H) μ γ) (hsl:Sealed T0 w):b8m P w V T0 (xs++Array.replicate n undef).size 1 (b1u as H) ⟨xs++Array.replicate n undef,[]⟩ w:=by
 refine⟨⟨rfl,V,μ,γ,{tm:=?_,bx:=h.bx,dom:=h.dom,inj:=h.inj,visb:=h.visb,vis:=h.vis,ow:=h.ow,ow2:=h.ow2,gq:=h.gq},?_,hl⟩,rfl⟩
 · intro k v hv;obtain⟨x,h1,h2⟩:=h.tm k v hv;refine⟨x,?_,h2⟩;have:k<xs.size:=(Array.getElem?_eq_some_iff.1 h1).1;rw[Array.getElem?_append_left this];exact h1
 · exact⟨rfl,rfl,rfl,Nat.le_refl _,fun _ _ _=>rfl,a3x.refl _ _,fun _ _ h=>.inl h,hsl⟩
theorem e6l{F:World→Prop}(hdr:c3o E∧c3n E∧c4g E)(hpr:g1c E F):∀n,a4x E.P F (a8y E (b0w E n)):=by
 intro n
 induction n using Nat.strongRecOn with
 | _ n ih=>
 intro f as H r hr xs w V T0 μ γ hx h hl hF hsl;unfold a8y at hr;split at hr
 · rename_i p hpf;exact hpr f p hpf f as H r (by simpa using hr) xs w V T0 μ γ hx h hl hF hsl
 · obtain⟨c,hb,hr⟩:=bind_some hr;obtain⟨fn,h1,h2,h3,h4⟩:=g0n hb;refine⟨⟨fn,c,h1,h3,h2⟩,?_⟩;intro cs
   let b:Frame:={(default:Frame) with fn:=f,kind:=.normal}
   have henter:Frame.enter E.P f xs .normal=b.at {tmps:=xs++Array.replicate (fn.ntmps - xs.size) undef,defers:=[]} [.code c]:=by
    simp[Frame.enter,Frame.at,h1,h2,b]
   have hsz:fn.ntmps≤(xs++Array.replicate (fn.ntmps - xs.size) undef).size:=by simp;omega
   obtain⟨a',w',todo,⟨s',hsim,hfin⟩,hsteps⟩:=e2o hdr n (fun m hm=>ih m hm) f fn.ntmps _ [.code c] (b1u as H) r b cs ⟨xs++Array.replicate (fn.ntmps - xs.size) undef,[]⟩ w w V T0 hF hr
    (by simpa [b8f] using h4) hsz (g7v h hl hsl)
   have hm2:∀k,μ (.loc k)=none:=fun k=>by
    cases hk:μ (.loc k) with
    | none=>rfl
    | some g=>obtain⟨cs,hc⟩:=h.dom _ g hk;simp[b1u,St.box,a0i] at hc
   obtain⟨x,hres,hback⟩:=e9v h1 hfin hsim.1 (μ0:=μ) hl.par hm2;rw[←henter] at hsteps;exact⟨.returned x,w',_,⟨x,rfl,hback⟩,hsteps,rfl,rfl,hsim.1.1,rfl,fn,h1,hres⟩
theorem c8l{F:World→Prop}(hdr:c3o E∧c3n E∧c4g E)(hpr:g1c E F):a4x E.P F (den E):=by
 intro f as H r hr;obtain⟨n,hn⟩:=c1e hr;exact e6l hdr hpr n f as H r (hn n (Nat.le_refl _))
end
end Go.Av
