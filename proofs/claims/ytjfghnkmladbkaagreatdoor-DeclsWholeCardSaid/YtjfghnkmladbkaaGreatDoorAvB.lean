/- The abstract machine answers as the model does: operations, calls, maps. -/
import Derived.Test.YtjfghnkmladbkaaGreatDoorAvA
import Derived.Laws.Append
import Derived.IntWalk
import Derived.MapKept
import Derived.Orders
namespace Go.Av
section
variable{w w':World}{V V':Vis}
theorem b7w.length{sz:Nat}:∀ {es:List AVal} {vs:List Value},b7w w V sz es vs→vs.length=es.length*sz
 | [],_,hr=>by
  simp only[b7w] at hr;subst hr;simp
 | e::es,_,⟨h1,xs,ys,h2,h3,h4⟩=>by
  subst h2;rw[List.length_append,←h3.length,h1,b7w.length h4,List.length_cons,Nat.succ_mul,Nat.add_comm]
theorem c4y{sz g:Nat}:∀ {es:List AVal} {o:Nat},b0v w V sz g o es→∃vs,b7w w V sz es vs∧∀j x,vs[j]? =some x→w.cell? ⟨g,o+j,none⟩=some x
 | [],_,_=>⟨[],rfl,by simp⟩
 | e::es,o,h=>by
  rw[a2y] at h;obtain⟨xs,h1,h2,h3⟩:=c1j h.1.2;obtain⟨ys,h4,h5⟩:=c4y h.2;refine⟨xs++ys,⟨h.1.1,xs,ys,rfl,h3,h4⟩,fun j x hj=>?_⟩;have hl:xs.length=sz:=h1.trans h.1.1
  by_cases hlt:j<xs.length
  · rw[List.getElem?_append_left hlt] at hj;exact h2 j x hj
  · rw[List.getElem?_append_right (by omega)] at hj;have:=h5 _ x hj;rw[show o+j=o+sz+(j - xs.length) by omega];exact this
theorem c1i{g:Nat}:∀ {cs:List AVal} {xs:List Value} {o:Nat},a3r (a1t w V) cs xs→(∀j,j<xs.length→V g (o+j))→(∀j x,xs[j]? =some x→w.cell? ⟨g,o+j,none⟩=some x)→a3b w V g o cs
 | [],[],_,_,_,_=>by simp[a3b]
 | c::cs,x::xs,o,h,hv,hx=>by
  simp only[a3b];refine⟨⟨hv 0 (by simp),x,hx 0 x rfl,h.1⟩,c1i h.2 (fun j hj=>?_) (fun j y hj=>?_)⟩
  · have:=hv (j+1) (by simpa using hj);rw[show o+1+j=o+(j+1) by omega];exact this
  · have:=hx (j+1) y (by simpa using hj);rw[show o+1+j=o+(j+1) by omega];exact this
 | [],_::_,_,h,_,_=>h.elim
 | _::_,[],_,h,_,_=>h.elim
theorem a8a{sz g:Nat}:∀ {es:List AVal} {vs:List Value} {o:Nat},b7w w V sz es vs→(∀j,j<vs.length→V g (o+j))→(∀j x,vs[j]? =some x→w.cell? ⟨g,o+j,none⟩=some x)→b0v w V sz g o es
 | [],_,_,_,_,_=>by simp[b0v]
 | e::es,_,o,⟨h1,xs,ys,h2,h3,h4⟩,hv,hx=>by
  subst h2;rw[a2y];have hl:xs.length=sz:=h3.length.symm.trans h1;refine⟨⟨h1,c1i h3 (fun j hj=>hv j (by simp;omega)) (fun j x hj=>hx j x (by rw[List.getElem?_append_left (List.getElem?_eq_some_iff.1 hj).1];exact hj))⟩,a8a h4 (fun j hj=>?_) (fun j x hj=>?_)⟩
  · have:=hv (sz+j) (by simp;omega);rw[Nat.add_assoc];exact this
  · have:=hx (sz+j) x (by rw[List.getElem?_append_right (by omega)];rw[show sz+j - xs.length=j by omega];exact hj);rw[Nat.add_assoc];exact this
theorem b7w.one{sz:Nat}:∀ {es:List AVal} {vs:List Value},b7w w V sz es vs→∀v∈vs,v.oneCell'=true
 | [],_,hr,v,hv=>by simp only[b7w] at hr;subst hr;cases hv
 | e::es,_,⟨h1,xs,ys,h2,h3,h4⟩,v,hv=>by
  subst h2;rcases List.mem_append.1 hv with hv|hv
  · exact g0x (μ:=fun _=>none) (h3.imp fun _ _=>a1t.rep1) v hv
  · exact b7w.one h4 v hv
theorem b0f{P:Program}{t t2 ty e:TypeId}{i:TypeInfo}{z:Value}(ht:P.underlying t=some (.slice e)){d:TypeDesc}(ht2:P.underlying t2=some d)(hd:∀k,d≠ .int k)(hi:P.info? e=some i)(hz:i.zero=some z)
 {A:Option Addr} {sLen sCap m:Nat} {x:Value} {olds news:List Value} (hlen:(Builtin.lenOf x).run P w=.ok m w) (hfo:(Builtin.firstCells i.size sLen (.slice A sLen sCap)).run P w.drew=.ok olds.toArray w.drew)
 (hf:(Builtin.firstCells i.size m x).run P w.drew=.ok news.toArray w.drew) (hg:sCap<sLen+m) (h63:((sLen+m:Nat):Int)≤9223372036854775807) (hfit:Builtin.nextslicecap (sLen+m) sCap*i.bytes≤281474976710656):
 (Builtin.append_ #[t,t2] ty #[.slice A sLen sCap,x]).run P w=
   .ok (.slice (some ⟨w.heap.size,0,none⟩) (sLen+m) (grownCap w (sLen+m) sCap e)) (w.drew.alloc (.cells (olds.toArray++news.toArray++Builtin.zeroCells z.cells (grownCap w (sLen+m) sCap e - (sLen+m))) e)):=by
 have hn:¬(sLen+m≤sCap):=by omega
 have h63':¬(9223372036854775807<((sLen:Int)+(m:Int))):=by omega
 have h48':¬(281474976710656<Builtin.nextslicecap (sLen+m) sCap*i.bytes):=by omega
 have hd':(match d with| .int _=>true|_=>false)=false:=by cases d<;>first|rfl|exact absurd rfl (hd _)
 simp[Builtin.append_,a0e ht,a0e ht2,Go.sizeOf,typeInfo,zeroValue,hi,hz,hlen,hn,h63',h48',Question.forced,hf,hfo,newRow,grownCap]
 congr 2
 apply Array.ext';simp[List.append_assoc]
theorem a4z{P:Program}{t t2 ty e:TypeId}{i:TypeInfo}(ht:P.underlying t=some (.slice e)){d:TypeDesc}(ht2:P.underlying t2=some d)(hd:∀k,d≠ .int k)(hi:P.info? e=some i)
 {A:Option Addr} {sLen sCap m:Nat} {x:Value} {news:List Value} (hlen:(Builtin.lenOf x).run P w=.ok m w)
 (hf:(Builtin.firstCells i.size m x).run P w=.ok news.toArray w) (hg:sLen+m≤sCap) (hst:∀a,A=some a→(storeCells (a.add (sLen*i.size)) news).run P w=.ok () w') (hnil:A=none→w'=w):
 (Builtin.append_ #[t,t2] ty #[.slice A sLen sCap,x]).run P w=.ok (.slice A (sLen+m) sCap) w':=by
 have hd':(match d with| .int _=>true|_=>false)=false:=by cases d<;>first|rfl|exact absurd rfl (hd _)
 cases A with
 | none=>
  rw[hnil rfl];simp[Builtin.append_,a0e ht,a0e ht2,Go.sizeOf,typeInfo,hi,hlen,hg,hf]
 | some ad=>
  simp[Builtin.append_,a0e ht,a0e ht2,Go.sizeOf,typeInfo,hi,hlen,hg,hf,hst ad rfl]
end
end Go.Av
namespace Go.Av
section
variable{E:Env}{w0:World}{V0:Vis}{T0:Tch}{Q Q':Nat→Prop}{s:St}{a:Act}{w w':World}{V V':Vis}{μ μ':a5m}{γ γ':a7a}
theorem SRel.demoteBox{P:Program}(h:SRel P Q s a w V μ γ){b:BName}{off:Nat}{cs:List AVal}{T:TypeId}{n:Nat}{es:List AVal}(hT:T≠a3i)(hb:s.box b=some cs)(hc:cs[off]? =some (.own T n es)):
 SRel P Q (s.setBox b (cs.set off (.dead T n es))) a w V μ γ:=by
 obtain⟨g,U,cur,h1,h2,h3,h4⟩:=h.bx b cs hb;have hlt:off<cs.length:=(List.getElem?_eq_some_iff.1 hc).1;have hget:∀i c,(cs.set off (.dead T n es))[i]? =some c→(i=off∧c=.dead T n es)∨(i≠off∧cs[i]? =some c):=by
  intro i c hi
  by_cases hio:i=off
  · subst hio;rw[List.getElem?_set_self (by exact hlt)] at hi;injection hi with hi;exact .inl ⟨rfl,hi.symm⟩
  · rw[List.getElem?_set_ne (Ne.symm hio)] at hi;exact .inr ⟨hio,hi⟩
 refine h.setBox hb h1 (OnlyBlock.refl _ _) h2 (by simp[h3]) (GLe.refl _) h.gq (fun i c hi=>?_) (fun i T' m es' x g' hi hx hg=>?_)
 · rcases hget i c hi with⟨rfl,rfl⟩| ⟨_,hi'⟩
   · obtain⟨x,h5,h6⟩:=h4 i _ hc;exact⟨x,h5,h6.1.slice hT,h6.2⟩
   · exact h4 i c hi'
 · rcases hget i _ hi with⟨_,e⟩| ⟨hne,hi'⟩
   · cases e
   · have hat:s.at (.cell b i)=some (.own T' m es'):=by simp[St.at,hb,hi']
     refine⟨(h.ow _ T' m es' x g' hat hx hg).1,(h.ow _ T' m es' x g' hat hx hg).2,fun p' T2 n2 es2 x2 hp hp2 hx2 hg2=>?_,fun j T2 n2 es2 x2 hj hj2 hx2 hg2=>?_⟩
     · exact hp i (h.ow2 p' (.cell b i) T2 n2 es2 T' m es' x2 x g' hp2 hat hx2 hx hg2 hg)
     · rcases hget j _ hj2 with⟨_,e⟩| ⟨_,hj'⟩
       · cases e
       · have:=h.ow2 (.cell b j) (.cell b i) T2 n2 es2 T' m es' x2 x g' (by simp[St.at,hb,hj']) hat hx2 hx hg2 hg;injection this with _ e;exact hj e
theorem c4c{b:BName}{off:Nat}{cs:List AVal}{T:TypeId}{n:Nat}{es:List AVal}(hb:s.box b=some cs)(hc:cs[off]? =some (.own T n es)){p:Place}{T' n' es'}
 (h:(s.setBox b (cs.set off (.dead T n es))).at p=some (.own T' n' es')):p≠ .cell b off∧s.at p=some (.own T' n' es'):=by
 have hlt:off<cs.length:=(List.getElem?_eq_some_iff.1 hc).1;rw[c1n hb] at h;cases p with
 | tmp k=>exact⟨by simp,h⟩
 | cell b' i=>
  simp only at h
  by_cases hbb:b'=b
  · subst hbb;simp only[if_true] at h
    by_cases hi:i=off
    · subst hi;rw[List.getElem?_set_self hlt] at h;cases h
    · rw[List.getElem?_set_ne (Ne.symm hi)] at h;exact⟨fun e=>hi (by injection e),by simp[St.at,hb,h]⟩
  · simp only[hbb,if_false] at h;exact⟨fun e=>hbb (by injection e),h⟩
theorem d0t(h:SRel E.P Q s a w V μ γ)(hl:Loc w0 T0 s μ γ){k:Nat}{T:TypeId}{m:Nat}{es:List AVal}(hT:T≠a3i)(hk:a0i s.tm k=some (.own T m es)):
 a2t E.P w V T es (a.eval (.tmp k))∧∀g,ownBlock (a.eval (.tmp k))=some g→(∀b,μ b≠some g)∧(∀o,V g o→o<es.length*E.P.cellsOf T)∧
  (∀p' T' n' es' x',(s.put k (.dead T m es)).at p'=some (.own T' n' es')→γ p' n'=some x'→ownBlock x'≠some g)∧(T0 g∨w0.heap.size≤g):=by
 have:=b5t h hl hk
 rwa[c5q hT] at this
theorem SRel.demoteD{P:Program}(h:SRel P Q s a w V μ γ){j:Nat}{T:TypeId}{n:Nat}{es:List AVal}(hT:T≠a3i)(hj:a0i s.tm j=some (.own T n es)):SRel P Q (s.put j (.dead T n es)) a w V μ γ:=by
 have:=h.demote hj
 rwa[c5q hT] at this
theorem Loc.demoteD(hl:Loc w0 T0 s μ γ){k:Nat}{T:TypeId}{m:Nat}{es:List AVal}(hT:T≠a3i):Loc w0 T0 (s.put k (.dead T m es)) μ γ:=by
 have:=Loc.demote (k:=k) (T:=T) (m:=m) (es:=es) hl
 rwa[c5q hT] at this
theorem b8x(h:SRel E.P Q s a w V μ γ)(hl:Loc w0 T0 s μ γ){T:TypeId}(hTm:T≠a3i){x:Operand}{es:List AVal}{s1:St}{fl:Bool}(ho:b4n s T x=some (es,s1,fl)):
 SRel E.P Q s1 a w V μ γ∧Loc w0 T0 s1 μ γ∧((fl=true∧a1t w V (.slice es) (a.eval x)∧∃A,a.eval x=.slice A es.length es.length)∨(fl=false∧a2t E.P w V T es (a.eval x)∧
  ∀g,ownBlock (a.eval x)=some g→(∀b,μ b≠some g)∧(∀o,V g o→o<es.length*E.P.cellsOf T)∧(∀p' T' n' es' x',s1.at p'=some (.own T' n' es')→γ p' n'=some x'→ownBlock x'≠some g)∧(T0 g∨w0.heap.size≤g))):=by
 have cnst:∀x:Operand,(if b9e x then some ([],s,false) else none)=some (es,s1,fl)→SRel E.P Q s1 a w V μ γ∧Loc w0 T0 s1 μ γ∧((fl=true∧a1t w V (.slice es) (a.eval x)∧∃A,a.eval x=.slice A es.length es.length)∨(fl=false∧a2t E.P w V T es (a.eval x)∧
  ∀g,ownBlock (a.eval x)=some g→(∀b,μ b≠some g)∧(∀o,V g o→o<es.length*E.P.cellsOf T)∧(∀p' T' n' es' x',s1.at p'=some (.own T' n' es')→γ p' n'=some x'→ownBlock x'≠some g)∧(T0 g∨w0.heap.size≤g))):=by
  intro x hx;split at hx
  · rename_i hn;injection hx with hx;injection hx with h1 h2;injection h2 with h2 h3;subst h1;subst h2;subst h3;refine⟨h,hl,.inr ⟨rfl,.ofS hTm (.inl ⟨rfl,a9m hn⟩),fun g hg=>?_⟩⟩;rw[a9m hn] at hg;cases hg
  · cases hx
 cases x with
 | const c=>exact cnst _ ho
 | func f=>exact cnst _ ho
 | global g=>exact cnst _ ho
 | tmp k=>
  simp only[b4n] at ho;obtain⟨v,h1,ho⟩:=bind_some ho;cases v<;>simp only at ho<;>(try cases ho)
  case own U n es0=>
   split at ho
   · rename_i hU;injection ho with ho;injection ho with e1 e2;injection e2 with e2 e3;subst e1;subst e2;subst e3;subst hU;obtain⟨h2,h3⟩:=d0t h hl hTm h1;exact⟨h.demoteD hTm h1,hl.demoteD hTm,.inr ⟨rfl,h2,h3⟩⟩
   · cases ho
  case full.refl=>
   obtain⟨y,h2,h3⟩:=h.tm k _ h1;have he:a.eval (.tmp k)=y:=by simp[Act.eval,Array.getD_eq_getD_getElem?,h2]
   rw[he];exact⟨h,hl,.inl ⟨rfl,h3.1,h3.2⟩⟩
  case view U n es0 p=>
   obtain⟨y,h2,h3⟩:=h.tm k _ h1;have he:a.eval (.tmp k)=y:=by simp[Act.eval,Array.getD_eq_getD_getElem?,h2]
   rw[he];cases p with
   | tmp j=>
    simp only at ho;obtain⟨v,h4,ho⟩:=bind_some ho;cases v<;>simp only at ho<;>(try cases ho)
    split at ho
    · rename_i hU;injection ho with ho;injection ho with e1 e2;injection e2 with e2 e3;subst e1;subst e2;subst e3;obtain⟨rfl,rfl⟩:=hU;obtain⟨h5,h6⟩:=d0t h hl hTm h4;have hat:s.at (.tmp j)=some (.own _ _ _):=h4;obtain⟨z,hz,hzo⟩:=h.tm j _ h4;have he2:a.eval (.tmp j)=z:=by simp[Act.eval,Array.getD_eq_getD_getElem?,hz]
      have hyz:y=z:=by have:=h3.2;rw[hzo.2] at this;injection this with this;exact this.symm
      rw[he2] at h5 h6;rw[hyz];exact⟨h.demoteD hTm h4,hl.demoteD hTm,.inr ⟨rfl,h5,h6⟩⟩
    · cases ho
   | cell b off=>
    simp only at ho;obtain⟨cs,h4,ho⟩:=bind_some ho;obtain⟨v,h5,ho⟩:=bind_some ho;cases v<;>simp only at ho<;>(try cases ho)
    split at ho
    · rename_i T1 n1 es1 hU;injection ho with ho;injection ho with e1 e2;injection e2 with e2 e3;subst e1;subst e2;subst e3;obtain⟨rfl,rfl⟩:=hU;have hat:s.at (.cell b off)=some (.own T1 n1 es1):=by simp[St.at,h4,h5]
      obtain⟨z,hz,hzo⟩:=h.conc_own hat
      have hyz:y=z:=by have:=h3.2;rw[hz] at this;injection this with this;exact this.symm
      rw[hyz];refine⟨h.demoteBox hTm h4 h5,⟨hl.box,hl.par,fun p T' n' es' x g hp hx hg=>hl.own p T' n' es' x g (c4c h4 h5 hp).2 hx hg⟩,.inr ⟨rfl,hzo,fun g hg=>?_⟩⟩;refine⟨(h.ow _ _ _ _ z g hat hz hg).1,(h.ow _ _ _ _ z g hat hz hg).2,fun p' T' n' es' x' hp' hx' hg'=>?_,hl.own _ _ _ _ z g hat hz hg⟩;obtain⟨hne,hp⟩:=c4c h4 h5 hp';exact hne (h.ow2 p' (.cell b off) T' n' es' _ _ _ x' z g hp hat hx' hz hg' hg)
    · cases ho
theorem c2r(h:SRel E.P Q s a w V μ γ){T2:Option TypeId}{y:Operand}{v:AVal}{news:List AVal}(hv:rd s y=some v)(hn:d4b E T2 v=some news){sz:Nat}(hok:c8d sz news=true):
 ∃t2 d,T2=some t2∧E.P.underlying t2=some d∧(∀k,d≠ .int k)∧(Builtin.lenOf (a.eval y)).run E.P w=.ok news.length w∧∃vs,b7w w V sz news vs∧
  ∀w2:World,w2.heap=w.heap→(Builtin.firstCells sz news.length (a.eval y)).run E.P w2=.ok vs.toArray w2:=by
 have hr:=h.rd hv;unfold c8d at hok;simp only[Bool.and_eq_true,decide_eq_true_eq] at hok;have sl:∀es,a5x v=some es→(if (T2.bind (a1g E.P)).isSome then a5x v else none)=some news→∃t2 d,T2=some t2∧E.P.underlying t2=some d∧(∀k,d≠ .int k)∧(Builtin.lenOf (a.eval y)).run E.P w=.ok news.length w∧∃vs,b7w w V sz news vs∧
  ∀w2:World,w2.heap=w.heap→(Builtin.firstCells sz news.length (a.eval y)).run E.P w2=.ok vs.toArray w2:=by
  intro es hes hh;split at hh
  · rename_i hT;cases T2 with
    | none=>simp at hT
    | some t2=>
     simp only[Option.bind_some] at hT;obtain⟨e,hte⟩:=Option.isSome_iff_exists.1 hT;rw[hes] at hh;injection hh with hh;rw[hh] at hes;clear hh;have h1:=a5w hr hes;simp only[a1t] at h1;obtain⟨A,c,hy,hc,hrow⟩:=h1;rw[hy];refine⟨t2,_,rfl,a2z hte,(fun k e=>by cases e),by simp[Builtin.lenOf],?_⟩;rcases hrow with rfl| ⟨g,o,sz',rfl,hpos,hrow⟩
     · refine⟨[],rfl,fun w2 _=>?_⟩;cases A with
       | none=>simp[Builtin.firstCells]
       | some A=>simp[Builtin.firstCells,loadCells,loadCellsFrom]
     · obtain⟨vs,h2,h3⟩:=c4y hrow;have hsz:news=[]∨sz'=sz:=by
        cases news with
        | nil=>exact .inl rfl
        | cons e es=>
         right
         have:=hok.2;simp only[List.head?_cons,decide_eq_true_eq] at this;rw[a2y] at hrow;exact hrow.1.1.symm.trans this
       rcases hsz with rfl|rfl
       · exact⟨[],rfl,fun w2 _=>by simp[Builtin.firstCells,loadCells,loadCellsFrom]⟩
       · refine⟨vs,h2,fun w2 hw=>?_⟩;refine run_firstCells_some w2 sz' _ _ _ _ vs h2.length (fun j x hj=>?_);rw[a6i];have:=h3 j x hj;simpa [World.cell?,hw] using this
  · cases hh
 cases v<;>simp only[d4b] at hn<;>first|exact sl _ rfl hn|exact sl _ (by split at hn;exact hn;cases hn) hn|(simp only[a5x,ite_self] at hn;cases hn;done)|skip
 split at hn
 · rename_i b hT;injection hn with hn;subst hn;cases T2 with
   | none=>simp at hT
   | some t2=>
    simp only[Option.map_some] at hT;have hT':a3l E.P t2=true:=by injection hT
    have hy:=b8u hr;rw[hy];have hsz:b=[]∨sz=1:=by
     cases b with
     | nil=>exact .inl rfl
     | cons c b=>
      right
      have h9:=hok.2;simp only[List.map_cons,List.head?_cons,cellsOf,List.length_cons,List.length_nil] at h9;have:=of_decide_eq_true h9;omega
    refine⟨t2,_,rfl,a7d hT',(fun k e=>by cases e),by simp[Builtin.lenOf,d3c],?_⟩;rcases hsz with rfl|rfl
    · exact⟨[],rfl,fun w2 _=>by simp[Builtin.firstCells]⟩
    · refine⟨b.map fun c=>.int .u8 c.toNat,?_,fun w2 _=>?_⟩
      · clear hy hr hv sl hok
        induction b with
        | nil=>rfl
        | cons c b ih=>exact⟨rfl,[.int .u8 c.toNat],_,rfl,⟨rfl,trivial⟩,ih⟩
      · simp[Builtin.firstCells]
 · cases hn
end
end Go.Av
namespace Go.Av
section
variable{E:Env}{w0:World}{V0:Vis}{T0:Tch}{Q Q':Nat→Prop}{s s1:St}{a:Act}{w w':World}{V V':Vis}{μ μ':a5m}{γ γ':a7a}
theorem b5z(w:World)(need old:Nat)(e:TypeId):need≤grownCap w need old e:=by simp[grownCap,Question.cut]
theorem Fr.vis(h:Fr w0 V0 T0 w V)(hk:∀g o,V g o→V' g o)(hn:∀g o,V' g o→V g o∨w0.heap.size≤g∨T0 g):Fr w0 V0 T0 w V' where
 os:=h.os
 tape:=h.tape
 output:=h.output
 size:=h.size
 keep:=h.keep
 vkeep:=fun g o hv=>⟨hk g o (h.vkeep g o hv).1,(h.vkeep g o hv).2⟩
 vnew g o hv:=(hn g o hv).elim (h.vnew g o) .inr
 sl:=h.sl
theorem a3x.drew{V:Vis}(h:a3x w0 V0 w V):a3x w0 V0 w.drew V:=fun g o hv=>⟨(h g o hv).1,(h g o hv).2.cell,(h g o hv).2.map⟩
theorem Fr.drew(h:Fr w0 V0 T0 w V):Fr w0 V0 T0 w.drew V:=⟨h.os,h.tape,h.output,h.size,h.keep,h.vkeep.drew,h.vnew,h.sl⟩
theorem d3w{T:TypeId}{es:List AVal}{x:Value}(hTm:T≠a3i)(ho:a2t E.P w V T es x):∃A c,x=.slice A es.length c∧es.length≤c∧∃vs,b7w w V (E.P.cellsOf T) es vs∧
 ∀w2:World,w2.heap=w.heap→(Builtin.firstCells (E.P.cellsOf T) es.length (.slice A es.length c)).run E.P w2=.ok vs.toArray w2:=by
 rcases ho.toS hTm with⟨rfl,rfl⟩| ⟨g,c,cur,rfl,hc,hh,hsz,hpos,hrow⟩
 · exact⟨none,0,rfl,Nat.le_refl _,[],rfl,fun w2 _=>by simp[Builtin.firstCells]⟩
 · obtain⟨vs,h2,h3⟩:=c4y hrow;refine⟨_,c,rfl,hc,vs,h2,fun w2 hw=>?_⟩;refine run_firstCells_some w2 _ _ _ _ _ vs h2.length (fun j x hj=>?_);rw[a6i];have:=h3 j x hj;simpa [World.cell?,hw] using this
theorem d8b{T:TypeId}{es:List AVal}{x:Value}{A:Option Addr}(hr:a1t w V (.slice es) x)(hx:x=.slice A es.length es.length)(hok:c8d (E.P.cellsOf T) es=true):∃vs,b7w w V (E.P.cellsOf T) es vs∧
 ∀w2:World,w2.heap=w.heap→(Builtin.firstCells (E.P.cellsOf T) es.length (.slice A es.length es.length)).run E.P w2=.ok vs.toArray w2:=by
 unfold c8d at hok;simp only[Bool.and_eq_true,decide_eq_true_eq] at hok;simp only[a1t] at hr;obtain⟨A',c,hy,hc,hrow⟩:=hr;rw[hx] at hy;injection hy with e1 e2 e3;subst e1;rcases hrow with rfl| ⟨g,o,sz',rfl,hpos,hrow⟩
 · refine⟨[],rfl,fun w2 _=>?_⟩;cases A with
   | none=>simp[Builtin.firstCells]
   | some A=>simp[Builtin.firstCells,loadCells,loadCellsFrom]
 · obtain⟨vs,h2,h3⟩:=c4y hrow;have hsz:es=[]∨sz'=E.P.cellsOf T:=by
    cases es with
    | nil=>exact .inl rfl
    | cons e es=>
     right
     have h9:=hok.2;simp only[List.head?_cons] at h9;have:=of_decide_eq_true h9;rw[a2y] at hrow;exact hrow.1.1.symm.trans this
   rcases hsz with rfl|rfl
   · exact⟨[],rfl,fun w2 _=>by simp[Builtin.firstCells,loadCells,loadCellsFrom]⟩
   · refine⟨vs,h2,fun w2 hw=>?_⟩;refine run_firstCells_some w2 _ _ _ _ _ vs h2.length (fun j x hj=>?_);rw[a6i];have:=h3 j x hj;simpa [World.cell?,hw] using this
theorem b7w.append{sz:Nat}:∀ {es es':List AVal} {vs vs':List Value},b7w w V sz es vs→b7w w V sz es' vs'→b7w w V sz (es++es') (vs++vs')
 | [],_,vs,_,h,h'=>by simp only[b7w] at h;subst h;exact h'
 | e::es,_,_,_,⟨h1,xs,ys,h2,h3,h4⟩,h'=>by
  subst h2;exact⟨h1,xs,ys++_,by rw[List.append_assoc],h3,b7w.append h4 h'⟩
theorem d9r(hd:a.defers=[])(h:SRel E.P Q s a w V μ γ)(hf:Fr w0 V0 T0 w V)(hl:Loc w0 T0 s μ γ)(hQ:QLe Q Q'){n:Nat}(hn:¬Q n)(hn':Q' n){dst:Option Nat}(hdst:∀k,dst=some k→k<a.tmps.size)
 {T:TypeId} {es:List AVal} {vs:List Value} {cells:Array Value} {cap:Nat} (hTm:T≠a3i) (hpos:0<E.P.cellsOf T) (hv:b7w w V (E.P.cellsOf T) es vs) (hc:∀(j:Nat) (x:Value),vs[j]? =some x→cells[j]? =some x) (hsz:cells.size=cap*E.P.cellsOf T)
 (hcap:es.length≤cap):Sim E.P w0 V0 T0 Q' (s.putD dst (.own T n es)) (a.put dst (.slice (some ⟨w.heap.size,0,none⟩) es.length cap)) (w.alloc (.cells cells T)):=by
 let V':Vis:=fun g o=>V g o∨(g=w.heap.size∧o<es.length*E.P.cellsOf T)
 have hkeep:a3x w V (w.alloc (.cells cells T)) V':=fun g o hg=>⟨.inl hg,(a7i h.vis g o hg).2⟩
 have h1:SRel E.P Q s a (w.alloc (.cells cells T)) V' μ γ:=by
  refine h.world hkeep (fun _ _ hb=>a6p (b2g h hb)) (fun _ _ _ _ _ _ hp hx hg=>a6p (b2a h hp hx hg)) (fun g o hv=>?_) (fun g o hv=>?_)
  · rcases hv with hv| ⟨rfl,_⟩
    · exact .inl hv
    · exact .inr ⟨fun b hb=>by have:=b2g h hb;omega,fun p T n es x hp hx hg=>by have:=b2a h hp hx hg;omega⟩
  · rcases hv with hv| ⟨rfl,_⟩
    · have:=h.vis g o hv;simp;omega
    · simp
 have hf1:Fr w0 V0 T0 (w.alloc (.cells cells T)) V':=(hf.alloc h.vis _).vis (fun g o=>.inl) (fun g o hv=>by
  rcases hv with hv| ⟨rfl,_⟩
  · exact .inl hv
  · exact .inr (.inl hf.size))
 have hlen:=hv.length;have hrow:b0v (w.alloc (.cells cells T)) V' (E.P.cellsOf T) w.heap.size 0 es:=by
  refine a8a (hv.keep hkeep) (fun j hj=>.inr ⟨rfl,by rw[hlen] at hj;omega⟩) (fun j x hj=>?_);rw[Nat.zero_add,a5t a5z];exact hc j x hj
 refine b3o hd h1 hf1 hl hQ hn hn' hdst (.ofS hTm (.inr ⟨w.heap.size,cap,cells,rfl,hcap,a5z,hsz,hpos,hrow⟩)) (fun k g hk hg=>?_);simp only[ownBlock] at hg;injection hg with hg;subst hg;refine⟨fun b hb=>by have:=b2g h hb;omega,fun o hv=>?_,fun p' T' n' es' x' _ hp hx hg=>by have:=b2a h hp hx hg;omega,.inr hf.size⟩;rcases hv with hv| ⟨_,ho⟩
 · have:=h.vis _ _ hv;omega
 · exact ho
theorem SRel.drew(h:SRel E.P Q s a w V μ γ):SRel E.P Q s a w.drew V μ γ:=
 h.world (fun g o hv=>⟨hv,.of rfl⟩) (fun _ _ _=>rfl) (fun _ _ _ _ _ _ _ _ _=>rfl) (fun _ _ hv=>.inl hv) h.vis
theorem e6h(hd:a.defers=[])(h:SRel E.P Q s a w V μ γ)(hf:Fr w0 V0 T0 w V)(hl:Loc w0 T0 s μ γ)(hQ:QLe Q Q'){n:Nat}(hn:¬Q n)(hn':Q' n){o:Oper}(hdst:∀k,o.dst=some k→k<a.tmps.size)
 {x y:Operand} {ats:Array TypeId} (ho:o.op=.call {callee:=.builtin .append,args:= #[x,y],argTypes:=ats}) {s':St}
 (hs:(((ats[0]?).bind (a1g E.P)).bind fun T=>(rd s y).bind fun v=>(d4b E (ats[1]?) v).bind fun news=>(b4n s T x).bind fun r=>
   if r.1.length+news.length≤a0s∧c8d (a1d E.P T) news=true∧E.P.bytesOf T≤32768∧a9v E.P T=some (a1d E.P T)∧(r.2.2&&news.isEmpty)=false∧(r.2.2&& !c8d (a1d E.P T) r.1)=false∧ats.size=2 then
    some (r.2.1.putD o.dst (.own T n (r.1++news))) else none)=some s') {X:Exit→Act→World→Prop}:o.wp E.P a w (Sim E.P w0 V0 T0 Q' s') X:=by
 obtain⟨T,hT,hs⟩:=bind_some hs;obtain⟨v,hv,hs⟩:=bind_some hs;obtain⟨news,hnews,hs⟩:=bind_some hs;obtain⟨⟨es,s1,fl⟩,how,hs⟩:=bind_some hs;simp only at hs;split at hs
 · rename_i hc;obtain⟨c1,c2,c3,c4,c5,c6,c7⟩:=hc;injection hs with hs;subst hs;obtain⟨t,ht0,hte⟩:=bind_some hT;unfold a1d at c2 c4 c6;have hpos:0<E.P.cellsOf T:=by unfold c8d at c2;simp only[Bool.and_eq_true,decide_eq_true_eq] at c2;exact c2.1
   obtain⟨i,hi,hisz⟩:=a8u (P:=E.P) (t:=T) (by omega);obtain⟨z,hz0,hzs⟩:=map_some c4;rw[hi,Option.bind_some] at hz0;have hby:i.bytes≤32768:=by unfold Program.bytesOf at c3;rw[hi] at c3;simpa using c3
   obtain⟨t2,d,ht2,hud,hnd,hlen,nvs,hnv,hnf⟩:=c2r h hv hnews c2;have hTm:=b3n hte;obtain⟨h1,hl1,hcase⟩:=b8x h hl hTm how;have hats:ats= #[t,t2]:=by
    apply Array.ext_getElem?;intro j
    match j with
    | 0=>simpa using ht0
    | 1=>simpa using ht2
    | j+2=>simp[Array.getElem?_eq_none (xs:=ats) (i:=j+2) (by omega)]
   unfold a0s at c1;have hexec:∀r w',(Builtin.append_ #[t,t2] o.type #[a.eval x,a.eval y]).run E.P w=.ok r w'→(execOp a.eval o).run E.P w=.ok (.value r) w':=by
    intro r w' hr;simp[execOp,ho,hats,resolve,invoke,builtin,hr]
   have hfit:∀c,c<es.length+news.length→Builtin.nextslicecap (es.length+news.length) c*i.bytes≤281474976710656:=fun c hc=>
    growslice_fits hc (Nat.le_trans (Nat.mul_le_mul c1 hby) (by decide))
   have hsize:(w.drew).heap=w.heap:=rfl
   -- a new array
   have grow:∀A c vs,a.eval x=.slice A es.length c→c<es.length+news.length→b7w w V (E.P.cellsOf T) es vs→(∀w2:World,w2.heap=w.heap→(Builtin.firstCells (E.P.cellsOf T) es.length (.slice A es.length c)).run E.P w2=.ok vs.toArray w2)→
    o.wp E.P a w (Sim E.P w0 V0 T0 Q' (s1.putD o.dst (.own T n (es++news)))) X:=by
    intro A c vs hx hlt hvs hfc;have hr:=b0f (P:=E.P) (w:=w) (ty:=o.type) (a2z hte) hud hnd hi hz0 (A:=A) (sLen:=es.length) (sCap:=c) (m:=news.length) (x:=a.eval y) (olds:=vs) (news:=nvs) hlen
     (by rw[hisz];exact hfc _ rfl) (by rw[hisz];exact hnf _ rfl) hlt (by omega) (hfit c hlt)
    rw[←hx] at hr;refine a9s (hexec _ _ hr) ?_;have hge:=b5z w (es.length+news.length) c T;have hlv:=hvs.length;have hln:=hnv.length;have:=d9r (T:=T) (es:=es++news) (vs:=vs++nvs) (cap:=grownCap w (es.length+news.length) c T) hd h1.drew hf.drew hl1 hQ hn hn' hdst hTm hpos (b7w.keep (w:=w) (V:=V) (w':=w.drew) (V':=V) (fun g o hv=>⟨hv,.of rfl⟩) (hvs.append hnv)) (cells:=(vs.toArray++nvs.toArray++Builtin.zeroCells z.cells (grownCap w (es.length+news.length) c T - (es.length+news.length)))) (fun j u hj=>?_) ?_ (by rw[List.length_append];exact hge)
    · rw[List.length_append] at this;exact this
    · have hlt2:j<(vs++nvs).length:=(List.getElem?_eq_some_iff.1 hj).1;rw[Array.getElem?_append_left (by simpa using hlt2)];simpa using hj
    · simp only[Array.size_append,List.size_toArray,hlv,hln];rw[show (Builtin.zeroCells z.cells (grownCap w (es.length+news.length) c T - (es.length+news.length))).size=(grownCap w (es.length+news.length) c T - (es.length+news.length))*z.cells.size by simp[Builtin.zeroCells],hzs,←Nat.add_mul,←Nat.add_mul]
      congr 1;omega
   rcases hcase with⟨rfl,hr1,A,hx⟩| ⟨rfl,hown,hblk⟩
   · simp only[Bool.true_and,Bool.not_eq_false'] at c5 c6;obtain⟨vs,hvs,hfc⟩:=d8b (E:=E) (T:=T) hr1 hx c6;have hne:0<news.length:=by
      cases news with
      | nil=>simp at c5
      | cons _ _=>simp
     exact grow A es.length vs hx (by omega) hvs hfc
   · obtain⟨A,c,hx,hcap,vs,hvs,hfc⟩:=d3w hTm hown
     by_cases hroom:es.length+news.length≤c
     · rcases hown.toS hTm with⟨rfl,hxn⟩| ⟨g,c',cur,hxr,_,hheap,hcsz,_,hrow⟩
       · rw[hxn] at hx;injection hx with e1 e2 e3;subst e3;subst e1;have hnil:news=[]:=List.eq_nil_of_length_eq_zero (by simp only[List.length_nil] at hroom;omega);subst hnil;have hr:=a4z (P:=E.P) (w:=w) (w':=w) (ty:=o.type) (a2z hte) hud hnd hi (A:=none) (sLen:=0) (sCap:=0) (m:=0) (x:=a.eval y) (news:=nvs) hlen
          (by rw[hisz];exact hnf _ rfl) (by omega) (fun _ e=>by cases e) (fun _=>rfl)
         rw[←hxn] at hr;refine a9s (hexec _ _ hr) ?_;rw[hxn];exact b3o hd h1 hf hl1 hQ hn hn' hdst (.nil hTm) (fun k g _ hg=>by cases hg)
       · rw[hxr] at hx;injection hx with e1 e2 e3;subst e3;subst e1;have hln:=hnv.length;obtain⟨w',cur',hst,hob,hheap',hsz',hcur'⟩:=a7s (P:=E.P) (g:=g) (o:=es.length*E.P.cellsOf T) nvs 0 w cur hheap hnv.one (by
          rw[hcsz,hln,Nat.add_zero,←Nat.add_mul];exact Nat.mul_le_mul_right _ hroom)
         have hr:=a4z (P:=E.P) (w:=w) (w':=w') (ty:=o.type) (a2z hte) hud hnd hi (A:=some ⟨g,0,none⟩) (sLen:=es.length) (sCap:=c') (m:=news.length) (x:=a.eval y) (news:=nvs) hlen
          (by rw[hisz];exact hnf _ rfl) hroom (fun ad e=>by injection e with e;subst e;rw[a6i,hisz,Nat.zero_add];exact hst) (fun e=>by cases e)
         rw[←hxr] at hr;refine a9s (hexec _ _ hr) ?_;have hob1:=hblk g (by rw[hxr];rfl);obtain⟨b1,b2,b3,b4⟩:=hob1
         let V':Vis:=fun g' o=>V g' o∨(g'=g∧o<(es++news).length*E.P.cellsOf T)
         have hk0:a3x w V w' V:=by
          intro g' p hv;refine⟨hv,?_⟩
          by_cases hg':g'=g
          · subst hg';have:=b2 p hv;refine⟨?_,fun e c hm=>by rw[hheap] at hm;cases hm⟩;rw[a5t hheap,a5t hheap',hcur'];have hni:¬(es.length*E.P.cellsOf T+0≤p∧p<es.length*E.P.cellsOf T+0+nvs.length):=by omega
            simp only[hni,if_false]
          · exact .of (hob.other g' hg')
         have hkeep:a3x w V w' V':=fun g' p hv=>⟨.inl hv,(hk0 g' p hv).2⟩
         have hlt:g<w.heap.size:=(Array.getElem?_eq_some_iff.1 hheap).1;have h2:SRel E.P Q s1 a w' V' μ γ:=by
          refine h1.world hkeep (fun b g' hb=>hob.other g' (fun e=>b1 b (e▸hb))) (fun p T' n' es' x' g' hp hx' hg'=>hob.other g' (fun e=>b3 p T' n' es' x' hp hx' (e▸hg'))) (fun g' p hv=>?_) (fun g' p hv=>?_)
          · rcases hv with hv| ⟨rfl,_⟩
            · exact .inl hv
            · exact .inr ⟨b1,b3⟩
          · rw[hob.size];rcases hv with hv| ⟨rfl,_⟩
            · exact h1.vis g' p hv
            · exact hlt
         have hf2:Fr w0 V0 T0 w' V':=(hf.only b4 hob hk0).vis (fun _ _=>.inl) (fun g' p hv=>by
          rcases hv with hv| ⟨rfl,_⟩
          · exact .inl hv
          · exact .inr b4.symm)
         have hrow2:b0v w' V' (E.P.cellsOf T) g 0 (es++news):=by
          refine b6x (hrow.keep hkeep) ?_;rw[Nat.zero_add];refine a8a (hnv.keep hkeep) (fun j hj=>.inr ⟨rfl,by rw[List.length_append,Nat.add_mul];omega⟩) (fun j u hj=>?_);rw[a5t hheap',hcur'];have hjl:j<nvs.length:=(List.getElem?_eq_some_iff.1 hj).1;have hin:es.length*E.P.cellsOf T+0≤es.length*E.P.cellsOf T+j∧es.length*E.P.cellsOf T+j<es.length*E.P.cellsOf T+0+nvs.length:=by omega
          simp only[hin,and_self,if_true];rw[show es.length*E.P.cellsOf T+j - (es.length*E.P.cellsOf T+0)=j by omega];exact hj
         have hrep:a2t E.P w' V' T (es++news) (.slice (some ⟨g,0,none⟩) (es.length+news.length) c'):=
          .ofS hTm (.inr ⟨g,c',cur',by rw[List.length_append],by rw[List.length_append];exact hroom,hheap',by rw[hsz',hcsz],hpos,hrow2⟩)
         refine b3o hd h2 hf2 hl1 hQ hn hn' hdst hrep (fun k g' _ hg'=>?_);simp only[ownBlock] at hg';injection hg' with hg';subst hg';refine⟨b1,fun p hv=>?_,fun p' T' n' es' x' _ hp hx'=>b3 p' T' n' es' x' hp hx',b4⟩;rcases hv with hv| ⟨_,hlt'⟩
         · have:=b2 p hv;rw[List.length_append,Nat.add_mul];omega
         · exact hlt'
     · exact grow A c vs hx (by omega) hvs hfc
 · cases hs
end
end Go.Av
namespace Go.Av
def b0c(cells:Array Value)(off:Nat)(vs:Array Value):Array Value:=vs.zipIdx.foldl (fun cs (c,j)=>cs.setIfInBounds (off+j) c) cells
theorem c1t(off:Nat):∀(vs:List Value) (k:Nat) (cells:Array Value),((vs.zipIdx k).foldl (fun cs (c,j)=>cs.setIfInBounds (off+j) c) cells).size=cells.size∧
 (off+k+vs.length≤cells.size→∀i,((vs.zipIdx k).foldl (fun cs (c,j)=>cs.setIfInBounds (off+j) c) cells)[i]? =if off+k≤i∧i<off+k+vs.length then vs[i - (off+k)]? else cells[i]?)
 | [],k,cells=>⟨rfl,fun _ i=>by
  have:¬(off+k≤i∧i<off+k+0):=by omega
  simp only[List.zipIdx_nil,List.foldl_nil,List.length_nil,this,if_false]⟩
 | v::vs,k,cells=>by
  obtain⟨h1,h2⟩:=c1t off vs (k+1) (cells.setIfInBounds (off+k) v);simp only[List.zipIdx_cons,List.foldl_cons,List.length_cons];refine⟨h1.trans (by simp),fun hle i=>?_⟩;rw[h2 (by simp;omega) i]
  by_cases hi:i=off+k
  · subst hi;have e1:¬(off+(k+1)≤off+k∧off+k<off+(k+1)+vs.length):=by omega
    have e2:off+k≤off+k∧off+k<off+k+(vs.length+1):=by omega
    simp only[e1,if_false,e2,and_self,if_true,Nat.sub_self,List.getElem?_cons_zero];rw[Array.getElem?_setIfInBounds_self_of_lt (by omega)]
  · rw[Array.getElem?_setIfInBounds_ne (Ne.symm hi)]
    by_cases h3:off+(k+1)≤i∧i<off+(k+1)+vs.length
    · have e2:off+k≤i∧i<off+k+(vs.length+1):=by omega
      simp only[h3,and_self,if_true,e2];rw[show i - (off+k)=(i - (off+(k+1)))+1 by omega,List.getElem?_cons_succ]
    · have e2:¬(off+k≤i∧i<off+k+(vs.length+1)):=by omega
      simp only[h3,if_false,e2]
theorem a8c(cells:Array Value)(off:Nat)(vs:Array Value):(b0c cells off vs).size=cells.size:=by
 have:=(c1t off vs.toList 0 cells).1;unfold b0c;rw[←Array.foldl_toList,Array.toList_zipIdx];exact this
theorem b4w{cells:Array Value}{off:Nat}{vs:Array Value}(h:off+vs.size≤cells.size)(i:Nat):(b0c cells off vs)[i]? =if off≤i∧i<off+vs.size then vs[i - off]? else cells[i]? :=by
 have:=(c1t off vs.toList 0 cells).2 (by simpa using h) i;unfold b0c;rw[←Array.foldl_toList,Array.toList_zipIdx];simpa using this
theorem c1a{place:Nat→Option (Nat×Nat)}{cells:Array Value}{i:Nat}{v:Value}{rest:List (Nat×Value)}{off size:Nat}(hp:place i=some (off,size))(hs:v.cells.size=size)(hle:off+v.cells.size≤cells.size):
 Instr.fill place cells ((i,v)::rest)=Instr.fill place (b0c cells off v.cells) rest:=by
 have h1:(decide (v.cells.size≠size)||decide (off+v.cells.size>cells.size))=false:=by simp;omega
 simp only[Instr.fill,hp]
 first
 | (rw[if_neg (by simp;omega)];rfl)
 | (simp only[bne,h1];rfl)
section
variable{E:Env}{w0:World}{V0:Vis}{T0:Tch}{Q Q':Nat→Prop}{s:St}{a:Act}{w w':World}{V V':Vis}{μ μ':a5m}{γ γ':a7a}
theorem c2m{v:AVal}{y:Value}(hr:b2q w V μ v y)(hn:c4k v=true):a3r (a3k w V μ) ((cellsOf v).map strip1) y.cells.toList:=by
 by_cases hown:∃T n es,v=.own T n es
 · obtain⟨T,n,es,rfl⟩:=hown
   by_cases hT:T=a3i
   · rcases hr.1 hT with⟨g,rfl⟩| ⟨A,l,c,rfl⟩
     · refine⟨?_,trivial⟩;rw[a4y,if_pos hT];exact .inl ⟨g,rfl⟩
     · refine⟨?_,trivial⟩;rw[a4y,if_pos hT];exact .inr ⟨A,l,c,rfl⟩
   · have h1:=hr.2 hT;rw[a9i h1];refine⟨?_,trivial⟩;rw[a4y,if_neg hT];exact h1
 · have h1:=d8z hr hn (fun T n es e=>hown ⟨T,n,es,e⟩);have h2:(cellsOf v).map strip1=(e5h v).map strip1:=by
    cases v<;>first|rfl|exact absurd ⟨_,_,_,rfl⟩ hown
   rw[h2];exact a3r.map_left (f:=Av.strip1) (fun _ _=>a3k.strip1) h1
theorem e6d{cs xs:List AVal}{cells vs:Array Value}{off:Nat}(h:a3r (a3k w V μ) cs cells.toList)(hx:a3r (a3k w V μ) xs vs.toList)(hle:off+xs.length≤cs.length):
 a3r (a3k w V μ) (b5f cs off xs) (b0c cells off vs).toList:=by
 have hl:=h.length;have hxl:=hx.length;simp only[Array.length_toList] at hl hxl;refine a3r.of_get (by rw[b9w hle];simp only[Array.length_toList,a8c];exact hl) fun i c hi=>?_;rw[d0e hle] at hi;simp only[Array.getElem?_toList];rw[b4w (by omega),←hxl]
 by_cases h1:off≤i∧i<off+xs.length
 · simp only[h1,and_self,if_true] at hi⊢;obtain⟨x,h2,h3⟩:=hx.get hi;exact⟨x,by simpa using h2,h3⟩
 · simp only[h1,if_false] at hi⊢;obtain⟨x,h2,h3⟩:=h.get hi;exact⟨x,by simpa using h2,h3⟩
theorem d4p(h:SRel E.P Q s a w V μ γ){T:TypeId}{place:Nat→Option (Nat×Nat)}(hu:∀i f,a1x E.P T i=some f→place i=some f):∀ {ps:List (Nat×Operand)} {cs cs':List AVal} {cells:Array Value},c9u E T s cs ps=some cs'→
 a3r (a3k w V μ) cs cells.toList→∃cells',Instr.fill place cells (ps.map fun (i,x)=>(i,a.eval x))=some cells'∧a3r (a3k w V μ) cs' cells'.toList
 | [],cs,cs',cells,hf,hc=>by
  simp only[c9u] at hf;injection hf with hf;subst hf;exact⟨cells,rfl,hc⟩
 | (i,x)::ps,cs,cs',cells,hf,hc=>by
  simp only[c9u] at hf;obtain⟨v,h1,hf⟩:=bind_some hf;obtain⟨f,h2,hf⟩:=bind_some hf;split at hf
  · rename_i hcnd;obtain⟨c1,c2,c3⟩:=hcnd;have hp:=c2m (h.rd h1) c3;have hpl:=hp.length;simp only[List.length_map,Array.length_toList] at hpl;have hcl:=hc.length;simp only[Array.length_toList] at hcl
    try simp only at c1 c2 hf
    have hsp:=e6d (off:=f.1) hc hp (by rw[List.length_map];omega);obtain⟨cells',h5,h6⟩:=d4p h hu hf hsp;refine⟨cells',?_,h6⟩;rw[List.map_cons,c1a (off:=f.1) (size:=f.2)]
    · exact h5
    · exact hu i f h2
    · rw[←hpl];exact c1
    · omega
  · cases hf
theorem b9c{P:Program}:∀(fs:List Field),(∀f∈fs,∃i,P.info? f.type=some i∧i.size=P.cellsOf f.type)→
 ((fs.mapM fun f=>do pure (f.offset,←Go.sizeOf f.type):Sem (List (Nat×Nat)))).run P w=.ok (fs.map fun f=>(f.offset,P.cellsOf f.type)) w
 | [],_=>by simp
 | f::fs,h=>by
  have h1:=a8s (w:=w) (h f (by simp));have h2:=b9c fs (fun g hg=>h g (by simp[hg]));simp only[List.mapM_cons,Sem.run_bind,h1,h2,Result.andThen_ok,Sem.run_pure,List.map_cons]
theorem f2z(hd:a.defers=[])(h:SRel E.P Q s a w V μ γ)(hf:Fr w0 V0 T0 w V)(hl:Loc w0 T0 s μ γ)(hQ:QLe Q Q'){o:Oper}(hdst:∀k,o.dst=some k→k<a.tmps.size)
 {T:TypeId} {ps:Array (Nat×Operand)} (ho:o.op=.build T ps) {s':St} (hs:((a6u E.P T).bind fun cs=>(c9u E T s cs ps.toList).bind fun cs=>if a3f E.P T then some (s.putD o.dst (.agg cs)) else none)=some s') {X:Exit→Act→World→Prop}:
 o.wp E.P a w (Sim E.P w0 V0 T0 Q' s') X:=by
 obtain⟨cs,h1,hs⟩:=bind_some hs;obtain⟨cs',h2,hs⟩:=bind_some hs;split at hs
 · rename_i hok;injection hs with hs;subst hs;obtain⟨z,i,hi,hz,hrep⟩:=b9n (w:=w) (V:=V) (μ:=μ) h1;have h5:(ps.map fun (i,x)=>(i,a.eval x)).toList=ps.toList.map fun (i,x)=>(i,a.eval x):=by simp
   unfold a3f at hok;split at hok
   · rename_i fs hu;obtain⟨cells',h3,h4⟩:=d4p (place:=((fs.map fun f=>(f.offset,E.P.cellsOf f.type))[·]?)) h (by
      intro i f hp;unfold a1x at hp;rw[hu] at hp;obtain⟨fd,h6,h7⟩:=map_some hp;simp[h6,h7]) h2 hrep
     have hpl:((fs.mapM fun f=>do pure (f.offset,←Go.sizeOf f.type):Sem (Array (Nat×Nat)))).run E.P w=.ok (fs.map fun f=>(f.offset,E.P.cellsOf f.type)) w:=by
      rw[Array.mapM_eq_mapM_toList];have:=b9c (P:=E.P) (w:=w) fs.toList (fun f hf=>by
       have:=List.all_eq_true.1 hok f hf;obtain⟨j,hj⟩:=Option.isSome_iff_exists.1 this;exact⟨j,hj,by unfold Program.cellsOf;rw[hj];rfl⟩)
      simp only[Sem.run_map,this,Result.andThen_ok]
      congr 1
      apply Array.ext';simp
     refine b0q hd h hf hl hQ hdst rfl (v:=.agg cs') (x:=.agg cells') ⟨_,rfl,h4⟩ ?_;simp only[execOp,ho,Instr.build,Sem.run_bind,zeroValue,typeInfo,Sem.run_pure,run_program,Result.andThen_ok,hi,hz,a0e hu];simp only[hpl,Result.andThen_ok,h5,h3,Sem.run_pure]
   · rename_i n e hu;obtain⟨cells',h3,h4⟩:=d4p (place:=fun i=>some (i*E.P.cellsOf e,E.P.cellsOf e)) h (by
      intro i f hp;unfold a1x at hp;rw[hu] at hp;exact hp) h2 hrep
     obtain⟨j,hj⟩:=Option.isSome_iff_exists.1 hok;have hsz:=a8s (w:=w) ⟨j,hj,(by unfold Program.cellsOf;rw[hj];rfl:j.size=E.P.cellsOf e)⟩;refine b0q hd h hf hl hQ hdst rfl (v:=.agg cs') (x:=.agg cells') ⟨_,rfl,h4⟩ ?_;simp only[execOp,ho,Instr.build,Sem.run_bind,zeroValue,typeInfo,Sem.run_pure,run_program,Result.andThen_ok,hi,hz,a0e hu];simp only[hsz,Result.andThen_ok,h5,h3,Sem.run_pure]
   · cases hok
 · cases hs
end
end Go.Av
namespace Go.Av
section
variable{E:Env}{w0:World}{V0:Vis}{T0:Tch}{Q Q':Nat→Prop}{s:St}{a:Act}{w w':World}{V V':Vis}{μ μ':a5m}{γ γ':a7a}
theorem e3c{c:AVal}{y:Value}(h:a3k w V μ c y)(hp:c9n c=true):a1t w V c y:=by
 cases c<;>first|(cases hp;done)|exact h
theorem g0d{T:TypeId}{n:Nat}{es:List AVal}:cellsOf (strip2 (.own T n es))=(cellsOf (.own T n es)).map strip1:=by
 show cellsOf (strip1 (.own T n es))=[strip1 (.own T n es)]
 rw[a4y]
 by_cases hT:T=a3i
 · rw[if_pos hT];rfl
 · rw[if_neg hT];rfl
theorem d0n{v:AVal}{y:Value}(hr:b2q w V μ v y)(hp:e6u (strip2 v)=true):a3r (a1t w V) (cellsOf (strip2 v)) y.cells.toList:=by
 have hn:c4k v=true:=by cases v<;>first|rfl|cases hp
 have h1:=c2m hr hn;have h2:cellsOf (strip2 v)=(cellsOf v).map strip1:=by cases v<;>first|rfl|exact g0d
 rw[h2];have h3:∀c∈(cellsOf v).map strip1,c9n c=true:=by
  rw[←h2]
  revert hp
  generalize strip2 v=u;intro hp;cases u<;>first
   | (intro c hc;simp only[cellsOf,List.mem_singleton] at hc;subst hc;exact hp)
   | exact fun c hc=>List.all_eq_true.1 hp c hc
 refine a3r.of_get h1.length fun i c hc=>?_;obtain⟨b,hb,hr⟩:=h1.get hc;exact⟨b,hb,e3c hr (h3 c (List.mem_of_getElem? hc))⟩
theorem e4v(h:SRel E.P Q s a w V μ γ){size:Nat}:∀ {ps:List (Nat×Operand)} {j:Nat} {es:List AVal} {cells:Array Value},b8k s size j ps=some es→(j+es.length)*size≤cells.size→
 ∃cells' vs,Instr.fill (fun i=>some (i*size,size)) cells (ps.map fun (i,x)=>(i,a.eval x))=some cells'∧cells'.size=cells.size∧b7w w V size es vs∧
  (∀i,i<j*size→cells'[i]? =cells[i]?)∧∀i x,vs[i]? =some x→cells'[j*size+i]? =some x
 | [],j,es,cells,he,hle=>by
  simp only[b8k] at he;injection he with he;subst he;exact⟨cells,[],rfl,rfl,rfl,fun _ _=>rfl,by simp⟩
 | (i,x)::ps,j,es,cells,he,hle=>by
  simp only[b8k] at he;split at he
  · rename_i hij;subst hij;obtain⟨v,h1,he⟩:=bind_some he;split at he
    · rename_i hc;obtain⟨c1,c2⟩:=hc;obtain⟨es',h2,rfl⟩:=map_some he;have hp:=d0n (h.rd h1) c1;have hl:=hp.length;simp only[Array.length_toList] at hl;have hsz:(a.eval x).cells.size=size:=by rw[←hl,c2]
      rw[List.length_cons] at hle;have hle2:(i+1+es'.length)*size≤cells.size:=by rw[show i+1+es'.length=i+(es'.length+1) by omega];exact hle
      have hle3:i*size+size≤cells.size:=by
       refine Nat.le_trans ?_ hle2;rw[←Nat.succ_mul];exact Nat.mul_le_mul_right _ (by omega)
      obtain⟨cells',vs,h3,h4,h5,h6,h7⟩:=e4v h (cells:=b0c cells (i*size) (a.eval x).cells) h2 (by rw[a8c];exact hle2);have hw:∀k,(b0c cells (i*size) (a.eval x).cells)[k]? =if i*size≤k∧k<i*size+(a.eval x).cells.size then (a.eval x).cells[k - i*size]? else cells[k]? :=b4w (by omega)
      refine⟨cells',(a.eval x).cells.toList++vs,?_,by rw[h4,a8c],⟨c2,_,_,rfl,hp,h5⟩,fun k hk=>?_,fun k y hk=>?_⟩
      · rw[List.map_cons,c1a (off:=i*size) (size:=size) rfl hsz (by omega)];exact h3
      · rw[h6 k (by rw[Nat.succ_mul];omega),hw k];have:¬(i*size≤k∧k<i*size+(a.eval x).cells.size):=by omega
        simp only[this,if_false]
      · by_cases hlt:k<size
        · rw[List.getElem?_append_left (by simp;omega)] at hk;rw[h6 _ (by rw[Nat.succ_mul];omega),hw];have:i*size≤i*size+k∧i*size+k<i*size+(a.eval x).cells.size:=by omega
          simp only[this,and_self,if_true];rw[Nat.add_sub_cancel_left];simpa using hk
        · rw[List.getElem?_append_right (by simp;omega)] at hk;simp only[Array.length_toList,hsz] at hk;have:=h7 _ _ hk;rw[Nat.succ_mul] at this;rw[←this];congr 1;omega
    · cases he
  · cases he
theorem c9k(hd:a.defers=[])(h:SRel E.P Q s a w V μ γ)(hf:Fr w0 V0 T0 w V)(hl:Loc w0 T0 s μ γ)(hQ:QLe Q Q'){n:Nat}(hn:¬Q n)(hn':Q' n){o:Oper}(hdst:∀k,o.dst=some k→k<a.tmps.size)
 {T:TypeId} {m:Nat} {ps:Array (Nat×Operand)} (ho:o.op=.buildSlice T m ps) {s':St} (hs:((a1g E.P T).bind fun e=>(b8k s (a1d E.P e) 0 ps.toList).bind fun es=>
  if es.length=m∧0<a1d E.P e∧m*a1d E.P e≤16777216∧(a9v E.P e).isSome=true then some (s.putD o.dst (.own e n es)) else none)=some s') {X:Exit→Act→World→Prop}:
 o.wp E.P a w (Sim E.P w0 V0 T0 Q' s') X:=by
 obtain⟨e,hT,hs⟩:=bind_some hs;obtain⟨es,he,hs⟩:=bind_some hs;split at hs
 · rename_i hc;obtain⟨c1,c2,c3,c4⟩:=hc;injection hs with hs;subst hs;unfold a1d at c2 c3 he;obtain⟨i,hi,hisz⟩:=a8u (P:=E.P) (t:=e) (by omega);obtain⟨zn,hzn⟩:=Option.isSome_iff_exists.1 c4;obtain⟨z,hz0,_⟩:=map_some hzn;rw[hi,Option.bind_some] at hz0;obtain⟨cells',vs,h1,h2,h3,_,h4⟩:=e4v h (cells:=(Array.range (m*E.P.cellsOf e)).map ((if m*E.P.cellsOf e=0 then #[] else z.cells)[· % (if m*E.P.cellsOf e=0 then #[] else z.cells).size]!)) he (by rw[c1];simp);have h5:(ps.map fun (i,x)=>(i,a.eval x)).toList=ps.toList.map fun (i,x)=>(i,a.eval x):=by simp
   have hrun:(execOp a.eval o).run E.P w=.ok (.value (.slice (some ⟨w.heap.size,0,none⟩) es.length m)) (w.alloc (.cells cells' e)):=by
    have h9:¬(m*E.P.cellsOf e>2 ^ 24):=by omega
    simp only[execOp,ho,Instr.buildSlice,Sem.run_bind,a0e (a2z hT),Result.andThen_ok,Go.sizeOf,typeInfo,run_program,hi,Sem.run_pure,hisz,h9,if_false,h5]
    by_cases h0:m*E.P.cellsOf e=0
    · simp only[h0,if_true] at h1;simp only[h0,if_true,Sem.run_bind,Sem.run_pure,Result.andThen_ok];rw[h1];simp[newRow,c1]
    · simp only[h0,if_false] at h1;simp only[h0,if_false,Sem.run_bind,Sem.run_pure,Result.andThen_ok,zeroValue,typeInfo,run_program,hi,hz0];rw[h1];simp[newRow,c1]
   refine a9s hrun ?_;refine d9r (cells:=cells') hd h hf hl hQ hn hn' hdst (b3n hT) c2 h3 (fun j x hj=>?_) ?_ (by omega)
   · simpa using h4 j x hj
   · rw[h2];simp
 · cases hs
end
end Go.Av
namespace Go.Av
theorem a3r.map_mem{α β γ:Type}{R:α→β→Prop}{R':γ→β→Prop}{f:α→γ}:∀ {l:List α} {m:List β},(∀a∈l,∀b,R a b→R' (f a) b)→a3r R l m→a3r R' (l.map f) m
 | [],[],_,_=>trivial
 | _::_,_::_,h,hr=>⟨h _ (by simp) _ hr.1,a3r.map_mem (fun a ha=>h a (by simp[ha])) hr.2⟩
 | [],_::_,_,hr=>hr.elim
 | _::_,[],_,hr=>hr.elim
section
variable{P:Program}{w w':World}{V V':Vis}{μ μ':a5m}{γ γ':a7a}{ρ:BName→BName}
theorem c9j.ren{c:AVal}{x:Value}(hρ:∀b∈c7n c,∀g,μ b=some g→μ' (ρ b)=some g)(h:c9j w V μ c x):c9j w V μ' (i8h ρ c) x:=by
 cases c with
 | ptr b off=>obtain⟨g,h1,h2⟩:=h;exact⟨g,hρ b (by simp[c7n]) g h1,h2⟩
 | _=>exact h
theorem a3k.ren{c:AVal}{x:Value}(hρ:∀b∈a1h c,∀g,μ b=some g→μ' (ρ b)=some g)(h:a3k w V μ c x):a3k w V μ' (c5e ρ c) x:=by
 cases c with
 | ptr b off=>obtain⟨g,h1,h2⟩:=h;exact⟨g,hρ b (by simp[a1h]) g h1,h2⟩
 | func f a c=>
  obtain⟨u,z,h1,h2,h3⟩:=h;simp only[a1h,List.flatMap_append,List.mem_append,List.mem_flatMap] at hρ;exact⟨u,z,h1,a3r.map_mem (fun a ha b=>c9j.ren fun n hn=>hρ n (.inl ⟨a,ha,hn⟩)) h2,a3r.map_mem (fun a ha b=>c9j.ren fun n hn=>hρ n (.inr ⟨a,ha,hn⟩)) h3⟩
 | _=>exact h
theorem b2r.ren{c:AVal}{x:Value}(hρ:∀b∈a5c c,∀g,μ b=some g→μ' (ρ b)=some g)(h:b2r w V μ c x):b2r w V μ' (i8g ρ c) x:=by
 cases c with
 | agg cs=>
  obtain⟨z,h1,h2⟩:=h;simp only[a5c,List.mem_flatMap] at hρ;exact⟨z,h1,a3r.map_mem (fun a ha b=>a3k.ren fun n hn=>hρ n ⟨a,ha,hn⟩) h2⟩
 | ptr b o=>exact a3k.ren (w:=w) (V:=V) (c:=.ptr b o) hρ h
 | func f x y=>exact a3k.ren (w:=w) (V:=V) (c:=.func f x y) hρ h
 | _=>exact h
theorem a4r.ren{c:AVal}{x:Value}(hρ:∀b∈names c,∀g,μ b=some g→μ' (ρ b)=some g)(h:a4r w V μ c x):a4r w V μ' (ren ρ c) x:=by
 cases c with
 | tup cs=>
  obtain⟨z,h1,h2⟩:=h;simp only[names,List.mem_flatMap] at hρ;exact⟨z,h1,a3r.map_mem (fun a ha b=>b2r.ren fun n hn=>hρ n ⟨a,ha,hn⟩) h2⟩
 | agg cs=>exact b2r.ren (w:=w) (V:=V) (c:=.agg cs) hρ h
 | ptr b o=>exact b2r.ren (w:=w) (V:=V) (c:=.ptr b o) hρ h
 | func f x y=>exact b2r.ren (w:=w) (V:=V) (c:=.func f x y) hρ h
 | _=>exact h
theorem b0z{α:Type}{f:α→α}:∀ {l:List α},(∀a∈l,f a=a)→l.map f=l
 | [],_=>rfl
 | a::l,h=>by rw[List.map_cons,h a (by simp),b0z fun b hb=>h b (by simp[hb])]
theorem f3p{c:AVal}(h:∀b∈c7n c,ρ b=b):i8h ρ c=c:=by
 cases c with
 | ptr b off=>simp only[i8h];rw[h b (by simp[c7n])]
 | _=>rfl
theorem d3k{c:AVal}(h:∀b∈a1h c,ρ b=b):c5e ρ c=c:=by
 cases c with
 | ptr b off=>simp only[c5e];rw[h b (by simp[a1h])]
 | func f a c=>
  simp only[a1h,List.flatMap_append,List.mem_append,List.mem_flatMap] at h;simp only[c5e];rw[b0z fun a ha=>f3p fun b hb=>h b (.inl ⟨a,ha,hb⟩),b0z fun a ha=>f3p fun b hb=>h b (.inr ⟨a,ha,hb⟩)]
 | _=>rfl
theorem d3j{c:AVal}(h:∀b∈a5c c,ρ b=b):i8g ρ c=c:=by
 cases c with
 | agg cs=>simp only[a5c,List.mem_flatMap] at h;simp only[i8g];rw[b0z fun a ha=>d3k fun b hb=>h b ⟨a,ha,hb⟩]
 | ptr b o=>exact d3k (c:=.ptr b o) h
 | func f x y=>exact d3k (c:=.func f x y) h
 | _=>rfl
theorem f3n{c:AVal}(h:∀b∈names c,ρ b=b):ren ρ c=c:=by
 cases c with
 | tup cs=>simp only[names,List.mem_flatMap] at h;simp only[ren];rw[b0z fun a ha=>d3j fun b hb=>h b ⟨a,ha,hb⟩]
 | agg cs=>exact d3j (c:=.agg cs) h
 | ptr b o=>exact d3j (c:=.ptr b o) h
 | func f x y=>exact d3j (c:=.func f x y) h
 | _=>rfl
theorem b2x{c:AVal}:a1k (ren ρ c)=a1k c:=by cases c<;>rfl
theorem Fr.trans{w0:World}{V0:Vis}{T0 Tc:Tch}(h:Fr w0 V0 T0 w V)(k:Fr w V Tc w' V')(hT:∀g,Tc g→T0 g∨w0.heap.size≤g):Fr w0 V0 T0 w' V' where
 os:=k.os.trans h.os
 tape:=k.tape.trans h.tape
 output:=k.output.trans h.output
 size:=Nat.le_trans h.size k.size
 keep g hg ht:=(k.keep g (Nat.lt_of_lt_of_le hg h.size) fun hc=>(hT g hc).elim ht (fun h=>by omega)).trans (h.keep g hg ht)
 vkeep:=h.vkeep.trans k.vkeep
 vnew g o hv:=by
  rcases k.vnew g o hv with h1|h1|h1
  · exact h.vnew g o h1
  · exact .inr (.inl (Nat.le_trans h.size h1))
  · rcases hT g h1 with h2|h2
    · exact .inr (.inr h2)
    · exact .inr (.inl h2)
 sl:=h.sl
end
def a5q(H:a3e):St:=⟨[],H,[],1⟩
def a2u(v:AVal)(H:a3e):St:=⟨[(0,v)],H,[],1⟩
def old(n:Nat):Prop:=n<1
def any(_:Nat):Prop:=True
def h4d(P:Program)(w:World)(V:Vis)(T0:Tch)(μ:a5m)(r:AVal×a3e)(v:Value)(w':World):Prop:=
 ∃V' γ' a',a'.tmps= #[v]∧SRel P any (a2u r.1 r.2) a' w' V' μ γ'∧Fr w V T0 w' V'∧Loc w T0 (a2u r.1 r.2) μ γ'∧(a1k r.1=true∨∃T n es,r.1=.own T n es)
structure LocB (w0:World) (T0:Tch) (s:St) (μ:a5m) (γ:a7a):Prop where
 box:∀b g,μ b=some g→T0 g∨w0.heap.size≤g
 own:∀p T n es x g,s.at p=some (.own T n es)→γ p n=some x→ownBlock x=some g→T0 g∨w0.heap.size≤g
def i8m(P:Program)(w:World)(V:Vis)(T0:Tch)(μ:a5m)(r:AVal×a3e)(v:Value)(w':World):Prop:=
 ∃V' γ' a' μ',a'.tmps= #[v]∧BLe μ μ'∧SRel P any (a2u r.1 r.2) a' w' V' μ' γ'∧Fr w V T0 w' V'∧LocB w T0 (a2u r.1 r.2) μ' γ'∧(a1k r.1=true∨∃T n es,r.1=.own T n es)
theorem h4d.back{P:Program}{w:World}{V:Vis}{T0:Tch}{μ:a5m}{r:AVal×a3e}{v:Value}{w':World}(h:h4d P w V T0 μ r v w'):i8m P w V T0 μ r v w':=
 let ⟨V',γ',a',h1,h2,h3,h4,h5⟩:=h
 ⟨V',γ',a',μ,h1,BLe.refl _,h2,h3,⟨h4.box,h4.own⟩,h5⟩
theorem d1f:∀(as:List AVal) (k j:Nat),a0i (d1g k as) j=if k≤j then as[j - k]? else none
 | [],k,j=>by simp[d1g,a0i]
 | v::as,k,j=>by
  simp only[d1g,a0i]
  by_cases h:k=j
  · subst h;simp
  · simp only[h,if_false];rw[d1f as (k+1) j]
    by_cases h2:k≤j
    · have h3:k+1≤j:=by omega
      simp only[h2,h3,if_true];rw[show j - k=(j - (k+1))+1 by omega,List.getElem?_cons_succ]
    · have h3:¬k+1≤j:=by omega
      simp only[h2,h3,if_false]
theorem d4l(as:List AVal)(H:a3e)(k:Nat):a0i (b1u as H).tm k=as[k]? :=by
 simp only[b1u,d1f,Nat.zero_le,if_true,Nat.sub_zero]
theorem b7h(as:List AVal)(H:a3e)(b:BName):(b1u as H).box b=(a5q H).box b:=by cases b<;>rfl
theorem f6x{as:List AVal}{H:a3e}{p:Place}{v:AVal}(h:(b1u as H).at p=some v):(a5q H).at p=some v∨∃k,p=.tmp k∧as[k]? =some v:=by
 cases p with
 | tmp k=>exact .inr ⟨k,rfl,by rw[←d4l as H];exact h⟩
 | cell b off=>left;simp only[St.at,b7h] at h⊢;exact h
theorem d5g{as:List AVal}{H:a3e}{p:Place}{v:AVal}(h:(a5q H).at p=some v):(b1u as H).at p=some v:=by
 cases p with
 | tmp k=>simp[a5q,St.at,a0i] at h
 | cell b off=>simp only[St.at,b7h] at h⊢;exact h
section
variable{P:Program}{w:World}{V:Vis}{T0:Tch}{μ:a5m}{γ:a7a}{a a0:Act}{as:List AVal}{H:a3e}{xs:Array Value}
theorem f2p(hx:a3r (a4r w V μ) as xs.toList)(hp:∀v∈as,a1k v=true)(h:SRel P old (a5q H) a0 w V μ γ):SRel P old (b1u as H) ⟨xs,[]⟩ w V μ γ:=by
 have gat:∀p T m es,(b1u as H).at p=some (.own T m es)→(a5q H).at p=some (.own T m es):=by
  intro p T m es hp2;rcases f6x hp2 with h1| ⟨k,_,h1⟩
  · exact h1
  · have:=hp _ (List.mem_of_getElem? h1);cases this
 refine {tm:=?_,bx:=?_,dom:=?_,inj:=h.inj,visb:=h.visb,vis:=h.vis,ow:=?_,ow2:=?_,gq:=h.gq}
 · intro k v hv;rw[d4l] at hv;obtain⟨x,h1,h2⟩:=hx.get hv;exact⟨x,by simpa using h1,h2.repS (hp v (List.mem_of_getElem? hv))⟩
 · intro b cs hcs;rw[b7h] at hcs;exact h.bx b cs hcs
 · intro b g hb;rw[b7h];exact h.dom b g hb
 · intro p T m es x g hp2 hx2 hg;exact h.ow p T m es x g (gat p T m es hp2) hx2 hg
 · intro p p' T m es T' m' es' x x' g hp2 hp3 hx2 hx3 hg hg';exact h.ow2 p p' T m es T' m' es' x x' g (gat _ _ _ _ hp2) (gat _ _ _ _ hp3) hx2 hx3 hg hg'
theorem g7c(hp:∀v∈as,a1k v=true)(hl:Loc w T0 (a5q H) μ γ):Loc w T0 (b1u as H) μ γ:=by
 refine⟨hl.box,hl.par,fun p T m es x g hp2 hx2 hg=>?_⟩;rcases f6x hp2 with h1| ⟨k,_,h1⟩
 · exact hl.own p T m es x g h1 hx2 hg
 · have:=hp _ (List.mem_of_getElem? h1);cases this
theorem g1z(h:SRel P old (b1u as H) a w V μ γ):SRel P old (a5q H) a0 w V μ γ:=by
 refine {tm:=?_,bx:=?_,dom:=?_,inj:=h.inj,visb:=h.visb,vis:=h.vis,ow:=?_,ow2:=?_,gq:=h.gq}
 · intro k v hv;simp[a5q,a0i] at hv
 · intro b cs hcs;rw[←b7h as] at hcs;exact h.bx b cs hcs
 · intro b g hb;rw[←b7h as];exact h.dom b g hb
 · intro p T m es x g hp2 hx2 hg;exact h.ow p T m es x g (d5g hp2) hx2 hg
 · intro p p' T m es T' m' es' x x' g hp2 hp3 hx2 hx3 hg hg';exact h.ow2 p p' T m es T' m' es' x x' g (d5g hp2) (d5g hp3) hx2 hx3 hg hg'
theorem i5d(hl:Loc w T0 (b1u as H) μ γ):Loc w T0 (a5q H) μ γ:=
 ⟨hl.box,hl.par,fun p T m es x g hp2 hx2 hg=>hl.own p T m es x g (d5g hp2) hx2 hg⟩
theorem c1p.plain{p:Place}{v:AVal}{x:Value}(hp:a1k v=true)(h:c1p P w V μ γ p v x):a4r w V μ v x:=by
 cases v<;>first|exact h|cases hp
theorem g7w(hs:xs.size=as.length)(hp:∀v∈as,a1k v=true)(h:SRel P old (b1u as H) ⟨xs,[]⟩ w V μ γ):a3r (a4r w V μ) as xs.toList:=by
 refine a3r.of_get (by simp[hs]) fun i v hv=>?_;obtain⟨x,h1,h2⟩:=h.tm i v (by rw[d4l];exact hv);exact⟨x,by simpa using h1,h2.plain (hp v (List.mem_of_getElem? hv))⟩
end
def b0m(P:Program)(f:FuncId):Prop:=∃fn c,P.funcs[f]? =some fn∧(fn.name== "runtime.NumGoroutine")=false∧fn.body=some c
def a4x(P:Program)(F:World→Prop)(D:FuncId→List AVal→a3e→Option (AVal×a3e)):Prop:=
 ∀f as H r,D f as H=some r→∀(xs:Array Value) w V T0 μ γ,xs.size=as.length→SRel P old (b1u as H) ⟨xs,[]⟩ w V μ γ→Loc w T0 (b1u as H) μ γ→T0.F=F→Sealed T0 w→
  b0m P f∧Calls P f xs w fun e w'=>∃v,e=.returned v∧i8m P w V T0 μ r v w'
theorem a4x.plain{P:Program}{F:World→Prop}{D:FuncId→List AVal→a3e→Option (AVal×a3e)}(hD:a4x P F D)(f:FuncId)(as:List AVal)(H:a3e)(r:AVal×a3e)(hr:D f as H=some r)(xs:Array Value)(w:World)(V:Vis)(T0:Tch)(μ:a5m)(γ:a7a)(a0:Act)
 (hx:a3r (a4r w V μ) as xs.toList) (hp:∀v∈as,a1k v=true) (h:SRel P old (a5q H) a0 w V μ γ) (hl:Loc w T0 (a5q H) μ γ) (hF:T0.F=F) (hsl:Sealed T0 w):
 b0m P f∧Calls P f xs w fun e w'=>∃v,e=.returned v∧i8m P w V T0 μ r v w':=
 hD f as H r hr xs w V T0 μ γ (by simpa using hx.length.symm) (f2p hx hp h) (g7c hp hl) hF hsl
theorem a4x.of_plain{P:Program}{F:World→Prop}{D:FuncId→List AVal→a3e→Option (AVal×a3e)}(hpl:∀f as H r,D f as H=some r→∀v∈as,a1k v=true)
 (hD:∀f as H r,D f as H=some r→∀(xs:Array Value) w V T0 μ γ a0,a3r (a4r w V μ) as xs.toList→(∀v∈as,a1k v=true)→SRel P old (a5q H) a0 w V μ γ→Loc w T0 (a5q H) μ γ→T0.F=F→Sealed T0 w→
   b0m P f∧Calls P f xs w fun e w'=>∃v,e=.returned v∧h4d P w V T0 μ r v w'):a4x P F D:=by
 intro f as H r hr xs w V T0 μ γ hs h hl hF hsl;obtain⟨h1,h2⟩:=hD f as H r hr xs w V T0 μ γ ⟨xs,[]⟩ (g7w hs (hpl f as H r hr) h) (hpl f as H r hr) (g1z h) (i5d hl) hF hsl;exact⟨h1,h2.mono fun e w' ⟨v,h3,h4⟩=>⟨v,h3,h4.back⟩⟩
theorem g2m{P:Program}{Q:Nat→Prop}{w w':World}{V V':Vis}{μ μ':a5m}{γ γ':a7a}{a a':Act}{H H':a3e}{v:AVal}(h:SRel P Q (a5q H) a w V μ γ)(h':SRel P any (a2u v H') a' w' V' μ' γ')(hle:BLe μ μ')(hl:H'.length=H.length):μ'=μ:=by
 funext b;cases hb:μ b with
 | some g=>exact hle b g hb
 | none=>
  cases hb':μ' b with
  | none=>rfl
  | some g=>
   obtain⟨cs,hc⟩:=h'.dom b g hb';cases b with
   | loc k=>simp[a2u,St.box,a0i] at hc
   | par i=>
    simp only[a2u,St.box] at hc;have hi:i<H.length:=by rw[←hl];exact (List.getElem?_eq_some_iff.1 hc).1
    obtain⟨g2,_,_,hg2,_⟩:=h.bx (.par i) _ (show (a5q H).box (.par i)=some H[i] from List.getElem?_eq_getElem hi);rw[hg2] at hb;cases hb
theorem b7a{s:St}:∀ {n:Nat} {wl seen ns:List BName},c0a s n wl seen=some ns→seen.Nodup→(∀b∈seen,∃cs,s.box b=some cs∧∀m∈cs.flatMap a1h,m∈seen∨m∈wl)→
 ns.Nodup∧(∀b∈seen,b∈ns)∧(∀b∈wl,b∈ns)∧∀b∈ns,∃cs,s.box b=some cs∧∀m∈cs.flatMap a1h,m∈ns
 | 0,_,_,_,h,_,_=>by simp[c0a] at h
 | n+1,[],seen,ns,h,hnd,hc=>by
  simp only[c0a] at h;injection h with h;subst h;exact⟨hnd,fun b hb=>hb,by simp,fun b hb=>by
   obtain⟨cs,h1,h2⟩:=hc b hb;exact⟨cs,h1,fun m hm=>(h2 m hm).elim id (by simp)⟩⟩
 | n+1,b::r,seen,ns,h,hnd,hc=>by
  simp only[c0a] at h;split at h
  · rename_i hs;have hs:b∈seen:=by simpa using hs
    obtain⟨h1,h2,h3,h4⟩:=b7a h hnd (fun b' hb'=>by
     obtain⟨cs,h1,h2⟩:=hc b' hb';refine⟨cs,h1,fun m hm=>?_⟩;rcases h2 m hm with h3|h3
     · exact .inl h3
     · rcases List.mem_cons.1 h3 with rfl|h3
       · exact .inl hs
       · exact .inr h3)
    exact⟨h1,h2,fun b' hb'=>by
     rcases List.mem_cons.1 hb' with rfl|hb'
     · exact h2 _ hs
     · exact h3 _ hb',h4⟩
  · rename_i hs;have hs:b∉seen:=by simpa using hs
    obtain⟨cs,hb,h⟩:=bind_some h;obtain⟨h1,h2,h3,h4⟩:=b7a h (by
     rw[List.nodup_append];exact⟨hnd,by simp,fun a ha c hc=>by simp at hc;subst hc;exact fun e=>hs (e▸ha)⟩) (fun b' hb'=>by
     rcases List.mem_append.1 hb' with hb'|hb'
     · obtain⟨cs',h1,h2⟩:=hc b' hb';refine⟨cs',h1,fun m hm=>?_⟩;rcases h2 m hm with h3|h3
       · exact .inl (List.mem_append.2 (.inl h3))
       · rcases List.mem_cons.1 h3 with rfl|h3
         · exact .inl (by simp)
         · exact .inr (List.mem_append.2 (.inl h3))
     · simp at hb';subst hb';exact⟨cs,hb,fun m hm=>.inr (List.mem_append.2 (.inr hm))⟩)
    exact⟨h1,fun b' hb'=>h2 b' (by simp[hb']),fun b' hb'=>by
     rcases List.mem_cons.1 hb' with rfl|hb'
     · exact h2 _ (by simp)
     · exact h3 _ (by simp[hb']),h4⟩
theorem b2f{s:St}:∀ {ns:List BName} {H:a3e},a7o s ns=some H→H.length=ns.length∧∀(i:Nat) (b:BName),ns[i]? =some b→∃cs,s.box b=some cs∧H[i]? =some cs
 | [],H,h=>by simp only[a7o] at h;injection h with h;subst h;exact⟨rfl,by simp⟩
 | b::r,H,h=>by
  simp only[a7o] at h;obtain⟨cs,h1,h⟩:=bind_some h;obtain⟨H',h2,rfl⟩:=map_some h;obtain⟨h3,h4⟩:=b2f h2;refine⟨by simp[h3],fun i b' hb=>?_⟩;cases i with
  | zero=>simp at hb;subst hb;exact⟨cs,h1,by simp⟩
  | succ i=>simpa using h4 i b' (by simpa using hb)
theorem a8r:∀ {ns:List BName} {H:a3e} {s s':St},a3t s ns H=some s'→ns.Nodup→(∀b∈ns,∃cs,s.box b=some cs)→
 H.length=ns.length∧s'.tm=s.tm∧(∀b,b∉ns→s'.box b=s.box b)∧∀(i:Nat) (b:BName),ns[i]? =some b→s'.box b=H[i]?
 | [],[],s,s',h,_,_=>by simp only[a3t] at h;injection h with h;subst h;exact⟨rfl,rfl,fun _ _=>rfl,by simp⟩
 | [],_::_,_,_,h,_,_=>by simp[a3t] at h
 | _::_,[],_,_,h,_,_=>by simp[a3t] at h
 | b::r,cs::q,s,s',h,hnd,hb=>by
  simp only[a3t] at h;obtain⟨hn,hnd⟩:=List.nodup_cons.1 hnd;obtain⟨cs0,h0⟩:=hb b (by simp);obtain⟨h1,h2,h3,h4⟩:=a8r h hnd (fun b' hb'=>by
   rw[a6s h0];split
   · exact⟨_,rfl⟩
   · exact hb b' (by simp[hb']))
  refine⟨by simp[h1],h2.trans c6k,fun b' hb'=>?_,fun i b' hi=>?_⟩
  · rw[h3 b' (by simp at hb';exact hb'.2),a6s h0];have:b'≠b:=fun e=>hb' (by simp[e]);simp only[this,if_false]
  · cases i with
    | zero=>simp at hi;subst hi;rw[h3 _ hn,a6s h0];simp
    | succ i=>simpa using h4 i b' (by simpa using hi)
end Go.Av
namespace Go.Av
def muC(ns:List BName)(μ:a5m):a5m
 | .par i=>(ns[i]?).bind μ
 | .loc _=>none
def a7f(s:St)(p:Place)(γ:a7a):Option Value:=
 match s.at p with
 | some (.own _ m _)=>γ p m
 | _=>none
def gaC(s:St)(ns:List BName)(γ:a7a):a7a:=fun p m=>
 if m=0 then match p with
  | .cell (.par i) off=>(ns[i]?).bind fun b=>a7f s (.cell b off) γ
  | _=>none
 else none
def hpC(ns:List BName)(H:a3e):a3e:=H.map (·.map fun c=>c5e (c1y ns) (a4g 0 c))
def tCp(s:St)(ns:List BName)(μ:a5m)(γ:a7a)(g:Nat):Prop:=
 (∃b∈ns,μ b=some g)∨∃b∈ns,∃off T m es x,s.at (.cell b off)=some (.own T m es)∧γ (.cell b off) m=some x∧ownBlock x=some g
def tC(T0:Tch)(s:St)(ns:List BName)(μ:a5m)(γ:a7a):Tch:=⟨tCp s ns μ γ,muC ns μ,T0.S,T0.F⟩
theorem f3m{ρ:BName→BName}{n:Nat}{c:AVal}{T m es}(h:c5e ρ (a4g n c)=.own T m es):m=n∧∃m',c=.own T m' es:=by
 cases c<;>simp only[a4g,strip1,c5e] at h<;>first|(cases h;done)|(injection h with h1 h2 h3;subst h1 h2 h3;exact⟨rfl,_,rfl⟩)
section
variable{P:Program}{T0:Tch}{Q:Nat→Prop}{s:St}{a a0:Act}{w w':World}{V V':Vis}{μ μ':a5m}{γ γ':a7a}{ns:List BName}{H:a3e}
theorem c1k{p:Place}{T m es}(hH:a7o s ns=some H)(h:(a5q (hpC ns H)).at p=some (.own T m es)):
 ∃i b off m',p=.cell (.par i) off∧ns[i]? =some b∧s.at (.cell b off)=some (.own T m' es)∧m=0:=by
 cases p with
 | tmp k=>simp[a5q,St.at,a0i] at h
 | cell b' off=>
  cases b' with
  | loc k=>simp[a5q,St.at,St.box,a0i] at h
  | par i=>
   simp only[a5q,St.at,St.box,hpC,List.getElem?_map] at h;obtain⟨cs,h1,h2⟩:=bind_some h;obtain⟨cs0,h3,rfl⟩:=map_some h1;rw[List.getElem?_map] at h2;obtain⟨c,h4,h5⟩:=map_some h2;obtain⟨rfl,m',rfl⟩:=f3m h5;obtain⟨hl,hb⟩:=b2f hH;have hi:i<ns.length:=by have:=(List.getElem?_eq_some_iff.1 h3).1;omega
   obtain⟨cs1,h6,h7⟩:=hb i _ (List.getElem?_eq_getElem hi);rw[h3] at h7;injection h7 with h7;subst h7;exact⟨i,ns[i],off,m',rfl,List.getElem?_eq_getElem hi,by simp[St.at,h6,h4],rfl⟩
theorem c7w{i:Nat}{b:BName}{off:Nat}{T m' es}(hi:ns[i]? =some b)(h:s.at (.cell b off)=some (.own T m' es)):gaC s ns γ (.cell (.par i) off) 0=γ (.cell b off) m':=by
 simp[gaC,hi,a7f,h]
theorem c6j(hnd:ns.Nodup){b:BName}(hb:b∈ns):muC ns μ (c1y ns b)=μ b:=by
 simp only[c1y,muC];rw[List.getElem?_eq_getElem (List.idxOf_lt_length_iff.2 hb)];simp
theorem c7e{i j:Nat}{b:BName}(hnd:ns.Nodup)(h1:ns[i]? =some b)(h2:ns[j]? =some b):i=j:=by
 obtain⟨l1,e1⟩:=List.getElem?_eq_some_iff.1 h1;obtain⟨l2,e2⟩:=List.getElem?_eq_some_iff.1 h2;exact (List.getElem_inj hnd).1 (e1.trans e2.symm)
theorem e5i(h:SRel P Q s a w V μ γ)(hnd:ns.Nodup)(hcl:∀b∈ns,∃cs,s.box b=some cs∧∀m∈cs.flatMap a1h,m∈ns)(hH:a7o s ns=some H):
 SRel P old (a5q (hpC ns H)) a0 w V (muC ns μ) (gaC s ns γ):=by
 obtain⟨hl,hb⟩:=b2f hH;refine {tm:=?_,bx:=?_,dom:=?_,inj:=?_,visb:=?_,vis:=h.vis,ow:=?_,ow2:=?_,gq:=?_}
 · intro k v hv;simp[a5q,a0i] at hv
 · intro b' cs hcs;cases b' with
   | loc k=>simp[a5q,St.box,a0i] at hcs
   | par i=>
    simp only[a5q,St.box,hpC,List.getElem?_map] at hcs;obtain⟨cs0,h3,rfl⟩:=map_some hcs;have hi:i<ns.length:=by have:=(List.getElem?_eq_some_iff.1 h3).1;omega
    have hib:=List.getElem?_eq_getElem hi;obtain⟨cs1,h6,h7⟩:=hb i _ hib;rw[h3] at h7;injection h7 with h7;subst h7;obtain⟨g,T,cur,k1,k2,k3,k4⟩:=h.bx _ _ h6;refine⟨g,T,cur,by simp only[muC,hib,Option.bind_some];exact k1,k2,by simpa using k3,fun j c hc=>?_⟩;rw[List.getElem?_map] at hc;obtain⟨c0,h8,rfl⟩:=map_some hc;obtain⟨x,k5,k6⟩:=k4 j c0 h8;refine⟨x,k5,?_⟩;have hnm:∀m∈a1h c0,m∈ns:=by
     obtain⟨cs2,h9,h10⟩:=hcl _ (List.getElem_mem hi);rw[h6] at h9;injection h9 with h9;subst h9;exact fun m hm=>h10 m (List.mem_flatMap.2 ⟨c0,List.mem_of_getElem? h8,hm⟩)
    have hplain:(∀T n es,c0≠ .own T n es)→a3k w V μ c0 x→b2m P w V (muC ns μ) (gaC s ns γ) (.cell (.par i) j) (c5e (c1y ns) (strip1 c0)) x:=by
     intro hno hr;have hr':a3k w V (muC ns μ) (c5e (c1y ns) (strip1 c0)) x:=hr.strip1.ren fun m hm g hg=>by
      rw[c6j hnd (hnm m (by cases c0<;>first|exact hm|exact absurd rfl (hno _ _ _)|(simp[strip1,a1h] at hm)))];exact hg
     cases c0<;>first|exact hr'|exact absurd rfl (hno _ _ _)|(exfalso;simp[a3k,a1t] at hr;done)
    cases c0 with
    | own T' m es=>
     refine⟨k6.1,?_⟩;rw[c7w hib (T:=T') (m':=m) (es:=es) (by simp[St.at,h6,h8])];exact k6.2
    | dead T' m es=>exact k6.1
    | _=>exact hplain (by simp) k6
 · intro b' g hg;cases b' with
   | loc k=>cases hg
   | par i=>
    simp only[muC] at hg;obtain⟨b,h1,h2⟩:=bind_some hg;obtain⟨cs,h3,h4⟩:=hb i b h1;exact⟨_,by simp only[a5q,St.box,hpC,List.getElem?_map,h4,Option.map_some];rfl⟩
 · intro b1 b2 g h1 h2;cases b1 with
   | loc k=>cases h1
   | par i=>
    cases b2 with
    | loc k=>cases h2
    | par j=>
     obtain⟨c1,k1,k2⟩:=bind_some h1;obtain⟨c2,k3,k4⟩:=bind_some h2;have:=h.inj c1 c2 g k2 k4;subst this;rw[c7e hnd k1 k3]
 · intro b' g hg;cases b' with
   | loc k=>cases hg
   | par i=>
    obtain⟨c1,k1,k2⟩:=bind_some hg;exact h.visb c1 g k2
 · intro p T m es x g hp hx hg;obtain⟨i,b,off,m',rfl,hi,hs,rfl⟩:=c1k hH hp;rw[c7w hi hs] at hx;obtain⟨h1,h2⟩:=h.ow _ _ _ _ _ _ hs hx hg;refine⟨fun b' hb'=>?_,h2⟩;cases b' with
   | loc k=>cases hb'
   | par j=>
    obtain⟨c1,k1,k2⟩:=bind_some hb';exact h1 c1 k2
 · intro p p' T m es T' m' es' x x' g hp hp' hx hx' hg hg';obtain⟨i,b,off,m1,rfl,hi,hs,rfl⟩:=c1k hH hp;obtain⟨i',b',off',m2,rfl,hi',hs',rfl⟩:=c1k hH hp';rw[c7w hi hs] at hx;rw[c7w hi' hs'] at hx';have:=h.ow2 _ _ _ _ _ _ _ _ _ _ _ hs hs' hx hx' hg hg';injection this with e1 e2;subst e1 e2;rw[c7e hnd hi hi']
 · intro p m hm;unfold gaC at hm;split at hm
   · rename_i h0;show m<1;omega
   · exact absurd rfl hm
theorem e5j(hH:a7o s ns=some H):Loc w (tC T0 s ns μ γ) (a5q (hpC ns H)) (muC ns μ) (gaC s ns γ):=by
 refine⟨fun b' g hg=>?_,fun _=>rfl,fun p T m es x g hp hx hg=>?_⟩
 · cases b' with
   | loc k=>cases hg
   | par i=>
    obtain⟨c1,k1,k2⟩:=bind_some hg;exact .inl (.inl ⟨c1,List.mem_of_getElem? k1,k2⟩)
 · obtain⟨i,b,off,m',rfl,hi,hs,rfl⟩:=c1k hH hp;rw[c7w hi hs] at hx;exact .inl (.inr ⟨b,List.mem_of_getElem? hi,off,T,m',es,x,hs,hx,hg⟩)
theorem f2j{w0:World}(hl:Loc w0 T0 s μ γ)(g:Nat)(h:tC T0 s ns μ γ g):T0 g∨w0.heap.size≤g:=by
 rcases h with⟨b,_,h1⟩| ⟨b,_,off,T,m,es,x,h1,h2,h3⟩
 · exact hl.box b g h1
 · exact hl.own _ _ _ _ _ _ h1 h2 h3
theorem d6a{w0:World}{V0:Vis}(hf:Fr w0 V0 T0 w V)(hl:Loc w0 T0 s μ γ):Sealed (tC T0 s ns μ γ) w where
 lt g hg:=Nat.lt_of_lt_of_le (hf.sl.lt g hg) hf.size
 no g hg hc:=by
  rcases f2j hl g hc with h|h
  · exact hf.sl.no g hg h
  · have:=hf.sl.lt g hg;omega
 fact:=hf.sl.cong _ _ (fun g hg=>hf.keep g (hf.sl.lt g hg) (hf.sl.no g hg)) hf.sl.fact
 cong:=hf.sl.cong
theorem j2g(h:SRel P Q s a w V μ γ){p:Place}{T n es x g}(hp:s.at p=some (.own T n es))(hx:γ p n=some x)(hg:ownBlock x=some g)(hne:∀b off,p=.cell b off→b∉ns):¬tC T0 s ns μ γ g:=by
 rintro (⟨b,_,h1⟩| ⟨b,hb,off,T',m,es',x',h1,h2,h3⟩)
 · exact (h.ow p T n es x g hp hx hg).1 b h1
 · exact hne b off (h.ow2 _ _ _ _ _ _ _ _ _ _ _ hp h1 hx h2 hg h3) hb
theorem j2i(h:SRel P Q s a w V μ γ){b:BName}{g:Nat}(hb:b∉ns)(hg:μ b=some g):¬tC T0 s ns μ γ g:=by
 rintro (⟨b',hb',h1⟩| ⟨b',hb',off,T',m,es',x',h1,h2,h3⟩)
 · exact hb (h.inj b b' g hg h1▸hb')
 · exact (h.ow _ _ _ _ _ _ h1 h2 h3).1 b hg
end
end Go.Av
namespace Go.Av
def gaR(ns:List BName)(r:AVal×a3e)(n:Nat)(γ γ':a7a):a7a:=fun p m=>
 if m=n then match p with
  | .cell b off=>if b∈ns then a7f (a2u r.1 r.2) (.cell (.par (ns.idxOf b)) off) γ' else none
  | _=>none
 else γ p m
def hpR(ns:List BName)(n:Nat)(H:a3e):a3e:=H.map (·.map fun c=>c5e (b2k ns) (a4g n c))
theorem f7f{ns:List BName}(hnd:ns.Nodup){i:Nat}{b:BName}(h:ns[i]? =some b):ns.idxOf b=i:=by
 have hb:=List.mem_of_getElem? h;refine c7e hnd (b:=b) ?_ h;rw[List.getElem?_eq_getElem (List.idxOf_lt_length_iff.2 hb)];simp
structure Room (s sN:St) (ns:List BName) (μ μ2:a5m):Prop where
 tm:sN.tm=s.tm
 box:∀b,b∉ns→sN.box b=s.box b
 at_:∀b∈ns,∃cs,sN.box b=some cs
 mu:∀b,b∉ns→μ2 b=μ b
 le:BLe μ μ2
 par:∀i,μ2 (.par i)=μ (.par i)
theorem Room.refl{s:St}{ns:List BName}{μ:a5m}(h:∀b∈ns,∃cs,s.box b=some cs):Room s s ns μ μ:=⟨rfl,fun _ _=>rfl,h,fun _ _=>rfl,BLe.refl _,fun _=>rfl⟩
structure TcOK (s:St) (ns:List BName) (μ:a5m) (γ:a7a) (Tc:Tch):Prop where
 own:∀p T n es x g,s.at p=some (.own T n es)→γ p n=some x→ownBlock x=some g→(∀b off,p=.cell b off→b∉ns)→¬Tc g
 box:∀b g,b∉ns→μ b=some g→¬Tc g
section
variable{P:Program}{Q Q':Nat→Prop}{s sN s1:St}{a a':Act}{w w' w0:World}{V V' V0:Vis}{T0 Tc:Tch}{μ μ2:a5m}{γ γ':a7a}{ns:List BName}{r:AVal×a3e}{n:Nat}
theorem e2t{i off:Nat}{c:AVal}:(a2u r.1 r.2).at (.cell (.par i) off)=some c↔∃cs,r.2[i]? =some cs∧cs[off]? =some c:=by
 simp only[a2u,St.at,St.box];constructor
 · intro h;obtain⟨cs,h1,h2⟩:=bind_some h;exact⟨cs,h1,h2⟩
 · rintro⟨cs,h1,h2⟩;simp[h1,h2]
theorem b1c(hnd:ns.Nodup)(hrm:Room s sN ns μ μ2)(hs:a3t sN ns (hpR ns n r.2)=some s1){p:Place}{T m es}(h:s1.at p=some (.own T m es)):
 (∃i b off m',p=.cell b off∧ns[i]? =some b∧m=n∧(a2u r.1 r.2).at (.cell (.par i) off)=some (.own T m' es))∨
   (s.at p=some (.own T m es)∧∀b off,p=.cell b off→b∉ns):=by
 obtain⟨k1,k2,k3,k4⟩:=a8r hs hnd hrm.at_;cases p with
 | tmp k=>exact .inr ⟨by simpa [St.at,k2,hrm.tm] using h,fun _ _ e=>by cases e⟩
 | cell b off=>
  by_cases hb:b∈ns
  · have hlt:=List.idxOf_lt_length_iff.2 hb;have hib:ns[ns.idxOf b]? =some b:=by rw[List.getElem?_eq_getElem hlt];simp
    simp only[St.at,k4 _ b hib] at h;obtain⟨cs,h1,h2⟩:=bind_some h;simp only[hpR,List.getElem?_map] at h1;obtain⟨cs0,h3,rfl⟩:=map_some h1;rw[List.getElem?_map] at h2;obtain⟨c,h4,h5⟩:=map_some h2;obtain⟨rfl,m',rfl⟩:=f3m h5;exact .inl ⟨_,b,off,m',rfl,hib,rfl,e2t.2 ⟨cs0,h3,h4⟩⟩
  · refine .inr ⟨by simpa [St.at,k3 b hb,hrm.box b hb] using h,fun b' off' e=>?_⟩;injection e with e1 e2;subst e1;exact hb
theorem b9f(hnd:ns.Nodup){i:Nat}{b:BName}{off:Nat}{T m' es}(hi:ns[i]? =some b)(h:(a2u r.1 r.2).at (.cell (.par i) off)=some (.own T m' es)):
 gaR ns r n γ γ' (.cell b off) n=γ' (.cell (.par i) off) m':=by
 have hb:=List.mem_of_getElem? hi;simp[gaR,hb,f7f hnd hi,a7f,h]
theorem h5e(hfr:∀p,γ p n=none):GLe γ (gaR ns r n γ γ'):=by
 intro p m x hx;have:m≠n:=fun e=>by rw[e,hfr p] at hx;cases hx
 simp only[gaR,this,if_false];exact hx
theorem h5b{b:BName}(hb:b∈ns):ns[ns.idxOf b]? =some b:=by rw[List.getElem?_eq_getElem (List.idxOf_lt_length_iff.2 hb)];simp
theorem d1b{b:BName}(hb:b∈ns):muC ns μ2 (.par (ns.idxOf b))=μ2 b:=by simp only[muC,h5b hb,Option.bind_some]
theorem g7x(hlc:LocB w Tc (a2u r.1 r.2) (muC ns μ2) γ'){b:BName}{g:Nat}(hb:b∈ns)(hg:μ2 b=some g):Tc g∨w.heap.size≤g:=
 hlc.box (.par (ns.idxOf b)) g (by rw[d1b hb];exact hg)
theorem blt(h:SRel P Q s a w V μ γ){b:BName}{g:Nat}(hb:μ b=some g):g<w.heap.size:=by
 obtain⟨cs,hc⟩:=h.dom b g hb;obtain⟨g',T,cur,h1,h2,_⟩:=h.bx b cs hc;rw[hb] at h1;injection h1 with h1;subst h1;exact (Array.getElem?_eq_some_iff.1 h2).1
theorem olt(h:SRel P Q s a w V μ γ){p:Place}{T n es x g}(hp:s.at p=some (.own T n es))(hx:γ p n=some x)(hg:ownBlock x=some g):g<w.heap.size:=
 b2a (E:=⟨P,fun _=>[],fun _ _=>none,fun _=>false,fun _ _=>none,fun _ _ _=>false,fun _=>[],fun _=>none,fun _=>none,fun _=>none,fun _=>[],fun _=>none,fun _=>false⟩) h hp hx hg
theorem b7t(h:SRel P Q s a w V μ γ)(hrm:Room s sN ns μ μ2)(hT:TcOK s ns μ γ Tc)(hk:SRel P any (a2u r.1 r.2) a' w' V' (muC ns μ2) γ')(hlc:LocB w Tc (a2u r.1 r.2) (muC ns μ2) γ'){q:Place}{T m es x g}
 (hq:(a2u r.1 r.2).at q=some (.own T m es)) (hx:γ' q m=some x) (hg:ownBlock x=some g):
 (∀b,μ2 b≠some g)∧(∀o,V' g o→o<es.length*P.cellsOf T)∧(Tc g∨w.heap.size≤g):=by
 obtain⟨h1,h2⟩:=hk.ow q T m es x g hq hx hg;have h3:=hlc.own q T m es x g hq hx hg;refine⟨fun b hb=>?_,h2,h3⟩
 by_cases hbn:b∈ns
 · exact h1 (.par (ns.idxOf b)) (by rw[d1b hbn];exact hb)
 · rw[hrm.mu b hbn] at hb;rcases h3 with h3|h3
   · exact hT.box b g hbn hb h3
   · have:=blt h hb;omega
theorem f0u(h:SRel P Q s a w V μ γ)(hnd:ns.Nodup)(hrm:Room s sN ns μ μ2)(hT:TcOK s ns μ γ Tc)(hfr:∀p,γ p n=none)(hQ:QLe Q Q')(hn':Q' n)
 (hk:SRel P any (a2u r.1 r.2) a' w' V' (muC ns μ2) γ') (hlc:LocB w Tc (a2u r.1 r.2) (muC ns μ2) γ') (hfc:Fr w V Tc w' V')
 (hs:a3t sN ns (hpR ns n r.2)=some s1):SRel P Q' s1 a w' V' μ2 (gaR ns r n γ γ'):=by
 obtain⟨k1,k2,k3,k4⟩:=a8r hs hnd hrm.at_;have hle:=h5e (ns:=ns) (r:=r) (γ':=γ') hfr;have hidx:∀b∈ns,ns[ns.idxOf b]? =some b:=fun b hb=>h5b hb;have two:∀ {p T m es x},s.at p=some (.own T m es)→gaR ns r n γ γ' p m=some x→γ p m=some x:=by
  intro p T m es x hp hx;obtain⟨y,hy,_⟩:=h.conc_own hp;have:=hle _ _ _ hy;rw[this] at hx;injection hx with hx;subst hx;exact hy
 refine {tm:=?_,bx:=?_,dom:=?_,inj:=?_,visb:=?_,vis:=hk.vis,ow:=?_,ow2:=?_,gq:=?_}
 · intro k v hv;rw[k2,hrm.tm] at hv;obtain⟨x,h1,h2⟩:=h.tm k v hv;refine⟨x,h1,h2.keep hfc.vkeep hrm.le hle fun T m es g e hg=>?_⟩;subst e;have hat:s.at (.tmp k)=some (.own T m es):=hv;exact hfc.keep g (olt h hat h2.2 hg) (hT.own _ _ _ _ _ _ hat h2.2 hg fun _ _ e=>by cases e)
 · intro b cs hcs
   by_cases hb:b∈ns
   · have hib:=hidx b hb;rw[k4 _ b hib] at hcs;simp only[hpR,List.getElem?_map] at hcs;obtain⟨cs0,h3,rfl⟩:=map_some hcs;obtain⟨g,T,cur,m1,m2,m3,m4⟩:=hk.bx (.par (ns.idxOf b)) cs0 h3;rw[d1b hb] at m1;refine⟨g,T,cur,m1,m2,by simpa using m3,fun j c hc=>?_⟩;rw[List.getElem?_map] at hc;obtain⟨c0,h8,rfl⟩:=map_some hc;obtain⟨x,m5,m6⟩:=m4 j c0 h8;refine⟨x,m5,?_⟩;have hplain:(∀T n es,c0≠ .own T n es)→a3k w' V' (muC ns μ2) c0 x→b2m P w' V' μ2 (gaR ns r n γ γ') (.cell b j) (c5e (b2k ns) (strip1 c0)) x:=by
      intro hno hr;have hr':a3k w' V' μ2 (c5e (b2k ns) (strip1 c0)) x:=hr.strip1.ren fun m hm g hg=>by
       cases m with
       | loc k=>cases hg
       | par i=>
        simp only[muC] at hg;obtain⟨c1,n1,n2⟩:=bind_some hg;simp only[b2k,List.getD_eq_getElem?_getD,n1,Option.getD_some];exact n2
      cases c0<;>first|exact hr'|exact absurd rfl (hno _ _ _)|(exfalso;simp[a3k,a1t] at hr;done)
     cases c0 with
     | own T' m es=>
      refine⟨m6.1,?_⟩;rw[b9f hnd hib (T:=T') (m':=m) (es:=es) (e2t.2 ⟨cs0,h3,h8⟩)];exact m6.2
     | dead T' m es=>exact m6.1
     | _=>exact hplain (by simp) m6
   · rw[k3 b hb,hrm.box b hb] at hcs;obtain⟨g,T,cur,m1,m2,m3,m4⟩:=h.bx b cs hcs;refine⟨g,T,cur,hrm.le _ _ m1,(hfc.keep g (blt h m1) (hT.box _ _ hb m1)).trans m2,m3,fun j c hc=>?_⟩;obtain⟨x,m5,m6⟩:=m4 j c hc;refine⟨x,m5,m6.keep hfc.vkeep hrm.le hle fun T m es g e hg=>?_⟩;subst e;have hat:s.at (.cell b j)=some (.own T m es):=by simp[St.at,hcs,hc]
     exact hfc.keep g (olt h hat m6.2 hg) (hT.own _ _ _ _ _ _ hat m6.2 hg fun b' _ e=>by injection e with e1 e2;subst e1;exact hb)
 · intro b g hg
   by_cases hb:b∈ns
   · rw[k4 _ b (hidx b hb)];have:ns.idxOf b<(hpR ns n r.2).length:=by rw[k1];exact List.idxOf_lt_length_iff.2 hb
     exact⟨_,List.getElem?_eq_getElem this⟩
   · rw[hrm.mu b hb] at hg;rw[k3 b hb,hrm.box b hb];exact h.dom b g hg
 · intro b b' g hg hg'
   by_cases hb:b∈ns
   · by_cases hb':b'∈ns
     · have:=hk.inj (.par (ns.idxOf b)) (.par (ns.idxOf b')) g (by rw[d1b hb];exact hg) (by rw[d1b hb'];exact hg');injection this with e;have e1:=hidx b hb;rw[e,hidx b' hb'] at e1;injection e1 with e1;exact e1.symm
     · exfalso;rw[hrm.mu b' hb'] at hg';rcases g7x hlc hb hg with h1|h1
       · exact hT.box _ _ hb' hg' h1
       · have:=blt h hg';omega
   · rw[hrm.mu b hb] at hg
     by_cases hb':b'∈ns
     · exfalso;rcases g7x hlc hb' hg' with h1|h1
       · exact hT.box _ _ hb hg h1
       · have:=blt h hg;omega
     · rw[hrm.mu b' hb'] at hg';exact h.inj b b' g hg hg'
 · intro b g hg o hv
   by_cases hb:b∈ns
   · exact hk.visb (.par (ns.idxOf b)) g (by rw[d1b hb];exact hg) o hv
   · rw[hrm.mu b hb] at hg;rcases hfc.vnew g o hv with h1|h1|h1
     · exact h.visb b g hg o h1
     · have:=blt h hg;omega
     · exact hT.box _ _ hb hg h1
 · intro p T m es x g hp hx hg;rcases b1c hnd hrm hs hp with⟨i,b,off,m',rfl,hi,rfl,hat⟩| ⟨hat,hne⟩
   · rw[b9f hnd hi hat] at hx;obtain⟨h1,h2,_⟩:=b7t h hrm hT hk hlc hat hx hg;exact⟨h1,h2⟩
   · have hx:=two hat hx;obtain⟨h1,h2⟩:=h.ow p T m es x g hat hx hg;refine⟨fun b hb2=>?_,fun o hv=>?_⟩
     · by_cases hb:b∈ns
       · rcases g7x hlc hb hb2 with h3|h3
         · exact hT.own _ _ _ _ _ _ hat hx hg hne h3
         · have:=olt h hat hx hg;omega
       · rw[hrm.mu b hb] at hb2;exact h1 b hb2
     · rcases hfc.vnew g o hv with h3|h3|h3
       · exact h2 o h3
       · have:=olt h hat hx hg;omega
       · exact absurd h3 (hT.own _ _ _ _ _ _ hat hx hg hne)
 · intro p p' T m es T' m' es' x x' g hp hp' hx hx' hg hg';rcases b1c hnd hrm hs hp with⟨i,b,off,m1,rfl,hi,rfl,hat⟩| ⟨hat,hne⟩
   · rw[b9f hnd hi hat] at hx;rcases b1c hnd hrm hs hp' with⟨i',b',off',m2,rfl,hi',rfl,hat'⟩| ⟨hat',hne'⟩
     · rw[b9f hnd hi' hat'] at hx';have:=hk.ow2 _ _ _ _ _ _ _ _ _ _ _ hat hat' hx hx' hg hg';injection this with e1 e2;injection e1 with e1;subst e1 e2;rw[hi] at hi';injection hi' with hi';rw[hi']
     · exfalso;have hx':=two hat' hx';rcases (b7t h hrm hT hk hlc hat hx hg).2.2 with h3|h3
       · exact hT.own _ _ _ _ _ _ hat' hx' hg' hne' h3
       · have:=olt h hat' hx' hg';omega
   · have hx2:=two hat hx;rcases b1c hnd hrm hs hp' with⟨i',b',off',m2,rfl,hi',rfl,hat'⟩| ⟨hat',hne'⟩
     · exfalso;rw[b9f hnd hi' hat'] at hx';rcases (b7t h hrm hT hk hlc hat' hx' hg').2.2 with h3|h3
       · exact hT.own _ _ _ _ _ _ hat hx2 hg hne h3
       · have:=olt h hat hx2 hg;omega
     · exact h.ow2 p p' T m es T' m' es' x x' g hat hat' hx2 (two hat' hx') hg hg'
 · intro p m hm
   by_cases e:m=n
   · rw[e];exact hn'
   · simp only[gaR,e,if_false] at hm;exact hQ m (h.gq p m hm)
end
end Go.Av
namespace Go.Av
section
variable{E:Env}{w0:World}{V0:Vis}{T0:Tch}{Q Q':Nat→Prop}{s s1:St}{a a':Act}{w w':World}{V V':Vis}{μ μ':a5m}{γ γ':a7a}
theorem e6n{c:AVal}{x:Value}(h:c9j w V μ c x):a1k c=true∧a4r w V μ c x:=by
 cases c<;>first|exact⟨rfl,h⟩|(exfalso;simp[c9j,a1t] at h;done)
theorem c3l:∀ {cs:List AVal} {xs:List Value},a3r (c9j w V μ) cs xs→(∀c∈cs,a1k c=true)∧a3r (a4r w V μ) cs xs
 | [],[],_=>⟨by simp,trivial⟩
 | c::cs,x::xs,h=>by
  obtain⟨h1,h2⟩:=e6n h.1;obtain⟨h3,h4⟩:=c3l h.2;refine⟨fun b hb=>?_,h2,h4⟩;rcases List.mem_cons.1 hb with rfl|hb
  · exact h1
  · exact h3 b hb
 | [],_::_,h=>h.elim
 | _::_,[],h=>h.elim
theorem b3p:∀ {xs:List Operand} {vs:List AVal},a9z s xs=some vs→∀v∈vs,a1k v=true
 | [],vs,h=>by simp only[a9z] at h;injection h with h;subst h;simp
 | x::xs,vs,h=>by
  simp only[a9z] at h;obtain⟨v,_,h⟩:=bind_some h;obtain⟨vs',h2,rfl⟩:=map_some h;intro u hu;rcases List.mem_cons.1 hu with rfl|hu
  · exact a3d v
  · exact b3p h2 u hu
theorem d9a(hd:a.defers=[])(h:SRel E.P Q s a w V μ γ)(hf:Fr w0 V0 T0 w V)(hl:Loc w0 T0 s μ γ)(hQ:QLe Q Q'){n:Nat}(hn:¬Q n)(hn':Q' n){dst:Option Nat}(hdst:∀k,dst=some k→k<a.tmps.size)
 {sN:St} {μ2:a5m} {Tc:Tch} {ns:List BName} (hnd:ns.Nodup) (hrm:Room s sN ns μ μ2) (hT:TcOK s ns μ γ Tc) (hTl:∀g,Tc g→T0 g∨w0.heap.size≤g) {r:AVal×a3e} {v:Value}
 (ha:a'.tmps= #[v]) (hk:SRel E.P any (a2u r.1 r.2) a' w' V' (muC ns μ2) γ') (hfc:Fr w V Tc w' V') (hlc:LocB w Tc (a2u r.1 r.2) (muC ns μ2) γ') (hres:a1k r.1=true∨∃T n es,r.1=.own T n es) (hs:a3t sN ns (hpR ns n r.2)=some s1):
 Sim E.P w0 V0 T0 Q' (s1.putD dst (b8v n (ren (b2k ns) r.1))) (a.put dst v) w':=by
 have hfr:∀p,γ p n=none:=b7k h hn;have h1:=f0u h hnd hrm hT hfr hQ hn' hk hlc hfc hs;have hf1:Fr w0 V0 T0 w' V':=hf.trans hfc hTl;have two:∀ {p T m es x},s.at p=some (.own T m es)→gaR ns r n γ γ' p m=some x→γ p m=some x:=by
  intro p T m es x hp hx;obtain⟨y,hy,_⟩:=h.conc_own hp;have:=h5e (ns:=ns) (r:=r) (γ':=γ') hfr _ _ _ hy;rw[this] at hx;injection hx with hx;subst hx;exact hy
 have old_lt:∀g,(Tc g∨w.heap.size≤g)→T0 g∨w0.heap.size≤g:=fun g hg=>by
  rcases hg with hg|hg
  · exact hTl g hg
  · exact .inr (Nat.le_trans hf.size hg)
 have hbx:∀b g,μ2 b=some g→T0 g∨w0.heap.size≤g:=fun b g hg=>by
  by_cases hb:b∈ns
  · exact old_lt g (g7x hlc hb hg)
  · rw[hrm.mu b hb] at hg;exact hl.box b g hg
 have hpr:∀i,μ2 (.par i)=T0.m (.par i):=fun i=>(hrm.par i).trans (hl.par i);have hl1:Loc w0 T0 s1 μ2 (gaR ns r n γ γ'):=by
  refine⟨hbx,hpr,fun p T m es x g hp hx hg=>?_⟩;rcases b1c hnd hrm hs hp with⟨i,b,off,m',rfl,hi,rfl,hat⟩| ⟨hat,hne⟩
  · rw[b9f hnd hi hat] at hx;exact old_lt g (b7t h hrm hT hk hlc hat hx hg).2.2
  · exact hl.own p T m es x g hat (two hat hx) hg
 obtain⟨x,hx0,hr⟩:=hk.tm 0 r.1 rfl;have:x=v:=by rw[ha] at hx0;simpa using hx0.symm
 subst this;cases dst with
 | none=>exact⟨hd,V',μ2,_,h1,hf1,hl1⟩
 | some k=>
  rcases hres with hp| ⟨T,m,es,he⟩
  · have e1:b8v n (ren (b2k ns) r.1)=ren (b2k ns) r.1:=by
     revert hp;generalize r.1=u;intro hp;cases u<;>first|rfl|cases hp
    rw[e1];have hr3:a4r w' V' (muC ns μ2) r.1 x:=by
     revert hr hp;generalize r.1=u;intro hr hp;cases u<;>first|exact hr|cases hp
    refine b5h hd h1 hf1 hl1 (fun _ h=>h) hdst (by rw[b2x];exact hp) (hr3.ren fun m hm g hg=>?_);cases m with
    | loc k=>cases hg
    | par i=>
     simp only[muC] at hg;obtain⟨c1,n1,n2⟩:=bind_some hg;simp only[b2k,List.getD_eq_getElem?_getD,n1,Option.getD_some];exact n2
  · rw[he] at hr;have hat:(a2u r.1 r.2).at (.tmp 0)=some (.own T m es):=by rw[←he];rfl
    rw[he];show Sim E.P w0 V0 T0 Q' (s1.put k (.own T n es)) (a.put (some k) x) w'
    let γ2:a7a:=fun p m=>if p=.tmp k∧m=n then some x else gaR ns r n γ γ' p m
    have hg2:GLe (gaR ns r n γ γ') γ2:=fun p m y hy=>by
     have:¬(p=.tmp k∧m=n):=by
      rintro⟨rfl,rfl⟩;simp only[gaR,if_true] at hy;cases hy
     simp only[γ2,this,if_false];exact hy
    refine⟨hd,V',μ2,γ2,?_,hf1,?_⟩
    · refine h1.put (hdst k rfl) hg2 (fun p m hm=>?_) ⟨hr.1,by simp[γ2]⟩ (fun T' n' es' g e hg'=>?_)
      · by_cases hm':p=.tmp k∧m=n
        · rw[hm'.2];exact hn'
        · simp only[γ2,hm',if_false] at hm;exact h1.gq p m hm
      · injection e with e1 e2 e3;subst e1;subst e2;subst e3;obtain⟨o1,o2,o3⟩:=b7t h hrm hT hk hlc hat hr.2 hg';refine⟨o1,o2,fun p' T' n' es' x' hne hp' hx' hg3=>?_⟩;rcases b1c hnd hrm hs hp' with⟨i,b,off,m',rfl,hi,rfl,hat'⟩| ⟨hat',hne'⟩
        · rw[b9f hnd hi hat'] at hx';have:=hk.ow2 _ _ _ _ _ _ _ _ _ _ _ hat hat' hr.2 hx' hg' hg3;cases this
        · have hx2:=two hat' hx';rcases o3 with o3|o3
          · exact hT.own _ _ _ _ _ _ hat' hx2 hg3 hne' o3
          · have:=b2a h hat' hx2 hg3;omega
    · refine⟨hbx,hpr,fun p T' n' es' y g hp hy hyg=>?_⟩;rw[b3g] at hp
      by_cases hpk:p=.tmp k
      · simp only[hpk,if_true] at hp;injection hp with hp;injection hp with e1 e2 e3;subst e2;have:y=x:=by simp only[γ2,hpk,and_self,if_true] at hy;injection hy with hy;exact hy.symm
        subst this;exact old_lt g (b7t h hrm hT hk hlc hat hr.2 hyg).2.2
      · simp only[hpk,if_false] at hp;have:gaR ns r n γ γ' p n'=some y:=by simpa [γ2,hpk] using hy
        exact hl1.own p T' n' es' y g hp this hyg
theorem j2h(h:SRel E.P Q s a w V μ γ)(T0:Tch)(ns:List BName):TcOK s ns μ γ (tC T0 s ns μ γ):=
 ⟨fun _ _ _ _ _ _ hp hx hg hne=>j2g h hp hx hg hne,fun _ _ hb hg=>j2i h hb hg⟩
theorem g6m{P:Program}{Q:Nat→Prop}{v:AVal}{H:a3e}(hk:SRel P Q (a2u v H) a' w' V' μ' γ')(k:Nat):μ' (.loc k)=none:=by
 cases hm:μ' (.loc k) with
 | none=>rfl
 | some g=>obtain⟨cs,hc⟩:=hk.dom _ g hm;simp[a2u,St.box,a0i] at hc
theorem d2j(hd:a.defers=[])(h:SRel E.P Q s a w V μ γ)(hf:Fr w0 V0 T0 w V)(hl:Loc w0 T0 s μ γ)(hQ:QLe Q Q'){n:Nat}(hn:¬Q n)(hn':Q' n){dst:Option Nat}(hdst:∀k,dst=some k→k<a.tmps.size)
 {Tc:Tch} {ns:List BName} {H:a3e} (hnd:ns.Nodup) (hbox:∀b∈ns,∃cs,s.box b=some cs) (hH:a7o s ns=some H) (hT:TcOK s ns μ γ Tc) (hTl:∀g,Tc g→T0 g∨w0.heap.size≤g) {γc:a7a} {a0:Act} (hpre:SRel E.P old (a5q (hpC ns H)) a0 w V (muC ns μ) γc)
 {r:AVal×a3e} {v:Value} (hb:i8m E.P w V Tc (muC ns μ) r v w'):(∀s1,a3t s ns (hpR ns n r.2)=some s1→Sim E.P w0 V0 T0 Q' (s1.putD dst (b8v n (ren (b2k ns) r.1))) (a.put dst v) w')∧
  ∀k s1,a0i s.lb k=none→a3t {s with lb:=a7v s.lb k []} (ns++[.loc k]) (hpR (ns++[.loc k]) n r.2)=some s1→Sim E.P w0 V0 T0 Q' (s1.putD dst (b8v n (ren (b2k (ns++[.loc k])) r.1))) (a.put dst v) w':=by
 obtain⟨V',γ',a',μ',ha,hle,hk,hfc,hlc,hres⟩:=hb;have hHl:=(b2f hH).1;refine⟨fun s1 hs=>?_,fun k s1 hlb hs=>?_⟩
 · have e:μ'=muC ns μ:=by
    refine g2m hpre hk hle ?_;have:=(a8r hs hnd hbox).1;simp only[hpR,hpC,List.length_map] at this⊢;omega
   subst e;exact d9a hd h hf hl hQ hn hn' hdst hnd (Room.refl hbox) hT hTl ha hk hfc hlc hres hs
 · have hkn:BName.loc k∉ns:=fun hm=>by
    obtain⟨cs,hc⟩:=hbox _ hm;simp only[St.box] at hc;rw[hlb] at hc;cases hc
   have hmk:μ (.loc k)=none:=by
    cases hm:μ (.loc k) with
    | none=>rfl
    | some g=>
     obtain⟨cs,hc⟩:=h.dom _ g hm;simp only[St.box] at hc;rw[hlb] at hc;cases hc
   have hnd2:(ns++[BName.loc k]).Nodup:=by
    rw[List.nodup_append];exact⟨hnd,by simp,fun b hb c hc=>by simp at hc;subst hc;exact fun e=>hkn (e▸hb)⟩
   have hsb:∀b,b≠ .loc k→({s with lb:=a7v s.lb k []}:St).box b=s.box b:=fun b hb=>by
    cases b with
    | par i=>rfl
    | loc j=>
     have:¬k=j:=fun e=>hb (by rw[e]);simp only[St.box,a1r,this,if_false]
   let μ2:a5m:=fun b=>if b=.loc k then μ' (.par ns.length) else μ b
   have hrm:Room s {s with lb:=a7v s.lb k []} (ns++[.loc k]) μ μ2:=by
    refine⟨rfl,fun b hb=>hsb b fun e=>hb (by simp[e]),fun b hb=>?_,fun b hb=>?_,fun b g hg=>?_,fun i=>?_⟩
    · rcases List.mem_append.1 hb with hb|hb
      · rw[hsb b fun e=>hkn (e▸hb)];exact hbox b hb
      · simp at hb;subst hb;exact⟨[],by simp only[St.box,a1r,if_true]⟩
    · have:b≠ .loc k:=fun e=>hb (by simp[e]);simp only[μ2,this,if_false]
    · have:b≠ .loc k:=fun e=>by rw[e,hmk] at hg;cases hg
      simp only[μ2,this,if_false];exact hg
    · simp[μ2]
   have hlen:=(a8r hs hnd2 hrm.at_).1;simp only[hpR,List.length_map,List.length_append,List.length_singleton] at hlen;have e:μ'=muC (ns++[.loc k]) μ2:=by
    funext b;cases b with
    | loc j=>exact g6m hk j
    | par i=>
     simp only[muC];rcases Nat.lt_trichotomy i ns.length with hi|hi|hi
     · rw[List.getElem?_append_left hi,List.getElem?_eq_getElem hi];simp only[Option.bind_some];have hne:ns[i]≠ .loc k:=fun e=>hkn (e▸List.getElem_mem hi);simp only[μ2,hne,if_false];have hib:ns[i]? =some ns[i]:=List.getElem?_eq_getElem hi;obtain⟨cs,hcs⟩:=hbox _ (List.getElem_mem hi);obtain⟨g,_,_,hg,_⟩:=h.bx _ _ hcs;rw[hg];exact hle (.par i) g (by simp only[muC,hib,Option.bind_some];exact hg)
     · subst hi;rw[List.getElem?_append_right (Nat.le_refl _)];simp[μ2]
     · rw[List.getElem?_eq_none (by simp;omega)];cases hm:μ' (.par i) with
       | none=>rfl
       | some g=>
        obtain⟨cs,hc⟩:=hk.dom _ g hm;simp only[a2u,St.box] at hc;have:=(List.getElem?_eq_some_iff.1 hc).1;omega
   rw[e] at hk hlc;have hT2:TcOK s (ns++[.loc k]) μ γ Tc:=by
    refine⟨fun p T n es x g hp hx hg hne=>hT.own p T n es x g hp hx hg fun b off e hb=>hne b off e (by simp[hb]),fun b g hb hg=>hT.box b g (fun h=>hb (by simp[h])) hg⟩
   exact d9a hd h hf hl hQ hn hn' hdst hnd2 hrm hT2 hTl ha hk hfc hlc hres hs
theorem c6u{o:Oper}{g:Operand}{args:Array Operand}{ats:Array TypeId}(ho:o.op=.call {callee:=.value g,args,argTypes:=ats}){f:FuncId}{x y:Array Value}(hg:a.eval g=.func (.func f) x y)
 {P:Program} (hf:b0m P f):(execOp a.eval o).run P w=.ok (.enter f (x++args.map a.eval++y)) w:=by
 obtain⟨fn,c,h1,h2,h3⟩:=hf;have h4:¬fn.name= "runtime.NumGoroutine":=by simpa using h2
 simp[execOp,ho,resolve,hg,Deferred.ofValue,invoke,callFunc,h1,h4,h3]
theorem d2m{o:Oper}{P:Program}{f:FuncId}{xs:Array Value}(hrun:(execOp a.eval o).run P w=.ok (.enter f xs) w){K:Act→World→Prop}{X:Exit→Act→World→Prop}
 (hc:Calls P f xs w fun e w'=>∃v,e=.returned v∧K (a.put o.dst v) w'):o.wp P a w K X:=by
 unfold Oper.wp;rw[hrun,Oper.upon_enter];refine Calls.mono hc fun e w' he=>?_;obtain⟨v,rfl,hK⟩:=he;exact hK
theorem g2g{D:FuncId→List AVal→a3e→Option (AVal×a3e)}(hD:a4x E.P T0.F D)(hd:a.defers=[])(h:SRel E.P Q s a w V μ γ)(hf:Fr w0 V0 T0 w V)(hl:Loc w0 T0 s μ γ)(hQ:QLe Q Q'){n:Nat}(hn:¬Q n)(hn':Q' n)
 {o:Oper} (hdst:∀k,o.dst=some k→k<a.tmps.size) {g:Operand} {args:Array Operand} {ats:Array TypeId} (ho:o.op=.call {callee:=.value g,args,argTypes:=ats}) {s':St}
 (hs:((rd s g).bind fun c=>(a9z s args.toList).bind fun as=>b8a D s n o.dst as c)=some s') {X:Exit→Act→World→Prop}:o.wp E.P a w (Sim E.P w0 V0 T0 Q' s') X:=by
 obtain⟨c,hc,hs⟩:=bind_some hs;obtain⟨as,has,hs⟩:=bind_some hs;have hrc:=h.rd hc;have hra:=b5o h has;have hpa:=b3p has;unfold b8a at hs;split at hs
 · rename_i f first cap _
   obtain⟨x,y,hfun,hfirst,hcap⟩:=hrc;obtain⟨p1,r1⟩:=c3l hfirst;obtain⟨p2,r2⟩:=c3l hcap;have hall:a3r (a4r w V μ) (first++(as++cap)) (x++args.map a.eval++y).toList:=by
    have:=r1.append (a3r.append hra r2);simpa using this
   have hplain:∀v∈first++(as++cap),a1k v=true:=by
    intro v hv;simp only[List.mem_append] at hv;rcases hv with hv|hv|hv
    · exact p1 v hv
    · exact hpa v hv
    · exact p2 v hv
   -- the callee,whatever boxes it is handed
   have key:∀(ns:List BName) (H:a3e) (r:AVal×a3e) (s1:St),ns.Nodup→(∀b∈ns,∃cs,s.box b=some cs∧∀m∈cs.flatMap a1h,m∈ns)→(∀v∈first++(as++cap),∀b∈names v,b∈ns)→
    a7o s ns=some H→D f ((first++(as++cap)).map (ren (c1y ns))) (hpC ns H)=some r→a3t s ns (hpR ns n r.2)=some s1→
    o.wp E.P a w (Sim E.P w0 V0 T0 Q' (s1.putD o.dst (b8v n (ren (b2k ns) r.1)))) X:=by
    intro ns H r s1 hnd hcl hnm hH hDr hset;have hpre:SRel E.P old (a5q (hpC ns H)) a w V (muC ns μ) (gaC s ns γ):=e5i h hnd hcl hH;obtain⟨hen,hcalls⟩:=hD.plain _ _ _ _ hDr (x++args.map a.eval++y) w V (tC T0 s ns μ γ) (muC ns μ) (gaC s ns γ) a
     (a3r.map_mem (fun v hv z hz=>hz.ren fun b hb g hg=>by rw[c6j hnd (hnm v hv b hb)];exact hg) hall)
     (fun v hv=>by
       obtain⟨u,hu,rfl⟩:=List.mem_map.1 hv;rw[b2x];exact hplain u hu)
     hpre (e5j hH) rfl (d6a hf hl)
    refine d2m (c6u ho hfun hen) (Calls.mono hcalls fun e w' he=>?_);obtain⟨v,rfl,hback⟩:=he;exact⟨v,rfl,(d2j hd h hf hl hQ hn hn' hdst hnd (fun b hb=>(hcl b hb).imp fun _ h=>h.1) hH (j2h h T0 ns) (f2j hl) hpre hback).1 s1 hset⟩
   simp only at hs;split at hs
   · rename_i hno;obtain⟨r,hDr,hs⟩:=bind_some hs;split at hs
     · rename_i hr2;injection hs with hs;have hno':∀v∈first++(as++cap),names v=[]:=fun v hv=>by
        have:=List.flatMap_eq_nil_iff.1 hno v hv;exact this
       have:=key [] [] r s List.nodup_nil (by simp) (fun v hv b hb=>by rw[hno' v hv] at hb;cases hb) rfl (by
        rw[b0z fun v hv=>f3n fun b hb=>by rw[hno' v hv] at hb;cases hb];exact hDr) (by rw[hr2];rfl)
       have e:ren (b2k []) r.1=r.1:=f3n fun b _=>by cases b<;>rfl
       rw[e,hs] at this;exact this
     · cases hs
   · rename_i b bs hno;obtain⟨ns,hreach,hs⟩:=bind_some hs;obtain⟨H,hH,hs⟩:=bind_some hs;obtain⟨r,hDr,hs⟩:=bind_some hs;obtain⟨s1,hset,rfl⟩:=map_some hs;obtain⟨h1,_,h3,h4⟩:=b7a hreach List.nodup_nil (by simp);exact key ns H r s1 h1 h4 (fun v hv b' hb'=>h3 b' (by rw[←hno];exact List.mem_flatMap.2 ⟨v,hv,hb'⟩)) hH hDr hset
 · cases hs
theorem f2y{D:FuncId→List AVal→a3e→Option (AVal×a3e)}(hD:a4x E.P T0.F D)(hd:a.defers=[])(h:SRel E.P Q s a w V μ γ)(hf:Fr w0 V0 T0 w V)(hl:Loc w0 T0 s μ γ)(hQ:QLe Q Q'){n:Nat}(hn:¬Q n)(hn':Q' n)
 {o:Oper} (hdst:∀k,o.dst=some k→k<a.tmps.size) {f:FuncId} {args:Array Operand} {ats:Array TypeId} (ho:o.op=.call {callee:=.value (.func f),args,argTypes:=ats}) {s':St}
 (hs:((a9z s args.toList).bind fun as=>c8x D s n o.dst as f)=some s') {X:Exit→Act→World→Prop}:o.wp E.P a w (Sim E.P w0 V0 T0 Q' s') X:=by
 obtain⟨as,has,hs⟩:=bind_some hs;have hra:=b5o h has;have hpa:=b3p has;have hall:a3r (a4r w V μ) as (args.map a.eval).toList:=by simpa using hra
 unfold c8x at hs;obtain⟨ns,hreach,hs⟩:=bind_some hs;obtain⟨H,hH,hs⟩:=bind_some hs;obtain⟨r,hDr,hs⟩:=bind_some hs;obtain⟨hnd,_,h3,hcl⟩:=b7a hreach List.nodup_nil (by simp);have hnm:∀v∈as,∀b∈names v,b∈ns:=fun v hv b hb=>h3 b (List.mem_flatMap.2 ⟨v,hv,hb⟩);have hpre:SRel E.P old (a5q (hpC ns H)) a w V (muC ns μ) (gaC s ns γ):=e5i h hnd hcl hH;obtain⟨hen,hcalls⟩:=hD.plain _ _ _ _ hDr (args.map a.eval) w V (tC T0 s ns μ γ) (muC ns μ) (gaC s ns γ) a
  (a3r.map_mem (fun v hv z hz=>hz.ren fun b hb g hg=>by rw[c6j hnd (hnm v hv b hb)];exact hg) hall)
  (fun v hv=>by
    obtain⟨u,hu,rfl⟩:=List.mem_map.1 hv;rw[b2x];exact hpa u hu)
  hpre (e5j hH) rfl (d6a hf hl)
 have hrun:=c6u (a:=a) (w:=w) (x:= #[]) (y:= #[]) ho (by rfl) hen;simp only[Array.empty_append,Array.append_empty] at hrun;refine d2m hrun (Calls.mono hcalls fun e w' he=>?_);obtain⟨v,rfl,hback⟩:=he;refine⟨v,rfl,?_⟩;have key:=d2j hd h hf hl hQ hn hn' hdst hnd (fun b hb=>(hcl b hb).imp fun _ h=>h.1) hH (j2h h T0 ns) (f2j hl) hpre hback;split at hs
 · obtain⟨s1,hset,rfl⟩:=map_some hs;exact key.1 s1 hset
 · split at hs
   · cases hs
   · rename_i k hk;split at hs
     · cases hs
     · rename_i hlb;obtain⟨s1,hset,rfl⟩:=map_some hs;exact key.2 k s1 hlb hset
end
end Go.Av
namespace Go.Av
theorem c5c(z:List AVal):∀n,(c9i n z).length=n*z.length
 | 0=>by simp[c9i]
 | n+1=>by rw[c9i,List.length_append,c5c z n,Nat.succ_mul];omega
theorem e2u(z:List AVal)(hz:0<z.length):∀(n i:Nat) (c:AVal),(c9i n z)[i]? =some c→z[i % z.length]? =some c
 | 0,_,_,h=>by simp[c9i] at h
 | n+1,i,c,h=>by
  rw[c9i] at h
  by_cases hi:i<z.length
  · rw[List.getElem?_append_left hi] at h;rw[Nat.mod_eq_of_lt hi];exact h
  · rw[List.getElem?_append_right (by omega)] at h;have:=e2u z hz n _ c h;rw[Nat.mod_eq_sub_mod (by omega)];exact this
section
variable{E:Env}{w0:World}{V0:Vis}{T0:Tch}{Q Q':Nat→Prop}{s s1:St}{a a':Act}{w w':World}{V V':Vis}{μ μ':a5m}{γ γ':a7a}
theorem g2c(hd:a.defers=[])(h:SRel E.P Q s a w V μ γ)(hf:Fr w0 V0 T0 w V)(hl:Loc w0 T0 s μ γ)(hQ:QLe Q Q'){n:Nat}(hn:¬Q n)(hn':Q' n){o:Oper}(hdst:∀k,o.dst=some k→k<a.tmps.size)
 {T:TypeId} {off:Nat} {cs:List AVal} {cells:Array Value} (hc:a3r (a3k w V μ) cs cells.toList) {s':St} (hs:g1h s n o.dst off cs=some s')
 {pv:Value} (hpv:d9i w.heap.size off pv) (hrun:(execOp a.eval o).run E.P w=.ok (.value pv) (w.alloc (.cells cells T))) {X:Exit→Act→World→Prop}:
 o.wp E.P a w (Sim E.P w0 V0 T0 Q' s') X:=by
 refine a9s hrun ?_;unfold g1h at hs;split at hs
 · rename_i k hk;rw[hk];split at hs
   · rename_i hnone;injection hs with hs;subst hs;have h1:=h.alloc (.cells cells T)
     let μ':a5m:=fun b=>if b=.loc k then some w.heap.size else μ b
     let γ':a7a:=fun p m=>match p with
      | .cell (.loc j) i=>if j=k∧m=n then cells[i]? else γ p m
      | p=>γ p m
     have hg:GLe γ γ':=by
      intro p m x hx;have hne:m≠n:=by rintro rfl;rw[b7k h hn] at hx;cases hx
      cases p with
      | tmp j=>exact hx
      | cell b i=>cases b<;>simp[γ',hne,hx]
     have hq:∀p m,γ' p m≠none→Q' m:=by
      intro p m hm;cases p with
      | tmp j=>exact hQ m (h.gq _ m hm)
      | cell b i=>
       cases b with
       | par j=>exact hQ m (h.gq _ m hm)
       | loc j=>
        by_cases hj:j=k∧m=n
        · rw[hj.2];exact hn'
        · simp only[γ',hj,if_false] at hm;exact hQ m (h.gq _ m hm)
     have hle:BLe μ μ':=by
      intro b g hb;have:b≠ .loc k:=by
       rintro rfl;obtain⟨cs',h2⟩:=h.dom _ _ hb;simp only[St.box] at h2;rw[hnone] at h2;cases h2
      simp[μ',this,hb]
     have hγc:∀i x,cells.toList[i]? =some x→γ' (.cell (.loc k) i) n=some x:=fun i x hx=>by simpa [γ'] using hx
     have hc':a3r (a3k (w.alloc (.cells cells T)) V μ) cs cells.toList:=hc.imp fun _ _ h3=>h3.keep (a7i h.vis) (BLe.refl _);have h2:SRel E.P Q' {s with lb:=a7v s.lb k (cs.map (a4g n))} a (w.alloc (.cells cells T)) V μ' γ':=by
      refine h1.addBox (T:=T) (cur:=cells) (g:=w.heap.size) hnone rfl hg hq a5z (fun b hb=>?_) (fun o hv=>?_) (fun p T' m es x hp hx hgx=>?_) ?_ (fun i c hi=>?_) (fun i T' m es x hi hx=>?_)
      · have:=b2g h hb;omega
      · have:=h.vis _ _ hv;omega
      · have:=b2a h hp hx hgx;omega
      · have:=hc.length;simp at this⊢;omega
      · have:=b8r (E:=E) hc' hle hγc i c hi;simpa using this
      · obtain⟨rfl,m',h3⟩:=a7r hi;obtain⟨y,h4,h5⟩:=hc.get h3;have h6:=hγc i y h4;rw[h6] at hx;injection hx with hx;subst hx;rw[h5.2.2];rfl
     refine⟨hd,V,μ',γ',?_,hf.alloc h.vis _,?_⟩
     · exact h2.put (hdst k hk) (GLe.refl _) h2.gq ⟨w.heap.size,by simp[μ'],hpv⟩ (fun T' m es g e=>by cases e)
     · constructor
       · intro b g hb
         by_cases hbk:b=.loc k
         · simp only[μ',hbk,if_true] at hb;injection hb with hb;subst hb;exact .inr hf.size
         · simp only[μ',hbk,if_false] at hb;exact hl.box b g hb
       · intro i;have:BName.par i≠ .loc k:=by intro e;cases e
         simp only[μ',this,if_false];exact hl.par i
       · intro p T' m es x g hp hx hgx;rw[b3g] at hp
         by_cases hpk:p=.tmp k
         · simp[hpk] at hp
         · simp only[hpk,if_false] at hp;rw[h3v] at hp;have old:s.at p=some (.own T' m es)→T0 g∨w0.heap.size≤g:=by
            intro hp;obtain⟨z,hz,_⟩:=h.conc_own hp;have:=hg _ _ _ hz;rw[this] at hx;injection hx with hx;subst hx;exact hl.own p T' m es _ g hp hz hgx
           cases p with
           | tmp j=>exact old hp
           | cell b off=>
            cases b with
            | par j=>exact old hp
            | loc j=>
             simp only at hp
             by_cases hj:j=k
             · subst hj;simp only[if_true] at hp;obtain⟨rfl,m',h3⟩:=a7r hp;obtain⟨y,h4,h5⟩:=hc.get h3;have h6:=hγc off y h4;rw[h6] at hx;injection hx with hx;subst hx;rw[h5.2.2] at hgx;cases hgx
             · simp only[hj,if_false] at hp;exact old hp
   · cases hs
 · cases hs
theorem g7a{T:TypeId}{z:List AVal}(hz:a6u E.P T=some z)(hpos:0<z.length)(m:Nat):∃zv i,E.P.info? T=some i∧i.zero=some zv∧zv.cells.size=z.length∧
 a3r (a3k w V μ) (c9i m z) ((Array.range (m*z.length)).map (fun j=>zv.cells[j % zv.cells.size]!)).toList:=by
 obtain⟨zv,i,h1,h2,h3⟩:=b9n (w:=w) (V:=V) (μ:=μ) hz;have hl:=h3.length;simp only[Array.length_toList] at hl;refine⟨zv,i,h1,h2,hl.symm,a3r.of_get (by simp[c5c]) fun j c hj=>?_⟩;have hjl:j<m*z.length:=by
  have:=(List.getElem?_eq_some_iff.1 hj).1
  rwa[c5c] at this
 obtain⟨x,hx,hr⟩:=h3.get (e2u z hpos m j c hj);refine⟨x,?_,hr⟩;have hx':zv.cells[j % zv.cells.size]? =some x:=by rw[←hl];simpa using hx
 have hb:zv.cells[j % zv.cells.size]! =x:=by
  rw[getElem!_def,hx']
 rw[Array.getElem?_toList,Array.getElem?_map,Array.getElem?_range,if_pos hjl,Option.map_some,hb]
theorem g2e(hd:a.defers=[])(h:SRel E.P Q s a w V μ γ)(hf:Fr w0 V0 T0 w V)(hl:Loc w0 T0 s μ γ)(hQ:QLe Q Q'){n:Nat}(hn:¬Q n)(hn':Q' n){o:Oper}(hdst:∀k,o.dst=some k→k<a.tmps.size)
 {T:TypeId} {x y:Operand} (ho:o.op=.makeSlice T x y) {s':St} (hs:((rd s x).bind fun u=>(rd s y).bind fun v=>g7b E s n o.dst T u v)=some s') {X:Exit→Act→World→Prop}:
 o.wp E.P a w (Sim E.P w0 V0 T0 Q' s') X:=by
 obtain⟨u,hu,hs⟩:=bind_some hs;obtain⟨v,hv,hs⟩:=bind_some hs;unfold g7b at hs;split at hs
 · rename_i l c;obtain⟨e,h1,hs⟩:=bind_some hs;obtain⟨z,h2,hs⟩:=bind_some hs;split at hs
   · rename_i hcnd;obtain⟨hlc,c1,c2,c3,c4,c5⟩:=hcnd;have hlc2:=hlc.symm;clear hlc;subst hlc2;have ex:a.eval x=.int .i64 l:=h.rd hu;have ey:a.eval y=.int .i64 l:=h.rd hv;have hpos:0<z.length:=by omega
     obtain⟨zv,i,i1,i2,i3,i4⟩:=g7a (E:=E) (w:=w) (V:=V) (μ:=μ) h2 hpos l.toNat
     have hwr:IntKind.i64.wrap l=l:=IntWalk.i64_in _ (by omega);refine g2c (T:=e) (pv:=.slice (some ⟨w.heap.size,0,none⟩) l.toNat l.toNat) hd h hf hl hQ hn hn' hdst i4 hs ((d3o (Nat.le_add_right _ _)).2 ⟨l.toNat,by rw[Nat.add_sub_cancel_left];exact Nat.le_refl _,by rw[Nat.add_sub_cancel_left]⟩) ?_;have hsz:E.P.cellsOf e=z.length:=c4.symm;have hbytes:i.bytes=E.P.bytesOf e:=by unfold Program.bytesOf;rw[i1];rfl
     have hbig:¬((i.bytes:Int)*l>281474976710656):=by
      have h4:i.bytes≤32768:=by rw[hbytes];exact c3
      have h3:(i.bytes:Int)≤32768:=by omega
      have:(i.bytes:Int)*l≤32768*1073741824:=Int.mul_le_mul h3 c2 c1 (by omega);omega
     have hneg:¬l<0:=by omega
     have hne:E.P.cellsOf e≠0:=by omega
     have ht:=a2z h1;simp only[execOp,ho,ex,ey]
     by_cases hl0:l.toNat*z.length=0
     · have hl1:l.toNat=0:=by
        rcases Nat.mul_eq_zero.1 hl0 with h|h
        · exact h
        · omega
       simp[Instr.makeSlice,a0e ht,asInt,asIntOf,typeInfo,i1,hwr,hbig,hneg,a6d hne,hsz,hl1,newRow];have hr0:∀f:Nat→Value,Array.map f (Array.range 0)= #[]:=fun f=>by apply Array.ext';simp
       rw[hr0,hr0]
     · simp[Instr.makeSlice,a0e ht,asInt,asIntOf,typeInfo,i1,i2,i3,hwr,hbig,hneg,a6d hne,hsz,hl0,zeroValue,newRow]
   · cases hs
 · cases hs
end
end Go.Av
namespace Go.Av
section
variable{E:Env}{w0:World}{V0:Vis}{T0:Tch}{Q Q':Nat→Prop}{s s':St}{a a':Act}{w w':World}{V V':Vis}{μ μ':a5m}{γ γ':a7a}
def h4b(w:World)(V:Vis)(v:AVal)(x:Value):Prop:=(∃cs y,v=.agg cs∧x=.agg y∧c4p w V cs y.toList)∨((∀cs,v≠ .agg cs)∧a1t w V v x)
theorem b3d{k v:AVal}{es:List AVal}{m:MapEntry}{ms:List MapEntry}:a4v w V (.tup [k,v]::es) (m::ms)↔(a1t w V k m.key∧h4b w V v m.val)∧a4v w V es ms:=by
 unfold h4b;cases v<;>simp[a4v]
theorem c4p.all:∀ {cs:List AVal} {xs:List Value},c4p w V cs xs→a3r (a1t w V) cs xs
 | [],[],_=>trivial
 | _::_,_::_,h=>⟨h.1,h.2.all⟩
 | [],_::_,h=>by simp[c4p] at h
 | _::_,[],h=>by simp[c4p] at h
theorem c4p.of:∀ {cs:List AVal} {xs:List Value},a3r (a1t w V) cs xs→c4p w V cs xs
 | [],[],_=>trivial
 | _::_,_::_,h=>⟨h.1,c4p.of h.2⟩
 | [],_::_,h=>h.elim
 | _::_,[],h=>h.elim
theorem a1t.r1{v:AVal}{x:Value}(h:a1t w V v x):a3k w V μ v x:=by
 cases v<;>first|exact h|(simp[a1t] at h;done)
theorem a1t.r3{v:AVal}{x:Value}(h:a1t w V v x):a4r w V μ v x:=by
 cases v<;>first|exact h|(simp[a1t] at h;done)
theorem a1t.plain{v:AVal}{x:Value}(h:a1t w V v x):a1k v=true:=by
 cases v<;>first|rfl|(simp[a1t] at h;done)
theorem h4b.r2{v:AVal}{x:Value}(h:h4b w V v x):b2r w V μ v x∧a1k v=true∧∀vs,v≠ .tup vs:=by
 rcases h with⟨cs,y,rfl,rfl,h⟩| ⟨ha,h⟩
 · exact⟨⟨y,rfl,h.all.imp fun _ _=>a1t.r1⟩,rfl,by simp⟩
 · exact⟨h.r1.r2 ha,h.plain,fun vs e=>by subst e;simp[a1t] at h⟩
theorem h4b.of{v:AVal}{x:Value}(h:b2q w V μ v x)(hp:e6u (strip2 v)=true):h4b w V (strip2 v) x:=by
 have ht:∀vs,v≠ .tup vs:=by rintro vs rfl;cases hp
 have h2:=h.strip2 ht
 revert hp h2
 generalize strip2 v=u;intro hp h2;cases u
 case agg cs=>
  obtain⟨y,rfl,h3⟩:=h2;refine .inl ⟨cs,y,rfl,rfl,.of (a3r.of_get h3.length fun i c hc=>?_)⟩;obtain⟨b,hb,hr⟩:=h3.get hc;exact⟨b,hb,e3c hr (List.all_eq_true.1 hp c (List.mem_of_getElem? hc))⟩
 all_goals first|(cases hp;done)|exact .inr ⟨by simp,h2⟩
theorem d7t{t:TypeId}{k:AVal}{x:Value}(hk:b2l.isKey E t k=true)(hr:a1t w V k x):∃d,E.P.underlying t=some d∧MapKept.IsKey d x∧∀k' x' b,a1t w V k' x'→c4l k k'=some b→Instr.sameNow d x x'=some b∧MapKept.IsKey d x':=by
 cases k<;>simp only[b2l.isKey] at hk<;>(try cases hk)
 case str s=>
  have hx:x=.string ⟨s.toArray⟩:=hr;subst hx;refine⟨_,a7d hk,trivial,fun k' x' b hr' hb=>?_⟩;cases k'<;>simp only[c4l] at hb<;>(try cases hb)
  rename_i s';have hx':x'=.string ⟨s'.toArray⟩:=hr';subst hx';refine⟨?_,trivial⟩;obtain⟨r,hr,hiff⟩:=MapKept.sameNow_of_keys (d:=.string) (a:=.string ⟨s.toArray⟩) (b:=.string ⟨s'.toArray⟩) trivial trivial;rw[hr]
  congr 1
  by_cases h:s=s'
  · subst h;rw[hiff.2 rfl];simp
  · have hf:r=false:=by
     cases r with
     | false=>rfl
     | true=>
      exfalso;have:=hiff.1 rfl;injection this with this;injection this with this;exact h (by simpa using congrArg Array.toList this)
    rw[hf,beq_eq_false_iff_ne.2 h]
 case int k n=>
  have hx:x=.int k n:=hr;subst hx;have hk':c4h E.P t=some k:=by simpa using hk
  refine⟨_,c6l hk',rfl,fun k' x' b hr' hb=>?_⟩;cases k'<;>simp only[c4l] at hb<;>(try cases hb)
  rename_i k2 n2;have hx':x'=.int k2 n2:=hr';subst hx';split at hb
  · rename_i e;subst e;injection hb with hb;subst hb;exact⟨by simp[Instr.sameNow],rfl⟩
  · cases hb
theorem e4t{d:TypeDesc}{k:AVal}{x:Value}(hk:∀k' x' b,a1t w V k' x'→c4l k k'=some b→Instr.sameNow d x x'=some b∧MapKept.IsKey d x'):
 ∀ {es:List AVal} {ms:List MapEntry} {r:Option AVal} (i:Nat),a4v w V es ms→c9t k es=some r→
  (r=none∧Instr.findNow d x ms i=some none)∨∃v y j,r=some v∧Instr.findNow d x ms i=some (some (j,y))∧h4b w V v y
 | [],[],r,i,_,hf=>by
  simp only[c9t] at hf;injection hf with hf;subst hf;exact .inl ⟨rfl,rfl⟩
 | [],_::_,_,_,he,_=>by simp[a4v] at he
 | e::es,[],_,_,he,_=>by simp[a4v] at he
 | e::es,m::ms,r,i,he,hf=>by
  unfold c9t at hf;split at hf
  · rename_i heq;cases heq
  · rename_i k' v r' heq;injection heq with h1 h2;subst h1;subst h2;rw[b3d] at he;obtain⟨b,hb,hf⟩:=bind_some hf;obtain⟨hs,_⟩:=hk _ _ _ he.1.1 hb;cases b with
    | true=>
     simp only[if_true] at hf;injection hf with hf;subst hf;exact .inr ⟨v,m.val,i,rfl,by simp[Instr.findNow,hs],he.1.2⟩
    | false=>
     simp only[Bool.false_eq_true,if_false] at hf;rcases e4t hk (i+1) he.2 hf with⟨h3,h4⟩| ⟨v',y,j,h3,h4,h5⟩
     · exact .inl ⟨h3,by simp[Instr.findNow,hs,h4]⟩
     · exact .inr ⟨v',y,j,h3,by simp[Instr.findNow,hs,h4],h5⟩
  · cases hf
theorem f1z{d:TypeDesc}{k v:AVal}{x y:Value}(hk:∀k' x' b,a1t w V k' x'→c4l k k'=some b→Instr.sameNow d x x'=some b∧MapKept.IsKey d x')(hkx:a1t w V k x)(hx:MapKept.IsKey d x)(hv:h4b w V v y):
 ∀ {es es':List AVal} {ms:List MapEntry} (i:Nat),a4v w V es ms→f1j k v es=some es'→
  (Instr.findNow d x ms i=some none∧∀c,a4v w V es' (ms++[⟨x,y,c⟩]))∨
  ∃j z e,Instr.findNow d x ms i=some (some (i+j,z))∧ms[j]? =some e∧e.key=x∧a4v w V es' (ms.modify j fun e=>{e with key:=x,val:=y})
 | [],es',[],i,_,hf=>by
  simp only[f1j] at hf;injection hf with hf;subst hf;exact .inl ⟨rfl,fun c=>by rw[List.nil_append,b3d];exact⟨⟨hkx,hv⟩,trivial⟩⟩
 | [],_,_::_,_,he,_=>by simp[a4v] at he
 | e::es,_,[],_,he,_=>by simp[a4v] at he
 | e::es,es',m::ms,i,he,hf=>by
  unfold f1j at hf;split at hf
  · rename_i heq;cases heq
  · rename_i k' v' r' heq;injection heq with h1 h2;subst h1;subst h2;rw[b3d] at he;obtain⟨b,hb,hf⟩:=bind_some hf;obtain⟨hs,hik⟩:=hk _ _ _ he.1.1 hb;cases b with
    | true=>
     simp only[if_true] at hf;injection hf with hf;subst hf;have hkey:m.key=x:=by
      obtain⟨r,hr,hiff⟩:=MapKept.sameNow_of_keys hx hik;rw[hs] at hr;injection hr with hr;exact (hiff.1 hr.symm).symm
     refine .inr ⟨0,m.val,m,by simp[Instr.findNow,hs],rfl,hkey,?_⟩;rw[List.modify_zero_cons,b3d];exact⟨⟨hkx,hv⟩,he.2⟩
    | false=>
     simp only[Bool.false_eq_true,if_false] at hf;obtain⟨es2,h3,rfl⟩:=map_some hf;rcases f1z hk hkx hx hv (i+1) he.2 h3 with⟨h4,h5⟩| ⟨j,z,e2,h4,h5,h6,h7⟩
     · refine .inl ⟨by simp[Instr.findNow,hs,h4],fun c=>?_⟩;rw[List.cons_append,b3d];exact⟨he.1,h5 c⟩
     · refine .inr ⟨j+1,z,e2,by simp[Instr.findNow,hs,h4];omega,by simpa using h5,h6,?_⟩;rw[List.modify_succ_cons,b3d];exact⟨he.1,h7⟩
  · cases hf
theorem d0r(h:SRel E.P Q s a w V μ γ){x:Operand}{p:Place}{n:Nat}{es:List AVal}(ho:c0j s x=some (p,n,es)):
 s.at p=some (.own a3i n es)∧γ p n=some (a.eval x)∧d9f E.P w V a3i es (a.eval x):=by
 cases x<;>simp only[c0j] at ho<;>(try cases ho)
 rename_i k;obtain⟨v,h1,ho⟩:=bind_some ho;obtain⟨y,h2,h3⟩:=h.tm k _ h1;have he:a.eval (.tmp k)=y:=by simp[Act.eval,Array.getD_eq_getD_getElem?,h2]
 rw[he];cases v<;>simp only at ho<;>(try cases ho)
 case own T m es0=>
  split at ho
  · rename_i hT;obtain⟨rfl,hl⟩:=hT;injection ho with ho;injection ho with e1 e2;injection e2 with e2 e3;subst e1;subst e2;subst e3;exact⟨h1,h3.2,h3.1.map hl⟩
  · cases ho
 case mview m q=>
  split at ho
  · rename_i hq;obtain⟨v,h4,ho⟩:=bind_some ho;have h31:=h3.1;unfold e6p at h31;rw[hq] at h31;cases v<;>simp only at ho<;>(try cases ho)
    split at ho
    · rename_i hT;obtain⟨rfl,rfl,hl⟩:=hT;injection ho with ho;injection ho with e1 e2;injection e2 with e2 e3;subst e1;subst e2;subst e3;obtain⟨z,hz,hzo⟩:=h.conc_own h4;have:z=y:=by rw[h31] at hz;injection hz with hz;exact hz.symm
      subst this;exact⟨h4,h31,hzo.map hl⟩
    · cases ho
  · cases ho
theorem g8m(h:SRel E.P Q s a w V μ γ){x:Operand}{es:List AVal}(he:d8k s x=some es):
 (es=[]∧a.eval x=.map none)∨∃g ents cl,a.eval x=.map (some g)∧w.heap[g]? =some (.map ents cl)∧a4v w V es ents.toList:=by
 unfold d8k at he;split at he
 · rename_i hx;injection he with he;subst he;exact .inl ⟨rfl,h.rd hx⟩
 · rename_i es' hx;injection he with he;subst he;have hr:a1t w V (.pmap es') (a.eval x):=h.rd hx;simp only[a1t] at hr;obtain⟨g,ents,cl,h1,_,h3,h4⟩:=hr;exact .inr ⟨g,ents,cl,h1,h3,h4⟩
 · obtain⟨⟨p,n,es'⟩,h1,rfl⟩:=map_some he;obtain⟨_,_,_,g,ents,cl,h2,h3,h4⟩:=d0r h h1;exact .inr ⟨g,ents,cl,h2,h3,h4⟩
theorem e5y{T:TypeId}{z:Value}{v:AVal}(h:f1q E.P T z=some v):b2r w V μ v z∧a1k v=true∧∀vs,v≠ .tup vs:=by
 have fin:∀z:Value,((a8h (b6j E.P 8 T) [z]).bind fun
  | [c]=>some (strip1 c)
  | _=>none)=some v→b2r w V μ v z∧a1k v=true∧∀vs,v≠ .tup vs:=by
  intro z h;obtain⟨cs,h1,h⟩:=bind_some h;have h2:=c0s (w:=w) (V:=V) (μ:=μ) h1;split at h
  · rename_i c;injection h with h;subst h;have h3:a3k w V μ (strip1 c) z:=h2.1.strip1;clear h1;cases c
    case own T' n es'=>
     exact⟨h3.r2 b1v,d6p,b5c⟩
    case tup vs=>exact absurd h2.1 (by simp[a3k,a1t])
    case agg vs=>exact absurd h2.1 (by simp[a3k,a1t])
    all_goals first|exact⟨h3,rfl,by simp[strip1]⟩|exact absurd h2.1 (by simp[a3k,a1t])
  · cases h
 unfold f1q at h;split at h
 · rename_i x;obtain⟨cs,h1,rfl⟩:=map_some h;exact⟨⟨x,rfl,a3r.map_left (f:=strip1) (fun _ _=>a3k.strip1) (c0s h1)⟩,rfl,by simp⟩
 · exact fin _ h
theorem e6f(hd:a.defers=[])(h:SRel E.P Q s a w V μ γ)(hf:Fr w0 V0 T0 w V)(hl:Loc w0 T0 s μ γ)(hQ:QLe Q Q'){o:Oper}(hdst:∀k,o.dst=some k→k<a.tmps.size)
 {T:TypeId} {x i:Operand} {ok:Bool} (ho:o.op=.lookup T x i ok) (hs:((d8k s x).bind fun es=>(rd s i).bind fun k=>(b2l E T es k ok).map (s.putD o.dst))=some s') {X:Exit→Act→World→Prop}:
 o.wp E.P a w (Sim E.P w0 V0 T0 Q' s') X:=by
 obtain⟨es,h1,hs⟩:=bind_some hs;obtain⟨k,h2,hs⟩:=bind_some hs;obtain⟨u,h3,rfl⟩:=map_some hs;unfold b2l at h3;obtain⟨⟨kt,et⟩,ht,h3⟩:=bind_some h3;obtain⟨r,hr,h3⟩:=bind_some h3;simp only at hr h3;have hu:=b5b ht;split at hr
 · rename_i hk;have hkr:a1t w V k (a.eval i):=by
    have:=h.rd h2;cases k<;>simp only[b2l.isKey] at hk<;>first|exact this|cases hk
   obtain⟨d,hd1,hd2,hd3⟩:=d7t hk hkr
   -- the entries,and what is found
   have key:∃ents:Array MapEntry,a4v w V es ents.toList∧∀z,(∃f:Option (Nat×Value),Instr.findNow d (a.eval i) ents.toList 0=some f∧((∃j y,f=some (j,y)∧z=(y,true))∨f=none∧∃inf z0,E.P.info? et=some inf∧inf.zero=some z0∧z=(z0,false)))→
    (execOp a.eval o).run E.P w=.ok (.value (if ok then .tuple #[z.1,.bool z.2] else z.1)) w:=by
    rcases g8m h h1 with⟨rfl,hx⟩| ⟨g,ents,cl,hx,hh,he⟩
    · refine⟨#[],trivial,?_⟩;rintro z ⟨f,hf1,⟨j,y,rfl,rfl⟩| ⟨rfl,inf,z0,hi1,hi2,rfl⟩⟩
      · simp[Instr.findNow] at hf1
      · simp[execOp,ho,Instr.lookup,hx,a0e hu,MapKept.run_checkKey hd1 hd2,MapKept.run_findKey hd1 hf1,zeroValue,typeInfo,hi1,hi2]
        try (cases ok<;>rfl)
    · refine⟨ents,he,?_⟩;rintro z ⟨f,hf1,⟨j,y,rfl,rfl⟩| ⟨rfl,inf,z0,hi1,hi2,rfl⟩⟩
      · simp[execOp,ho,Instr.lookup,hx,a0e hu,MapKept.run_getObj_map hh,MapKept.run_checkKey hd1 hd2,MapKept.run_findKey hd1 hf1]
        try (cases ok<;>rfl)
      · simp[execOp,ho,Instr.lookup,hx,a0e hu,MapKept.run_getObj_map hh,MapKept.run_checkKey hd1 hd2,MapKept.run_findKey hd1 hf1,zeroValue,typeInfo,hi1,hi2]
        try (cases ok<;>rfl)
   obtain⟨ents,he,hrun⟩:=key;have fin:∀(v:AVal) (z:Value) (b:Bool),b2r w V μ v z∧a1k v=true∧(∀vs,v≠ .tup vs)→(execOp a.eval o).run E.P w=.ok (.value (if ok then .tuple #[z,.bool b] else z)) w→
    u=(if ok then .tup [v,.bool b] else v)→o.wp E.P a w (Sim E.P w0 V0 T0 Q' (s.putD o.dst u)) X:=by
    rintro v z b ⟨q1,q2,q3⟩ hrun rfl;cases ok with
    | true=>exact b0q hd h hf hl hQ hdst rfl (show a4r w V μ (.tup [v,.bool b]) (.tuple #[z,.bool b]) from⟨_,rfl,q1,rfl,trivial⟩) hrun
    | false=>exact b0q hd h hf hl hQ hdst q2 (q1.r3 q3) hrun
   rcases e4t hd3 0 he hr with⟨rfl,hfn⟩| ⟨v,y,j,rfl,hfn,hv⟩
   · obtain⟨v,hz,hu2⟩:=map_some h3;unfold d9j at hz;obtain⟨z0,hz1,hz⟩:=bind_some hz;obtain⟨inf,hi1,hi2⟩:=bind_some hz1;exact fin v z0 false (e5y hz) (hrun (z0,false) ⟨none,hfn,.inr ⟨rfl,inf,z0,hi1,hi2,rfl⟩⟩) hu2.symm
   · simp only at h3;injection h3 with h3;exact fin v y true hv.r2 (hrun (y,true) ⟨_,hfn,.inl ⟨j,y,rfl,rfl⟩⟩) h3.symm
 · cases hr
theorem d9s(hd:a.defers=[])(h:SRel E.P Q s a w V μ γ)(hf:Fr w0 V0 T0 w V)(hl:Loc w0 T0 s μ γ)(hQ:QLe Q Q'){n:Nat}(hn:¬Q n)(hn':Q' n){o:Oper}(hdst:∀k,o.dst=some k→k<a.tmps.size)
 {T:TypeId} (ho:o.op=.makeMap T none) (hs:(if a1d E.P a3i=0 then some (s.putD o.dst (if E.mkm T n o.dst then .own a3i n [] else .pmap [])) else none)=some s') {X:Exit→Act→World→Prop}:
 o.wp E.P a w (Sim E.P w0 V0 T0 Q' s') X:=by
 split at hs
 · rename_i hT;injection hs with hs;subst hs;have hrun:(execOp a.eval o).run E.P w=.ok (.value (.map (some w.heap.size))) (w.alloc (.map #[] 0)):=by
    simp[execOp,ho,Instr.makeMap]
   refine a9s hrun ?_;cases E.mkm T n o.dst with
   | true=>
    simp only[if_true];refine b3o hd (h.alloc _) (hf.alloc h.vis _) hl hQ hn hn' hdst (.ofM ⟨hT,w.heap.size,#[],0,rfl,a5z,trivial⟩) (fun k g _ hg=>?_);simp only[ownBlock] at hg;injection hg with hg;subst hg;exact⟨fun b hb=>by have:=b2g h hb;omega,fun o hv=>by have:=h.vis _ _ hv;omega,fun p' T' n' es' x' _ hp hx hg=>by have:=b2a h hp hx hg;omega,.inr hf.size⟩
   | false=>
    simp only[Bool.false_eq_true,if_false]
    let V':Vis:=fun g o=>V g o∨g=w.heap.size
    have hkeep:a3x w V (w.alloc (.map #[] 0)) V':=fun g o hg=>⟨.inl hg,(a7i h.vis g o hg).2⟩
    have h1:SRel E.P Q s a (w.alloc (.map #[] 0)) V' μ γ:=by
     refine h.world hkeep (fun _ _ hb=>a6p (b2g h hb)) (fun _ _ _ _ _ _ hp hx hg=>a6p (b2a h hp hx hg)) (fun g o hv=>?_) (fun g o hv=>?_)
     · rcases hv with hv|rfl
       · exact .inl hv
       · exact .inr ⟨fun b hb=>by have:=b2g h hb;omega,fun p T n es x hp hx hg=>by have:=b2a h hp hx hg;omega⟩
     · rcases hv with hv|rfl
       · have:=h.vis g o hv;simp;omega
       · simp
    have hf1:Fr w0 V0 T0 (w.alloc (.map #[] 0)) V':=(hf.alloc h.vis _).vis (fun g o=>.inl) (fun g o hv=>by
     rcases hv with hv|rfl
     · exact .inl hv
     · exact .inr (.inl hf.size))
    exact b5h hd h1 hf1 hl hQ hdst rfl ⟨w.heap.size,#[],0,rfl,.inr rfl,a5z,trivial⟩
 · cases hs
theorem d6h{p:Place}{v:AVal}(h:s.setAt p v=some s'){b:BName}{cs:List AVal}(hb:s'.box b=some cs):∃cs0,s.box b=some cs0∧cs.length=cs0.length∧∀i c,cs[i]? =some c→(p=.cell b i∧c=v)∨(p≠ .cell b i∧cs0[i]? =some c):=by
 cases p with
 | tmp k=>
  simp only[St.setAt] at h;injection h with h;subst h;rw[b9l] at hb;exact⟨cs,hb,rfl,fun i c hc=>.inr ⟨by simp,hc⟩⟩
 | cell b0 off=>
  simp only[St.setAt] at h;obtain⟨cs0,h1,rfl⟩:=map_some h;rw[a6s h1] at hb
  by_cases hbb:b=b0
  · subst hbb;simp only[if_true] at hb;injection hb with hb;subst hb;refine⟨cs0,h1,by simp,fun i c hc=>?_⟩
    by_cases hi:i=off
    · subst hi
      by_cases hlt:i<cs0.length
      · rw[List.getElem?_set_self hlt] at hc;injection hc with hc;exact .inl ⟨rfl,hc.symm⟩
      · rw[List.getElem?_eq_none (by simp;omega)] at hc;cases hc
    · rw[List.getElem?_set_ne (Ne.symm hi)] at hc;exact .inr ⟨fun e=>hi (by injection e with _ e;exact e.symm),hc⟩
  · simp only[hbb,if_false] at hb;exact⟨cs,hb,rfl,fun i c hc=>.inr ⟨fun e=>hbb (by injection e with e;exact e.symm),hc⟩⟩
theorem d9t{p:Place}{v:AVal}(h:s.setAt p v=some s'){b:BName}{cs:List AVal}(hb:s.box b=some cs):∃cs',s'.box b=some cs':=by
 cases p with
 | tmp k=>
  simp only[St.setAt] at h;injection h with h;subst h;rw[b9l];exact⟨cs,hb⟩
 | cell b0 off=>
  simp only[St.setAt] at h;obtain⟨cs0,h1,rfl⟩:=map_some h;rw[a6s h1]
  by_cases hbb:b=b0
  · simp[hbb]
  · simp[hbb,hb]
theorem e2h{p:Place}{v:AVal}(h:s.setAt p v=some s'){k:Nat}{u:AVal}(hu:a0i s'.tm k=some u):(p=.tmp k∧u=v)∨(p≠ .tmp k∧a0i s.tm k=some u):=by
 cases p with
 | tmp j=>
  simp only[St.setAt] at h;injection h with h;subst h;simp only[St.put,a1r] at hu
  by_cases hj:j=k
  · simp only[hj,if_true] at hu;injection hu with hu;exact .inl ⟨by rw[hj],hu.symm⟩
  · simp only[hj,if_false] at hu;exact .inr ⟨fun e=>hj (by injection e),hu⟩
 | cell b off=>
  simp only[St.setAt] at h;obtain⟨cs0,h1,rfl⟩:=map_some h;rw[c6k] at hu;exact .inr ⟨by simp,hu⟩
theorem g2h{p q:Place}{v u:AVal}(h:s.setAt p v=some s')(hq:s'.at q=some u):(p=q∧u=v)∨(p≠q∧s.at q=some u):=by
 cases q with
 | tmp k=>exact e2h h hq
 | cell b off=>
  simp only[St.at] at hq⊢;obtain⟨cs,h1,h2⟩:=bind_some hq;obtain⟨cs0,h3,_,h4⟩:=d6h h h1;rcases h4 off u h2 with h5| ⟨h5,h6⟩
  · exact .inl h5
  · exact .inr ⟨h5,by rw[h3];exact h6⟩
theorem d0f(hd:a.defers=[])(h:SRel E.P Q s a w V μ γ)(hf:Fr w0 V0 T0 w V)(hl:Loc w0 T0 s μ γ)(hQ:QLe Q Q'){p:Place}{n g:Nat}{es es':List AVal}{ents:Array MapEntry}{cl:Nat}
 (hat:s.at p=some (.own a3i n es)) (hγ:γ p n=some (.map (some g))) (hT:E.P.cellsOf a3i=0) (hob:OnlyBlock g w w') (hh:w'.heap[g]? =some (.map ents cl)) (he:a4v w V es' ents.toList)
 (hs:s.setAt p (.own a3i n es')=some s'):Sim E.P w0 V0 T0 Q' s' a w':=by
 obtain⟨o1,o2⟩:=h.ow p a3i n es _ g hat hγ rfl;have hnv:∀o,¬V g o:=fun o hv=>by have:=o2 o hv;rw[hT] at this;omega
 have hk:a3x w V w' V:=fun g' o hv=>⟨hv,.of (hob.other g' (by rintro rfl;exact hnv o hv))⟩
 have old:∀q T' m fs,s'.at q=some (.own T' m fs)→∃fs',s.at q=some (.own T' m fs')∧(q≠p→fs'=fs):=by
  intro q T' m fs hq;rcases g2h hs hq with⟨rfl,e⟩| ⟨hne,h1⟩
  · injection e with e1 e2 e3;subst e1;subst e2;subst e3;exact⟨es,hat,fun e=>absurd rfl e⟩
  · exact⟨fs,h1,fun _=>rfl⟩
 have other:∀q T' m fs x g',q≠p→s.at q=some (.own T' m fs)→γ q m=some x→ownBlock x=some g'→w'.heap[g']? =w.heap[g']? :=by
  intro q T' m fs x g' hne hq hx hg';refine hob.other g' ?_;rintro rfl;exact hne (h.ow2 q p T' m fs a3i n es x _ g' hq hat hx hγ hg' rfl)
 have hrep:a2t E.P w' V a3i es' (.map (some g)):=.ofM ⟨hT,g,ents,cl,rfl,hh,he.keep hk⟩;refine⟨hd,V,μ,γ,?_,hf.only (hl.own p a3i n es _ g hat hγ rfl) hob hk,?_⟩
 · refine {tm:=?_,bx:=?_,dom:=?_,inj:=h.inj,visb:=h.visb,vis:=?_,ow:=?_,ow2:=?_,gq:=fun p m hm=>hQ m (h.gq p m hm)}
   · intro k v hv;rcases e2h hs hv with⟨rfl,rfl⟩| ⟨hne,hv'⟩
     · obtain⟨x,h1,h2⟩:=h.tm k _ hat
       have:x=.map (some g):=by have:=h2.2;rw[hγ] at this;injection this with this;exact this.symm
       subst this;exact⟨_,h1,hrep,hγ⟩
     · obtain⟨x,h1,h2⟩:=h.tm k v hv';exact⟨x,h1,h2.keep hk (BLe.refl _) (GLe.refl _) fun T' m fs g' e hg'=>by
        subst e;exact other (.tmp k) T' m fs x g' (Ne.symm hne) hv' h2.2 hg'⟩
   · intro b cs hb;obtain⟨cs0,h1,h2,h3⟩:=d6h hs hb;obtain⟨g',U,cur,k1,k2,k3,k4⟩:=h.bx b cs0 h1;have hne:g'≠g:=by rintro rfl;exact o1 b k1
     refine⟨g',U,cur,k1,(hob.other g' hne).trans k2,by rw[h2];exact k3,fun i c hc=>?_⟩;rcases h3 i c hc with⟨rfl,rfl⟩| ⟨hnp,hc'⟩
     · have hat':(s.box b).bind (fun cs=>cs[i]?)=some (.own a3i n es):=hat
       rw[h1,Option.bind_some] at hat';obtain⟨x,q1,q2⟩:=k4 i _ hat';have:x=.map (some g):=by have:=q2.2;rw[hγ] at this;injection this with this;exact this.symm
       subst this;exact⟨_,q1,hrep,hγ⟩
     · obtain⟨x,q1,q2⟩:=k4 i c hc';refine⟨x,q1,q2.keep hk (BLe.refl _) (GLe.refl _) fun T' m fs g2 e hg2=>?_⟩;subst e;exact other (.cell b i) T' m fs x g2 (Ne.symm hnp) (by simp[St.at,h1,hc']) q2.2 hg2
   · intro b g' hb;obtain⟨cs,h1⟩:=h.dom b g' hb;exact d9t hs h1
   · intro g' o hv;rw[hob.size];exact h.vis g' o hv
   · intro q T' m fs x g' hq hx hg';obtain⟨fs',h1,h2⟩:=old q T' m fs hq;obtain⟨h3,h4⟩:=h.ow q T' m fs' x g' h1 hx hg';refine⟨h3,fun o hv=>?_⟩
     by_cases hqp:q=p
     · subst hqp;rw[hat] at h1;injection h1 with h1;injection h1 with e1 e2 e3;subst e1;subst e2;rw[hγ] at hx;injection hx with hx;subst hx;simp only[ownBlock] at hg';injection hg' with hg';subst hg';exact absurd hv (hnv o)
     · rw[←h2 hqp];exact h4 o hv
   · intro q q' T1 m fs T2 m' fs' x x' g' hq hq' hx hx' hg' hg'';obtain⟨f1,h1,_⟩:=old q T1 m fs hq;obtain⟨f2,h2,_⟩:=old q' T2 m' fs' hq';exact h.ow2 q q' T1 m f1 T2 m' f2 x x' g' h1 h2 hx hx' hg' hg''
 · refine⟨hl.box,hl.par,fun q T' m fs x g' hq hx hg'=>?_⟩;obtain⟨f1,h1,_⟩:=old q T' m fs hq;exact hl.own q T' m f1 x g' h1 hx hg'
theorem d3d(hd:a.defers=[])(h:SRel E.P Q s a w V μ γ)(hf:Fr w0 V0 T0 w V)(hl:Loc w0 T0 s μ γ)(hQ:QLe Q Q'){o:Oper}(hdst:o.dst=none)
 {T:TypeId} {m i x:Operand} (ho:o.op=.mapUpdate T m i x) (hs:((rd s i).bind fun k=>(rd s x).bind fun v=>c6a E s T m k (strip2 v))=some s') {X:Exit→Act→World→Prop}:
 o.wp E.P a w (Sim E.P w0 V0 T0 Q' s') X:=by
 obtain⟨k,h1,hs⟩:=bind_some hs;obtain⟨v,h2,hs⟩:=bind_some hs;unfold c6a at hs;obtain⟨⟨kt,et⟩,ht,hs⟩:=bind_some hs;obtain⟨⟨p,n,es⟩,hw,hs⟩:=bind_some hs;simp only at hs;split at hs
 · rename_i hc;obtain⟨hk,hp⟩:=hc;obtain⟨es',h3,hs⟩:=bind_some hs;have hu:=b5b ht;have hkr:a1t w V k (a.eval i):=by
    have:=h.rd h1;cases k<;>simp only[b2l.isKey] at hk<;>first|exact this|cases hk
   obtain⟨d,hd1,hd2,hd3⟩:=d7t hk hkr;have hv:h4b w V (strip2 v) (a.eval x):=.of (h.rd h2) hp;obtain⟨hat,hγ,hT,g,ents,cl,hm,hh,he⟩:=d0r h hw;rw[hm] at hγ;have hput:a.put o.dst undef=a:=by rw[hdst];rfl
   have hset:∀ob,OnlyBlock g w {w with heap:=w.heap.setIfInBounds g ob}:=fun ob=>⟨rfl,rfl,rfl,by simp,fun j hj=>by simp[Ne.symm hj]⟩
   have hlt:g<w.heap.size:=(Array.getElem?_eq_some_iff.1 hh).1;rcases f1z hd3 hkr hd2 hv 0 he h3 with⟨q1,q2⟩| ⟨j,z,e,q1,q2,q3,q4⟩
   · have hrun:(execOp a.eval o).run E.P w=.ok .skip {w with heap:=w.heap.setIfInBounds g (.map (ents.push ⟨a.eval i,a.eval x,cl⟩) (cl+1))}:=by
      simp[execOp,ho,hm,Instr.mapUpdate,a0e hu,MapKept.run_getObj_map hh,MapKept.run_checkKey hd1 hd2,MapKept.run_findKey hd1 q1,MapKept.run_setObj_map _ hh]
     refine c9y hrun ?_;rw[hput];exact d0f (ents:=ents.push ⟨a.eval i,a.eval x,cl⟩) (cl:=cl+1) hd h hf hl hQ hat hγ hT (hset _) (by simp[hlt]) (by simpa using q2 cl) hs
   · have hj:ents[j]? =some e:=by simpa using q2
     rw[Nat.zero_add] at q1;have hrun:(execOp a.eval o).run E.P w=.ok .skip {w with heap:=w.heap.setIfInBounds g (.map (ents.modify j fun e=>{e with key:=a.eval i,val:=a.eval x}) cl)}:=by
      simp[execOp,ho,hm,Instr.mapUpdate,a0e hu,MapKept.run_getObj_map hh,MapKept.run_checkKey hd1 hd2,MapKept.run_findKey hd1 q1,hj,q3,MapKept.run_keyThatStays hd2,MapKept.run_setObj_map _ hh]
     refine c9y hrun ?_;rw[hput];exact d0f (ents:=ents.modify j fun e=>{e with key:=a.eval i,val:=a.eval x}) (cl:=cl) hd h hf hl hQ hat hγ hT (hset _) (by simp[hlt]) (by simpa using q4) hs
 · cases hs
end
end Go.Av
namespace Go.Av
theorem a6y{N:Nat}{o:Oper}(h:c4j N o=true):∀k,o.dst=some k→k<N:=by
 intro k hk;unfold c4j at h;rw[hk] at h;simp only[Bool.and_eq_true,decide_eq_true_eq] at h;exact h.1
theorem e7a{N:Nat}{o:Oper}(h:c4j N o=true){T:TypeId}{x y:Operand}(ho:o.op=.store T x y):o.dst=none:=by
 unfold c4j at h;rw[ho] at h;cases hk:o.dst with
 | none=>rfl
 | some k=>simp[hk] at h
theorem e0f{N:Nat}{o:Oper}(h:c4j N o=true){T:TypeId}{x y z:Operand}(ho:o.op=.mapUpdate T x y z):o.dst=none:=by
 unfold c4j at h;rw[ho] at h;cases hk:o.dst with
 | none=>rfl
 | some k=>simp[hk] at h
theorem d0b{α:Type}{xs:Array α}{x:α}(h:xs.toList=[x]):xs= #[x]:=by rw[←Array.toArray_toList (xs:=xs),h]
theorem a8e{α:Type}{xs:Array α}{x y:α}(h:xs.toList=[x,y]):xs= #[x,y]:=by rw[←Array.toArray_toList (xs:=xs),h]
section
variable{E:Env}{w0:World}{V0:Vis}{T0:Tch}{Q Q':Nat→Prop}{s s1:St}{a a':Act}{w w':World}{V V':Vis}{μ μ':a5m}{γ γ':a7a}
theorem d0u{D:FuncId→List AVal→a3e→Option (AVal×a3e)}(hD:a4x E.P T0.F D)(hd:a.defers=[])(h:SRel E.P Q s a w V μ γ)(hf:Fr w0 V0 T0 w V)(hl:Loc w0 T0 s μ γ)(hQ:QLe Q Q'){n:Nat}(hn:¬Q n)(hn':Q' n)
 {o:Oper} (hok:c4j a.tmps.size o=true) {s':St} (hs:opF E D n o s=some s') {X:Exit→Act→World→Prop}:o.wp E.P a w (Sim E.P w0 V0 T0 Q' s') X:=by
 have hdst:=a6y hok;unfold opF at hs;split at hs
 case h_1 x ho=>exact g2d hd h hf hl hQ hn hn' hdst ho hs
 case h_2 x ho=>exact e6g hd h hf hl hQ hn hn' hdst ho hs
 case h_3 c x y ho=>exact g2a hd h hf hl hQ hdst ho hs
 case h_4 T ho=>exact f3a hd h hf hl hQ hn hn' hdst ho hs
 case h_5 T x ho=>exact h8t hd h hf hl hQ hn hn' hdst ho hs
 case h_6 T ps ho=>exact f2z hd h hf hl hQ hdst ho hs
 case h_7 T m ps ho=>exact c9k hd h hf hl hQ hn hn' hdst ho hs
 case h_8 T x ho=>exact g2f hd h hf hl hQ hdst ho hs
 case h_9 T ad x ho=>exact f2v hd h hf hl hQ hn hn' (e7a hok ho) ho hs
 case h_10 x ho=>exact c2c hd h hf hl hQ hdst (e5k ho) hs
 case h_11 op T x y U ho=>exact c6p hd h hf hl hQ hdst (h0e ho) hs
 case h_12 T x ho=>exact c2c hd h hf hl hQ hdst (h0a ho) hs
 case h_13 src dst x ho=>exact c2c hd h hf hl hQ hdst (g0h ho) hs
 case h_14 f first cap ho=>exact d6g hd h hf hl hQ hdst ho hs
 case h_15 S x i ho=>exact c2c hd h hf hl hQ hdst (d2h ho) hs
 case h_16 T x i ho=>exact c6p hd h hf hl hQ hdst (f0y ho) hs
 case h_17 T x i ho=>exact c6p hd h hf hl hQ hdst (e1g ho) hs
 case h_18 T x lo hi mx ho=>exact f2w hd h hf hl hQ hdst ho hs
 case h_19 x i ho=>exact c2c hd h hf hl hQ hdst (d9c ho) hs
 case h_20 g args ats ho=>exact g2g hD hd h hf hl hQ hn hn' hdst ho hs
 case h_21 b args ats ho=>
  split at hs
  · rename_i x hx;rw[d0b hx] at ho;exact c2c hd h hf hl hQ hdst (h0d ho) hs
  · rename_i x y hx;rw[a8e hx] at ho;exact c6p hd h hf hl hQ hdst (h0c ho) hs
  · rename_i x y hx;rw[a8e hx] at ho;exact c6p hd h hf hl hQ hdst (h0b ho) hs
  · rename_i x y hx;rw[a8e hx] at ho;exact e6h hd h hf hl hQ hn hn' hdst ho hs
  · cases hs
 case h_22 T x y ho=>exact g2e hd h hf hl hQ hn hn' hdst ho hs
 case h_23 T ho=>exact d9s hd h hf hl hQ hn hn' hdst ho hs
 case h_24 T x i ok ho=>exact e6f hd h hf hl hQ hdst ho hs
 case h_25 T m i x ho=>exact d3d hd h hf hl hQ (e0f hok ho) ho hs
 case h_26=>cases hs
theorem b1y(a:Act)(k:Option Nat)(v:Value):(a.put k v).tmps.size=a.tmps.size:=by cases k<;>simp[Act.put]
theorem b8n{P:Program}{o:Oper}{K:Act→World→Prop}{X:Exit→Act→World→Prop}(h:o.wp P a w K X):o.wp P a w (fun a' w'=>K a' w'∧a'.tmps.size=a.tmps.size) X:=by
 unfold Oper.wp at *;generalize (execOp a.eval o).run P w=r at *;cases r with
 | ok n w'=>
  cases n<;>simp only[Oper.upon] at h⊢<;>
   first
    | exact⟨h,b1y _ _ _⟩
    | exact⟨h,by rw[b1y]⟩
    | exact Calls.mono h (fun e w'' he=>by cases e<;>first|exact⟨he,b1y _ _ _⟩|exact he)
    | exact Rows.mono h (fun _ _ he=>⟨he,b1y _ _ _⟩)
    | exact h
 | halt x w'=>cases x<;>simp only[Oper.upon] at h⊢<;>exact h
theorem c6e:a4r w V μ (.tup []) undef:=⟨#[],rfl,trivial⟩
theorem d2n(h:SRel E.P Q s a w V μ γ){ops:Array Oper}{o:Oper}{b:Bool}(hs:b4x (ops.toList.map (·.dst)) o s=some b):Region.wanted o (yielded ops a.tmps)=b:=by
 unfold b4x at hs;unfold Region.wanted;split at hs
 · rename_i hg;injection hs with hs;subst hs;rw[hg]
 · rename_i j want hg;rw[hg];obtain⟨k,hk,hs⟩:=bind_some hs;obtain⟨v,hv,hs⟩:=bind_some hs;have hk':(ops[j]?).bind (·.dst)=some k:=by
    unfold e0s at hk;rw[List.getElem?_map,Array.getElem?_toList] at hk;cases hj:ops[j]? with
    | none=>simp[hj] at hk
    | some p=>simpa [hj] using hk
   obtain⟨x,hx,hr⟩:=h.tm k v hv;simp only[yielded,hk',Option.bind_some,hx];split at hs
   · injection hs with hs;subst hs;have:x=.bool _:=hr;subst this;rfl
   · injection hs with hs;subst hs;obtain⟨z,rfl,_⟩:=hr;rfl
   · cases hs
def b8m(P:Program)(w0:World)(V0:Vis)(T0:Tch)(N n:Nat)(s:St)(a:Act)(w:World):Prop:=Sim P w0 V0 T0 (fun m=>m<n) s a w∧a.tmps.size=N
theorem b2b{D:FuncId→List AVal→a3e→Option (AVal×a3e)}(hD:a4x E.P T0.F D){ops:Array Oper}{N:Nat}{Qx:Exit→Act→World→Prop}{R:List Nat}:∀(l:List Oper) (i n:Nat) (s s':St) (a:Act) (w:World),(∀(j:Nat) (o:Oper),l[j]? =some o→ops[i+j]? =some o)→
 (∀o∈l,c4j N o=true)→c1q E D (ops.toList.map (·.dst)) n l s=some s'→b8m E.P w0 V0 T0 N n s a w→(∀a' w',b8m E.P w0 V0 T0 N (n+l.length) s' a' w'→wpOps E.P ops Qx R a' w')→
 wpOps E.P ops Qx (List.range' i l.length++R) a w
 | [],i,n,s,s',a,w,_,_,hs,hsim,hQx=>by
  simp only[c1q] at hs;injection hs with hs;subst hs;simpa using hQx a w hsim
 | o::l,i,n,s,s',a,w,hops,hok,hs,hsim,hQx=>by
  simp only[c1q] at hs;obtain⟨b,hb,hs⟩:=bind_some hs;obtain⟨⟨hd,V,μ,γ,h,hf,hl⟩,hN⟩:=hsim;rw[List.length_cons,List.range'_succ,List.cons_append,wpOps_cons];have hi:ops[i]? =some o:=by simpa using hops 0 o (by simp)
  have hrest:∀(j:Nat) (o':Oper),l[j]? =some o'→ops[i+1+j]? =some o':=fun j o' hj=>by
   have:=hops (j+1) o' (by simpa using hj);rw[show i+1+j=i+(j+1) by omega];exact this
  have hgo:∀s1 a1 w1,c1q E D (ops.toList.map (·.dst)) (n+1) l s1=some s'→b8m E.P w0 V0 T0 N (n+1) s1 a1 w1→wpOps E.P ops Qx (List.range' (i+1) l.length++R) a1 w1:=fun s1 a1 w1 hs1 h1=>
   b2b hD l (i+1) (n+1) s1 s' a1 w1 hrest (fun o' ho'=>hok o' (by simp[ho'])) hs1 h1 (fun a' w' h'=>hQx a' w' (by rw[List.length_cons,show n+(l.length+1)=n+1+l.length by omega];exact h'))
  unfold wpOp;simp only[hi];rw[d2n h hb];have hQ:QLe (fun m=>m<n) (fun m=>m<n+1):=fun m hm=>by omega
  cases b with
  | true=>
   simp only[if_true] at hs⊢;obtain⟨s1,h1,hs⟩:=bind_some hs;refine .inl (Oper.wp_mono (fun a1 w1 h2=>hgo s1 a1 w1 hs ⟨h2.1,by rw[h2.2,hN]⟩) (b8n (d0u (Q':=fun m=>m<n+1) hD hd h hf hl hQ (n:=n) (by omega) (by omega) (by rw[hN];exact hok o (by simp)) h1)))
  | false=>
   simp only[Bool.false_eq_true,if_false] at hs⊢;exact hgo _ _ _ hs ⟨b5h hd h hf hl hQ (by rw[hN];exact a6y (hok o (by simp))) rfl c6e,by rw[b1y,hN]⟩
theorem i4q{D:FuncId→List AVal→a3e→Option (AVal×a3e)}(hD:a4x E.P T0.F D){ops:Array Oper}{N:Nat}{Qx:Exit→Act→World→Prop}(l:List Oper)(i n:Nat)(s s':St)(a:Act)(w:World)(h1:∀(j:Nat) (o:Oper),l[j]? =some o→ops[i+j]? =some o)(_:i+l.length=ops.size)
 (h2:∀o∈l,c4j N o=true) (h3:c1q E D (ops.toList.map (·.dst)) n l s=some s') (h4:b8m E.P w0 V0 T0 N n s a w) (h5:∀a' w',b8m E.P w0 V0 T0 N (n+l.length) s' a' w'→Qx .normal a' w'):
 wpOps E.P ops Qx (List.range' i l.length) a w:=by
 have:=b2b (Qx:=Qx) (R:=[]) hD l i n s s' a w h1 h2 h3 h4 (fun a' w' h=>h5 a' w' h);simpa using this
end
end Go.Av
namespace Go.Av
section
variable{w:World}{V:Vis}{μ μ':a5m}
theorem a3k.sub{c:AVal}{x:Value}(h:a3k w V μ c x)(hs:∀b∈a1h c,∀g,μ b=some g→μ' b=some g):a3k w V μ' c x:=by
 have:=h.ren (ρ:=fun b=>b) hs
 rwa[d3k fun _ _=>rfl] at this
theorem a4r.sub{c:AVal}{x:Value}(h:a4r w V μ c x)(hs:∀b∈names c,∀g,μ b=some g→μ' b=some g):a4r w V μ' c x:=by
 have:=h.ren (ρ:=fun b=>b) hs
 rwa[f3n fun _ _=>rfl] at this
end
theorem c2x{α:Type}(al:List (Nat×α)):∀(L:List Nat) (k:Nat),a0i (b8e al L) k=if k∈L then a0i al k else none
 | [],k=>by simp[b8e,a0i]
 | j::L,k=>by
  have ih:=c2x al L k;simp only[b8e];split
  · rename_i v hv;simp only[a0i]
    by_cases h:j=k
    · subst h;simp[hv]
    · simp only[h,if_false,ih,List.mem_cons];have:¬k=j:=fun e=>h e.symm;simp only[this,false_or]
  · rename_i hv;rw[ih]
    by_cases h:k=j
    · subst h;simp[hv]
    · simp[h]
theorem c9f{α β:Type}(f:α→β):∀(l:List (Nat×α)) (k:Nat),a0i (l.map fun x=>(x.1,f x.2)) k=(a0i l k).map f
 | [],k=>rfl
 | (j,v)::l,k=>by
  simp only[List.map_cons,a0i];split
  · rfl
  · exact c9f f l k
theorem b3h{α:Type}:∀ {l:List (Nat×α)} {k:Nat} {v:α},a0i l k=some v→(k,v)∈l
 | [],_,_,h=>by cases h
 | (j,u)::l,k,v,h=>by
  simp only[a0i] at h;split at h
  · rename_i e;injection h with h;subst e h;simp
  · exact List.mem_cons_of_mem _ (b3h h)
theorem d9p{v:AVal}{T m es}(h:b5e v=.own T m es):m=0∧∃m',v=.own T m' es:=by
 cases v<;>simp only[b5e,a3n,strip1] at h<;>first|(cases h;done)|(injection h with h1 h2 h3;subst h1 h2 h3;exact⟨rfl,_,rfl⟩)
theorem c2b{v:AVal}{T m es}(h:a3n v=.own T m es):m=0∧∃m',v=.own T m' es:=by
 cases v<;>simp only[a3n,strip1] at h<;>first|(cases h;done)|(injection h with h1 h2 h3;subst h1 h2 h3;exact⟨rfl,_,rfl⟩)
section
variable{P:Program}{w0:World}{V0:Vis}{T0:Tch}{Q Q':Nat→Prop}{s s':St}{a a':Act}{w w':World}{V V':Vis}{μ μ':a5m}{γ γ':a7a}
theorem b2m.head2{p q:Place}{c:AVal}{x:Value}(h:b2m P w V μ γ p c x)(hs:∀b∈a1h (a3n c),∀g,μ b=some g→μ' b=some g)(hγ:∀T m es,c=.own T m es→γ' q 0=γ p m):
 b2m P w V μ' γ' q (a3n c) x:=by
 have key:(∀T m es,c≠ .own T m es)→a3k w V μ c x→b2m P w V μ' γ' q (Av.strip1 c) x:=by
  intro hno hr;have hr':a3k w V μ' (Av.strip1 c) x:=hr.strip1.sub fun b hb=>hs b (by cases c<;>first|exact hb|exact absurd rfl (hno _ _ _)|(simp[Av.strip1,a1h] at hb));cases c<;>first|exact hr'|exact absurd rfl (hno _ _ _)|(exfalso;simp[a3k,a1t] at hr;done)
 cases c with
 | own T m es=>exact⟨h.1,(hγ T m es rfl).trans h.2⟩
 | dead T m es=>exact h.1
 | _=>exact key (fun _ _ _ e=>by cases e) h
theorem b2m.head{p:Place}{c:AVal}{x:Value}(h:b2m P w V μ γ p c x)(hs:∀b∈a1h (a3n c),∀g,μ b=some g→μ' b=some g)(hγ:∀T m es,c=.own T m es→γ' p 0=γ p m):
 b2m P w V μ' γ' p (a3n c) x:=h.head2 hs hγ
theorem c1p.head{p:Place}{c:AVal}{x:Value}(h:c1p P w V μ γ p c x)(hs:∀b∈names (b5e c),∀g,μ b=some g→μ' b=some g)(hγ:∀T m es,c=.own T m es→γ' p 0=γ p m):
 c1p P w V μ' γ' p (b5e c) x:=by
 cases c with
 | own T m es=>exact⟨h.1,(hγ T m es rfl).trans h.2⟩
 | dead T m es=>exact h.1
 | view T m es q=>exact h.1
 | full es=>exact h
 | mview n q=>exact h.2.2
 | agg cs=>
  have h1:a4r w V μ (.agg (cs.map Av.strip1)) x:=b2r.strip2 (v:=.agg cs) h;exact h1.sub hs
 | tup vs=>exact a4r.sub (w:=w) (V:=V) (c:=.tup vs) h hs
 | ptr b o=>exact a4r.sub (w:=w) (V:=V) (c:=.ptr b o) h hs
 | func f u v=>exact a4r.sub (w:=w) (V:=V) (c:=.func f u v) h hs
 | _=>exact h
def gaH(s:St)(γ:a7a):a7a:=fun p m=>if m=0 then a7f s p γ else none
theorem d6l{L B:List Nat}(hs:c4z L B s=some s')(h:Sim P w0 V0 T0 Q s a w):Sim P w0 V0 T0 (fun m=>m<s'.ver) s' a w∧s'.ver=1:=by
 unfold c4z at hs;simp only at hs;split at hs
 · rename_i hck;injection hs with hs;simp only[Bool.and_eq_true] at hck;obtain⟨k1,k2,k3⟩:=hck;generalize htm:(b8e s.tm L).map (fun x=>(x.1,b5e x.2))=tm at *;generalize hlb:(b8e s.lb B).map (fun x=>(x.1,x.2.map a3n))=lb at *;generalize hpb:s.pb.map (·.map a3n)=pb at *;obtain⟨hd,V,μ,γ,h,hf,hl⟩:=h;subst hs;refine⟨?_,rfl⟩
   let μ':a5m:=fun b=>if b0i lb b=true then μ b else none
   have gtm:∀k v,a0i tm k=some v→∃u,a0i s.tm k=some u∧v=b5e u:=by
    intro k v hv;rw[←htm,c9f,c2x] at hv;obtain⟨u,h1,h2⟩:=map_some hv;split at h1
    · exact⟨u,h1,h2.symm⟩
    · cases h1
   have glb:∀k v,a0i lb k=some v→∃u,a0i s.lb k=some u∧v=u.map a3n:=by
    intro k v hv;rw[←hlb,c9f,c2x] at hv;obtain⟨u,h1,h2⟩:=map_some hv;split at h1
    · exact⟨u,h1,h2.symm⟩
    · cases h1
   have gbox:∀b cs,(⟨tm,pb,lb,1⟩:St).box b=some cs→b0i lb b=true∧(∃u,s.box b=some u∧cs=u.map a3n)∧∀c∈cs,∀m∈a1h c,b0i lb m=true:=by
    intro b cs hcs;cases b with
    | par i=>
     simp only[St.box] at hcs;refine⟨rfl,?_,fun c hc m hm=>?_⟩
     · rw[←hpb,List.getElem?_map] at hcs;obtain⟨u,h1,h2⟩:=map_some hcs;exact⟨u,h1,h2.symm⟩
     · exact List.all_eq_true.1 (List.all_eq_true.1 k3 cs (List.mem_of_getElem? hcs)) m (List.mem_flatMap.2 ⟨c,hc,hm⟩)
    | loc k=>
     simp only[St.box] at hcs;refine⟨by simp[b0i,hcs],?_,fun c hc m hm=>?_⟩
     · obtain⟨u,h1,h2⟩:=glb k cs hcs;exact⟨u,h1,h2⟩
     · exact List.all_eq_true.1 (List.all_eq_true.1 k2 _ (b3h hcs)) m (List.mem_flatMap.2 ⟨c,hc,hm⟩)
   have gat:∀p T m es,(⟨tm,pb,lb,1⟩:St).at p=some (.own T m es)→m=0∧∃m',s.at p=some (.own T m' es):=by
    intro p T m es hp;cases p with
    | tmp k=>
     obtain⟨u,h1,h2⟩:=gtm k _ hp;obtain⟨rfl,m',rfl⟩:=d9p h2.symm;exact⟨rfl,m',h1⟩
    | cell b off=>
     simp only[St.at] at hp;obtain⟨cs,h1,h2⟩:=bind_some hp;obtain⟨_,⟨u,h3,rfl⟩,_⟩:=gbox b cs h1;rw[List.getElem?_map] at h2;obtain⟨c,h4,h5⟩:=map_some h2;obtain⟨rfl,m',rfl⟩:=c2b h5;exact⟨rfl,m',by simp[St.at,h3,h4]⟩
   have gga:∀p T m es x,(⟨tm,pb,lb,1⟩:St).at p=some (.own T m es)→gaH s γ p m=some x→∃m',s.at p=some (.own T m' es)∧γ p m'=some x:=by
    intro p T m es x hp hx;obtain⟨rfl,m',h1⟩:=gat p T m es hp;refine⟨m',h1,?_⟩;simpa [gaH,a7f,h1] using hx
   have hμ:∀b g,μ' b=some g→b0i lb b=true∧μ b=some g:=by
    intro b g hb
    by_cases hn:b0i lb b=true
    · simp only[μ',hn,if_true] at hb;exact⟨hn,hb⟩
    · simp only[μ',hn] at hb;cases hb
   have hsub:∀b,b0i lb b=true→∀g,μ b=some g→μ' b=some g:=fun b hb g hg=>by simp only[μ',hb,if_true];exact hg
   refine⟨hd,V,μ',gaH s γ,{tm:=?_,bx:=?_,dom:=?_,inj:=?_,visb:=?_,vis:=h.vis,ow:=?_,ow2:=?_,gq:=?_},hf,?_⟩
   · intro k v hv;obtain⟨u,h1,h2⟩:=gtm k v hv;obtain⟨x,h3,h4⟩:=h.tm k u h1;subst h2;refine⟨x,h3,h4.head (fun b hb=>hsub b (List.all_eq_true.1 (List.all_eq_true.1 k1 _ (b3h hv)) b hb)) fun T m es e=>?_⟩;subst e;have hat:s.at (.tmp k)=some (.own T m es):=h1;simp[gaH,a7f,hat]
   · intro b cs hcs;obtain⟨hn,⟨u,h1,rfl⟩,hnm⟩:=gbox b cs hcs;obtain⟨g,T,cur,h2,h3,h4,h5⟩:=h.bx b u h1;refine⟨g,T,cur,hsub b hn g h2,h3,by simpa using h4,fun i c hc=>?_⟩;have hc':=List.mem_of_getElem? hc;rw[List.getElem?_map] at hc;obtain⟨c0,h6,rfl⟩:=map_some hc;obtain⟨x,h7,h8⟩:=h5 i c0 h6;refine⟨x,h7,h8.head (fun m hm=>hsub m (hnm _ hc' m hm)) fun T' m es e=>?_⟩;subst e;have hat:s.at (.cell b i)=some (.own T' m es):=by simp[St.at,h1,h6]
     simp[gaH,a7f,hat]
   · intro b g hb;obtain⟨hn,hb⟩:=hμ b g hb;cases b with
     | par i=>
      obtain⟨cs,h1⟩:=h.dom _ g hb;refine⟨cs.map a3n,?_⟩;simp only[St.box] at h1⊢;rw[←hpb,List.getElem?_map,h1];rfl
     | loc k=>
      exact Option.isSome_iff_exists.1 hn
   · intro b b' g hb hb';exact h.inj b b' g (hμ b g hb).2 (hμ b' g hb').2
   · intro b g hb;exact h.visb b g (hμ b g hb).2
   · intro p T m es x g hp hx hg;obtain⟨m',h1,h2⟩:=gga p T m es x hp hx;obtain⟨h3,h4⟩:=h.ow p T m' es x g h1 h2 hg;exact⟨fun b hb=>h3 b (hμ b g hb).2,h4⟩
   · intro p p' T m es T' m' es' x x' g hp hp' hx hx' hg hg';obtain⟨m1,h1,h2⟩:=gga p T m es x hp hx;obtain⟨m2,h3,h4⟩:=gga p' T' m' es' x' hp' hx';exact h.ow2 p p' T m1 es T' m2 es' x x' g h1 h3 h2 h4 hg hg'
   · intro p m hm;show m<1
     by_cases e:m=0
     · omega
     · simp[gaH,e] at hm
   · refine⟨fun b g hb=>hl.box b g (hμ b g hb).2,fun i=>?_,fun p T m es x g hp hx hg=>?_⟩
     · simp only[μ',b0i,if_true];exact hl.par i
     · obtain⟨m',h1,h2⟩:=gga p T m es x hp hx;exact hl.own p T m' es x g h1 h2 hg
 · cases hs
end
end Go.Av
