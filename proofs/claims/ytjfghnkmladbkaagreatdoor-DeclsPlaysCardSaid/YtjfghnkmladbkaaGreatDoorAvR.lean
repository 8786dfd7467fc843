/- The document's answer for types and constructors, as functions: free names, canonical names, putting, peeling, what a constructor is. -/
import Derived.Test.YtjfghnkmladbkaaGreatDoorAvM
import Derived.Test.YtjfghnkmladbkaaGreatDoorAvI
import Derived.Test.YtjfghnkmladbkaaGreatDoorAvK
import Derived.Test.YtjfghnkmladbkaaGreatDoorAvL
namespace Go.Proofs
open Go.Av
set_option maxHeartbeats 64000000
set_option maxRecDepth 100000
theorem GT.kid{t x:Ty}(h:GT t)(hx:x∈t.args):GT x:=by
 cases h with
 | var s _=>cases hx
 | unk n _ _=>cases hx
 | con s a _ h=>exact h x hx
 | fn a b ha hb=>
  rcases List.mem_cons.1 hx with rfl|hx
  · exact ha
  · rw[List.mem_singleton.1 hx];exact hb
 | all s t _ ht=>rw[List.mem_singleton.1 hx];exact ht
theorem GT.var0{t:Ty}(h:GT t)(hk:(t.kind==1)=true):t.args=[]:=by
 cases h<;>first|rfl|(simp[Ty.kind] at hk)
theorem d9t{b b':List (List UInt8)}(h:∀x,x∈b↔x∈b')(x:List UInt8):b.contains x=b'.contains x:=by
 rw[Bool.eq_iff_iff];simp[h x]
theorem c9q(l:List (List UInt8))(n x:List UInt8):x∈b2k l n↔x∈l∨x=n:=by
 unfold b2k;split
 · rename_i h;have h:n∈l:=by simpa using h
   constructor
   · exact fun hx=>.inl hx
   · rintro (hx|rfl)
     · exact hx
     · exact h
 · simp
theorem e1t:∀(n:Nat) (t:Ty),t.sz≤n→∀(b b' acc:List (List UInt8)),(∀x,x∈b↔x∈b')→a0n t b acc=a0n t b' acc:=by
 intro n
 induction n with
 | zero=>intro t h;have:=a2f t;omega
 | succ n ih=>
  have hs:∀(l:List Ty),Ty.szs l≤n→∀b b' acc,(∀x,x∈b↔x∈b')→a4s l b acc=a4s l b' acc:=by
   intro l
   induction l with
   | nil=>intro _ b b' acc _;rw[a3h,a3h]
   | cons x r ihr=>
    intro hl b b' acc h;rw[a3b] at hl;rw[a3n,a3n,ih x (by omega) b b' acc h,ihr (by omega) b b' _ h]
  intro t ht b b' acc h;have:=a2f t;rw[a7t,a7t t b'];have e:a8w t b acc=a8w t b' acc:=by unfold a8w;rw[d9t h]
  rw[e];refine hs _ (by omega) _ _ _ fun x=>?_;split
  · rw[c9q,c9q,h x]
  · exact h x
theorem e1s{l:List Ty}{i:Nat}{x:Ty}(h:l[i]? =some x)(b acc:List (List UInt8)):a4s (l.take (i+1)) b acc=a0n x b (a4s (l.take i) b acc):=by
 rw[a4z h];have:∀(m:List Ty) acc,a4s (m++[x]) b acc=a0n x b (a4s m b acc):=by
  intro m
  induction m with
  | nil=>intro acc;rw[List.nil_append,a3n,a3h,a3h]
  | cons y m ih=>intro acc;rw[List.cons_append,a3n,a3n,ih]
 exact this _ _
theorem g0n(l:List Ty)(b acc:List (List UInt8)):(a4s l b acc).length≤acc.length+Ty.szs l:=by
 induction l generalizing acc with
 | nil=>rw[a3h];omega
 | cons x r ih=>
  rw[a3n,a3b];have:=ih (a0n x b acc);have:=a2v _ x (Nat.le_refl _) b acc;omega
theorem g5a(l:List Ty)(i:Nat):Ty.szs (l.take i)≤Ty.szs l:=by
 induction l generalizing i with
 | nil=>simp
 | cons x r ih=>
  cases i with
  | zero=>simp[Ty.szs]
  | succ i=>rw[List.take_succ_cons,a3b,a3b];have:=ih i;omega
theorem e7y:∀(n:Nat) (t:Ty),t.sz≤n→(GT t∨t=zTy)→∀(b acc:List (List UInt8)),acc.length+t.sz<1000000→b.length+t.sz<1000000→
 den E 118 [tyV t,.slice (b.map .str),.slice (acc.map .str)] []=some (.slice ((a0n t b acc).map .str),[]):=by
 intro n
 induction n with
 | zero=>intro t h;have:=a2f t;omega
 | succ n ih=>
  intro t hn hg b acc ha hb;have hsz:=a2f t;have rl:=a1k t.args;have hal:=a4v t;rw[a0d g9g,h6g,a0a];cases k1:t.kind==1
  · have hfa:a8w t b acc=acc:=by unfold a8w;rw[k1];rfl
    -- the loop,with the names that are bound there
    have loop:∀(b':List (List UInt8)),a0n t b acc=a4s t.args b' acc→b'.length+Ty.szs t.args<1000000→∀i,i<t.args.length→∃x,t.args[i]? =some x∧
     den E 118 [tyV x,.slice (b'.map .str),.slice ((a4s (t.args.take i) b' acc).map .str)] []=some (.slice ((a4s (t.args.take (i+1)) b' acc).map .str),[]):=by
     intro b' _ hb' i hi;obtain⟨x,hx⟩:=a6u hi;have hxs:=a2i (List.mem_of_getElem? hx);have hts:=g0n (t.args.take i) b' acc;have hle:Ty.szs (t.args.take i)+x.sz≤Ty.szs t.args:=by
      have h2:=g5a t.args (i+1);rw[a4z hx] at h2;have:∀m:List Ty,Ty.szs (m++[x])=Ty.szs m+x.sz:=by
       intro m
       induction m with
       | nil=>simp[Ty.szs]
       | cons y m ihm=>rw[List.cons_append,a3b,a3b,ihm];omega
      rw[this] at h2;exact h2
     have hgx:GT x∨x=zTy:=by
      rcases hg with hg|hg
      · exact .inl (hg.kid (List.mem_of_getElem? hx))
      · rw[hg] at hx;simp[zTy,Ty.args] at hx
     refine⟨x,hx,?_⟩;rw[e1s hx];exact ih x (by omega) hgx b' _ (by omega) (by omega)
    cases k5:t.kind==5
    · have he:a0n t b acc=a4s t.args b acc:=by rw[a7t,hfa,k5];rfl
      have lp:=loop b he (by omega);rw[he];obtain⟨fin,hfin⟩:∃fin,fin=(some (.slice ((a4s t.args b acc).map .str),[]):Option (AVal×a2z)):=⟨_,rfl⟩
      rw[←hfin];simp only[go_sem,Tryz.f118,k1,k5];refine a3u (fun i=>⟨[(2,.slice ((a4s (t.args.take i) b acc).map .str)),(3,.ptr (.loc 3) 0),(9,.slice (b.map .str)),(10,.int .i64 i)],[],[(3,tyC t)],1⟩) t.args.length ?_ ?_ ?_
      · simp only[go_sem,tyC,a3h]
      · intro i hi h;obtain⟨x,hx,d⟩:=lp i hi;have w1:IntKind.i64.wrap ((i:Int)+1)=((i+1:Nat):Int):=a1c (i+1) (by omega);rw[a0a] at d;simp only[go_sem,a0f,decide_eq_true hi,rl,a0c,a0i,a4r,hx,a0a,tyC,d];refine h _ ?_;simp only[go_sem,w1,tyC]
      · simp only[go_sem,a0f,Nat.lt_irrefl,rl,tyC,List.take_length,hfin]
    · have he:a0n t b acc=a4s t.args (b++[t.name]) acc:=by
       rw[a7t,hfa,k5];simp only[if_true];have hs:∀(l:List Ty) acc,a4s l (b2k b t.name) acc=a4s l (b++[t.name]) acc:=by
        intro l
        induction l with
        | nil=>intro acc;rw[a3h,a3h]
        | cons x r ihr=>intro acc;rw[a3n,a3n,e1t _ x (Nat.le_refl _) (b2k b t.name) (b++[t.name]) acc (fun y=>by rw[c9q];simp),ihr]
       exact hs _ _
      have lp:=loop (b++[t.name]) he (by rw[List.length_append,List.length_singleton];omega);rw[he];have a1:b.length≤a0l:=by unfold a0l;omega
      have a2:b.length+1≤a0l:=by unfold a0l;omega
      have hh:=c5o b;obtain⟨fin,hfin⟩:∃fin,fin=(some (.slice ((a4s t.args (b++[t.name]) acc).map .str),[]):Option (AVal×a2z)):=⟨_,rfl⟩
      rw[←hfin];rcases hh with hh| ⟨y,hh⟩<;>
      (simp only[go_sem,Tryz.f118,k1,k5,List.length_map,a1,a2,hh,Nat.zero_add]
       refine a3u (fun i=>⟨[(2,.slice ((a4s (t.args.take i) (b++[t.name]) acc).map .str)),(3,.ptr (.loc 3) 0),(9,.own 9 0 ((b++[t.name]).map .str)),(10,.int .i64 i)],[],[(3,tyC t)],1⟩) t.args.length ?_ ?_ ?_
       · simp only[go_sem,tyC,a3h,List.map_append]
       · intro i hi h;obtain⟨x,hx,d⟩:=lp i hi;have w1:IntKind.i64.wrap ((i:Int)+1)=((i+1:Nat):Int):=a1c (i+1) (by omega);rw[a0a] at d;simp only[go_sem,a0f,decide_eq_true hi,rl,a0c,a0i,a4r,hx,a0a,tyC,d];refine h _ ?_;simp only[go_sem,w1,tyC]
       · simp only[go_sem,a0f,Nat.lt_irrefl,rl,tyC,List.take_length,hfin])
  · have h0:t.args=[]:=by
     rcases hg with hg|hg
     · exact hg.var0 k1
     · rw[hg] at k1;simp[zTy,Ty.kind] at k1
    have he:a0n t b acc=if b.contains t.name then acc else b2k acc t.name:=by
     rw[a7t,h0,a3h];unfold a8w;rw[k1];cases b.contains t.name<;>rfl
    have d1:=c2r b t.name (by omega);have d2:=c2r acc t.name (by omega);have a1:acc.length≤a0l:=by unfold a0l;omega
    have a2:acc.length+1≤a0l:=by unfold a0l;omega
    rw[he];unfold b2k;cases hb1:b.contains t.name<;>cases hb2:acc.contains t.name<;>rw[hb1] at d1<;>rw[hb2] at d2
    · rcases c5o acc with hh| ⟨y,hh⟩<;>simp only[go_sem,Tryz.f118,k1,d1,d2,List.length_map,a1,a2,hh,Nat.zero_add,List.map_append]
    · simp only[go_sem,Tryz.f118,k1,d1,d2]
    · simp only[go_sem,Tryz.f118,k1,d1,d2]
    · simp only[go_sem,Tryz.f118,k1,d1,d2]
theorem b2y(t:Ty)(hg:GT t∨t=zTy)(h:t.sz<900000):den E 52 [tyV t] []=some (.slice ((a0n t [] []).map .str),[]):=by
 have d:=e7y _ t (Nat.le_refl _) hg [] [] (by simp;omega) (by simp;omega);rw[a0d i6v,j0m];rw[a0a] at d⊢;simp only[List.map_nil] at d;simp only[go_sem,Tryz.f52,d]
def lkD:List (List UInt8×List UInt8)→List UInt8→List UInt8
 | [],s=>s
 | p::r,s=>if p.1==s then p.2 else lkD r s
def a6t(c:UInt8)(but:List (List UInt8)):Nat→Ty→List (List UInt8×List UInt8)→Nat→Ty×Nat
 | 0,t,_,k=>(t,k)
 | n+1,.mk q s m l,es,k=>
  if q==1 then (.mk q (lkD es s) m [],k)
  else if q==5 then (.mk q (a0y c (a3j c but k)) m (a7g (fun t j=>a6t c but n t ((s,a0y c (a3j c but k))::es) j) l (a3j c but k+1)).1,(a7g (fun t j=>a6t c but n t ((s,a0y c (a3j c but k))::es) j) l (a3j c but k+1)).2)
  else (.mk q s m (a7g (fun t k=>a6t c but n t es k) l k).1,(a7g (fun t k=>a6t c but n t es k) l k).2)
def b0i(es:List (List UInt8×List UInt8)):List AVal:=(es.map fun p=>AVal.str p.1).reverse
def toV(es:List (List UInt8×List UInt8)):List AVal:=(es.map fun p=>AVal.str p.2).reverse
theorem c8e(es:List (List UInt8×List UInt8)):(b0i es).length=es.length:=by simp[b0i]
theorem f3x(es:List (List UInt8×List UInt8)):(toV es).length=es.length:=by simp[toV]
theorem f1d(p:List UInt8×List UInt8)(es:List (List UInt8×List UInt8)):b0i (p::es)=b0i es++[.str p.1]:=by simp[b0i]
theorem g4y(p:List UInt8×List UInt8)(es:List (List UInt8×List UInt8)):toV (p::es)=toV es++[.str p.2]:=by simp[toV]
theorem g0m(es:List (List UInt8×List UInt8))(j:Nat)(h:j+1≤es.length):(b0i es)[j]? =(es[es.length - (j+1)]?).map fun p=>.str p.1:=by
 unfold b0i;rw[List.getElem?_reverse (by simp;omega),List.length_map,List.getElem?_map];rw[show es.length - 1 - j=es.length - (j+1) by omega]
theorem h9l(es:List (List UInt8×List UInt8))(j:Nat)(h:j+1≤es.length):(toV es)[j]? =(es[es.length - (j+1)]?).map fun p=>.str p.2:=by
 unfold toV;rw[List.getElem?_reverse (by simp;omega),List.length_map,List.getElem?_map];rw[show es.length - 1 - j=es.length - (j+1) by omega]
theorem h0d{es:List (List UInt8×List UInt8)}{i:Nat}{p:List UInt8×List UInt8}(h:es[i]? =some p)(s:List UInt8):lkD (es.drop i) s=if p.1==s then p.2 else lkD (es.drop (i+1)) s:=by
 rw[a1z h];rfl
theorem i8b{es:List (List UInt8×List UInt8)}{B:Nat}(h:∀p∈es,p.2.length≤B){s:List UInt8}(hs:s.length≤B):(lkD es s).length≤B:=by
 induction es with
 | nil=>exact hs
 | cons p r ih=>
  unfold lkD;split
  · exact h p (List.mem_cons_self ..)
  · exact ih fun q hq=>h q (List.mem_cons_of_mem _ hq)
theorem f5n(s:List UInt8)(es:List (List UInt8×List UInt8))(c:UInt8)(bt:List AVal)(k:Nat)(hes:es.length<1000000):
 den E 152 [tyV (.mk 1 s 0 []),.agg [.slice (b0i es),.slice (toV es)],.str [c],.slice bt,.int .i64 k] []=some (.tup [tyV (.mk 1 (lkD es s) 0 []),.int .i64 k],[]):=by
 rw[a0d d4d,d6b,a0a,a0a];simp only[Ty.kind,Ty.name,Ty.n,Ty.args,a0e];have w0:IntKind.i64.wrap ((es.length:Int) - 1)=(es.length:Int) - 1:=by unfold IntKind.wrap;simp[IntKind.bits,IntKind.signed];omega
 simp only[go_sem,Tryz.f152,c8e,w0];rw[show lkD es s=lkD (es.drop (es.length - es.length)) s by rw[Nat.sub_self,List.drop_zero]];refine a0p (fun j:Nat=>j≤es.length) (fun j=>⟨[(4,.int .i64 k),(5,.ptr (.loc 5) 0),(6,.ptr (.loc 6) 0),(10,.ptr (.loc 10) 0),(12,.ptr (.loc 12) 0),(13,.int .i64 ((j:Int) - 1))],[],
  [(5,[.int .i64 1,.str s,.int .i64 0,.slice []]),(6,[.slice (b0i es),.slice (toV es)]),(10,[.int .i64 0,.str [],.int .i64 0,.own 38 0 []]),(12,[.int .i64 1,.str s,.int .i64 0,.own 38 0 []])],1⟩)
  (fun j=>some (.tup [.agg [.int .i64 1,.str (lkD (es.drop (es.length - j)) s),.int .i64 0,.slice []],.int .i64 k],[])) (fun j=>j) es.length (Nat.le_refl _) ?_ ?_
 · simp only[go_sem]
 · intro j hj h;cases j with
   | zero=>
    have g0:decide (((0:Int) - 1)≥0)=false:=rfl;rw[show es.length - 0=es.length from rfl,List.drop_length];simp only[go_sem,g0,lkD]
   | succ j=>
    have g1:(((j+1:Nat):Int) - 1)=(j:Int):=by omega
    obtain⟨p,hp⟩:=a6u (l:=es) (i:=es.length - (j+1)) (by omega);rw[h0d hp,show es.length - (j+1)+1=es.length - j by omega,g1];have w1:IntKind.i64.wrap ((j:Int) - 1)=(j:Int) - 1:=by unfold IntKind.wrap;simp[IntKind.bits,IntKind.signed];omega
    have gf:=g0m es j hj;have gt:=h9l es j hj;rw[hp] at gf gt;cases hq:p.1==s
    · simp only[go_sem,a0c,a0i,gf,hq];refine h j _ (by omega) (by omega) ?_;simp only[go_sem,w1]
    · simp only[go_sem,a0c,a0i,gf,gt,hq]
def zTR:List AVal:=[.int .i64 0,.str [],.int .i64 0,.own 38 0 []]
theorem c2c(t:Ty)(ys:List Ty)(fr to bt:List AVal)(c:UInt8)(ks:List Nat)(hl:ys.length=t.args.length)(hb:t.sz<1000000)(k1:(t.kind==1)=false)(k5:(t.kind==5)=false)
 (hc:∀(i:Nat) (x y:Ty),t.args[i]? =some x→ys[i]? =some y→den E 152 [tyV x,.agg [.slice fr,.slice to],.str [c],.slice bt,.int .i64 (ks.getD i 0:Nat)] []=some (.tup [tyV y,.int .i64 (ks.getD (i+1) 0:Nat)],[])):
 den E 152 [tyV t,.agg [.slice fr,.slice to],.str [c],.slice bt,.int .i64 (ks.getD 0 0:Nat)] []=some (.tup [tyV (.mk t.kind t.name t.n ys),.int .i64 (ks.getD t.args.length 0:Nat)],[]):=by
 have hsz:=a2f t;have rl:=a1k t.args;have hal:=a4v t;obtain⟨fin,hfin⟩:∃fin,fin=(some (.tup [tyV (.mk t.kind t.name t.n ys),.int .i64 (ks.getD t.args.length 0:Nat)],[]):Option (AVal×a2z)):=⟨_,rfl⟩
 rw[←hfin];rw[a4c] at hfin;rw[a0d d4d,d6b,a0a];simp only[go_sem,Tryz.f152,k1,k5];refine a3u (fun i=>⟨[(2,.str [c]),(3,.slice bt),(4,.int .i64 (ks.getD i 0:Nat)),(5,.ptr (.loc 5) 0),(10,.ptr (.loc 10) 0),(12,.ptr (.loc 12) 0),(14,.ptr (.loc 14) 0),(16,.int .i64 i)],[],
  [(5,tyC t),(10,zTR),(12,[.int .i64 t.kind,.str t.name,.int .i64 t.n,.own 38 0 (a2o (ys.take i))]),(14,[.slice fr,.slice to])],1⟩) t.args.length ?_ ?_ ?_
 · simp only[go_sem,tyC,zTR,List.take_zero,a0e]
 · intro i hi h;obtain⟨x,hx⟩:=a6u hi;obtain⟨y,hy⟩:=a6u (l:=ys) (i:=i) (by omega);have d:=hc i x y hx hy;have w1:IntKind.i64.wrap ((i:Int)+1)=((i+1:Nat):Int):=a1c (i+1) (by omega);have hap:(a2o (ys.take i)).length+1≤a0l:=by rw[a1k,List.length_take];unfold a0l;omega
   rw[a4z hy] at h;rw[a0a x,a0a y] at d;simp only[go_sem,a0f,decide_eq_true hi,rl,a0c,a0i,a4r,hx,a0a x,tyC,d,hap];refine h _ ?_;simp only[go_sem,w1,a7v,a1a,a0e,tyC,zTR,a0a y]
 · simp only[go_sem,a0f,Nat.lt_irrefl,rl,tyC,zTR,←hl,List.take_length,hfin]
theorem f1c(es:List (List UInt8×List UInt8)):(b0i es).head? =none∨∃a,(b0i es).head? =some (.str a):=by
 unfold b0i;rw[List.head?_reverse];cases h:(es.map fun p=>AVal.str p.1).getLast? with
 | none=>exact .inl rfl
 | some v=>
  have:=List.mem_of_getLast? h;simp only[List.mem_map] at this;obtain⟨p,_,hp⟩:=this;exact .inr ⟨p.1,by rw[←hp]⟩
theorem g4x(es:List (List UInt8×List UInt8)):(toV es).head? =none∨∃a,(toV es).head? =some (.str a):=by
 unfold toV;rw[List.head?_reverse];cases h:(es.map fun p=>AVal.str p.2).getLast? with
 | none=>exact .inl rfl
 | some v=>
  have:=List.mem_of_getLast? h;simp only[List.mem_map] at this;obtain⟨p,_,hp⟩:=this;exact .inr ⟨p.2,by rw[←hp]⟩
theorem f5o(s:List UInt8)(x y:Ty)(es:List (List UInt8×List UInt8))(but:List (List UInt8))(c:UInt8)(k m k':Nat)(hes:es.length<1000000)(hbt:but.length<1000000)(hkm:k≤m)(hm:m<999999999)
 (h2:but.contains (a0y c m)=false) (h3:∀j,k≤j→j<m→but.contains (a0y c j)=true)
 (d:den E 152 [tyV x,.agg [.slice (b0i ((s,a0y c m)::es)),.slice (toV ((s,a0y c m)::es))],.str [c],.slice (but.map .str),.int .i64 ((m+1:Nat):Int)] []=some (.tup [tyV y,.int .i64 k'],[])):
 den E 152 [tyV (.mk 5 s 0 [x]),.agg [.slice (b0i es),.slice (toV es)],.str [c],.slice (but.map .str),.int .i64 k] []=some (.tup [tyV (.mk 5 (a0y c m) 0 [y]),.int .i64 k'],[]):=by
 obtain⟨fin,hfin⟩:∃fin,fin=(some (.tup [tyV (.mk 5 (a0y c m) 0 [y]),.int .i64 k'],[]):Option (AVal×a2z)):=⟨_,rfl⟩
 rw[←hfin];rw[a4c,a1a,a0e] at hfin;rw[a0d d4d,d6b,a4c,a1a,a0e];have d0:=a4h k (by omega);have e0:=c2r but (a0y c k) hbt;have l0:=(a4o k c (by omega)).2.2;have a1:(b0i es).length≤a0l:=by rw[c8e];unfold a0l;omega
 have a2:(b0i es).length+1≤a0l:=by rw[c8e];unfold a0l;omega
 have a3:(toV es).length≤a0l:=by rw[f3x];unfold a0l;omega
 have a4:(toV es).length+1≤a0l:=by rw[f3x];unfold a0l;omega
 rw[f1d,g4y] at d;dsimp only at d;rw[a0a x,a0a y] at d;rw[a0a y] at hfin;rw[a0a x];unfold a0y at e0 d hfin;simp only[go_sem,Tryz.f152,d0,l0,e0];refine a0p (fun j:Nat=>k≤j∧j≤m) (fun j=>⟨[(2,.str [c]),(3,.slice (but.map .str)),(4,.int .i64 j),(5,.ptr (.loc 5) 0),(6,.ptr (.loc 6) 0),(10,.ptr (.loc 10) 0),(12,.ptr (.loc 12) 0),(14,.ptr (.loc 14) 0),(15,.bool (but.contains (c::Lib.itoa (j:Int))))],[],
  [(5,[.int .i64 5,.str s,.int .i64 0,.slice [.agg [.int .i64 x.kind,.str x.name,.int .i64 x.n,.slice (a2o x.args)]]]),(6,[.slice (b0i es),.slice (toV es)]),(10,zTR),(12,[.int .i64 5,.str s,.int .i64 0,.own 38 0 []]),(14,[.slice (b0i es),.slice (toV es)])],1⟩) (fun _=>fin) (fun j=>m - j) k ⟨Nat.le_refl _,hkm⟩ ?_ ?_
 · simp only[go_sem,zTR]
 · intro j hj h;have w1:IntKind.i64.wrap ((j:Int)+1)=((j+1:Nat):Int):=a1c (j+1) (by omega)
   by_cases hlt:j<m
   · have d1:=a4h (j+1) (by omega);have e1:=c2r but (a0y c (j+1)) hbt;have l1:=(a4o (j+1) c (by omega)).2.2;have hcj:=h3 j hj.1 hlt;unfold a0y at e1 hcj;generalize hp:j+1=p at d1 e1 l1 w1 h;simp only[go_sem,hcj,w1,d1,l1,e1];refine h p _ ⟨by omega,by omega⟩ (by omega) ?_;simp only[go_sem,zTR]
   · have hje:j=m:=by omega
     subst hje;have d1:=a4h j (by omega);have l1:=(a4o j c (by omega)).2.2;have h2':=h2;unfold a0y at h2';generalize hp:j+1=p at d w1;rcases f1c es with hf| ⟨a,hf⟩<;>rcases g4x es with ht| ⟨b,ht⟩<;>
     (simp only[go_sem,h2',d1,l1,w1,a1,a2,a3,a4,hf,ht,Nat.zero_add,zTR]
      refine a3u (fun i=>⟨[(2,.str [c]),(3,.slice (but.map .str)),(4,.int .i64 ((if i=0 then p else k':Nat):Int)),(5,.ptr (.loc 5) 0),(10,.ptr (.loc 10) 0),(12,.ptr (.loc 12) 0),(14,.ptr (.loc 14) 0),(16,.int .i64 i)],[],
       [(5,[.int .i64 5,.str s,.int .i64 0,.slice [.agg [.int .i64 x.kind,.str x.name,.int .i64 x.n,.slice (a2o x.args)]]]),(10,zTR),(12,[.int .i64 5,.str (c::Lib.itoa (j:Int)),.int .i64 0,.own 38 0 (if i=0 then [] else [.agg [.int .i64 y.kind,.str y.name,.int .i64 y.n,.slice (a2o y.args)]])]),(14,[.own 9 0 (b0i es++[.str s]),.own 9 0 (toV es++[.str (c::Lib.itoa (j:Int))])])],1⟩) 1 ?_ ?_ ?_
      · simp only[go_sem,zTR]
      · intro i hi h;have hi0:i=0:=by omega
        subst hi0;have w2:IntKind.i64.wrap ((0:Int)+1)=1:=rfl;have am:0+1≤a0l:=by unfold a0l;omega
        simp only[go_sem,d,am,zTR];refine h _ ?_;simp only[go_sem,w2,zTR]
      · simp only[go_sem,zTR,hfin])
theorem e4s(c:UInt8)(but:List (List UInt8))(hf:but.length<1000000):∀(n:Nat) (t:Ty),t.sz≤n→GT t→t.sz<300000→∀(es:List (List UInt8×List UInt8)) (k:Nat),(∀p∈es,p.2.length≤16)→es.length+t.sz<1000000→k+t.sz*(but.length+1)≤900000000→
 den E 152 [tyV t,.agg [.slice (b0i es),.slice (toV es)],.str [c],.slice (but.map .str),.int .i64 k] []=some (.tup [tyV (a6t c but n t es k).1,.int .i64 (a6t c but n t es k).2],[])∧GT (a6t c but n t es k).1∧(a6t c but n t es k).1.sz=t.sz∧(a6t c but n t es k).2≤k+t.sz*(but.length+1):=by
 intro n
 induction n with
 | zero=>intro t h;have:=a2f t;omega
 | succ n ih=>
  intro t hn hg hb es k hes hel hk;have bound:∀(es:List (List UInt8×List UInt8)) (l:List Ty),(∀p∈es,p.2.length≤16)→(∀x,x∈l→GT x)→Ty.szs l≤n→Ty.szs l<300000→es.length+Ty.szs l<1000000→∀k:Nat,k+Ty.szs l*(but.length+1)≤900000000→
   (∀(i:Nat) (x:Ty),l[i]? =some x→(c7j (fun t k=>a6t c but n t es k) l k).getD i 0+x.sz*(but.length+1)≤900000000)∧(a7g (fun t k=>a6t c but n t es k) l k).2≤k+Ty.szs l*(but.length+1):=by
   intro es l hes
   induction l with
   | nil=>intro _ _ _ _ k _;exact⟨fun i x h=>by simp at h,by simp[a7g]⟩
   | cons t l ihl=>
    intro hl h1 h2 h3 k hk;rw[a3b,Nat.add_mul] at hk;rw[a3b] at h1 h2 h3;obtain⟨_,_,_,q4⟩:=ih t (by omega) (hl t (List.mem_cons_self ..)) (by omega) es k hes (by omega) (by omega);obtain⟨b1,b2⟩:=ihl (fun x hx=>hl x (List.mem_cons_of_mem _ hx)) (by omega) (by omega) (by omega) (a6t c but n t es k).2 (by omega);refine⟨fun i x hx=>?_,?_⟩
    · cases i with
      | zero=>simp at hx;subst hx;rw[c7j,List.getD_cons_zero];omega
      | succ i=>rw[c7j,List.getD_cons_succ];exact b1 i x (by simpa using hx)
    · rw[a7g,a3b,Nat.add_mul];simp only;omega
  have kids:∀l:List Ty,(∀x,x∈l→GT x)→Ty.szs l≤n→Ty.szs l<300000→es.length+Ty.szs l<1000000→k+Ty.szs l*(but.length+1)≤900000000→
   ∀(i:Nat) (x y:Ty),l[i]? =some x→(a7g (fun t k=>a6t c but n t es k) l k).1[i]? =some y→den E 152 [tyV x,.agg [.slice (b0i es),.slice (toV es)],.str [c],.slice (but.map .str),.int .i64 ((c7j (fun t k=>a6t c but n t es k) l k).getD i 0:Nat)] []=some (.tup [tyV y,.int .i64 ((c7j (fun t k=>a6t c but n t es k) l k).getD (i+1) 0:Nat)],[])∧GT y∧y.sz=x.sz:=by
   intro l hl h1 h2 h4 h3 i x y hx hy;obtain⟨e1,e2⟩:=d4k _ l k i x y hx hy;have hm:=List.mem_of_getElem? hx;have:=a2i hm;obtain⟨q1,q2,q3,_⟩:=ih x (by omega) (hl x hm) (by omega) es _ hes (by omega) ((bound es l hes hl h1 h2 h4 k h3).1 i x hx);rw[e1,e2];exact⟨q1,q2,q3⟩
  have mono:∀a b:Nat,a≤b→a*(but.length+1)≤b*(but.length+1):=fun a b h=>Nat.mul_le_mul_right _ h;cases hg with
  | var s hs=>
   have e:a6t c but (n+1) (.mk 1 s 0 []) es k=(.mk 1 (lkD es s) 0 [],k):=rfl;rw[e];exact⟨f5n s es c _ k (by omega),.var _ (i8b hes hs),rfl,by show k≤_;omega⟩
  | unk m h1 h2=>
   have e:a6t c but (n+1) (.mk 2 [] m []) es k=(.mk 2 [] m [],k):=rfl;rw[e];exact⟨c2c (.mk 2 [] m []) [] _ _ _ c [k] rfl (by omega) rfl rfl (fun i x y hx=>by simp[Ty.args] at hx),.unk m h1 h2,rfl,by show k≤_;omega⟩
  | con s l hs hl=>
   rw[a0t] at hn hb hk hel⊢;have:=mono (Ty.szs l) (Ty.szs l+1) (by omega);have e:a6t c but (n+1) (.mk 3 s 0 l) es k=(.mk 3 s 0 (a7g (fun t k=>a6t c but n t es k) l k).1,(a7g (fun t k=>a6t c but n t es k) l k).2):=rfl;have e3:=kids l hl (by omega) (by omega) (by omega) (by omega);have e2:=(bound es l hes hl (by omega) (by omega) (by omega) k (by omega)).2;have d:=c2c (.mk 3 s 0 l) (a7g (fun t k=>a6t c but n t es k) l k).1 (b0i es) (toV es) (but.map .str) c (c7j (fun t k=>a6t c but n t es k) l k) (b0u _ l k) (by rw[a0t];omega) rfl rfl (fun i x y hx hy=>(e3 i x y hx hy).1);rw[b5u] at d;have e4:(Ty.mk 3 s 0 l).args.length=l.length:=rfl;rw[e4,c0m] at d;rw[e];refine⟨d,.con s _ hs fun y hy=>?_,?_,by show (a7g (fun t k=>a6t c but n t es k) l k).2≤_;omega⟩
   · obtain⟨i,hi⟩:=b9f hy;have:i<l.length:=by have:=(List.getElem?_eq_some_iff.1 hi).1;rw[b0u] at this;exact this
     obtain⟨x,hx⟩:=a6u this;exact (e3 i x y hx hi).2.1
   · show (Ty.mk 3 s 0 (a7g (fun t k=>a6t c but n t es k) l k).1).sz=_
     rw[a0t];exact congrArg (· +1) (d0i (b0u _ l k) fun i x y hx hy=>(e3 i x y hx hy).2.2)
  | fn u v hu hv=>
   rw[a0t,a1g] at hn hb hk hel⊢;have:=mono (u.sz+v.sz) (u.sz+v.sz+1) (by omega);have hl:∀x,x∈[u,v]→GT x:=fun x hx=>by simp at hx;rcases hx with rfl|rfl;exact hu;exact hv
   have e:a6t c but (n+1) (.mk 4 [] 0 [u,v]) es k=(.mk 4 [] 0 (a7g (fun t k=>a6t c but n t es k) [u,v] k).1,(a7g (fun t k=>a6t c but n t es k) [u,v] k).2):=rfl;have e3:=kids [u,v] hl (by rw[a1g];omega) (by rw[a1g];omega) (by rw[a1g];omega) (by rw[a1g];omega);have e2:=(bound es [u,v] hes hl (by rw[a1g];omega) (by rw[a1g];omega) (by rw[a1g];omega) k (by rw[a1g];omega)).2;rw[a1g] at e2;have d:=c2c (.mk 4 [] 0 [u,v]) (a7g (fun t k=>a6t c but n t es k) [u,v] k).1 (b0i es) (toV es) (but.map .str) c (c7j (fun t k=>a6t c but n t es k) [u,v] k) (b0u _ [u,v] k) (by rw[a0t,a1g];omega) rfl rfl (fun i x y hx hy=>(e3 i x y hx hy).1);rw[b5u] at d;have e4:(Ty.mk 4 [] 0 [u,v]).args.length=[u,v].length:=rfl;rw[e4,c0m] at d;rw[e];have f1:=e3 0 u _ rfl rfl;have f2:=e3 1 v _ rfl rfl;refine⟨d,.fn _ _ f1.2.1 f2.2.1,?_,by show (a7g (fun t k=>a6t c but n t es k) [u,v] k).2≤_;omega⟩;show (Ty.mk 4 [] 0 [_,_]).sz=_
   rw[a0t,a1g,f1.2.2,f2.2.2]
  | all s x hs hx=>
   rw[a0t,a1e] at hn hb hk hel⊢;have em:(x.sz+1)*(but.length+1)=x.sz*(but.length+1)+(but.length+1):=by rw[Nat.add_mul];omega
   obtain⟨q1,q2,q3,q4⟩:=a8h c but k;have e:a6t c but (n+1) (.mk 5 s 0 [x]) es k=(.mk 5 (a0y c (a3j c but k)) 0 [(a6t c but n x ((s,a0y c (a3j c but k))::es) (a3j c but k+1)).1],(a6t c but n x ((s,a0y c (a3j c but k))::es) (a3j c but k+1)).2):=by
    rw[a6t];simp only[show ((5:Int)==1)=false from rfl,show ((5:Int)==5)=true from rfl,Bool.false_eq_true,if_false,if_true,a7g]
   rw[e];generalize a3j c but k=m at q1 q2 q3 q4⊢;obtain⟨c1,_,_⟩:=a4o m c (by omega);obtain⟨r2,g2,s2,b2⟩:=ih x (by omega) hx (by omega) ((s,a0y c m)::es) (m+1) (fun p hp=>by
    rcases List.mem_cons.1 hp with rfl|hp
    · exact c1
    · exact hes p hp) (by rw[List.length_cons];omega) (by omega)
   exact⟨f5o s x _ es but c k m _ (by omega) hf q1 (by omega) q3 q4 r2,.all _ _ c1 g2,by rw[a0t,a1e,s2],by show (a6t c but n x _ _).2≤_;omega⟩
def b6n(t u:Ty)(n:List UInt8):Ty:=(a6t 121 (n::(a0n u [] []++a0n t [] [])) t.sz t [] 0).1
theorem c3h{t u:Ty}(ht:GT t)(hu:GT u)(ht1:t.sz<20000)(hu1:u.sz<20000)(n:List UInt8):den E 127 [tyV t,tyV u,.str n] []=some (tyV (b6n t u n),[])∧GT (b6n t u n)∧(b6n t u n).sz=t.sz:=by
 have d1:=b2y u (.inl hu) (by omega);have d2:=b2y t (.inl ht) (by omega);have l1:=a2v _ u (Nat.le_refl _) [] [];have l2:=a2v _ t (Nat.le_refl _) [] [];simp only[List.length_nil,Nat.zero_add] at l1 l2;have hbl:(n::(a0n u [] []++a0n t [] [])).length≤40000:=by rw[List.length_cons,List.length_append];omega
 have hp:t.sz*((n::(a0n u [] []++a0n t [] [])).length+1)≤20000*40001:=Nat.mul_le_mul (by omega) (by omega);obtain⟨d,g,hs,_⟩:=e4s 121 (n::(a0n u [] []++a0n t [] [])) (by omega) _ t (Nat.le_refl _) ht (by omega) [] 0 (fun p hp=>by cases hp) (by simp;omega) (by omega);refine⟨?_,g,hs⟩;unfold b6n;generalize (a6t 121 (n::(a0n u [] []++a0n t [] [])) t.sz t [] 0).1=y at d⊢;generalize (a6t 121 (n::(a0n u [] []++a0n t [] [])) t.sz t [] 0).2=k' at d;have a1:1+(a0n u [] []).length≤a0l:=by unfold a0l;omega
 have a2:(a0n u [] []).length+1≤a0l:=by unfold a0l;omega
 have a3:1+(a0n u [] []).length+(a0n t [] []).length≤a0l:=by unfold a0l;omega
 have a4:(a0n u [] []).length+(a0n t [] []).length+1≤a0l:=by unfold a0l;omega
 have a5:(a0n u [] []).length+1+(a0n t [] []).length≤a0l:=by unfold a0l;omega
 rw[a0d g9c,h6c];rw[a0a t] at d d2⊢;rw[a0a u] at d1⊢;rw[a0a y] at d⊢;have f0:b0i []=[]:=rfl;have t0:toV []=[]:=rfl;rw[f0,t0,show ((0:Nat):Int)=0 from rfl] at d;simp only[List.map_cons,List.map_append] at d;rcases c5o (a0n u [] []) with h1| ⟨b,h1⟩<;>rcases c5o (a0n t [] []) with h2| ⟨b',h2⟩<;>
 simp only[go_sem,Tryz.f127,d1,d2,d,a1,a5,List.length_map,List.length_cons,List.length_nil,Nat.zero_add,h1,h2,List.nil_append,List.cons_append]
def b8t:Nat→Ty→List UInt8→Ty→Ty
 | 0,t,_,_=>t
 | n+1,.mk q s m l,a,u=>if (q==1&&s==a)&&m==0 then u else .mk q s m (l.map fun x=>b8t n x a u)
theorem d6y(n:Nat)(q:Int)(s:List UInt8)(m:Int)(l:List Ty)(a:List UInt8)(u:Ty):b8t (n+1) (.mk q s m l) a u=if (q==1&&s==a)&&m==0 then u else .mk q s m (l.map fun x=>b8t n x a u):=rfl
theorem g6a(a:List UInt8)(u:Ty):∀(n:Nat) (t:Ty),t.sz≤n→t.sz<1000000→den E 128 [tyV t,.int .i64 1,.str a,.int .i64 0,tyV u] []=some (tyV (b8t n t a u),[]):=by
 intro n
 induction n with
 | zero=>intro t h;have:=a2f t;omega
 | succ n ih=>
  intro t hn hb;have hsz:=a2f t;have rl:=a1k t.args;have hal:=a4v t;have ht:t=.mk t.kind t.name t.n t.args:=by cases t;rfl
  have hst:b8t (n+1) t a u=if (t.kind==1&&t.name==a)&&t.n==0 then u else .mk t.kind t.name t.n (t.args.map fun x=>b8t n x a u):=by
   cases t;rfl
  rw[hst];have loop:(((t.kind==1&&t.name==a)&&t.n==0)=false)→den E 128 [tyV t,.int .i64 1,.str a,.int .i64 0,tyV u] []=some (tyV (.mk t.kind t.name t.n (t.args.map fun x=>b8t n x a u)),[]):=by
   intro hc;obtain⟨ys,hys⟩:∃ys,ys=t.args.map fun x=>b8t n x a u:=⟨_,rfl⟩
   have hyl:ys.length=t.args.length:=by rw[hys,List.length_map]
   rw[←hys];obtain⟨fin,hfin⟩:∃fin,fin=(some (tyV (.mk t.kind t.name t.n ys),[]):Option (AVal×a2z)):=⟨_,rfl⟩
   rw[←hfin];rw[a4c] at hfin;have lp:∀i,i<t.args.length→∃x y,t.args[i]? =some x∧ys[i]? =some y∧den E 128 [tyV x,.int .i64 1,.str a,.int .i64 0,tyV u] []=some (tyV y,[]):=by
    intro i hi;obtain⟨x,hx⟩:=a6u hi;have hxs:=a2i (List.mem_of_getElem? hx);exact⟨x,_,hx,by rw[hys,List.getElem?_map,hx];rfl,ih x (by omega) (by omega)⟩
   rw[a0d e4j,e6s];rw[a0a u] at lp⊢;rw[a0a t];cases k1:t.kind==1<;>cases ka:t.name==a<;>cases kn:t.n==0<;>simp only[k1,ka,kn,Bool.and_true,Bool.and_false,Bool.true_eq_false] at hc<;>
   (simp only[go_sem,Tryz.f128,k1,ka,kn]
    refine a3u (fun i=>⟨[(1,.int .i64 1),(2,.str a),(3,.int .i64 0),(5,.ptr (.loc 5) 0),(9,.ptr (.loc 9) 0),(10,.ptr (.loc 10) 0),(11,.ptr (.loc 11) 0),(12,.int .i64 i)],[],
     [(5,tyC t),(9,[.int .i64 u.kind,.str u.name,.int .i64 u.n,.slice (a2o u.args)]),(10,zTR),(11,[.int .i64 t.kind,.str t.name,.int .i64 t.n,.own 38 0 (a2o (ys.take i))])],1⟩) t.args.length ?_ ?_ ?_
    · simp only[go_sem,tyC,zTR,List.take_zero,a0e]
    · intro i hi h;obtain⟨x,y,hx,hy,d⟩:=lp i hi;have w1:IntKind.i64.wrap ((i:Int)+1)=((i+1:Nat):Int):=a1c (i+1) (by omega);have hap:(a2o (ys.take i)).length+1≤a0l:=by rw[a1k,List.length_take];unfold a0l;omega
      rw[a4z hy] at h;rw[a0a x,a0a y] at d;simp only[go_sem,a0f,decide_eq_true hi,rl,a0c,a0i,a4r,hx,a0a x,tyC,d,hap];refine h _ ?_;simp only[go_sem,w1,a7v,a1a,a0e,tyC,zTR,a0a y]
    · simp only[go_sem,a0f,Nat.lt_irrefl,rl,tyC,zTR,←hyl,List.take_length,hfin])
  by_cases hc:((t.kind==1&&t.name==a)&&t.n==0)=true
  · rw[if_pos hc];simp only[Bool.and_eq_true] at hc;obtain⟨⟨k1,ka⟩,kn⟩:=hc;rw[a0d e4j,e6s,a0a t,a0a u];simp only[go_sem,Tryz.f128,k1,ka,kn]
  · rw[if_neg hc];exact loop (by simpa using hc)
def putD(t:Ty)(a:List UInt8)(u:Ty):Ty:=b8t (b6n t u a).sz (b6n t u a) a u
theorem f5m{t u:Ty}(ht:GT t)(hu:GT u)(ht1:t.sz<20000)(hu1:u.sz<20000)(a:List UInt8):den E 62 [tyV t,.str a,tyV u] []=some (tyV (putD t a u),[]):=by
 obtain⟨d1,g1,s1⟩:=c3h ht hu ht1 hu1 a;have d2:=g6a a u _ (b6n t u a) (Nat.le_refl _) (by omega);unfold putD;generalize b6n t u a=x at d1 d2⊢;rw[a0d i6r,j0j];rw[a0a t] at d1⊢;rw[a0a u] at d1 d2⊢;rw[a0a x] at d1 d2;rw[a0a (b8t _ _ _ _)] at d2⊢;simp only[go_sem,Tryz.f62,d1,d2]
theorem i1e{b:List UInt8}(hb:b.length≤16)(a:List UInt8):∀(n:Nat) (t:Ty),t.sz≤n→GT t→GT (b8t n t a (.mk 1 b 0 []))∧(b8t n t a (.mk 1 b 0 [])).sz=t.sz:=by
 intro n
 induction n with
 | zero=>intro t h;have:=a2f t;omega
 | succ n ih=>
  intro t hn hg;cases hg with
  | var s hs=>
   rw[d6y];split
   · exact⟨.var b hb,rfl⟩
   · exact⟨.var s hs,rfl⟩
  | unk m h1 h2=>exact⟨.unk m h1 h2,rfl⟩
  | con s l hs hl=>
   rw[a0t] at hn;have e:b8t (n+1) (.mk 3 s 0 l) a (.mk 1 b 0 [])=.mk 3 s 0 (l.map fun x=>b8t n x a (.mk 1 b 0 [])):=rfl;rw[e];refine⟨.con s _ hs fun y hy=>?_,?_⟩
   · obtain⟨x,hx,rfl⟩:=List.mem_map.1 hy;have:=a2i hx;exact (ih x (by omega) (hl x hx)).1
   · rw[a0t,a0t];refine congrArg (· +1) (d0i (by simp) fun i x y hx hy=>?_);simp[hx] at hy;subst hy;have hm:=List.mem_of_getElem? hx;have:=a2i hm;exact (ih x (by omega) (hl x hm)).2
  | fn x y hx hy=>
   rw[a0t,a1g] at hn;have e:b8t (n+1) (.mk 4 [] 0 [x,y]) a (.mk 1 b 0 [])=.mk 4 [] 0 [b8t n x a (.mk 1 b 0 []),b8t n y a (.mk 1 b 0 [])]:=rfl;rw[e];obtain⟨g1,s1⟩:=ih x (by omega) hx;obtain⟨g2,s2⟩:=ih y (by omega) hy;exact⟨.fn _ _ g1 g2,by simp only[a0t,a1g,s1,s2]⟩
  | all s x hs hx=>
   rw[a0t,a1e] at hn;have e:b8t (n+1) (.mk 5 s 0 [x]) a (.mk 1 b 0 [])=.mk 5 s 0 [b8t n x a (.mk 1 b 0 [])]:=rfl;rw[e];obtain⟨g1,s1⟩:=ih x (by omega) hx;exact⟨.all s _ hs g1,by simp only[a0t,a1e,s1]⟩
theorem b2z{t:Ty}(ht:GT t)(ht1:t.sz<20000)(a b:List UInt8)(hb:b.length≤16):den E 62 [tyV t,.str a,tyV (.mk 1 b 0 [])] []=some (tyV (putD t a (.mk 1 b 0 [])),[])∧GT (putD t a (.mk 1 b 0 []))∧(putD t a (.mk 1 b 0 [])).sz=t.sz:=by
 obtain⟨_,g1,s1⟩:=c3h ht (.var b hb) ht1 (by rw[b8d];omega) a;obtain⟨g2,s2⟩:=i1e hb a _ _ (Nat.le_refl _) g1;exact⟨f5m ht (.var b hb) ht1 (by rw[b8d];omega) a,g2,by unfold putD;rw[s2,s1]⟩
def atD:List (List UInt8)→List UInt8→Nat→Int
 | [],_,_=> -1
 | x::r,s,i=>if x==s then (i:Int) else atD r s (i+1)
theorem f5p(l:List (List UInt8))(s:List UInt8)(hl:l.length<1000000):den E 149 [.slice (l.map .str),.str s] []=some (.int .i64 (atD l s 0),[]):=by
 rw[a0d g8o,h5o];simp only[go_sem,Tryz.f149];refine a0p (fun i:Nat=>i≤l.length) (fun i=>⟨[(0,.slice (l.map .str)),(1,.str s),(5,.int .i64 i)],[],[],1⟩) (fun i=>some (.int .i64 (atD (l.drop i) s i),[])) (fun i=>l.length - i) 0 (Nat.zero_le _) ?_ ?_
 · simp only[go_sem]
 · intro i hi h
   by_cases hlt:i<l.length
   · obtain⟨x,hx⟩:=a6u hlt;rw[a1z hx,atD];have w1:IntKind.i64.wrap ((i:Int)+1)=((i+1:Nat):Int):=a1c (i+1) (by omega);cases hq:x==s
     · simp only[go_sem,List.length_map,a0f,decide_eq_true hlt,a0c,a0i,a4t,hx,hq];refine h (i+1) _ (by omega) (by omega) ?_;simp only[go_sem,w1]
     · simp only[go_sem,List.length_map,a0f,decide_eq_true hlt,a0c,a0i,a4t,hx,hq]
   · have hie:i=l.length:=by omega
     subst hie;rw[List.drop_length];simp only[go_sem,List.length_map,a0f,Nat.lt_irrefl,atD]
def c0c:List (List UInt8×List UInt8)→Ty→Ty
 | [],t=>t
 | p::r,t=>c0c r (putD t p.1 (.mk 1 p.2 0 []))
theorem e1b:∀(l:List (List UInt8×List UInt8)) (t:Ty),GT t→t.sz<20000→(∀p∈l,p.2.length≤16)→GT (c0c l t)∧(c0c l t).sz=t.sz
 | [],t,hg,_,_=>⟨hg,rfl⟩
 | p::r,t,hg,hb,hl=>by
  obtain⟨_,g,s⟩:=b2z hg hb p.1 p.2 (hl p (List.mem_cons_self ..));obtain⟨g2,s2⟩:=e1b r _ g (by omega) fun q hq=>hl q (List.mem_cons_of_mem _ hq);exact⟨g2,by rw[c0c,s2,s]⟩
structure RenT where
 i:Nat
 t:Ty
theorem e7z(l:List (List UInt8×List UInt8))(hl:l.length<1000000)(h16:∀p∈l,p.2.length≤16)(t:Ty)(hg:GT t)(hb:t.sz<20000):
 den E 150 [tyV t,.slice (l.map fun p=>.str p.1),.slice (l.map fun p=>.str p.2)] []=some (tyV (c0c l t),[]):=by
 rw[a0d g8n,h5n,a0a t];simp only[go_sem,Tryz.f150];refine a0p (fun a:RenT=>a.i≤l.length∧GT a.t∧a.t.sz<20000) (fun a=>⟨[(1,.slice (l.map fun p=>.str p.1)),(2,.slice (l.map fun p=>.str p.2)),(3,.ptr (.loc 3) 0),(6,.ptr (.loc 6) 0),(7,.int .i64 a.i)],[],[(3,[.int .i64 a.t.kind,.str a.t.name,.int .i64 a.t.n,.slice (a2o a.t.args)]),(6,zTR)],1⟩)
  (fun a=>some (tyV (c0c (l.drop a.i) a.t),[])) (fun a=>l.length - a.i) ⟨0,t⟩ ⟨Nat.zero_le _,hg,hb⟩ ?_ ?_
 · simp only[go_sem,zTR]
 · rintro⟨i,t⟩ ⟨hi,hg,hb⟩ h;simp only at hi hg hb⊢
   by_cases hlt:i<l.length
   · obtain⟨p,hp⟩:=a6u hlt;obtain⟨d,g,s⟩:=b2z hg hb p.1 p.2 (h16 p (List.mem_of_getElem? hp));rw[a1z hp,c0c];have w1:IntKind.i64.wrap ((i:Int)+1)=((i+1:Nat):Int):=a1c (i+1) (by omega);have hp1:(l.map fun p=>AVal.str p.1)[i]? =some (.str p.1):=by rw[List.getElem?_map,hp];rfl
     have hp2:(l.map fun p=>AVal.str p.2)[i]? =some (.str p.2):=by rw[List.getElem?_map,hp];rfl
     rw[a0a t,a4c,a0e,a0a (putD _ _ _)] at d;simp only[go_sem,List.length_map,a0f,decide_eq_true hlt,a0c,a0i,hp1,hp2,d,zTR];refine h ⟨i+1,putD t p.1 (.mk 1 p.2 0 [])⟩ _ ⟨by show i+1≤_;omega,g,by show (putD t p.1 (.mk 1 p.2 0 [])).sz<_;omega⟩ (by show l.length - (i+1)<l.length - i;omega) ?_;simp only[go_sem,w1,zTR]
   · have hie:i=l.length:=by omega
     subst hie;rw[List.drop_length,a0a];simp only[go_sem,List.length_map,a0f,Nat.lt_irrefl,c0c,zTR]
def b0g(c:UInt8)(but:List (List UInt8)):Nat→Ty→Nat→List (List UInt8)×Ty
 | 0,t,_=>([],t)
 | n+1,.mk k s m l,i=>
  if k==5 then (match l with
   | [x]=>(a0y c (a3j c but i)::(b0g c but n (putD x s (.mk 1 (a0y c (a3j c but i)) 0 [])) (a3j c but i+1)).1,(b0g c but n (putD x s (.mk 1 (a0y c (a3j c but i)) 0 [])) (a3j c but i+1)).2)
   | _=>([],.mk k s m l))
  else ([],.mk k s m l)
theorem c7f(c:UInt8)(but:List (List UInt8))(n:Nat)(s:List UInt8)(x:Ty)(i:Nat):b0g c but (n+1) (.mk 5 s 0 [x]) i=(a0y c (a3j c but i)::(b0g c but n (putD x s (.mk 1 (a0y c (a3j c but i)) 0 [])) (a3j c but i+1)).1,(b0g c but n (putD x s (.mk 1 (a0y c (a3j c but i)) 0 [])) (a3j c but i+1)).2):=rfl
theorem b7c(c:UInt8)(but:List (List UInt8))(n:Nat)(t:Ty)(i:Nat)(h:(t.kind==5)=false):b0g c but n t i=([],t):=by
 cases n with
 | zero=>rfl
 | succ n=>cases t;simp only[Ty.kind] at h;simp only[b0g,h];rfl
theorem d4e(c:UInt8)(but:List (List UInt8)):∀(n:Nat) (t:Ty) (i:Nat),t.sz≤n→GT t→t.sz<20000→i+n*(but.length+1)≤900000000→GT (b0g c but n t i).2∧(b0g c but n t i).2.sz≤t.sz∧(b0g c but n t i).1.length≤t.sz∧∀s∈(b0g c but n t i).1,s≠[]∧s.length≤16:=by
 intro n
 induction n with
 | zero=>intro t i h;have:=a2f t;omega
 | succ n ih=>
  intro t i hn hg hb hi;cases hk:t.kind==5
  · rw[b7c c but _ t i hk];exact⟨hg,Nat.le_refl _,Nat.zero_le _,fun s hs=>by simp at hs⟩
  · obtain⟨s,x,rfl,hs,hx⟩:=hg.all_inv hk;rw[a0t,a1e] at hn hb;rw[c7f];obtain⟨q1,q2,_,_⟩:=a8h c but i;have e:(n+1)*(but.length+1)=n*(but.length+1)+(but.length+1):=by rw[Nat.add_mul];omega
    obtain⟨c1,c2,_⟩:=a4o (a3j c but i) c (by omega);obtain⟨_,g,hsz⟩:=b2z hx (by omega) s (a0y c (a3j c but i)) c1;obtain⟨r1,r2,r3,r4⟩:=ih _ (a3j c but i+1) (by omega) g (by omega) (by omega);refine⟨r1,?_,?_,fun s' hs'=>?_⟩
    · rw[a0t,a1e];simp only;omega
    · rw[a0t,a1e];simp only[List.length_cons];omega
    · rcases List.mem_cons.1 hs' with rfl|hs'
      · exact⟨c2,c1⟩
      · exact r4 s' hs'
theorem e7w(c:UInt8)(but:List (List UInt8))(hbut:but.length<1000000)(t0:Ty)(hg0:GT t0)(hb0:t0.sz<20000)(hi0:t0.sz*(but.length+1)≤900000000):
 den E 147 [tyV t0,.str [c],.slice (but.map .str)] []=some (.tup [.slice ((b0g c but t0.sz t0 0).1.map .str),tyV (b0g c but t0.sz t0 0).2],[]):=by
 rw[a0d g8q,h5q,a0a t0];simp only[go_sem,Tryz.f147];refine a0p (fun a:PeelS=>a.t.sz≤a.n∧GT a.t∧a.t.sz<20000∧a.i+a.n*(but.length+1)≤900000000∧a.ns.length+a.n≤t0.sz)
  (fun a=>⟨[(1,.str [c]),(2,.slice (but.map .str)),(3,.ptr (.loc 3) 0),(7,.ptr (.loc 7) 0),(8,.own 9 0 (a.ns.map .str)),(9,.int .i64 a.i)],[],[(3,[.int .i64 a.t.kind,.str a.t.name,.int .i64 a.t.n,.slice (a2o a.t.args)]),(7,zTR)],1⟩)
  (fun a=>some (.tup [.slice ((a.ns++(b0g c but a.n a.t a.i).1).map .str),tyV (b0g c but a.n a.t a.i).2],[])) (fun a=>a.n) ⟨[],t0.sz,t0,0⟩ ⟨Nat.le_refl _,hg0,hb0,by show 0+t0.sz*(but.length+1)≤900000000;omega,by simp⟩ ?_ ?_
 · simp only[go_sem,zTR]
 · rintro⟨ns,n,t,i⟩ ⟨hn,hg,hb,hi,hl⟩ h;simp only at hn hg hb hi hl⊢;cases hk:t.kind==5
   · rw[b7c c but n t i hk,List.append_nil,a0a t];simp only[go_sem,hk,zTR]
   · obtain⟨s,x,rfl,hs,hx⟩:=hg.all_inv hk;rw[a0t,a1e] at hn hb;obtain⟨m,rfl⟩:∃m,n=m+1:=⟨n - 1,by omega⟩
     rw[c7f];obtain⟨q1,q2,q3,q4⟩:=a8h c but i;have e:(m+1)*(but.length+1)=m*(but.length+1)+(but.length+1):=by rw[Nat.add_mul];omega
     obtain⟨c1,c2,_⟩:=a4o (a3j c but i) c (by omega);obtain⟨dp,g,hsz⟩:=b2z hx (by omega) s (a0y c (a3j c but i)) c1;generalize hN:a3j c but i=N at *;have m0:=(a4o i c (by omega)).2.2;have d0:=a4h i (by omega);have e0:=c2r but (a0y c i) hbut;simp only[Ty.kind,Ty.name,Ty.n,Ty.args,a1a,a0e];rw[a4c,a0e] at dp;rw[a0a x] at dp⊢;rw[a0a (putD _ _ _)] at dp;obtain⟨fin,hfin⟩:∃fin,fin=(some (.tup [.slice ((ns++(a0y c N::(b0g c but m (putD x s (.mk 1 (a0y c N) 0 [])) (N+1)).1)).map .str),tyV (b0g c but m (putD x s (.mk 1 (a0y c N) 0 [])) (N+1)).2],[]):Option (AVal×a2z)):=⟨_,rfl⟩
     rw[←hfin];unfold a0y at e0;simp only[go_sem,d0,m0,e0];refine a0p (fun j:Nat=>i≤j∧j≤N) (fun j=>⟨[(1,.str [c]),(2,.slice (but.map .str)),(3,.ptr (.loc 3) 0),(7,.ptr (.loc 7) 0),(8,.own 9 0 (ns.map .str)),(9,.int .i64 j),(10,.bool (but.contains (c::Lib.itoa (j:Int))))],[],
      [(3,[.int .i64 5,.str s,.int .i64 0,.slice [.agg [.int .i64 x.kind,.str x.name,.int .i64 x.n,.slice (a2o x.args)]]]),(7,zTR)],1⟩) (fun _=>fin) (fun j=>N - j) i ⟨Nat.le_refl _,q1⟩ ?_ ?_
     · simp only[go_sem,zTR]
     · intro j hj hh;obtain⟨p,hp⟩:∃p:Nat,p=j+1:=⟨_,rfl⟩
       have w1:IntKind.i64.wrap ((j:Int)+1)=(p:Int):=by rw[hp];exact a1c (j+1) (by omega)
       by_cases hlt:j<N
       · have hcj:=q4 j hj.1 hlt;have d1:=a4h p (by omega);have e1:=c2r but (a0y c p) hbut;have m1:=(a4o p c (by omega)).2.2;unfold a0y at e1 hcj;simp only[go_sem,hcj,w1,d1,m1,e1];refine hh p _ ⟨by omega,by omega⟩ (by omega) ?_;simp only[go_sem,zTR]
       · have hje:j=N:=by omega
         subst hje;have d1:=a4h j (by omega);have m1:=(a4o j c (by omega)).2.2;have hcj:=q3;unfold a0y at hcj;unfold a0y at dp;have a1:ns.length+1≤a0l:=by unfold a0l;omega
         simp only[go_sem,hcj,d1,m1,w1,List.length_map,a1,Int.le_refl,Int.toNat_zero,dp,zTR];rw[hfin];have:=h ⟨ns++[a0y c j],m,putD x s (.mk 1 (a0y c j) 0 []),p⟩;rw[←hp];simp only[List.append_assoc,List.cons_append,List.nil_append] at this;refine this _ ⟨by omega,g,by omega,by omega,by simp;omega⟩ (by omega) ?_;simp only[go_sem,List.map_append,zTR,a0y]
theorem e7x:∀(n:Nat) (t:Ty),t.sz≤n→t.sz<1000000→den E 148 [tyV t] []=some (.bool (b1k t),[]):=by
 intro n
 induction n with
 | zero=>intro t h;have:=a2f t;omega
 | succ n ih=>
  intro t hn hb;have hsz:=a2f t;have rl:=a1k t.args;have hal:=a4v t;have hp:b1k t=(t.kind==5||a9i t.args):=by cases t;rfl
  rw[hp,a0d g8p,h5p,a0a t];cases k5:t.kind==5
  · simp only[go_sem,Tryz.f148,k5];refine a0p (fun i:Nat=>i≤t.args.length) (fun i=>⟨[(1,.ptr (.loc 1) 0),(3,.int .i64 i)],[],[(1,tyC t)],1⟩) (fun i=>some (.bool (a9i (t.args.drop i)),[])) (fun i=>t.args.length - i) 0 (Nat.zero_le _) ?_ ?_
    · simp only[go_sem,tyC]
    · intro i hi h
      by_cases hlt:i<t.args.length
      · obtain⟨x,hx⟩:=a6u hlt;have hxs:=a2i (List.mem_of_getElem? hx);have d:=ih x (by omega) (by omega);have w1:IntKind.i64.wrap ((i:Int)+1)=((i+1:Nat):Int):=a1c (i+1) (by omega);rw[a1z hx,a8g];rw[a0a x] at d;cases hq:b1k x
        · rw[hq] at d;simp only[go_sem,a0f,decide_eq_true hlt,rl,a0c,a0i,a4r,hx,a0a x,tyC,d];refine h (i+1) _ (by omega) (by omega) ?_;simp only[go_sem,w1,tyC]
        · rw[hq] at d;simp only[go_sem,a0f,decide_eq_true hlt,rl,a0c,a0i,a4r,hx,a0a x,tyC,d]
      · have hie:i=t.args.length:=by omega
        subst hie;rw[List.drop_length];simp only[go_sem,a0f,Nat.lt_irrefl,rl,tyC,a9i]
  · simp only[go_sem,Tryz.f148,k5]
def arL:List De→List UInt8→Int
 | [],_=> -1
 | d::r,n=>if d.kind==1&&d.name==n then (d.vars.length:Int) else arL r n
def arD(l:List De)(n:List UInt8):Int:=if n==[65,110,121] then 0 else arL l n
theorem d7n(l:List De)(n:List UInt8)(hl:l.length<1000000):den E 36 [.slice (l.map deV),.str n] []=some (.int .i64 (arD l n),[]):=by
 unfold arD;rw[a0d i6y,j0p];cases ha:n==[65,110,121]
 · simp only[go_sem,Tryz.f36,ha];refine a0p (fun i:Nat=>i≤l.length) (fun i=>⟨[(0,.slice (l.map deV)),(1,.str n),(5,.int .i64 i)],[],[],1⟩) (fun i=>some (.int .i64 (arL (l.drop i) n),[])) (fun i=>l.length - i) 0 (Nat.zero_le _) ?_ ?_
   · simp only[go_sem]
   · intro i hi h
     by_cases hlt:i<l.length
     · obtain⟨d,hx⟩:=a6u hlt;rw[a1z hx,arL];have w1:IntKind.i64.wrap ((i:Int)+1)=((i+1:Nat):Int):=a1c (i+1) (by omega);have hdl:(l.map deV)[i]? =some (deV d):=by simp[hx]
       cases k1:d.kind==1<;>cases hn:d.name==n<;>
       simp only[go_sem,List.length_map,a0f,decide_eq_true hlt,a0c,a0i,hdl,deV,deC,k1,hn]
       all_goals (refine h (i+1) _ (by omega) (by omega) ?_;simp only[go_sem,w1])
     · have hie:i=l.length:=by omega
       subst hie;rw[List.drop_length];simp only[go_sem,List.length_map,a0f,Nat.lt_irrefl,arL]
 · simp only[go_sem,Tryz.f36,ha]
mutual
def d9e(l:List De):Ty→Bool
 | .mk k s _ ts=> !(k==2||(k==3&&arD l s !=(ts.length:Int)))&&c3x l ts
def c3x(l:List De):List Ty→Bool
 | []=>true
 | t::r=>d9e l t&&c3x l r
end
theorem c8g(l:List De)(t:Ty)(r:List Ty):c3x l (t::r)=(d9e l t&&c3x l r):=rfl
theorem e5q(l:List De)(t:Ty):d9e l t=(!(t.kind==2||(t.kind==3&&arD l t.name !=(t.args.length:Int)))&&c3x l t.args):=by cases t;rfl
theorem d3x(l:List De)(hl:l.length<1000000):∀(n:Nat) (t:Ty),t.sz≤n→t.sz<1000000→den E 97 [.slice (l.map deV),tyV t] []=some (.bool (d9e l t),[]):=by
 intro n
 induction n with
 | zero=>intro t h;have:=a2f t;omega
 | succ n ih=>
  intro t hn hb;have hsz:=a2f t;have rl:=a1k t.args;have hal:=a4v t;have da:=d7n l t.name hl;rw[e5q,a0d i6a,i9t,a0a t];have loop:den E 97 [.slice (l.map deV),tyV t] []=den E 97 [.slice (l.map deV),tyV t] []:=rfl;cases k2:t.kind==2<;>cases k3:t.kind==3<;>cases hne:arD l t.name !=(t.args.length:Int)<;>
  simp only[go_sem,Tryz.f97,k2,k3,da,rl,hne]
  all_goals
   refine a0p (fun i:Nat=>i≤t.args.length) (fun i=>⟨[(0,.slice (l.map deV)),(3,.ptr (.loc 3) 0),(5,.int .i64 i)],[],[(3,tyC t)],1⟩) (fun i=>some (.bool (c3x l (t.args.drop i)),[])) (fun i=>t.args.length - i) 0 (Nat.zero_le _) ?_ ?_
   · simp only[go_sem,tyC]
   · intro i hi h
     by_cases hlt:i<t.args.length
     · obtain⟨x,hx⟩:=a6u hlt;have hxs:=a2i (List.mem_of_getElem? hx);have d:=ih x (by omega) (by omega);have w1:IntKind.i64.wrap ((i:Int)+1)=((i+1:Nat):Int):=a1c (i+1) (by omega);rw[a1z hx,c8g];rw[a0a x] at d;cases hq:d9e l x
       · rw[hq] at d;simp only[go_sem,a0f,decide_eq_true hlt,rl,a0c,a0i,a4r,hx,a0a x,tyC,d]
       · rw[hq] at d;simp only[go_sem,a0f,decide_eq_true hlt,rl,a0c,a0i,a4r,hx,a0a x,tyC,d];refine h (i+1) _ (by omega) (by omega) ?_;simp only[go_sem,w1,tyC]
     · have hie:i=t.args.length:=by omega
       subst hie;rw[List.drop_length];simp only[go_sem,a0f,Nat.lt_irrefl,rl,tyC,c3x]
def b8a(l:List De)(t:Ty):Int:=if d9e l t then (if a0n t [] []=[] then 0 else 111) else 110
theorem b9a(l:List De)(hl:l.length<1000000)(t:Ty)(hg:GT t∨t=zTy)(hb:t.sz<900000):den E 39 [.slice (l.map deV),tyV t] []=some (.int .i64 (b8a l t),[]):=by
 have d:=d3x l hl _ t (Nat.le_refl _) (by omega);have df:=b2y t hg hb;rw[a0d i6x,j0o];unfold b8a;rw[a0a t] at d df⊢;cases hf:d9e l t
 · rw[hf] at d;simp only[go_sem,Tryz.f39,d]
 · rw[hf] at d;cases hfr:a0n t [] [] with
   | nil=>
    rw[hfr] at df;have h00:decide ((0:Int)>0)=false:=rfl;simp only[go_sem,Tryz.f39,d,df,h00]
   | cons x r=>
    have hgt:decide (((r.length:Int)+1)>0)=true:=by simp
    have hgt2:decide ((((r.length+1:Nat)):Int)>0)=true:=by simp
    rw[hfr] at df;simp only[go_sem,Tryz.f39,d,df,List.length_map,List.length_cons,hgt2]
def mk1(names:List (List UInt8)):List Ty→Nat→List (List UInt8)→List Nat→Nat ⊕ (List (List UInt8)×List Nat)
 | [],_,c,g=>.inr (c,g)
 | t::r,i,c,g=>if b1k t then .inl i else if t.kind==1&&(decide (0≤atD names t.name 0)&&c.getD (atD names t.name 0).toNat []==[]) then mk1 names r (i+1) (c.set (atD names t.name 0).toNat (a4l i)) g else mk1 names r (i+1) c (g++[i])
def mk2:Nat→Nat→List (List UInt8)→List (List UInt8)→List (List UInt8)×List (List UInt8)
 | 0,_,c,ex=>(c,ex)
 | n+1,i,c,ex=>if c.getD i []==[] then mk2 n (i+1) (c.set i (b0j ex.length)) (ex++[b0j ex.length]) else mk2 n (i+1) c ex
def mk3(es:List (List UInt8×List UInt8))(ts:List Ty):List Nat→List Gv→List Gv
 | [],acc=>acc
 | k::r,acc=>mk3 es ts r (acc++[⟨f3a acc.length,.mk 1 (a4l k) 0 [],c0c es (ts.getD k zTy)⟩])
def cxD(d:De)(c:Co)(un ex:List (List UInt8))(gs:List Gv)(ts:List Ty):CX:=⟨c.name,d.name,0,c.ty,un,ex,gs,ts⟩
def f7t(d:De)(c:Co)(names:List (List UInt8))(args:List Ty)(ts:List Ty):Nat ⊕ (List (List UInt8)×List Nat)→CX×Bool
 | .inl i=>(cxD d c ((List.range i).map a4l) [] [] [],false)
 | .inr a=>(cxD d c ((List.range ts.length).map a4l) (mk2 names.length 0 a.1 []).2 (mk3 (names.zip (mk2 names.length 0 a.1 []).1) ts a.2 []) (args.map (c0c (names.zip (mk2 names.length 0 a.1 []).1))),true)
def b7z(d:De)(c:Co):CX×Bool:=
 let p:=b0g 112 (a0n c.ty [] []) c.ty.sz c.ty 0
 let q:=spF p.2.sz p.2 []
 if q.2.kind==3&&q.2.name==d.name then f7t d c p.1 q.1 q.2.args (mk1 p.1 q.2.args 0 (List.replicate p.1.length []) [])
 else (cxD d c [] [] [] [],false)
def xBD(c:Co)(d:De)(univ exis:List (List UInt8))(gs:List Gv)(ts:List Ty):List AVal:=[.str c.name,.str d.name,.int .i64 0,.int .i64 c.ty.kind,.str c.ty.name,.int .i64 c.ty.n,.slice (a2o c.ty.args),.own 9 0 (univ.map .str),.own 9 0 (exis.map .str),.own 176 0 (gs.map gvV),.own 38 0 (a2o ts)]
def zBD:List AVal:=[.str [],.str [],.int .i64 0,.int .i64 0,.str [],.int .i64 0,.own 38 0 [],.own 9 0 [],.own 9 0 [],.own 176 0 [],.own 38 0 []]
attribute [go_sem] xBD zBD
theorem c5k(names:List (List UInt8))(t:Ty)(r:List Ty)(i:Nat)(c:List (List UInt8))(g:List Nat):mk1 names (t::r) i c g=if b1k t then .inl i else if t.kind==1&&(decide (0≤atD names t.name 0)&&c.getD (atD names t.name 0).toNat []==[]) then mk1 names r (i+1) (c.set (atD names t.name 0).toNat (a4l i)) g else mk1 names r (i+1) c (g++[i]):=rfl
theorem d4w(n i:Nat)(c ex:List (List UInt8)):mk2 (n+1) i c ex=if c.getD i []==[] then mk2 n (i+1) (c.set i (b0j ex.length)) (ex++[b0j ex.length]) else mk2 n (i+1) c ex:=rfl
theorem d4v(es:List (List UInt8×List UInt8))(ts:List Ty)(k:Nat)(r:List Nat)(acc:List Gv):mk3 es ts (k::r) acc=mk3 es ts r (acc++[⟨f3a acc.length,.mk 1 (a4l k) 0 [],c0c es (ts.getD k zTy)⟩]):=rfl
theorem h8b(s:List UInt8):∀(l:List (List UInt8)) (i:Nat),0≤atD l s i→(atD l s i).toNat<i+l.length∧i≤(atD l s i).toNat
 | [],i,h=>by simp[atD] at h
 | x::r,i,h=>by
  rw[atD] at h⊢;split
  · rw[Int.toNat_natCast,List.length_cons];omega
  · rename_i hx;rw[if_neg hx] at h;have:=h8b s r (i+1) h;rw[List.length_cons];omega
theorem f7i(names:List (List UInt8)):∀(l:List Ty) (i:Nat) (c:List (List UInt8)) (g:List Nat) (a:List (List UInt8)×List Nat),mk1 names l i c g=.inr a→i+l.length≤100000000→(∀s∈c,s.length≤16)→(∀k∈g,k<i)→g.length≤i→
 a.1.length=c.length∧(∀s∈a.1,s.length≤16)∧(∀k∈a.2,k<i+l.length)∧a.2.length≤i+l.length
 | [],i,c,g,a,h,_,hc,hg,hgl=>by
  simp only[mk1,Sum.inr.injEq] at h;subst h;exact⟨rfl,hc,fun k hk=>by have:=hg k hk;simp;omega,by simp;omega⟩
 | t::r,i,c,g,a,h,hb,hc,hg,hgl=>by
  rw[c5k] at h;simp only[List.length_cons] at hb⊢;split at h
  · cases h
  · split at h
    · obtain⟨q1,q2,q3,q4⟩:=f7i names r (i+1) _ g a h (by omega) (fun s hs=>by
       rcases List.mem_or_eq_of_mem_set hs with hs|rfl
       · exact hc s hs
       · exact (a5b 117 i (by omega)).1) (fun k hk=>by have:=hg k hk;omega) (by omega)
      exact⟨by rw[q1,List.length_set],q2,fun k hk=>by have:=q3 k hk;omega,by omega⟩
    · obtain⟨q1,q2,q3,q4⟩:=f7i names r (i+1) c (g++[i]) a h (by omega) hc (fun k hk=>by
       rcases List.mem_append.1 hk with hk|hk
       · have:=hg k hk;omega
       · simp at hk;omega) (by simp;omega)
      exact⟨q1,q2,fun k hk=>by have:=q3 k hk;omega,by omega⟩
theorem f7h:∀(n i:Nat) (c ex:List (List UInt8)),ex.length+n≤100000000→(∀s∈c,s.length≤16)→(mk2 n i c ex).1.length=c.length∧(∀s∈(mk2 n i c ex).1,s.length≤16)∧(mk2 n i c ex).2.length≤ex.length+n
 | 0,i,c,ex,_,hc=>⟨rfl,hc,by simp[mk2]⟩
 | n+1,i,c,ex,hb,hc=>by
  rw[d4w];split
  · obtain⟨q1,q2,q3⟩:=f7h n (i+1) (c.set i (b0j ex.length)) (ex++[b0j ex.length]) (by simp;omega) (fun s hs=>by
     rcases List.mem_or_eq_of_mem_set hs with hs|rfl
     · exact hc s hs
     · exact (a5b 101 ex.length (by omega)).1)
    exact⟨by rw[q1,List.length_set],q2,by simp at q3;omega⟩
  · obtain⟨q1,q2,q3⟩:=f7h n (i+1) c ex (by omega) hc;exact⟨q1,q2,by omega⟩
theorem d3k:∀(n:Nat) (t:Ty) (acc:List Ty),GT t→∀x∈(spF n t acc).1,x∈acc∨x.sz≤t.sz
 | 0,t,acc,_,x,hx=>.inl hx
 | n+1,t,acc,hg,x,hx=>by
  cases hk:t.kind==4
  · rw[a8r _ t acc hk] at hx;exact .inl hx
  · obtain⟨u,v,rfl,hu,hv⟩:=hg.fn_inv hk;rw[b9z] at hx;rw[a0t,a1g];rcases d3k n v _ hv x hx with h|h
    · rcases List.mem_append.1 h with h|h
      · exact .inl h
      · rw[List.mem_singleton.1 h];exact .inr (by omega)
    · exact .inr (by omega)
theorem e3r:∀n:Nat,c5a n [AVal.str []]=(List.replicate n ([]:List UInt8)).map .str
 | 0=>rfl
 | n+1=>by
  have:=e3r n;rw[List.replicate_succ,List.map_cons,←this];rfl
theorem e7e(m:Nat)(l:List (List UInt8)):List.map a2y (List.map (a4m m) (l.map AVal.str))=l.map .str:=by
 rw[List.map_map,List.map_map];rfl
theorem d7a(l:List (List UInt8))(i:Nat)(h:i<l.length):(l.map AVal.str)[i]? =some (.str (l.getD i [])):=by
 rw[List.getElem?_map,List.getD_eq_getElem?_getD,List.getElem?_eq_getElem h];rfl
structure M1S where
 i:Nat
 c:List (List UInt8)
 g:List Nat
structure M2S where
 i:Nat
 c:List (List UInt8)
 ex:List (List UInt8)
theorem a7d:∀l:List (List UInt8),(l.map AVal.str).flatMap a1l=[]
 | []=>rfl
 | x::l=>by rw[List.map_cons,List.flatMap_cons,a7d l];rfl
theorem d0j:∀l:List (List UInt8),(l.map AVal.str).map strip1=l.map .str
 | []=>rfl
 | x::l=>by rw[List.map_cons,List.map_cons,d0j l];rfl
theorem d6z:∀l:List (List UInt8),(l.map AVal.str).all c7c=true
 | []=>rfl
 | x::l=>by rw[List.map_cons,List.all_cons,d6z l];rfl
theorem c6q:∀l:List (List UInt8),b2a false 1 l.length (l.map AVal.str)=l.map .str
 | []=>rfl
 | x::l=>by rw[List.length_cons,b2a,List.map_cons];simp only[List.headD_cons,List.drop_succ_cons,List.drop_zero,Bool.false_eq_true,if_false,c6q l]
theorem a7w(l:List (List UInt8)):List.map a2y (l.map AVal.str)=l.map .str:=by rw[List.map_map];rfl
theorem e2y{l:List (List UInt8)}{q:Nat}(h:q<l.length)(s:List UInt8):List.map a2y (List.take q (l.map AVal.str))++AVal.str s::List.map a2y (List.drop (q+1) (l.map AVal.str))=(l.set q s).map .str:=by
 rw[←List.map_take,←List.map_drop,a7w,a7w,List.set_eq_take_append_cons_drop,if_pos h,List.map_append,List.map_cons]
theorem f3f:∀ {a b:List (List UInt8)},b.length=a.length→((a.zip b).map fun p=>AVal.str p.1)=a.map .str
 | [],_,_=>rfl
 | x::a,[],h=>by simp at h
 | x::a,y::b,h=>by rw[List.zip_cons_cons,List.map_cons,List.map_cons,f3f (a:=a) (b:=b) (by simpa using h)]
theorem f3e:∀ {a b:List (List UInt8)},b.length=a.length→((a.zip b).map fun p=>AVal.str p.2)=b.map .str
 | [],[],_=>rfl
 | [],y::b,h=>by simp at h
 | x::a,[],h=>by simp at h
 | x::a,y::b,h=>by rw[List.zip_cons_cons,List.map_cons,List.map_cons,f3e (a:=a) (b:=b) (by simpa using h)]
theorem c7b(d:De)(c:Co)(hg:GT c.ty)(hb:c.ty.sz<12000):den E 83 [.agg (deC d),coV c] []=some (.tup [.agg (xcC (b7z d c).1),.bool (b7z d c).2],[]):=by
 have hfl:=a2v _ c.ty (Nat.le_refl _) [] [];simp only[List.length_nil,Nat.zero_add] at hfl;have hbd:c.ty.sz*((a0n c.ty [] []).length+1)≤900000000:=Nat.le_trans (Nat.mul_le_mul (show c.ty.sz≤12000 by omega) (show _≤12001 by omega)) (by omega);have df:=b2y c.ty (.inl hg) (by omega);have dp:=e7w 112 (a0n c.ty [] []) (by omega) c.ty hg (by omega) hbd;obtain⟨g1,s1,n1,o1⟩:=d4e 112 (a0n c.ty [] []) c.ty.sz c.ty 0 (Nat.le_refl _) hg (by omega) (by omega);obtain⟨X,hX⟩:∃X,X=b7z d c:=⟨_,rfl⟩
 rw[←hX];unfold b7z at hX;simp only at hX;generalize b0g 112 (a0n c.ty [] []) c.ty.sz c.ty 0=p at *;obtain⟨names,body⟩:=p;simp only at dp g1 s1 n1 o1 hX;have hasz:∀x∈(spF body.sz body []).1,x.sz≤body.sz:=fun x hx=>by
  rcases d3k body.sz body [] g1 x hx with h|h
  · cases h
  · exact h
 obtain⟨g2,s2,a2,n2⟩:=b9y body.sz body [] (Nat.le_refl _) g1 (fun x hx=>by cases hx) (by omega);rw[a0a c.ty] at df dp;rw[a0a body] at dp;rw[a0d i6k,j0d];obtain⟨fin,hfin⟩:∃fin,fin=(some (.tup [.agg (xcC X.1),.bool X.2],[]):Option (AVal×a2z)):=⟨_,rfl⟩
 rw[←hfin];simp only[go_sem,Tryz.f83,deC,coV,df,dp];refine a0p (fun a:SpS=>a.t.sz≤a.n∧GT a.t∧a.t.sz<300000∧a.acc.length+a.n≤body.sz∧spF a.n a.t a.acc=spF body.sz body [])
  (fun a=>⟨[(2,.ptr (.loc 2) 0),(4,.ptr (.loc 4) 0),(6,.slice (names.map .str)),(7,.ptr (.loc 7) 0),(8,.ptr (.loc 8) 0),(9,.own 38 0 (a2o a.acc))],[],[(2,deC d),(4,zBD),(7,tB a.t),(8,xBD c d [] [] [] [])],1⟩)
  (fun _=>fin) (fun a=>a.n) ⟨body.sz,body,[]⟩ ⟨Nat.le_refl _,g1,by show body.sz<300000;omega,by simp,rfl⟩ ?_ ?_
 · simp only[go_sem,deC,a0e]
 · rintro⟨n,t,acc⟩ ⟨hn,hgt,hbt,hl,hsp⟩ h;simp only at hn hgt hbt hl hsp⊢;cases hk:t.kind==4
   · rw[a8r n t acc hk] at hsp;rw[←hsp] at hX g2 s2 a2 n2 hasz;simp only at hX g2 s2 a2 n2 hasz;cases k3:t.kind==3
     · rw[k3] at hX;simp only[Bool.false_and,Bool.false_eq_true,if_false] at hX;subst hX;simp only[cxD,xcC] at hfin;simp only[go_sem,deC,hk,k3,bne,hfin,a0e,List.map_nil]
     · cases kn:t.name==d.name
       · rw[k3,kn] at hX;simp only[Bool.and_false,Bool.false_eq_true,if_false] at hX;subst hX;simp only[cxD,xcC] at hfin;simp only[go_sem,deC,hk,k3,kn,bne,hfin,a0e,List.map_nil]
       · rw[k3,kn] at hX;simp only[Bool.and_self,if_true] at hX;have hta:=g2.args;have hal:=a4v t;have hts:=a2f t;have rl:=a1k t.args;have rla:=a1k acc;have mk0:∀m,List.map a2y (List.map (a4m m) (c5a names.length [AVal.str []]))=(List.replicate names.length ([]:List UInt8)).map .str:=fun m=>by rw[e3r,e7e]
         have l1:((names.length:Int)≤1073741824)=True:=by simp;omega
         simp only[go_sem,deC,hk,k3,kn,bne,a0c,a0i,l1,List.length_map];clear h;refine a0p (fun a:M1S=>a.i≤t.args.length∧mk1 names (t.args.drop a.i) a.i a.c a.g=mk1 names t.args 0 (List.replicate names.length []) []∧a.g.length≤a.i∧a.c.length=names.length)
          (fun a=>⟨[(4,.ptr (.loc 4) 0),(6,.slice (names.map .str)),(7,.ptr (.loc 7) 0),(8,.ptr (.loc 8) 0),(9,.own 38 0 (a2o acc)),(10,.ptr (.loc 62) (a2d+names.length)),(11,.own 3 0 (a.g.map e0g)),(12,.int .i64 a.i)],[],[(4,zBD),(7,tB t),(8,xBD c d ((List.range a.i).map a4l) [] [] []),(62,a.c.map .str)],1⟩)
          (fun _=>fin) (fun a=>t.args.length - a.i) ⟨0,List.replicate names.length [],[]⟩ ⟨Nat.zero_le _,rfl,Nat.le_refl _,by simp⟩ ?_ ?_
         · simp only[go_sem,mk0,List.range_zero,a0e,a7d]
         · rintro⟨i,cl,gi⟩ ⟨hi,hlp,hgi,hcl⟩ h;simp only at hi hlp hgi hcl⊢
           by_cases hlt:i<t.args.length
           · obtain⟨x,hx⟩:=a6u hlt;rw[a1z hx,c5k] at hlp;have hxs:=a2i (List.mem_of_getElem? hx);have w1:IntKind.i64.wrap ((i:Int)+1)=((i+1:Nat):Int):=a1c (i+1) (by omega);have d1:=a4h i (by omega);have m1:=(a5b 117 i (by omega)).2.2;have dpo:=e7x _ x (Nat.le_refl _) (by omega);have dat:=f5p names x.name (by omega);rw[a0a x] at dpo;have a1:i+1≤a0l:=by unfold a0l;omega
             have a2:gi.length+1≤a0l:=by unfold a0l;omega
             have hrg:((List.range i).map a4l).length=i:=by simp
             have hrs:=d0u i;have hgt2:(((List.range i).map a4l).map AVal.str++[.str (117::Lib.itoa (i:Int))])[i]? =some (.str (117::Lib.itoa (i:Int))):=by
              rw[List.getElem?_append_right (by simp)];simp
             cases hpx:b1k x
             · rw[hpx] at dpo hlp;simp only[Bool.false_eq_true,if_false] at hlp;cases kx:x.kind==1
               · rw[kx] at hlp;simp only[Bool.false_and,Bool.false_eq_true,if_false] at hlp;have hm1:decide ((-1:Int)≥0)=false:=rfl;simp only[go_sem,a0f,decide_eq_true hlt,rl,a0c,a0i,a4r,hx,a0a x,dpo,d1,m1,kx,hm1,List.length_map,hrg,a1,a2];refine h ⟨i+1,cl,gi++[i]⟩ _ ⟨show i+1≤t.args.length by omega,hlp,by simp;omega,hcl⟩ (show t.args.length - (i+1)<t.args.length - i by omega) ?_;simp only[go_sem,w1,List.map_append,a4l,e0g,a7d,a7w]
               · rw[kx] at hlp;simp only[Bool.true_and] at hlp
                 by_cases h0:0≤atD names x.name 0
                 · obtain⟨q,hq⟩:=Int.eq_ofNat_of_zero_le h0;have hql:=(h8b x.name names 0 h0).1;rw[hq] at hlp hql dat
                   simp only[Int.toNat_natCast,Nat.zero_add] at hlp hql;have hge:decide ((q:Int)≥0)=true:=by simp
                   have hsd:=d7a cl q (by omega);have i1:((q:Int)<(names.length:Int))=True:=by simp;omega
                   have i2:(q<a2d)=True:=by rw[a7q];simp;omega
                   have cll:(cl.map AVal.str).length=names.length:=by rw[List.length_map];exact hcl
                   have i3:(q+1≤names.length)=True:=by simp;omega
                   have i4:(q<names.length)=True:=by simp;omega
                   have hst:=e2y (l:=cl) (q:=q) (by omega) (a4l i);unfold a4l at hst;cases hem:cl.getD q []==[]
                   · rw[hem] at hlp;simp only[Bool.and_false,Bool.false_eq_true,if_false] at hlp;simp only[go_sem,a0f,decide_eq_true hlt,rl,a0c,a0i,a4r,hx,a0a x,dpo,d1,m1,kx,dat,hsd,Nat.mul_one,i1,i2,hem,List.length_map,hrg,a1,a2];refine h ⟨i+1,cl,gi++[i]⟩ _ ⟨show i+1≤t.args.length by omega,hlp,by simp;omega,hcl⟩ (show t.args.length - (i+1)<t.args.length - i by omega) ?_;simp only[go_sem,w1,List.map_append,a4l,e0g,a7d,a7w]
                   · rw[hem] at hlp;simp only[Int.natCast_nonneg,decide_true,Bool.and_self,if_true] at hlp;simp only[go_sem,a0f,decide_eq_true hlt,rl,a0c,a0i,a4r,hx,a0a x,dpo,d1,m1,kx,dat,hsd,Nat.mul_one,i1,i2,i3,cll,hem,List.length_map,hrg,a1,hgt2];refine h ⟨i+1,cl.set q (a4l i),gi⟩ _ ⟨show i+1≤t.args.length by omega,hlp,show gi.length≤i+1 by omega,by rw[List.length_set];exact hcl⟩ (show t.args.length - (i+1)<t.args.length - i by omega) ?_;simp only[go_sem,w1,List.map_append,a4l,a7d,hst]
                 · rw[decide_eq_false h0] at hlp;simp only[Bool.false_and,Bool.false_eq_true,if_false] at hlp;have hge:decide (atD names x.name 0≥0)=false:=by simp;omega
                   simp only[go_sem,a0f,decide_eq_true hlt,rl,a0c,a0i,a4r,hx,a0a x,dpo,d1,m1,kx,dat,hge,List.length_map,hrg,a1,a2];refine h ⟨i+1,cl,gi++[i]⟩ _ ⟨show i+1≤t.args.length by omega,hlp,by simp;omega,hcl⟩ (show t.args.length - (i+1)<t.args.length - i by omega) ?_;simp only[go_sem,w1,List.map_append,a4l,e0g,a7d,a7w]
             · rw[hpx] at dpo hlp;simp only[if_true] at hlp;rw[←hlp] at hX;subst hX;simp only[f7t,cxD,xcC] at hfin;simp only[go_sem,a0f,decide_eq_true hlt,rl,a0c,a0i,a4r,hx,a0a x,dpo,hfin,a0e,List.map_nil]
           · have hie:i=t.args.length:=by omega
             subst hie;rw[List.drop_length] at hlp;have hlp:Sum.inr (cl,gi)=mk1 names t.args 0 (List.replicate names.length []) []:=hlp;obtain⟨k1l,k1s,k1g,k1n⟩:=f7i names t.args 0 _ [] (cl,gi) hlp.symm (by omega) (fun s hs=>by rw[(List.mem_replicate.1 hs).2];exact Nat.zero_le _) (fun k hk=>by cases hk) (Nat.le_refl _);simp only at k1l k1s k1g k1n;rw[←hlp] at hX;unfold f7t at hX;simp only at hX;obtain⟨k2l,k2s,k2n⟩:=f7h names.length 0 cl [] (by simp;omega) k1s;obtain⟨C2,EX,hC2⟩:∃C2 EX,mk2 names.length 0 cl []=(C2,EX):=⟨_,_,rfl⟩
             rw[hC2] at hX k2l k2s k2n;simp only[List.length_nil,Nat.zero_add] at hX k2l k2s k2n;have e15:(names.length - 0)=names.length:=rfl;simp only[go_sem,a0f,Nat.lt_irrefl,rl];clear h;refine a0p (fun a:M2S=>a.i≤names.length∧mk2 (names.length - a.i) a.i a.c a.ex=(C2,EX)∧a.ex.length≤a.i∧a.c.length=names.length)
              (fun a=>⟨[(4,.ptr (.loc 4) 0),(6,.slice (names.map .str)),(7,.ptr (.loc 7) 0),(8,.ptr (.loc 8) 0),(9,.own 38 0 (a2o acc)),(10,.ptr (.loc 62) (a2d+names.length)),(11,.own 3 0 (gi.map e0g)),(15,.int .i64 a.i)],[],[(4,zBD),(7,tB t),(8,xBD c d ((List.range t.args.length).map a4l) a.ex [] []),(62,a.c.map .str)],1⟩)
              (fun _=>fin) (fun a=>names.length - a.i) ⟨0,cl,[]⟩ ⟨Nat.zero_le _,hC2,Nat.le_refl _,hcl⟩ ?_ ?_
             · simp only[go_sem,a0e,a7d,a7w]
             · rintro⟨i,cl2,ex⟩ ⟨hi,hlp2,hex,hcl2⟩ h;simp only at hi hlp2 hex hcl2⊢
               by_cases hlt:i<names.length
               · obtain⟨m,hm⟩:∃m,names.length - i=m+1:=⟨names.length - i - 1,by omega⟩
                 have hm2:names.length - (i+1)=m:=by omega
                 rw[hm,d4w] at hlp2;have w1:IntKind.i64.wrap ((i:Int)+1)=((i+1:Nat):Int):=a1c (i+1) (by omega);have d1:=a4h ex.length (by omega);have m1:=(a5b 101 ex.length (by omega)).2.2;have a1:ex.length+1≤a0l:=by unfold a0l;omega
                 have hge:decide ((i:Int)≥0)=true:=by simp
                 have hsd:=d7a cl2 i (by omega);have i1:((i:Int)<(names.length:Int))=True:=by simp;omega
                 have i2:(i<a2d)=True:=by rw[a7q];simp;omega
                 have cll:(cl2.map AVal.str).length=names.length:=by rw[List.length_map];exact hcl2
                 have i3:(i+1≤names.length)=True:=by simp;omega
                 have i4:(i<names.length)=True:=by simp;omega
                 have hst:=e2y (l:=cl2) (q:=i) (by omega) (b0j ex.length);unfold b0j at hst;have hsn:(List.take i (cl2.map AVal.str)++AVal.str (101::Lib.itoa (ex.length:Int))::List.drop (i+1) (cl2.map AVal.str))[i]? =some (.str (101::Lib.itoa (ex.length:Int))):=by
                  rw[List.getElem?_append_right (by rw[List.length_take,cll];omega),List.length_take,cll,Nat.min_eq_left (by omega),Nat.sub_self];rfl
                 cases hem:cl2.getD i []==[]
                 · rw[hem] at hlp2;simp only[Bool.false_eq_true,if_false] at hlp2;simp only[go_sem,a0c,a0i,hsd,Nat.mul_one,i1,i2,hem,List.length_map];refine h ⟨i+1,cl2,ex⟩ _ ⟨show i+1≤names.length by omega,by rw[hm2];exact hlp2,show ex.length≤i+1 by omega,hcl2⟩ (show names.length - (i+1)<names.length - i by omega) ?_;simp only[go_sem,w1,a7d,a7w]
                 · rw[hem] at hlp2;simp only[if_true] at hlp2;simp only[go_sem,a0c,a0i,hsd,Nat.mul_one,i1,i2,i3,cll,hem,List.length_map,d1,m1,a1,hsn];refine h ⟨i+1,cl2.set i (b0j ex.length),ex++[b0j ex.length]⟩ _ ⟨show i+1≤names.length by omega,by rw[hm2];exact hlp2,by simp;omega,by rw[List.length_set];exact hcl2⟩ (show names.length - (i+1)<names.length - i by omega) ?_;simp only[go_sem,w1,List.map_append,b0j,a7d,hst]
               · have hie:i=names.length:=by omega
                 subst hie;rw[Nat.sub_self] at hlp2;have e1:cl2=C2∧ex=EX:=by simpa [mk2] using hlp2
                 obtain⟨rfl,rfl⟩:=e1;have cll:(cl2.map AVal.str).length=names.length:=by rw[List.length_map];exact hcl2
                 have hch:=c6q cl2;rw[hcl2] at hch;have bb:(a2d≤a2d+names.length)=True:=by simp
                 have hzl:(names.zip cl2).length<1000000:=by rw[List.length_zip];omega
                 have hz16:∀p∈names.zip cl2,p.2.length≤16:=fun p hp=>k2s p.2 (List.of_mem_zip (a:=p.1) (b:=p.2) hp).2;have hren:∀y:Ty,GT y→y.sz<20000→den E 150 [tyV y,.slice (names.map .str),.slice (cl2.map .str)] []=some (tyV (c0c (names.zip cl2) y),[]):=fun y h1 h2=>by
                  have:=e7z (names.zip cl2) hzl hz16 y h1 h2
                  rwa[f3f hcl2,f3e hcl2] at this
                 simp only[go_sem,a0f,Nat.lt_irrefl,List.length_map,or_true,cll,bb,d0j,d6z,hch,Nat.add_sub_cancel_left,Nat.mul_one];clear h;refine a0p (fun a:L3S=>a.i≤gi.length∧mk3 (names.zip cl2) t.args (gi.drop a.i) a.gs=mk3 (names.zip cl2) t.args gi []∧a.gs.length=a.i)
                  (fun a=>⟨[(4,.ptr (.loc 4) 0),(6,.slice (names.map .str)),(7,.ptr (.loc 7) 0),(8,.ptr (.loc 8) 0),(9,.own 38 0 (a2o acc)),(10,.slice (cl2.map .str)),(11,.own 3 0 (gi.map e0g)),(16,.int .i64 a.i)],[],[(4,zBD),(7,tB t),(8,xBD c d ((List.range t.args.length).map a4l) ex a.gs [])],1⟩)
                  (fun _=>fin) (fun a=>gi.length - a.i) ⟨0,[]⟩ ⟨Nat.zero_le _,rfl,rfl⟩ ?_ ?_
                 · simp only[go_sem,a0e]
                 · rintro⟨i,gs⟩ ⟨hi,hlp3,hgs⟩ h;simp only at hi hlp3 hgs⊢
                   by_cases hlt:i<gi.length
                   · obtain⟨k,hx⟩:=a6u hlt;rw[a1z hx,d4v,hgs] at hlp3;have hkt:k<t.args.length:=by have:=k1g k (List.mem_of_getElem? hx);omega
                     obtain⟨y,hy⟩:=a6u hkt;have hyd:t.args.getD k zTy=y:=by rw[List.getD_eq_getElem?_getD,hy];rfl
                     rw[hyd] at hlp3;have hym:=List.mem_of_getElem? hy;have hys:=a2i hym;have dr:=hren y (hta y hym) (by omega);have w1:IntKind.i64.wrap ((i:Int)+1)=((i+1:Nat):Int):=a1c (i+1) (by omega);have d1:=a4h i (by omega);have m1:=(a5b 103 i (by omega)).2.2;have a1:gs.length+1≤a0l:=by unfold a0l;omega
                     have hug:(((List.range t.args.length).map a4l).map AVal.str)[k]? =some (.str (a4l k)):=by simp[hkt]
                     rw[a0a y,a0a (c0c _ _)] at dr;have hnx:(gi.map e0g)[i]? =some (.int .i64 (k:Int)):=by rw[e4w,hx];rfl
                     simp only[go_sem,a0f,decide_eq_true hlt,a0c,a0i,hnx,hug,a4r,hy,a0a y,d1,m1,dr,List.length_map,a1];refine h ⟨i+1,gs++[⟨f3a i,.mk 1 (a4l k) 0 [],c0c (names.zip cl2) y⟩]⟩ _ ⟨show i+1≤gi.length by omega,hlp3,by simp;omega⟩ (show gi.length - (i+1)<gi.length - i by omega) ?_;simp only[go_sem,w1,List.map_append,e5o,f3a,b2i,b2g,g4n,b6m,a0e]
                   · have hie:i=gi.length:=by omega
                     subst hie;rw[List.drop_length] at hlp3;have hlp3:gs=mk3 (names.zip cl2) t.args gi []:=hlp3;simp only[go_sem,a0f,Nat.lt_irrefl,List.length_map];clear h;refine a0p (fun i:Nat=>i≤acc.length)
                      (fun i=>⟨[(4,.ptr (.loc 4) 0),(6,.slice (names.map .str)),(8,.ptr (.loc 8) 0),(9,.own 38 0 (a2o acc)),(10,.slice (cl2.map .str)),(18,.int .i64 i)],[],[(4,zBD),(8,xBD c d ((List.range t.args.length).map a4l) ex gs ((acc.take i).map (c0c (names.zip cl2))))],1⟩)
                      (fun _=>fin) (fun i=>acc.length - i) 0 (Nat.zero_le _) ?_ ?_
                     · simp only[go_sem,a0e,List.take_zero]
                     · intro i hi h
                       by_cases hlt:i<acc.length
                       · obtain⟨y,hy⟩:=a6u hlt;obtain⟨hgy,hby⟩:=a2 y (List.mem_of_getElem? hy);have dr:=hren y hgy (by have:=hasz y (List.mem_of_getElem? hy);omega);have w1:IntKind.i64.wrap ((i:Int)+1)=((i+1:Nat):Int):=a1c (i+1) (by omega);have hdm:=e6a (c0c (names.zip cl2)) acc i y hy;have htk:=a1k ((acc.take i).map (c0c (names.zip cl2)));have htl:((acc.take i).map (c0c (names.zip cl2))).length≤i:=by simp;omega
                         have a1:((acc.take i).map (c0c (names.zip cl2))).length+1≤a0l:=by unfold a0l;omega
                         have hts:=b4w ((acc.take i).map (c0c (names.zip cl2))) (c0c (names.zip cl2) y);rw[a0a y,a0a (c0c _ _)] at dr;generalize hQ:(acc.take i).map (c0c (names.zip cl2))=Q at *;simp only[go_sem,a0f,decide_eq_true hlt,rla,a0c,a0i,a4r,hy,a0a y,dr,htk,a1];refine h (i+1) _ (by omega) (by omega) ?_;simp only[go_sem,w1,hdm,hts]
                       · have hie:i=acc.length:=by omega
                         subst hie;rw[List.take_length];simp only[go_sem,a0f,Nat.lt_irrefl,rla];rw[hfin,hX,←hlp3];rfl
   · obtain⟨u,v,rfl,hu,hv⟩:=hgt.fn_inv hk;rw[a0t,a1g] at hn hbt;obtain⟨m,rfl⟩:∃m,n=m+1:=⟨n - 1,by omega⟩
     rw[b9z] at hsp;have a1:acc.length+1≤a0l:=by unfold a0l;omega
     have rl:=a1k acc;have hts:=b4w acc u;simp only[tB,b2i,b2g,g4n,b6m,a1a,a0e];rw[a0a u,a0a v];simp only[go_sem,deC,Int.le_refl,Int.toNat_zero,Int.toNat_one,Int.zero_le_ofNat,rl,a1];refine h ⟨m,v,acc++[u]⟩ _ ⟨show v.sz≤m by omega,hv,show v.sz<300000 by omega,by simp;omega,hsp⟩ (show m<m+1 by omega) ?_;simp only[go_sem,hts,deC]
end Go.Proofs
