/- The abstract machine answers as the model does: regions that are drawn, functions of the library; the reckoning rules. -/
import Derived.Test.YtjfghnkmladbkaaGreatDoorAvA
import Derived.Attr
import Derived.Test.YtjfghnkmladbkaaGreatDoorAvC
import Derived.Lib.Join
import Derived.Lib.ItoaNum
import Derived.Lib.Atoi
import Derived.Lib.Bytealg
import Derived.Below
namespace Go.Av
theorem k2g{α β:Type}(x:Option α)(f:α→Option β):x.bind f=(match x with|some a=>f a|none=>none):=by cases x<;>rfl
theorem k1q{α β:Type}(x:Option α)(f:α→β):x.map f=(match x with|some a=>some (f a)|none=>none):=by cases x<;>rfl
theorem k2a{n:Nat}(h:n<1000000):(n<a2s)=True:=by rw[a9a];simp;omega
theorem j4q{n:Nat}(h:n<1000000):(a2s≤n)=False:=by rw[a9a];simp;omega
theorem k2b(n:Nat):(a2s≤a2s+n)=True:=by simp
theorem j4p(n:Nat):(a2s+n<a2s)=False:=by simp
theorem j4o(n:Nat):a2s+n - a2s=n:=Nat.add_sub_cancel_left ..
theorem j4t:(true==true)=true:=rfl
theorem j4u:(true==false)=false:=rfl
theorem j4v:(false==true)=false:=rfl
theorem j4w:(false==false)=true:=rfl
attribute [go_sem] j4t j4u j4v j4w
attribute [go_sem] beq_self_eq_true Nat.zero_ne_one Nat.one_ne_zero decide_true decide_false not_false_eq_true
attribute [go_sem] Option.getD_none Option.getD_some ne_eq not_true_eq_false Bool.not_eq_true Bool.not_eq_false Int.cast_ofNat_Int Int.natCast_zero Int.natCast_one
attribute [go_sem_proc] Nat.reduceEqDiff Nat.reduceAdd Nat.reduceSub Nat.reduceMul Nat.reduceLeDiff Nat.reduceLT Nat.reduceBEq reduceCtorEq Int.reduceToNat Int.reduceLE Int.reduceLT Int.reduceNeg Int.reduceEq
attribute [go_sem_proc ↓] reduceIte
attribute [go_sem ↓] k2g k1q
attribute [go_sem] h8v e6j g2o d9x f3j h8x h8w g2r g2q exitTo a9k b6e b8g e4g d4n f4f c2v d7o g8d f7r f7t a3i b4t isL a7n j3u k2n k2j h5i e0t c8x c7z e7j c7g xF k2k mbF f1m k1m i8i d4a St.at St.setAt c4l c9t f1j c0j d8k b2l b2l.isKey c6a e9o e0u g8b g8c b6p St.drop b1e c7a e3p b1u d1g c1q opF b4x e0s rd d2a a7u b9e a0i a7v St.put St.putD St.box St.setBox b8z b8p
 cellsOf a5x strip1 strip2 strip a4g d1o f7a k2a j4q k2b j4p j4o g1h g7b i8l d1l j5j d6v b2d mvV a8o a9q d0w b5d c4k b5f e4n e4m c8d a9e b8c e4k e2c eqB j5l j5f g9p j5i j5h j5g j4a c5n c9u b8k a9z b4n d4b j5d b8v b8s e6u c9n
 names c7n a1h a5c b8a c0a a7o a3t ren i8h c5e i8g c1y b2k c5s d4c e0b b6y j5e c9r g7q b3x b8e a3n b5e b0i c4z c2y
 List.map_cons List.map_nil List.flatMap_cons List.flatMap_nil List.length_cons List.length_nil List.append_nil List.nil_append List.cons_append List.all_cons List.all_nil
 List.drop_succ_cons List.drop_zero List.take_succ_cons List.take_zero List.getElem?_cons_succ List.getElem?_cons_zero List.drop_nil List.take_nil List.getElem?_nil List.head?_cons List.head?_nil List.set_cons_zero List.set_cons_succ List.getLast?_cons_cons List.getLast?_singleton
 Bool.and_true Bool.true_and Bool.and_false Bool.false_and Bool.or_true Bool.true_or Bool.or_false Bool.false_or Bool.not_true Bool.not_false
 List.size_toArray List.getElem?_toArray eq_self if_true if_false Bool.false_eq_true Bool.true_eq_false and_true true_and and_false false_and Option.isNone_none Option.isNone_some Option.isSome_none Option.isSome_some
end Go.Av
namespace Go.Av
theorem a4j{E:Env}{f:FuncId}{C:Code}{K:List Item}{s:St}{r:Option (AVal×a3e)}(S:Nat→St)(n:Nat)(h0:c2y E f s K=some (S 0))
 (hs:∀i,i<n→(∀t,c2y E f t K=some (S (i+1))→run E f (.inLoop C::K) t=r)→run E f (.code C:: .inLoop C::K) (S i)=r)
 (hn:run E f (.code C:: .inLoop C::K) (S n)=r):run E f (.code (.loop C)::K) s=r:=by
 rw[d3f h0];have key:∀j,j≤n→run E f (.code C:: .inLoop C::K) (S (n - j))=r:=by
  intro j
  induction j with
  | zero=>intro _;simpa using hn
  | succ j ih=>
   intro hj;refine hs (n - (j+1)) (by omega) fun t ht=>?_;rw[c2f ht,show n - (j+1)+1=n - j from by omega];exact ih (by omega)
 simpa using key n (Nat.le_refl n)
end Go.Av
namespace Go.Av
theorem a9r{E:Env}{g:FuncId}{p:List AVal→a3e→Option (AVal×a3e)}{as:List AVal}{H:a3e}(h:E.prim g=some p):den E g as H=p as H:=by
 unfold den a8y;rw[h]
end Go.Av
namespace Go.Av
theorem a0p{E:Env}{f:FuncId}{C:Code}{K:List Item}{s:St}{α:Type}(I:α→Prop)(S:α→St)(R:α→Option (AVal×a3e))(m:α→Nat)(x:α)(hx:I x)(h0:c2y E f s K=some (S x))
 (hs:∀x,I x→(∀y t,I y→m y<m x→c2y E f t K=some (S y)→run E f (.inLoop C::K) t=R y)→run E f (.code C:: .inLoop C::K) (S x)=R x):run E f (.code (.loop C)::K) s=R x:=by
 rw[d3f h0];have key:∀n x,m x≤n→I x→run E f (.code C:: .inLoop C::K) (S x)=R x:=by
  intro n
  induction n with
  | zero=>exact fun x hm hi=>hs x hi fun y t _ hy=>by omega
  | succ n ih=>
   exact fun x hm hi=>hs x hi fun y t hiy hy ht=>by
    rw[c2f ht];exact ih y (by omega) hiy
 exact key (m x) x (Nat.le_refl _) hx
end Go.Av
namespace Go.Av
theorem k2f(a b:Nat):(BName.loc a==BName.loc b)=(a==b):=by
 by_cases h:a=b
 · subst h;simp
 · have:¬BName.loc a=BName.loc b:=fun e=>h (by injection e);rw[beq_eq_false_iff_ne.2 this,beq_eq_false_iff_ne.2 h]
theorem k2c(a b:Nat):(BName.par a==BName.par b)=(a==b):=by
 by_cases h:a=b
 · subst h;simp
 · have:¬BName.par a=BName.par b:=fun e=>h (by injection e);rw[beq_eq_false_iff_ne.2 this,beq_eq_false_iff_ne.2 h]
theorem k2e(a b:Nat):(BName.loc a==BName.par b)=false:=by rw[beq_eq_false_iff_ne];exact fun e=>by cases e
theorem k2d(a b:Nat):(BName.par a==BName.loc b)=false:=by rw[beq_eq_false_iff_ne];exact fun e=>by cases e
attribute [go_sem] k2f k2c k2e k2d List.contains_cons List.contains_nil List.idxOf_cons cond_true cond_false List.getD_cons_zero List.getD_cons_succ List.getD_nil List.isEmpty_nil List.isEmpty_cons
end Go.Av
namespace Go.Av
structure Agree (W:List Nat) (B:BName→Prop) (u t:St):Prop where
 tm:∀k,k∈W→a0i t.tm k=a0i u.tm k
 bx:∀b,B b→t.box b=u.box b
structure Upd (W:List Nat) (B:BName→Prop) (u u' t t':St):Prop where
 out:∀k,k∉W→a0i u'.tm k=a0i u.tm k∧a0i t'.tm k=a0i t.tm k
 outb:∀b,¬B b→u'.box b=u.box b∧t'.box b=t.box b
 grow:∀b,(u.box b≠none→u'.box b≠none)∧(t.box b≠none→t'.box b≠none)
 on:Agree W B u' t'
section
variable{E:Env}{W:List Nat}{B:BName→Prop}{u u' u1 t t' t1:St}
theorem Upd.refl(h:Agree W B u t):Upd W B u u t t:=⟨fun _ _=>⟨rfl,rfl⟩,fun _ _=>⟨rfl,rfl⟩,fun _=>⟨id,id⟩,h⟩
theorem Upd.trans(h:Upd W B u u1 t t1)(k:Upd W B u1 u' t1 t'):Upd W B u u' t t':=
 ⟨fun i hi=>⟨(k.out i hi).1.trans (h.out i hi).1,(k.out i hi).2.trans (h.out i hi).2⟩,
  fun i hi=>⟨(k.outb i hi).1.trans (h.outb i hi).1,(k.outb i hi).2.trans (h.outb i hi).2⟩,fun b=>⟨fun hb=>(k.grow b).1 ((h.grow b).1 hb),fun hb=>(k.grow b).2 ((h.grow b).2 hb)⟩,k.on⟩
theorem b7r(s:St)(k:Nat)(v:AVal)(b:BName):(s.put k v).box b=s.box b:=by cases b<;>rfl
theorem Upd.put(h:Agree W B u t){k:Nat}(hk:k∈W)(v:AVal):Upd W B u (u.put k v) t (t.put k v):=by
 refine⟨fun i hi=>?_,fun b _=>⟨b7r ..,b7r ..⟩,fun b=>⟨fun hb=>by rw[b7r];exact hb,fun hb=>by rw[b7r];exact hb⟩,⟨fun i hi=>?_,fun b hb=>?_⟩⟩
 · have:k≠i:=fun e=>hi (e▸hk);simp[St.put,a1r,this]
 · simp only[St.put,a1r];split
   · rfl
   · exact h.tm i hi
 · rw[b7r,b7r];exact h.bx b hb
theorem Upd.putD(h:Agree W B u t){d:Option Nat}(hd:∀k,d=some k→k∈W)(v:AVal):Upd W B u (u.putD d v) t (t.putD d v):=by
 cases d with
 | none=>exact .refl h
 | some k=>exact .put h (hd k rfl) v
theorem b3f{s:St}{b b':BName}{cs:List AVal}(h:b≠b'):(s.setBox b cs).box b'=s.box b':=by
 cases b<;>cases b'<;>simp only[St.setBox,St.box,a1r]
 · rename_i n m;have:n≠m:=fun e=>h (by rw[e]);rw[List.getElem?_set_ne this]
 · rename_i n m;have:n≠m:=fun e=>h (by rw[e]);simp[this]
theorem f0z{s s':St}{b:BName}{cs:List AVal}(h:s'.box b=s.box b):(s'.setBox b cs).box b=(s.setBox b cs).box b:=by
 cases b<;>simp only[St.setBox,St.box,a1r] at h⊢
 · rename_i n;rw[List.getElem?_set,List.getElem?_set];have:n<s'.pb.length↔n<s.pb.length:=by
    constructor
    · intro hn;rcases Nat.lt_or_ge n s.pb.length with h2|h2
      · exact h2
      · rw[List.getElem?_eq_none h2,List.getElem?_eq_getElem hn] at h;cases h
    · intro hn;rcases Nat.lt_or_ge n s'.pb.length with h2|h2
      · exact h2
      · rw[List.getElem?_eq_none h2,List.getElem?_eq_getElem hn] at h;cases h
   simp[this]
 · rename_i k;simp
theorem c4e{s:St}{b b':BName}{cs:List AVal}(h:s.box b'≠none):(s.setBox b cs).box b'≠none:=by
 by_cases e:b=b'
 · subst e;cases b<;>simp only[St.setBox,St.box,a1r] at h⊢
   · rename_i n;rw[List.getElem?_set];have hn:n<s.pb.length:=by
      rcases Nat.lt_or_ge n s.pb.length with h2|h2
      · exact h2
      · exact absurd (List.getElem?_eq_none h2) h
     simp[hn]
   · simp
 · rw[b3f e];exact h
theorem b6s(s:St)(b:BName)(cs:List AVal):(s.setBox b cs).tm=s.tm:=by cases b<;>rfl
theorem Upd.setBox(h:Agree W B u t){b:BName}(hb:B b)(cs:List AVal):Upd W B u (u.setBox b cs) t (t.setBox b cs):=by
 refine⟨fun i _=>by rw[b6s,b6s];exact⟨rfl,rfl⟩,fun b' hb'=>?_,fun b'=>⟨c4e,c4e⟩,⟨fun i hi=>by rw[b6s,b6s];exact h.tm i hi,fun b' hb'=>?_⟩⟩
 · have:b≠b':=fun e=>hb' (e▸hb);exact⟨b3f this,b3f this⟩
 · by_cases e:b=b'
   · subst e;exact f0z (h.bx b hb)
   · rw[b3f e,b3f e];exact h.bx b' hb'
theorem e1y(h:Agree W B u t){x:Operand}(hx:rd t x=rd u x)(hk:∀k,x=.tmp k→k∈W){r:AVal×St}(hr:b8p u x=some r):∃t1,b8p t x=some (r.1,t1)∧Upd W B u r.2 t t1:=by
 cases x with
 | tmp k=>
  have hx:a0i t.tm k=a0i u.tm k:=hx;simp only[b8p,hx] at hr⊢;obtain⟨v,h1,hr⟩:=bind_some hr;rw[h1,Option.bind_some];cases v<;>simp only[Option.some.injEq] at hr⊢<;>subst hr<;>first
   | exact⟨_,rfl,Upd.refl h⟩
   | exact⟨_,rfl,Upd.put h (hk k rfl) _⟩
 | _=>
  simp only[b8p,hx] at hr⊢;obtain⟨v,h1,rfl⟩:=map_some hr;exact⟨t,by rw[h1];rfl,.refl h⟩
theorem f4s{x:Operand}(hx:rd t x=rd u x):b8z t x=b8z u x:=by
 cases x with
 | tmp k=>
  have hx:a0i t.tm k=a0i u.tm k:=hx;simp only[b8z,hx]
 | _=>simp only[b8z,hx]
theorem c9a{d:Nat}{x:Option Operand}(hx:∀y,x=some y→rd t y=rd u y):a9e t d x=a9e u d x:=by
 cases x with
 | none=>rfl
 | some x=>simp only[a9e,hx x rfl]
theorem e4w{T:TypeId}:∀ {ps:List (Nat×Operand)} {cs:List AVal},(∀x∈ps.map (·.2),rd t x=rd u x)→c9u E T t cs ps=c9u E T u cs ps
 | [],_,_=>rfl
 | (i,x)::r,cs,h=>by
  simp only[c9u];rw[h x (by simp)]
  congr 1;funext v;congr 1;funext f
  split
  · exact e4w fun y hy=>h y (by simp at hy⊢;exact .inr hy)
  · rfl
theorem d8l{size:Nat}:∀ {ps:List (Nat×Operand)} {j:Nat},(∀x∈ps.map (·.2),rd t x=rd u x)→b8k t size j ps=b8k u size j ps
 | [],_,_=>rfl
 | (i,x)::r,j,h=>by
  simp only[b8k];rw[h x (by simp),d8l fun y hy=>h y (by simp at hy⊢;exact .inr hy)]
theorem c0b:∀ {xs:List Operand},(∀x∈xs,rd t x=rd u x)→a9z t xs=a9z u xs
 | [],_=>rfl
 | x::r,h=>by
  simp only[a9z];rw[h x (by simp),c0b fun y hy=>h y (by simp[hy])]
structure Near (u t:St):Prop where
 weak:∀b,t.box b≠none→u.box b≠none→t.box b=u.box b
 closed:∀b cs,t.box b=some cs→∀m∈cs.flatMap a1h,u.box m≠none→t.box m≠none
theorem c6w(h:Near u t):∀ {n:Nat} {a seen ns:List BName},(∀b∈a,u.box b≠none→t.box b≠none)→(∀b∈seen,t.box b≠none∧u.box b≠none)→c0a u n a seen=some ns→
 c0a t n a seen=some ns∧∀b∈ns,t.box b≠none∧u.box b≠none
 | 0,_,_,_,_,_,hr=>by cases hr
 | n+1,[],seen,ns,ha,hs,hr=>by
  simp only[c0a,Option.some.injEq] at hr⊢;subst hr;exact⟨rfl,hs⟩
 | n+1,b::r,seen,ns,ha,hs,hr=>by
  simp only[c0a] at hr⊢;split at hr
  · rename_i hc;rw[if_pos hc];exact c6w h (fun b' hb=>ha b' (by simp[hb])) hs hr
  · rename_i hc;rw[if_neg hc];obtain⟨cs,h1,hr⟩:=bind_some hr;have hb:=ha b (by simp) (by rw[h1];simp);have he:=h.weak b hb (by rw[h1];simp);rw[he,h1,Option.bind_some];refine c6w h (fun b' hb'=>?_) (fun b' hb'=>?_) hr
    · rcases List.mem_append.1 hb' with hb'|hb'
      · exact ha b' (by simp[hb'])
      · exact h.closed b cs (he.trans h1) b' hb'
    · rcases List.mem_append.1 hb' with hb'|hb'
      · exact hs b' hb'
      · simp at hb';subst hb';exact⟨hb,by rw[h1];simp⟩
theorem c8z:∀ {l:List BName},(∀b∈l,t.box b=u.box b)→a7o t l=a7o u l
 | [],_=>rfl
 | b::r,h=>by simp only[a7o,h b (by simp),c8z (l:=r) (fun b' hb=>h b' (by simp[hb]))]
theorem c3u:∀ {ns:List BName} {H:a3e} {u t u':St},(∀b∈ns,B b)→Agree W B u t→a3t u ns H=some u'→∃t',a3t t ns H=some t'∧Upd W B u u' t t'
 | [],[],u,t,u',_,h,hs=>by simp only[a3t,Option.some.injEq] at hs⊢;subst hs;exact⟨t,rfl,.refl h⟩
 | b::r,cs::q,u,t,u',hB,h,hs=>by
  simp only[a3t] at hs⊢;have h1:=Upd.setBox h (hB b (by simp)) cs;obtain⟨t',h2,h3⟩:=c3u (fun b' hb=>hB b' (by simp[hb])) h1.on hs;exact⟨t',h2,h1.trans h3⟩
 | [],_::_,_,_,_,_,_,hs=>by simp[a3t] at hs
 | _::_,[],_,_,_,_,_,hs=>by simp[a3t] at hs
def Old(B:BName→Prop)(u t:St):Prop:=∀b,B b→t.box b≠none∧u.box b≠none
def a3w:AVal→List BName
 | .func f a c=>names (.func f a c)++(a++c).flatMap names
 | v=>names v
theorem d6x{v:AVal}{b:BName}(h:b∈names v):b∈a3w v:=by
 cases v<;>first|exact h|exact List.mem_append.2 (.inl h)
theorem g0g{D:Den}(hnear:Near u t)(h:Agree W (fun _=>False) u t){n:Nat}{d:Option Nat}(hd:∀k,d=some k→k∈W){as:List AVal}{c:AVal}
 (hnm:∀v∈c::as,∀b∈a3w v,u.box b≠none→t.box b≠none) (hs:b8a D u n d as c=some u'):
 ∃B t',b8a D t n d as c=some t'∧Old B u t∧Upd W B u u' t t':=by
 cases c with
 | func f first cap=>
  simp only[b8a] at hs⊢;split at hs
  · obtain⟨r,h1,hs⟩:=bind_some hs;rw[h1,Option.bind_some];split at hs
    · rename_i hr2;injection hs with hs;subst hs;exact⟨_,t.putD d (b8v n r.1),rfl,fun b hb=>hb.elim,.putD h hd _⟩
    · cases hs
  · rename_i b0 bs hnames;obtain⟨ns,h1,hs⟩:=bind_some hs;obtain⟨H,h2,hs⟩:=bind_some hs;obtain⟨r,h3,hs⟩:=bind_some hs;obtain⟨u1,h4,rfl⟩:=map_some hs;obtain⟨k1,k2⟩:=c6w hnear (t:=t) (fun b hb=>by
     rw[←hnames] at hb;obtain⟨v,hv,hb⟩:=List.mem_flatMap.1 hb;simp only[List.mem_append] at hv;rcases hv with hv|hv|hv
     · exact hnm (.func f first cap) (by simp) b (List.mem_append.2 (.inr (List.mem_flatMap.2 ⟨v,List.mem_append.2 (.inl hv),hb⟩)))
     · exact hnm v (by simp[hv]) b (d6x hb)
     · exact hnm (.func f first cap) (by simp) b (List.mem_append.2 (.inr (List.mem_flatMap.2 ⟨v,List.mem_append.2 (.inr hv),hb⟩)))) (fun b hb=>by cases hb) h1
    have hbx:∀b∈ns,t.box b=u.box b:=fun b hb=>hnear.weak b (k2 b hb).1 (k2 b hb).2;rw[k1,Option.bind_some,c8z hbx,h2,Option.bind_some,h3,Option.bind_some];obtain⟨t1,h5,h6⟩:=c3u (W:=W) (B:=fun b=>b∈ns) (fun b hb=>hb) ⟨h.tm,hbx⟩ h4;rw[h5];exact⟨_,_,rfl,fun b hb=>k2 b hb,h6.trans (.putD h6.on hd _)⟩
 | _=>cases hs
theorem d6b(hnear:Near u t)(h:Agree W (fun _=>False) u t){n:Nat}{T:TypeId}{x p:AVal}(hp:∀b∈names p,u.box b≠none→t.box b≠none)(hs:b5d E u n T x p=some u'):
 ∃B t',b5d E t n T x p=some t'∧Old B u t∧Upd W B u u' t t':=by
 cases p with
 | ptr b off=>
  simp only[b5d] at hs⊢;obtain⟨cs,h1,hs⟩:=bind_some hs;have hu:u.box b≠none:=by rw[h1];simp
  have hb:=hp b (by simp[names,a5c,a1h]) hu;have he:=hnear.weak b hb hu;rw[he,h1,Option.bind_some];split at hs
  · rename_i hc;injection hs with hs;subst hs;exact⟨fun b'=>b'=b,_,if_pos hc,fun b' (hb':b'=b)=>hb'▸⟨hb,hu⟩,.setBox ⟨h.tm,fun b' (hb':b'=b)=>hb'▸he⟩ rfl _⟩
  · cases hs
 | _=>cases hs
theorem f4m(h:Agree W (fun _=>False) u t){n:Nat}{d:Option Nat}(hd:∀k,d=some k→k∈W)(ht:∀k,d=some k→u.box (.loc k)=none→u'.box (.loc k)≠none→t.box (.loc k)=none){cs:List AVal}(hs:d4c u n d cs=some u'):
 ∃B t',d4c t n d cs=some t'∧(∀b,B b→u.box b=none)∧Upd W B u u' t t':=by
 cases d with
 | none=>cases hs
 | some k=>
  simp only[d4c] at hs⊢;split at hs
  · rename_i hn;injection hs with hs;subst hs;have ht:a0i t.lb k=none:=ht k rfl hn (by simp[St.put,St.box,a1r]);rw[ht];have hl:t.box (.loc k)=u.box (.loc k):=ht.trans hn.symm;have h3:=Upd.setBox (W:=W) (B:=fun b=>b=.loc k) ⟨h.tm,fun b hb=>hb▸hl⟩ rfl (cs.map (a4g n));simp only[St.setBox] at h3;exact⟨_,_,rfl,fun b (hb:b=.loc k)=>hb▸hn,h3.trans (.put h3.on (hd k rfl) _)⟩
  · cases hs
theorem f4b(hnear:Near u t)(h:Agree W (fun _=>False) u t){T:TypeId}{x:Operand}(hx:rd t x=rd u x)(hk:∀k,x=.tmp k→k∈W)(hk2:∀k U m es j,x=.tmp k→a0i u.tm k=some (.view U m es (.tmp j))→j∈W)
 (hk3:∀k U m es b off,x=.tmp k→a0i u.tm k=some (.view U m es (.cell b off))→u.box b≠none→t.box b≠none)
 {r:List AVal×St×Bool} (hr:b4n u T x=some r):∃B t1,b4n t T x=some (r.1,t1,r.2.2)∧Old B u t∧Upd W B u r.2.1 t t1:=by
 cases x with
 | tmp k=>
  have hx:a0i t.tm k=a0i u.tm k:=hx;simp only[b4n,hx] at hr⊢;obtain⟨v,h1,hr⟩:=bind_some hr;rw[h1,Option.bind_some];cases v<;>try (cases hr;done)
  case full es=>injection hr with hr;subst hr;exact⟨_,t,rfl,fun b hb=>hb.elim,.refl h⟩
  case own U n es=>
   simp only at hr⊢;split at hr
   · rename_i hc;injection hr with hr;subst hr;exact⟨_,_,if_pos hc,fun b hb=>hb.elim,.put h (hk k rfl) _⟩
   · cases hr
  case view U n es p=>
   cases p with
   | tmp j=>
    have hj:=hk2 k U n es j rfl h1;simp only[h.tm j hj] at hr⊢;obtain⟨v,h2,hr⟩:=bind_some hr;rw[h2,Option.bind_some];cases v<;>try (cases hr;done)
    simp only at hr⊢;split at hr
    · rename_i hc;injection hr with hr;subst hr;exact⟨_,_,if_pos hc,fun b hb=>hb.elim,.put h hj _⟩
    · cases hr
   | cell b off=>
    simp only at hr⊢;obtain⟨cs,h2,hr⟩:=bind_some hr;have hu:u.box b≠none:=by rw[h2];simp
    have hb:=hk3 k U n es b off rfl h1 hu;have he:=hnear.weak b hb hu;obtain⟨v,h3,hr⟩:=bind_some hr;rw[he,h2,Option.bind_some,h3,Option.bind_some];cases v<;>try (cases hr;done)
    simp only at hr⊢;split at hr
    · rename_i hc;injection hr with hr;subst hr;exact⟨fun b'=>b'=b,_,if_pos hc,fun b' (hb':b'=b)=>hb'▸⟨hb,hu⟩,.setBox ⟨h.tm,fun b' (hb':b'=b)=>hb'▸he⟩ rfl _⟩
    · cases hr
 | _=>
  simp only[b4n] at hr⊢;split at hr
  · rename_i hc;injection hr with hr;subst hr;exact⟨_,t,if_pos hc,fun b hb=>hb.elim,.refl h⟩
  · cases hr
theorem a8b(h:Agree W B u t){d:Option Nat}(hd:∀k,d=some k→k∈W){g g':Option AVal}(hg:g'=g)(hs:g.map (u.putD d)=some u'):∃t',g'.map (t.putD d)=some t'∧Upd W B u u' t t':=by
 subst hg;obtain⟨v,h1,rfl⟩:=map_some hs;exact⟨_,by rw[h1];rfl,.putD h hd v⟩
end
end Go.Av
namespace Go.Av
section
variable{E:Env}{u u' t:St}
theorem c0p{k:Nat}{x:Operand}(h:x=.tmp k):k∈a8f [x]:=by subst h;simp[a8f]
theorem d6w{v:AVal}{b:BName}(h:b∈a1h (Av.strip1 v)):b∈a1h v:=by
 cases v with
 | own T n es=>
  rw[a4y] at h;split at h<;>cases h
 | _=>first|exact h|(simp[Av.strip1,a1h] at h;done)
theorem c3z{v:AVal}{b:BName}(h:b∈a5c (strip2 v)):b∈a5c v:=by
 cases v with
 | agg cs=>
  simp only[strip2,a5c,List.flatMap_map,List.mem_flatMap] at h⊢;obtain⟨c,hc,hb⟩:=h;exact⟨c,hc,d6w hb⟩
 | own T n es=>
  have h:b∈a5c (Av.strip1 (.own T n es)):=h;rw[a4y] at h;split at h<;>cases h
 | _=>first|exact h|(simp[strip2,Av.strip1,a5c,a1h] at h;done)
theorem c7j{v:AVal}{b:BName}(h:b∈names (strip v)):b∈names v:=by
 cases v with
 | tup cs=>
  simp only[strip,names,List.flatMap_map,List.mem_flatMap] at h⊢;obtain⟨c,hc,hb⟩:=h;exact⟨c,hc,c3z hb⟩
 | agg cs=>exact c3z (v:=.agg cs) h
 | own T n es=>
  have h:b∈names (Av.strip1 (.own T n es)):=h;rw[a4y] at h;split at h<;>cases h
 | _=>first|exact h|(simp[strip,strip2,Av.strip1,names,a5c,a1h] at h;done)
theorem c9x{v:AVal}{b:BName}(h:b∈a3w (strip v)):b∈a3w v:=by
 cases v with
 | func f a c=>exact h
 | tup cs=>exact c7j (v:=.tup cs) h
 | agg cs=>exact c7j (v:=.agg cs) h
 | own T n es=>
  have h:b∈a3w (Av.strip1 (.own T n es)):=h;rw[a4y] at h;split at h<;>cases h
 | _=>exact h
theorem d6n{s:St}:∀ {xs:List Operand} {vs:List AVal},a9z s xs=some vs→∀v∈vs,∃x∈xs,∃y,rd s x=some y∧v=strip y
 | [],vs,h,v,hv=>by simp only[a9z,Option.some.injEq] at h;subst h;cases hv
 | x::xs,vs,h,v,hv=>by
  simp only[a9z] at h;obtain⟨y,h1,h⟩:=bind_some h;obtain⟨r,h2,rfl⟩:=map_some h;rcases List.mem_cons.1 hv with rfl|hv
  · exact⟨x,by simp,y,h1,rfl⟩
  · obtain⟨x',hx,q⟩:=d6n h2 v hv;exact⟨x',by simp[hx],q⟩
theorem d0s(hnear:Near u t){W:List Nat}(h:Agree W (fun _=>False) u t){x:Operand}(hx:rd t x=rd u x)(hk:∀k,x=.tmp k→k∈W)
 (hm:∀k,x=.tmp k→(∀n j,a0i u.tm k=some (.mview n (.tmp j))→j∈W)∧∀n b off,a7n (.cell b off)=none→a0i u.tm k=some (.mview n (.cell b off))→u.box b≠none→t.box b≠none)
 {r:Place×Nat×List AVal} (hr:c0j u x=some r):c0j t x=some r∧(∀j,r.1=.tmp j→j∈W)∧∀b off,r.1=.cell b off→t.box b≠none∧u.box b≠none∧t.box b=u.box b:=by
 cases x with
 | tmp k=>
  have hx:a0i t.tm k=a0i u.tm k:=hx;simp only[c0j,hx] at hr⊢;obtain⟨v,h1,hr⟩:=bind_some hr;rw[h1,Option.bind_some];cases v<;>try (cases hr;done)
  case own T n es=>
   simp only at hr⊢;split at hr
   · rename_i hc;injection hr with hr;subst hr;refine⟨if_pos hc,fun j e=>?_,fun b off e=>by cases e⟩;injection e with e;subst e;exact hk k rfl
   · cases hr
  case mview n p=>
   simp only at hr⊢;split at hr
   · rename_i hp;rw[if_pos hp];obtain⟨w,h2,hr⟩:=bind_some hr;cases p with
     | tmp j=>
      have hj:=(hm k rfl).1 n j h1;have h3:t.at (.tmp j)=u.at (.tmp j):=h.tm j hj;rw[h3,h2,Option.bind_some];cases w<;>try (cases hr;done)
      simp only at hr⊢;split at hr
      · rename_i hc;injection hr with hr;subst hr;exact⟨if_pos hc,fun i e=>(by injection e with e;subst e;exact hj),fun b off e=>by cases e⟩
      · cases hr
     | cell b off=>
      have hu:u.box b≠none:=by
       intro e;simp only[St.at,e,Option.bind_none] at h2;cases h2
      have hb:=(hm k rfl).2 n b off hp h1 hu;have he:=hnear.weak b hb hu;have h3:t.at (.cell b off)=u.at (.cell b off):=by simp only[St.at,he]
      rw[h3,h2,Option.bind_some];cases w<;>try (cases hr;done)
      simp only at hr⊢;split at hr
      · rename_i hc;injection hr with hr;subst hr;exact⟨if_pos hc,fun i e=>(by cases e),fun b' off' e=>(by injection e with e1 e2;subst e1;exact⟨hb,hu,he⟩)⟩
      · cases hr
   · cases hr
 | _=>simp[c0j] at hr
theorem f7z(hnear:Near u t){W:List Nat}(h:Agree W (fun _=>False) u t){x:Operand}(hx:rd t x=rd u x)(hk:∀k,x=.tmp k→k∈W)
 (hm:∀k,x=.tmp k→(∀n j,a0i u.tm k=some (.mview n (.tmp j))→j∈W)∧∀n b off,a7n (.cell b off)=none→a0i u.tm k=some (.mview n (.cell b off))→u.box b≠none→t.box b≠none)
 {es:List AVal} (hr:d8k u x=some es):d8k t x=some es:=by
 unfold d8k at hr⊢;rw[hx];split at hr
 · exact hr
 · exact hr
 · obtain⟨r,h1,rfl⟩:=map_some hr;rw[(d0s hnear h hx hk hm h1).1];rfl
theorem f3c{W:List Nat}(h:Agree W (fun _=>False) u t){p:Place}(hj:∀j,p=.tmp j→j∈W)(hb:∀b off,p=.cell b off→t.box b≠none∧u.box b≠none∧t.box b=u.box b){v:AVal}(hs:u.setAt p v=some u'):
 ∃B t',t.setAt p v=some t'∧Old B u t∧Upd W B u u' t t':=by
 cases p with
 | tmp j=>
  simp only[St.setAt,Option.some.injEq] at hs⊢;subst hs;exact⟨_,_,rfl,fun b hb=>hb.elim,.put h (hj j rfl) _⟩
 | cell b off=>
  obtain⟨h1,h2,h3⟩:=hb b off rfl;simp only[St.setAt] at hs⊢;obtain⟨cs,h4,rfl⟩:=map_some hs;rw[h3,h4];exact⟨fun b'=>b'=b,_,rfl,fun b' (hb':b'=b)=>hb'▸⟨h1,h2⟩,.setBox ⟨h.tm,fun b' (hb':b'=b)=>hb'▸h3⟩ rfl _⟩
theorem j3v{D:Den}{l:List Oper}{n:Nat}{o:Oper}(hk:a2h o≠ .other)(hr:∀x∈o.op.operands.toList,rd t x=rd u x)(hA:Agree (a1b l o) (fun _=>False) u t)
 (hnear:a2h o=.writes→Near u t) (hnm:a2h o=.writes→∀x∈o.op.operands.toList,∀v,rd t x=some v→∀b∈a3w v,u.box b≠none→t.box b≠none)
 (hnw:a2h o=.news→∀k,o.dst=some k→u.box (.loc k)=none→u'.box (.loc k)≠none→t.box (.loc k)=none)
 (hl:∀T x,o.op=.load T x→(rd u x).bind (a8o E t T)=(rd u x).bind (a8o E u T))
 (happ:∀args ats k y,o.op=.call {callee:=.builtin .append,args:=args,argTypes:=ats}→args.toList=[.tmp k,y]→(∀U m es j,a0i u.tm k=some (.view U m es (.tmp j))→j∈a1b l o)∧
   ∀U m es b off,a0i u.tm k=some (.view U m es (.cell b off))→u.box b≠none→t.box b≠none)
 (hmap:∀k,c7r o=some k→(∀n j,a0i u.tm k=some (.mview n (.tmp j))→j∈a1b l o)∧∀n b off,a7n (.cell b off)=none→a0i u.tm k=some (.mview n (.cell b off))→u.box b≠none→t.box b≠none)
 (h:opF E D n o u=some u'):∃B t',opF E D n o t=some t'∧((a2h o=.writes∧Old B u t)∨(a2h o=.news∧∀b,B b→u.box b=none)∨∀b,¬B b)∧Upd (a1b l o) B u u' t t':=by
 have hd:∀k,o.dst=some k→k∈a1b l o:=fun k hk=>by simp[a1b,hk]
 have pure:∀ {x:Option St},(∃t',x=some t'∧Upd (a1b l o) (fun _=>False) u u' t t')→∃B t',x=some t'∧((a2h o=.writes∧Old B u t)∨(a2h o=.news∧∀b,B b→u.box b=none)∨∀b,¬B b)∧Upd (a1b l o) B u u' t t':=
  fun ⟨t',h1,h2⟩=>⟨_,t',h1,.inr (.inr fun _ h=>h),h2⟩
 unfold opF at h;split at h
 case h_1 x ho=>
  have hx:rd t x=rd u x:=hr x (by simp[ho,Op.operands]);simp only[opF,ho];split at h
  · rename_i hn;rw[if_pos hn];obtain⟨T,h1,rfl⟩:=map_some h;exact pure ⟨_,by rw[h1];rfl,.putD hA hd _⟩
  · rename_i hn;rw[if_neg hn];exact pure (a8b hA hd (f4s hx) h)
 case h_2 x ho=>
  have hx:rd t x=rd u x:=hr x (by simp[ho,Op.operands]);simp only[opF,ho];split at h
  · rename_i hn;rw[if_pos hn];obtain⟨T,h1,rfl⟩:=map_some h;exact pure ⟨_,by rw[h1];rfl,.putD hA hd _⟩
  · rename_i hn;rw[if_neg hn];obtain⟨r,h1,rfl⟩:=map_some h;obtain⟨t1,h2,h3⟩:=e1y hA hx (fun k e=>by simp only[a1b,b6a,ho,List.mem_append];exact .inr (c0p e)) h1;exact pure ⟨_,by rw[h2];rfl,h3.trans (.putD h3.on hd _)⟩
 case h_3 c x y ho=>
  have hc:rd t c=rd u c:=hr c (by simp[ho,Op.operands]);have hx:rd t x=rd u x:=hr x (by simp[ho,Op.operands]);have hy:rd t y=rd u y:=hr y (by simp[ho,Op.operands]);simp only[opF,ho,hc,hx,hy];obtain⟨v,h1,h⟩:=bind_some h;rw[h1,Option.bind_some];cases v<;>try (cases h;done)
  rename_i b;cases b<;>simp only[if_true,Bool.false_eq_true,if_false] at h⊢
  · obtain⟨v,h2,rfl⟩:=map_some h;exact pure ⟨_,by rw[h2];rfl,.putD hA hd _⟩
  · obtain⟨v,h2,rfl⟩:=map_some h;exact pure ⟨_,by rw[h2];rfl,.putD hA hd _⟩
 case h_4 T ho=>
  simp only[opF,ho];obtain⟨cs,h1,h⟩:=bind_some h;rw[h1,Option.bind_some];have hkn:a2h o=.news:=by simp[a2h,ho]
  obtain⟨B,t',k1,k2,k3⟩:=f4m hA hd (hnw hkn) h;exact⟨B,t',k1,.inr (.inl ⟨hkn,k2⟩),k3⟩
 case h_5 T x ho=>
  have hx:rd t x=rd u x:=hr x (by simp[ho,Op.operands]);simp only[opF,ho,hx];obtain⟨v,h1,h⟩:=bind_some h;obtain⟨cs,h2,h⟩:=bind_some h;rw[h1,Option.bind_some,h2,Option.bind_some];have hkn:a2h o=.news:=by simp[a2h,ho]
  obtain⟨B,t',k1,k2,k3⟩:=f4m hA hd (hnw hkn) h;exact⟨B,t',k1,.inr (.inl ⟨hkn,k2⟩),k3⟩
 case h_6 T ps ho=>
  simp only[opF,ho];obtain⟨cs,h1,h⟩:=bind_some h;obtain⟨cs',h2,h⟩:=bind_some h;rw[h1,Option.bind_some,e4w (u:=u) (fun x hx=>hr x (by simpa [ho,Op.operands] using hx)),h2,Option.bind_some];split at h
  · rename_i hf;injection h with h;subst h;exact pure ⟨_,if_pos hf,.putD hA hd _⟩
  · cases h
 case h_7 T m ps ho=>
  simp only[opF,ho];obtain⟨e,h1,h⟩:=bind_some h;obtain⟨cs',h2,h⟩:=bind_some h;rw[h1,Option.bind_some,d8l (u:=u) (fun x hx=>hr x (by simpa [ho,Op.operands] using hx)),h2,Option.bind_some];split at h
  · rename_i hf;injection h with h;subst h;exact pure ⟨_,if_pos hf,.putD hA hd _⟩
  · cases h
 case h_8 T x ho=>
  have hx:rd t x=rd u x:=hr x (by simp[ho,Op.operands]);have hl:=hl T x ho;simp only[opF,ho,hx];obtain⟨p,h1,h⟩:=bind_some h;rw[h1] at hl⊢;simp only[Option.bind_some] at hl⊢;exact pure (a8b hA hd hl h)
 case h_9 T ad x ho=>
  have hkw:a2h o=.writes:=by simp[a2h,ho]
  have hx:rd t x=rd u x:=hr x (by simp[ho,Op.operands]);have hd':rd t ad=rd u ad:=hr ad (by simp[ho,Op.operands]);simp only[opF,ho,hd'];obtain⟨p,h1,h⟩:=bind_some h;have hp:∀b∈names p,u.box b≠none→t.box b≠none:=fun b hb=>hnm hkw ad (by simp[ho,Op.operands]) p (hd'.trans h1) b (d6x hb);rw[h1,Option.bind_some];split at h
  · rename_i hn;rw[if_pos hn];obtain⟨U,h2,h⟩:=bind_some h;rw[h2,Option.bind_some];obtain⟨B,t',k1,k2,k3⟩:=d6b (hnear hkw) hA hp h;exact⟨B,t',k1,.inl ⟨hkw,k2⟩,k3⟩
  · rename_i hn;rw[if_neg hn];obtain⟨r,h2,h⟩:=bind_some h;obtain⟨t1,h3,h4⟩:=e1y hA hx (fun k e=>by simp only[a1b,b6a,ho,List.mem_append];exact .inr (c0p e)) h2;rw[h3,Option.bind_some];have hbu:∀b,r.2.box b=u.box b:=fun b=>(h4.outb b (fun h=>h)).1;have hbt:∀b,t1.box b=t.box b:=fun b=>(h4.outb b (fun h=>h)).2;have hnr:Near r.2 t1:=⟨fun b a c=>by rw[hbt,hbu] at *;exact (hnear hkw).weak b a c,fun b cs a m hm c=>by rw[hbt] at *;rw[hbu] at c;exact (hnear hkw).closed b cs a m hm c⟩
    obtain⟨B,t',h5,h6,h7⟩:=d6b hnr h4.on (fun b hb c=>by rw[hbt];rw[hbu] at c;exact hp b hb c) h;have h8:Upd (a1b l o) B u r.2 t t1:=⟨h4.out,fun b _=>h4.outb b (fun h=>h),h4.grow,⟨h4.on.tm,fun b hb=>hnr.weak b (h6 b hb).1 (h6 b hb).2⟩⟩
    exact⟨B,t',h5,.inl ⟨hkw,fun b hb=>by rw[←hbt,←hbu];exact h6 b hb⟩,h8.trans h7⟩
 case h_10 x ho=>
  have hx:rd t x=rd u x:=hr x (by simp[ho,Op.operands]);simp only[opF,ho,hx];obtain⟨v,h1,h⟩:=bind_some h;rw[h1,Option.bind_some];exact pure (a8b hA hd rfl h)
 case h_11 op T x y U ho=>
  have hx:rd t x=rd u x:=hr x (by simp[ho,Op.operands]);have hy:rd t y=rd u y:=hr y (by simp[ho,Op.operands]);simp only[opF,ho,hx,hy];obtain⟨v,h1,h⟩:=bind_some h;obtain⟨v',h2,h⟩:=bind_some h;rw[h1,Option.bind_some,h2,Option.bind_some];exact pure (a8b hA hd rfl h)
 case h_12 T x ho=>
  have hx:rd t x=rd u x:=hr x (by simp[ho,Op.operands]);simp only[opF,ho,hx];obtain⟨v,h1,h⟩:=bind_some h;rw[h1,Option.bind_some];exact pure (a8b hA hd rfl h)
 case h_13 src dst x ho=>
  have hx:rd t x=rd u x:=hr x (by simp[ho,Op.operands]);simp only[opF,ho,hx];obtain⟨v,h1,h⟩:=bind_some h;rw[h1,Option.bind_some];exact pure (a8b hA hd rfl h)
 case h_14 f first cap ho=>
  simp only[opF,ho];obtain⟨v,h1,h⟩:=bind_some h;obtain⟨v',h2,h⟩:=bind_some h;rw[c0b (u:=u) (fun x hx=>hr x (by rw[ho];simp only[Op.operands,Array.toList_append,List.mem_append];exact .inl hx)),h1,Option.bind_some,
   c0b (u:=u) (fun x hx=>hr x (by rw[ho];simp only[Op.operands,Array.toList_append,List.mem_append];exact .inr hx)),h2,Option.bind_some]
  split at h
  · rename_i hf;injection h with h;subst h;exact pure ⟨_,if_pos hf,.putD hA hd _⟩
  · cases h
 case h_15 S x i ho=>
  have hx:rd t x=rd u x:=hr x (by simp[ho,Op.operands]);simp only[opF,ho,hx];obtain⟨v,h1,h⟩:=bind_some h;rw[h1,Option.bind_some];exact pure (a8b hA hd rfl h)
 case h_16 T x i ho=>
  have hx:rd t x=rd u x:=hr x (by simp[ho,Op.operands]);have hy:rd t i=rd u i:=hr i (by simp[ho,Op.operands]);simp only[opF,ho,hx,hy];obtain⟨v,h1,h⟩:=bind_some h;obtain⟨v',h2,h⟩:=bind_some h;rw[h1,Option.bind_some,h2,Option.bind_some];exact pure (a8b hA hd rfl h)
 case h_17 T x i ho=>
  have hx:rd t x=rd u x:=hr x (by simp[ho,Op.operands]);have hy:rd t i=rd u i:=hr i (by simp[ho,Op.operands]);simp only[opF,ho,hx,hy];obtain⟨v,h1,h⟩:=bind_some h;obtain⟨v',h2,h⟩:=bind_some h;rw[h1,Option.bind_some,h2,Option.bind_some];exact pure (a8b hA hd rfl h)
 case h_18 T x lo hi mx ho=>
  have hx:rd t x=rd u x:=hr x (by simp[ho,Op.operands]);have h1:∀y,lo=some y→rd t y=rd u y:=fun y e=>hr y (by subst e;simp[ho,Op.operands]);have h2:∀y,hi=some y→rd t y=rd u y:=fun y e=>hr y (by subst e;simp[ho,Op.operands]);have h3:∀y,mx=some y→rd t y=rd u y:=fun y e=>hr y (by subst e;simp[ho,Op.operands]);have hs:∀v,b8c E t T v lo hi mx=b8c E u T v lo hi mx:=fun v=>by
   have hm:∀m,mx=some m→a9e t 0 (some m)=a9e u 0 (some m):=fun m e=>c9a fun y e'=>h3 y (by rw[e,e']);cases v<;>simp only[b8c,c9a h1,c9a h2]<;>(cases mx with
    | none=>rfl
    | some m=>first|rfl|simp only[hm m rfl])
  simp only[opF,ho,hx,hs];obtain⟨v,h1,h⟩:=bind_some h;rw[h1,Option.bind_some];exact pure (a8b hA hd rfl h)
 case h_19 x i ho=>
  have hx:rd t x=rd u x:=hr x (by simp[ho,Op.operands]);simp only[opF,ho,hx];obtain⟨v,h1,h⟩:=bind_some h;rw[h1,Option.bind_some];exact pure (a8b hA hd rfl h)
 case h_20 g args ats ho=>
  have hkw:a2h o=.writes:=by simp[a2h,ho]
  have hg:rd t g=rd u g:=hr g (by simp[ho,Op.operands,Call.operands]);simp only[opF,ho,hg];obtain⟨c,h1,h⟩:=bind_some h;obtain⟨as,h2,h⟩:=bind_some h;rw[h1,Option.bind_some,c0b (u:=u) (fun x hx=>hr x (by rw[ho];simp only[Op.operands,Call.operands,Array.toList_append,List.mem_append];exact .inr hx)),h2,Option.bind_some];obtain⟨B,t',k1,k2,k3⟩:=g0g (hnear hkw) hA hd (fun v hv b hb=>by
   rcases List.mem_cons.1 hv with rfl|hv
   · exact hnm hkw g (by simp[ho,Op.operands,Call.operands]) v (hg.trans h1) b hb
   · obtain⟨x,hx,y,hy,hs⟩:=d6n h2 v hv;subst hs;exact hnm hkw x (by rw[ho];simp only[Op.operands,Call.operands,Array.toList_append,List.mem_append];exact .inr hx) y ((hr x (by rw[ho];simp only[Op.operands,Call.operands,Array.toList_append,List.mem_append];exact .inr hx)).trans hy) b (c9x hb)) h
  exact⟨B,t',k1,.inl ⟨hkw,k2⟩,k3⟩
 case h_21 b args ats ho=>
  have hargs:∀x∈args.toList,rd t x=rd u x:=fun x hx=>hr x (by rw[ho];simp only[Op.operands,Call.operands,Array.toList_append,List.mem_append];exact .inr hx);simp only[opF,ho];split at h
  · rename_i x hx;simp only[hx] at hargs⊢;rw[hargs x (by simp)];obtain⟨v,h1,h⟩:=bind_some h;rw[h1,Option.bind_some];exact pure (a8b hA hd rfl h)
  · rename_i x y hx;simp only[hx] at hargs⊢;rw[hargs x (by simp),hargs y (by simp)];obtain⟨v,h1,h⟩:=bind_some h;obtain⟨v',h2,h⟩:=bind_some h;rw[h1,Option.bind_some,h2,Option.bind_some];exact pure (a8b hA hd rfl h)
  · rename_i x y hx;simp only[hx] at hargs⊢;rw[hargs x (by simp),hargs y (by simp)];obtain⟨v,h1,h⟩:=bind_some h;obtain⟨v',h2,h⟩:=bind_some h;rw[h1,Option.bind_some,h2,Option.bind_some];exact pure (a8b hA hd rfl h)
  · rename_i x y hx;have hkw:a2h o=.writes:=by simp[a2h,ho]
    have happ:=happ args ats;simp only[hx] at hargs happ⊢;rw[hargs y (by simp)];obtain⟨T,h1,h⟩:=bind_some h;obtain⟨v,h2,h⟩:=bind_some h;obtain⟨news,h3,h⟩:=bind_some h;obtain⟨r,h4,h⟩:=bind_some h;obtain⟨B,t1,h5,h7,h6⟩:=f4b (hnear hkw) hA (hargs x (by simp)) (fun k e=>by simp only[a1b,b6a,ho,hx,List.mem_append];exact .inr (.inl (c0p e)))
     (fun k U m es j e hv=>(happ k y ho (by rw[e])).1 U m es j hv) (fun k U m es b off e hv=>(happ k y ho (by rw[e])).2 U m es b off hv) h4
    rw[h1,Option.bind_some,h2,Option.bind_some,h3,Option.bind_some,h5,Option.bind_some];split at h
    · rename_i hc;injection h with h;subst h;exact⟨B,_,if_pos hc,.inl ⟨hkw,h7⟩,h6.trans (.putD h6.on hd _)⟩
    · cases h
  · cases h
 case h_22 T x y ho=>exact absurd (by unfold a2h;rw[ho]) hk
 case h_23 T ho=>exact absurd (by unfold a2h;rw[ho]) hk
 case h_24 T x i ok ho=>
  have hkw:a2h o=.writes:=by simp[a2h,ho]
  have hx:rd t x=rd u x:=hr x (by simp[ho,Op.operands]);have hi:rd t i=rd u i:=hr i (by simp[ho,Op.operands]);have hmo:∀k,x=.tmp k→c7r o=some k:=fun k e=>by simp[c7r,ho,e]
  simp only[opF,ho,hi];obtain⟨es,h1,h⟩:=bind_some h;obtain⟨v,h2,h⟩:=bind_some h;rw[f7z (hnear hkw) hA hx (fun k e=>by simp only[a1b,b6a,ho,List.mem_append];exact .inr (.inl (c0p e))) (fun k e=>hmap k (hmo k e)) h1,Option.bind_some,h2,Option.bind_some];exact pure (a8b hA hd rfl h)
 case h_25 T m i x ho=>
  have hkw:a2h o=.writes:=by simp[a2h,ho]
  have hm:rd t m=rd u m:=hr m (by simp[ho,Op.operands]);have hi:rd t i=rd u i:=hr i (by simp[ho,Op.operands]);have hx:rd t x=rd u x:=hr x (by simp[ho,Op.operands]);have hmo:∀k,m=.tmp k→c7r o=some k:=fun k e=>by simp[c7r,ho,e]
  simp only[opF,ho,hi,hx];obtain⟨k,h1,h⟩:=bind_some h;obtain⟨v,h2,h⟩:=bind_some h;rw[h1,Option.bind_some,h2,Option.bind_some];simp only[c6a] at h⊢;obtain⟨ty,h3,h⟩:=bind_some h;obtain⟨r,h4,h⟩:=bind_some h;obtain⟨k1,k2,k3⟩:=d0s (hnear hkw) hA hm (fun k e=>by simp only[a1b,b6a,ho,List.mem_append];exact .inr (.inl (c0p e))) (fun k e=>hmap k (hmo k e)) h4;rw[h3,Option.bind_some,k1,Option.bind_some];split at h
  · rename_i hc;rw[if_pos hc];obtain⟨es,h5,h⟩:=bind_some h;rw[h5,Option.bind_some];obtain⟨B,t',q1,q2,q3⟩:=f3c hA k2 k3 h;exact⟨B,t',q1,.inl ⟨hkw,q2⟩,q3⟩
  · cases h
 case h_26=>cases h
end
end Go.Av
namespace Go.Av
noncomputable def b8q (E:Env) (D:Den) (ds:List (Option Nat)) (n:Nat) (o:Oper) (s:St):Option St:=
 (b4x ds o s).bind fun w=>if w then opF E D n o s else some (s.putD o.dst (.tup []))
section
variable{E:Env}{D:Den}{ds:List (Option Nat)}{l:List Oper}
theorem d0a:∀ {l:List Oper} {n:Nat} {s:St} {tr:List St},b1e E D ds n l s=some tr→
 tr.length=l.length+1∧tr[0]? =some s∧∀i o,l[i]? =some o→∃a b,tr[i]? =some a∧tr[i+1]? =some b∧b8q E D ds (n+i) o a=some b
 | [],n,s,tr,h=>by
  simp only[b1e,Option.some.injEq] at h;subst h;exact⟨rfl,rfl,fun i o hi=>by simp at hi⟩
 | o::l,n,s,tr,h=>by
  simp only[b1e] at h;obtain⟨w,h1,h⟩:=bind_some h;obtain⟨s1,h2,h⟩:=bind_some h;obtain⟨tr',h3,rfl⟩:=map_some h;obtain⟨k1,k2,k3⟩:=d0a h3;refine⟨by simp[k1],rfl,fun i o' hi=>?_⟩;cases i with
  | zero=>
   simp at hi;subst hi;exact⟨s,s1,rfl,by simpa using k2,by simp only[b8q,h1,Option.bind_some,Nat.add_zero];exact h2⟩
  | succ i=>
   obtain⟨a,b,h4,h5,h6⟩:=k3 i o' (by simpa using hi);exact⟨a,b,by simpa using h4,by simpa using h5,by rw[show n+(i+1)=n+1+i by omega];exact h6⟩
theorem d6s:∀ {l:List Oper} {n:Nat} {s s':St},c1q E D ds n l s=some s'→∃tr,b1e E D ds n l s=some tr∧tr.getLast? =some s'
 | [],n,s,s',h=>by simp only[c1q,Option.some.injEq] at h;subst h;exact⟨[s],rfl,rfl⟩
 | o::l,n,s,s',h=>by
  simp only[c1q] at h;obtain⟨w,h1,h⟩:=bind_some h;have key:∃s1,(if w then opF E D n o s else some (s.putD o.dst (.tup [])))=some s1∧c1q E D ds (n+1) l s1=some s':=by
   cases w with
   | true=>simp only[if_true] at h⊢;exact bind_some h
   | false=>simp only[Bool.false_eq_true,if_false] at h⊢;exact⟨_,rfl,h⟩
  obtain⟨s1,h2,h3⟩:=key;obtain⟨tr,h4,h5⟩:=d6s h3;refine⟨s::tr,by simp only[b1e,h1,Option.bind_some,h2,h4];rfl,?_⟩;cases tr with
  | nil=>cases h5
  | cons x tr=>simpa using h5
theorem c8f{ps:List (Nat×Nat)}{s s1:St}(h:b6e E D ps l ds s=some s1):∃T:Nat→St,T 0=s∧T l.length=s1∧(∀i o,l[i]? =some o→b8q E D ds (s.ver+i) o (T i)=some (T (i+1)))∧
 ∀p∈ps,p.2<l.length→∃o U x,l[p.1]? =some o∧o.op=.load U x∧(rd (T p.1) x).bind (a8o E (T p.2) U)=(rd (T p.1) x).bind (a8o E (T (p.2+1)) U):=by
 have key:∃tr,b1e E D ds s.ver l s=some tr∧tr.getLast? =some s1∧c7a E l tr ps:=by
  unfold b6e at h;cases ps with
  | nil=>obtain⟨tr,h1,h2⟩:=d6s h;exact⟨tr,h1,h2,trivial⟩
  | cons p ps=>
   simp only at h;obtain⟨tr,h1,h⟩:=bind_some h;split at h
   · rename_i hp;exact⟨tr,h1,h,hp⟩
   · cases h
 obtain⟨tr,h1,h2,h3⟩:=key;obtain⟨k1,k2,k3⟩:=d0a h1;refine⟨fun i=>(tr[i]?).getD s,by simp[k2],?_,fun i o hi=>?_,?_⟩
 · rw[List.getLast?_eq_getElem?,k1] at h2;simp only[Nat.add_sub_cancel] at h2;simp[h2]
 · obtain⟨a,b,h4,h5,h6⟩:=k3 i o hi;simp[h4,h5,h6]
 · have pairs:∀ {ps:List (Nat×Nat)},c7a E l tr ps→∀p∈ps,e3p E l tr p:=by
    intro ps
    induction ps with
    | nil=>intro _ p hp;cases hp
    | cons q ps ih=>
     intro h p hp;rcases List.mem_cons.1 hp with rfl|hp
     · exact h.1
     · exact ih h.2 p hp
   intro p hp _;have:=pairs h3 p hp;unfold e3p at this;split at this
   · rename_i o a b c e1 e2 e3 e4;split at this
     · rename_i U x ho;exact⟨o,U,x,e1,ho,by simpa [e2,e3,e4] using this⟩
     · cases this
   · cases this
structure Fit (ds:List (Option Nat)) (l:List Oper) (o:Oper) (u u' t:St):Prop where
 reads:∀k∈a8t ds o,a0i t.tm k=a0i u.tm k
 writes:∀k∈a1b l o,a0i t.tm k=a0i u.tm k
 near:a2h o=.writes→b4x ds o u=some true→Near u t
 names:a2h o=.writes→∀x∈o.op.operands.toList,∀v,rd t x=some v→∀b∈a3w v,u.box b≠none→t.box b≠none
 news:a2h o=.news→∀k,o.dst=some k→u.box (.loc k)=none→u'.box (.loc k)≠none→t.box (.loc k)=none
 loads:b4x ds o u=some true→∀T x,o.op=.load T x→(rd u x).bind (a8o E t T)=(rd u x).bind (a8o E u T)
 app:∀args ats k y,o.op=.call {callee:=.builtin .append,args:=args,argTypes:=ats}→args.toList=[.tmp k,y]→(∀U m es j,a0i u.tm k=some (.view U m es (.tmp j))→j∈a1b l o)∧
  ∀U m es b off,a0i u.tm k=some (.view U m es (.cell b off))→u.box b≠none→t.box b≠none
 map:∀k,c7r o=some k→(∀n j,a0i u.tm k=some (.mview n (.tmp j))→j∈a1b l o)∧∀n b off,a7n (.cell b off)=none→a0i u.tm k=some (.mview n (.cell b off))→u.box b≠none→t.box b≠none
theorem e2e{u u' t:St}{n:Nat}{o:Oper}(hk:a2h o≠ .other)(hf:Fit (E:=E) ds l o u u' t)
 (h:b8q E D ds n o u=some u'):∃B t',b8q E D ds n o t=some t'∧((a2h o=.writes∧Old B u t)∨(a2h o=.news∧∀b,B b→u.box b=none)∨∀b,¬B b)∧Upd (a1b l o) B u u' t t':=by
 have hR:=hf.reads;have hA:Agree (a1b l o) (fun _=>False) u t:=⟨hf.writes,fun _ h=>h.elim⟩
 have hr:∀x∈o.op.operands.toList,rd t x=rd u x:=fun x hx=>by
  cases x with
  | tmp k=>
   exact hR k (by
    simp only[a8t,List.mem_append];exact .inl (by simp only[a8f,List.mem_filterMap];exact⟨_,hx,rfl⟩))
  | _=>rfl
 have hw:b4x ds o t=b4x ds o u:=by
  unfold b4x;cases hg:o.guard with
  | none=>rfl
  | some g=>
   obtain⟨j,want⟩:=g;simp only;cases hs:e0s ds j with
   | none=>rfl
   | some k=>
    simp only[Option.bind_some];rw[hR k (by
     simp only[a8t,List.mem_append,hg];refine .inr ?_;have:a8t.gslot' ds j=e0s ds j:=rfl;rw[this,hs];simp)]
 simp only[b8q] at h⊢;rw[hw];obtain⟨b,h1,h⟩:=bind_some h;rw[h1,Option.bind_some];cases b with
 | true=>
  simp only[if_true] at h⊢;exact j3v hk hr hA (fun k=>hf.near k h1) hf.names hf.news (hf.loads h1) hf.app hf.map h
 | false=>
  simp only[Bool.false_eq_true,if_false,Option.some.injEq] at h⊢;subst h;exact⟨_,_,rfl,.inr (.inr fun _ h=>h),.putD hA (fun k hk=>by simp[a1b,hk]) _⟩
end
def f1b(ms:List Nat)(j i:Nat):Bool:=(ms.getD j 0).testBit i
theorem e4c{acc:List Nat}{i:Nat}:∀(es:List Edge) (m:Nat),(es.foldl (fun m e=>if Region.binds .any e then m|||2 ^ e.on|||acc.getD e.on 0 else m) m).testBit i=true→
 m.testBit i=true∨∃e∈es,Region.binds .any e=true∧(e.on=i∨(acc.getD e.on 0).testBit i=true)
 | [],m,h=>.inl h
 | e::es,m,h=>by
  simp only[List.foldl_cons] at h;rcases e4c es _ h with h1| ⟨e',h1,h2⟩
  · split at h1
    · rename_i hb;simp only[Nat.testBit_or,Bool.or_eq_true,Nat.testBit_two_pow,decide_eq_true_eq] at h1;rcases h1 with (h1|h1)|h1
      · exact .inl h1
      · exact .inr ⟨e,by simp,hb,.inl h1⟩
      · exact .inr ⟨e,by simp,hb,.inr h1⟩
    · exact .inl h1
  · exact .inr ⟨e',by simp[h1],h2⟩
theorem c2s:∀(l:List Oper) (acc:List Nat),(b5x acc l).length=acc.length+l.length∧(∀j,j<acc.length→(b5x acc l).getD j 0=acc.getD j 0)∧
 ∀j o,l[j]? =some o→∀i,((b5x acc l).getD (acc.length+j) 0).testBit i=true→∃e∈o.after.toList,Region.binds .any e=true∧(e.on=i∨(e.on<acc.length+j∧((b5x acc l).getD e.on 0).testBit i=true))
 | [],acc=>⟨by simp[b5x],fun _ _=>rfl,fun j o h=>by simp at h⟩
 | o::l,acc=>by
  obtain⟨h1,h2,h3⟩:=c2s l (acc++[e4d acc o]);have old:∀j,j<acc.length→(b5x acc (o::l)).getD j 0=acc.getD j 0:=fun j hj=>by
   simp only[b5x];rw[h2 j (by simp;omega)];simp[List.getElem?_append_left hj]
  refine⟨by simp only[b5x,h1];simp;omega,old,fun j p hj i hi=>?_⟩;cases j with
  | zero=>
   simp at hj;subst hj;simp only[b5x,Nat.add_zero] at hi;rw[h2 acc.length (by simp)] at hi;have hi:(e4d acc o).testBit i=true:=by simpa using hi
   rcases e4c _ _ hi with h4| ⟨e,he,hb,h4⟩
   · simp at h4
   · refine⟨e,he,hb,h4.imp id fun h5=>?_⟩;have hlt:e.on<acc.length:=by
      rcases Nat.lt_or_ge e.on acc.length with h6|h6
      · exact h6
      · simp[List.getElem?_eq_none h6] at h5
     exact⟨by omega,by rw[old _ hlt];exact h5⟩
  | succ j=>
   simp only[b5x] at hi⊢;obtain⟨e,he,hb,h4⟩:=h3 j p (by simpa using hj) i (by rw[show (acc++[e4d acc o]).length+j=acc.length+(j+1) by simp;omega];exact hi);refine⟨e,he,hb,h4.imp id fun h5=>⟨by have:=h5.1;simp at this;omega,h5.2⟩⟩
theorem c8v{l:List Oper}{L:Nat→Prop}(hc:∀j o,L j→l[j]? =some o→∀e∈o.after.toList,Region.binds .any e=true→L e.on):
 ∀(j:Nat),(L j∨∃o,l[j]? =some o∧∀e∈o.after.toList,Region.binds .any e=true→L e.on)→∀i,f1b (b5x [] l) j i=true→L i:=by
 intro j
 induction j using Nat.strongRecOn with
 | _ j ih=>
  intro hj i hi;unfold f1b at hi;have hlt:j<l.length:=by
   rcases Nat.lt_or_ge j l.length with h|h
   · exact h
   · rw[List.getD_eq_getElem?_getD,List.getElem?_eq_none (by rw[(c2s l []).1];simpa using h)] at hi;simp at hi
  have hlo:l[j]? =some l[j]:=List.getElem?_eq_getElem hlt;have hcl:∀e∈l[j].after.toList,Region.binds .any e=true→L e.on:=by
   rcases hj with hj| ⟨o,ho,hj⟩
   · exact hc j _ hj hlo
   · rw[hlo] at ho;injection ho with ho;subst ho;exact hj
  obtain⟨e,he,hb,h4⟩:=(c2s l []).2.2 j _ hlo i (by simpa using hi);rcases h4 with rfl| ⟨h4,h5⟩
  · exact hcl e he hb
  · exact ih e.on (by simpa using h4) (.inl (hcl e he hb)) i h5
end Go.Av
namespace Go.Av
structure Stat (ps:List (Nat×Nat)) (l:List Oper):Prop where
 kind:∀j o,l[j]? =some o→a2h o≠ .other∧(f1g l j o=true∧e7i l j o=true)∧∀e∈o.after.toList,Region.binds .any e=true→e.on<j
 apart:∀i j oi oj,i<j→l[i]? =some oi→l[j]? =some oj→f1b (b5x [] l) j i=true∨c9d l ps i j oi oj=true
theorem d1x{ps:List (Nat×Nat)}{l:List Oper}(h:d4u ps l=true):Stat ps l:=by
 have key:∀j o,l[j]? =some o→a2h o≠ .other∧(f1g l j o=true∧e7i l j o=true)∧(∀e∈o.after.toList,Region.binds .any e=true→e.on<j)∧∀i,i<j→f1b (b5x [] l) j i=true∨∃oi,l[i]? =some oi∧c9d l ps i j oi o=true:=by
  intro j o hj;have hlt:j<l.length:=(List.getElem?_eq_some_iff.1 hj).1;have h1:=List.all_eq_true.1 h j (List.mem_range.2 hlt);simp only[hj,Bool.and_eq_true] at h1;obtain⟨k1,k2,k3,k4⟩:=h1;refine⟨of_decide_eq_true k1,k2,fun e he hb=>by have:=List.all_eq_true.1 k3 e he;rw[hb] at this;simpa using this,fun i hi=>?_⟩;have h2:=List.all_eq_true.1 k4 i (List.mem_range.2 hi);rcases Bool.or_eq_true _ _▸h2 with h2|h2
  · exact .inl h2
  · split at h2
    · rename_i oi hoi;exact .inr ⟨oi,hoi,h2⟩
    · cases h2
 refine⟨fun j o hj=>⟨(key j o hj).1,(key j o hj).2.1,(key j o hj).2.2.1⟩,fun i j oi oj hij hi hj=>?_⟩;rcases (key j oj hj).2.2.2 i hij with h1| ⟨oi',h1,h2⟩
 · exact .inl h1
 · rw[hi] at h1;injection h1 with h1;subst h1;exact .inr h2
theorem a6g{α:Type}{f:Nat→α}{a:Nat}:∀ {b:Nat},a≤b→(∀i,a≤i→i<b→f (i+1)=f i)→f b=f a
 | 0,h,_=>by
  have:a=0:=by omega
  rw[this]
 | b+1,h,hc=>by
  rcases Nat.lt_or_ge b a with h1|h1
  · have:a=b+1:=by omega
    rw[this]
  · rw[hc b h1 (by omega)];exact a6g h1 fun i h2 h3=>hc i h2 (by omega)
theorem d8m{xs ys:List Nat}(h:k1y xs ys=true){k:Nat}(h1:k∈xs)(h2:k∈ys):False:=by
 have:=List.all_eq_true.1 h k h1;simp only[Bool.not_eq_true',List.contains_eq_mem,decide_eq_false_iff_not] at this;exact this h2
section
variable{E:Env}{D:Den}{l:List Oper}{n:Nat}{ps:List (Nat×Nat)}{T:Nat→St}
structure Apart (ps:List (Nat×Nat)) (l:List Oper) (i j:Nat) (oi oj:Oper):Prop where
 slots:∀k,k∈a1b l oi→k∈a8t (l.map (·.dst)) oj++a1b l oj→False
 slots':∀k,k∈a1b l oj→k∈a8t (l.map (·.dst)) oi++a1b l oi→False
 writers:a2h oi=.writes→a2h oj=.writes→False
 pair:a2h oi=.reads→a2h oj=.writes→(i,j)∈ps
 pair':a2h oi=.writes→a2h oj=.reads→(j,i)∈ps
theorem d2i{i j:Nat}{oi oj:Oper}(h:c9d l ps i j oi oj=true):Apart ps l i j oi oj:=by
 simp only[c9d,Bool.and_eq_true,Bool.not_eq_true',Bool.or_eq_true] at h;obtain⟨h1,h2,h3,h5,h6⟩:=h;have s1:∀k,k∈a1b l oi→k∈a8t (l.map (·.dst)) oj++a1b l oj→False:=fun k a b=>d8m h1 a b;have s2:∀k,k∈a1b l oj→k∈a8t (l.map (·.dst)) oi++a1b l oi→False:=fun k a b=>by
  rcases List.mem_append.1 b with b|b
  · exact d8m h2 a b
  · exact s1 k b (List.mem_append.2 (.inr a))
 refine⟨s1,s2,?_,?_,?_⟩
 · intro h7 h8;simp[h7,h8] at h3
 · intro h7 h8;simp[h7,h8] at h5;exact h5
 · intro h7 h8;simp[h7,h8] at h6;exact h6
theorem Apart.swap{i j:Nat}{oi oj:Oper}(h:Apart ps l i j oi oj):Apart ps l j i oj oi:=⟨h.slots',h.slots,fun a c=>h.writers c a,fun a b=>h.pair' b a,fun a b=>h.pair b a⟩
def b8l(E:Env)(D:Den)(l:List Oper)(n:Nat)(T:Nat→St):Prop:=∀i o,l[i]? =some o→b8q E D (l.map (·.dst)) (n+i) o (T i)=some (T (i+1))
def k2h(l:List Oper)(u:St)(o:Oper):Prop:=
 ∀args ats k y,o.op=.call {callee:=.builtin .append,args:=args,argTypes:=ats}→args.toList=[.tmp k,y]→∀U m es j,a0i u.tm k=some (.view U m es (.tmp j))→j∈a1b l o
theorem d6e{s:St}{T:TypeId}{x:AVal}{lo hi mx:Option Operand}{v:AVal}(h:b8c E s T x lo hi mx=some v):∀U m es p,v≠ .view U m es p:=by
 intro U m es p e;subst e;cases x<;>simp only[b8c] at h
 case str b=>
  obtain⟨_,_,h⟩:=bind_some h;obtain⟨_,_,h⟩:=bind_some h;split at h<;>cases h
 all_goals (
  obtain⟨_,_,h⟩:=bind_some h;obtain⟨_,_,h⟩:=bind_some h;obtain⟨_,_,h⟩:=bind_some h;obtain⟨_,_,h⟩:=bind_some h;split at h
  · cases mx with
    | none=>cases h
    | some m=>
     obtain⟨_,_,h⟩:=bind_some h;split at h<;>cases h
  · cases h)
theorem c3y{n:Nat}{v:AVal}:∀U m es p,b8v n v≠ .view U m es p:=by
 intro U m es p e;cases v<;>simp only[b8v] at e<;>cases e
theorem d9b{D:Den}{s s':St}{n k:Nat}{dst:Option Nat}{as:List AVal}{c:AVal}(hd:dst=some k)(h:b8a D s n dst as c=some s'):∀U m es p,a0i s'.tm k≠some (.view U m es p):=by
 intro U m es p hv;have self:∀(s:St) v,a0i (s.putD dst v).tm k=some v:=fun s v=>by rw[hd];simp[St.putD,St.put,a1r]
 unfold b8a at h;split at h
 · simp only at h;split at h
   · obtain⟨r,_,h⟩:=bind_some h;split at h
     · injection h with h;subst h;rw[self] at hv;injection hv with hv;exact c3y _ _ _ _ hv
     · cases h
   · obtain⟨_,_,h⟩:=bind_some h;obtain⟨_,_,h⟩:=bind_some h;obtain⟨_,_,h⟩:=bind_some h;obtain⟨_,_,rfl⟩:=map_some h;rw[self] at hv;injection hv with hv;exact c3y _ _ _ _ hv
 · cases h
theorem c8a{D:Den}{n:Nat}{o:Oper}{s s':St}{k:Nat}(hd:o.dst=some k)(hf:e9w o.op=true)(h1:∀x,o.op≠ .move x)(h2:∀T x,o.op≠ .load T x)(h:opF E D n o s=some s'):∀U m es p,a0i s'.tm k≠some (.view U m es p):=by
 intro U m es p hv;have self:∀(s:St) v,a0i (s.putD o.dst v).tm k=some v:=fun s v=>by rw[hd];simp[St.putD,St.put,a1r]
 unfold opF at h;split at h<;>rename_i ho'<;>simp only[ho',e9w] at hf<;>try (cases hf;done)
 · exact h1 _ ho'
 · obtain⟨_,_,h⟩:=bind_some h;obtain⟨_,_,h⟩:=bind_some h;split at h
   · injection h with h;subst h;rw[self] at hv;cases hv
   · cases h
 · exact h2 _ _ ho'
 · obtain⟨_,_,h⟩:=bind_some h;obtain⟨v,h3,rfl⟩:=map_some h;rw[self] at hv;injection hv with hv;exact d6e h3 _ _ _ _ hv
 · obtain⟨_,_,h⟩:=bind_some h;obtain⟨_,_,h⟩:=bind_some h;exact d9b hd h _ _ _ _ hv
 · split at h<;>try (cases hf;done)
   · obtain⟨_,_,h⟩:=bind_some h;obtain⟨_,_,h⟩:=bind_some h;obtain⟨_,_,h⟩:=bind_some h;obtain⟨_,_,h⟩:=bind_some h;split at h
     · injection h with h;subst h;rw[self] at hv;cases hv
     · cases h
   · cases h
 · cases h
theorem d9m{n:Nat}{o:Oper}{s s':St}{k:Nat}{U:TypeId}{m:Nat}{es:List AVal}{j:Nat}(hd:o.dst=some k)(ho:e9w o.op=true)
 (h:b8q E D (l.map (·.dst)) n o s=some s') (hv:a0i s'.tm k=some (.view U m es (.tmp j))):∃y,o.op=.move y∧y=.tmp j:=by
 unfold b8q at h;obtain⟨b,_,h⟩:=bind_some h;have self:∀v,a0i (s.putD o.dst v).tm k=some v:=fun v=>by rw[hd];simp[St.putD,St.put,a1r]
 cases b with
 | false=>
  simp only[Bool.false_eq_true,if_false,Option.some.injEq] at h;subst h;rw[self] at hv;cases hv
 | true=>
  simp only[if_true] at h;have hcase:(∃x,o.op=.move x)∨(∃T x,o.op=.load T x):=by
   refine Classical.byContradiction fun hc=>?_;exact c8a hd ho (fun x e=>hc (.inl ⟨x,e⟩)) (fun T x e=>hc (.inr ⟨T,x,e⟩)) h _ _ _ _ hv
  rcases hcase with⟨x,ho'⟩| ⟨T,x,ho'⟩<;>simp only[opF,ho'] at h
  · split at h
    · obtain⟨T,_,rfl⟩:=map_some h;rw[self] at hv;cases hv
    · obtain⟨v,h1,rfl⟩:=map_some h;rw[self] at hv;injection hv with hv;subst hv;refine⟨x,ho',?_⟩;unfold b8z at h1;split at h1
      · rename_i i;obtain⟨v,h2,h1⟩:=bind_some h1;cases v<;>simp only[Option.some.injEq] at h1<;>first
         | (cases h1;rfl)
         | (cases h1;done)
         | (split at h1<;>first|(cases h1;rfl)|(cases h1;done)|(split at h1<;>cases h1))
         | (unfold mvV at h1;split at h1<;>cases h1)
      · obtain⟨v,h2,h1⟩:=map_some h1;cases v<;>simp[strip,strip2,Av.strip1] at h1<;>(split at h1<;>cases h1)
  · obtain⟨p,_,h⟩:=bind_some h;obtain⟨v,h1,rfl⟩:=map_some h;rw[self] at hv;injection hv with hv;subst hv;exfalso;unfold a8o at h1;split at h1
    · obtain⟨cs,_,h1⟩:=bind_some h1;obtain⟨t,_,h1⟩:=bind_some h1;split at h1
      · split at h1
        · split at h1<;>simp at h1
        · obtain⟨c,_,h1⟩:=map_some h1;cases c<;>simp[a9q] at h1<;>(split at h1<;>first|(cases h1;done)|(split at h1<;>cases h1))
      · cases h1
    · obtain⟨t,_,h1⟩:=bind_some h1;split at h1
      · split at h1<;>simp at h1
      · obtain⟨c,_,h1⟩:=map_some h1;cases c<;>simp[d0w] at h1
    · cases h1
theorem d5u{n:Nat}{o:Oper}{s s':St}{k:Nat}{U:TypeId}{m:Nat}{es:List AVal}{b:BName}{off:Nat}(hd:o.dst=some k)(ho:e9w o.op=true)
 (h:b8q E D (l.map (·.dst)) n o s=some s') (hv:a0i s'.tm k=some (.view U m es (.cell b off))):∃T x off',o.op=.load T x∧rd s x=some (.ptr b off'):=by
 unfold b8q at h;obtain⟨w,_,h⟩:=bind_some h;have self:∀v,a0i (s.putD o.dst v).tm k=some v:=fun v=>by rw[hd];simp[St.putD,St.put,a1r]
 cases w with
 | false=>
  simp only[Bool.false_eq_true,if_false,Option.some.injEq] at h;subst h;rw[self] at hv;cases hv
 | true=>
  simp only[if_true] at h;have hcase:(∃x,o.op=.move x)∨(∃T x,o.op=.load T x):=by
   refine Classical.byContradiction fun hc=>?_;exact c8a hd ho (fun x e=>hc (.inl ⟨x,e⟩)) (fun T x e=>hc (.inr ⟨T,x,e⟩)) h _ _ _ _ hv
  rcases hcase with⟨x,ho'⟩| ⟨T,x,ho'⟩<;>simp only[opF,ho'] at h
  · exfalso;split at h
    · obtain⟨T,_,rfl⟩:=map_some h;rw[self] at hv;cases hv
    · obtain⟨v,h1,rfl⟩:=map_some h;rw[self] at hv;injection hv with hv;subst hv;unfold b8z at h1;split at h1
      · obtain⟨v,h2,h1⟩:=bind_some h1;cases v<;>simp at h1<;>first|(unfold mvV at h1;split at h1<;>cases h1;done)|(split at h1<;>first|(cases h1;done)|(split at h1<;>cases h1))
      · obtain⟨v,h2,h1⟩:=map_some h1;cases v<;>simp[strip,strip2,Av.strip1] at h1<;>(split at h1<;>cases h1)
  · obtain⟨p,h0,h⟩:=bind_some h;obtain⟨v,h1,rfl⟩:=map_some h;rw[self] at hv;injection hv with hv;subst hv;unfold a8o at h1;split at h1
    · rename_i b' off';refine⟨T,x,off',ho',?_⟩;rw[h0];obtain⟨cs,_,h1⟩:=bind_some h1;obtain⟨t,_,h1⟩:=bind_some h1;split at h1
      · split at h1
        · split at h1<;>simp at h1
        · obtain⟨c,_,h1⟩:=map_some h1;cases c<;>simp[a9q] at h1<;>first|(obtain⟨_,_,_,rfl,rfl⟩:=h1;rfl)|(split at h1<;>first|(cases h1;done)|(cases h1;rfl)|(split at h1<;>cases h1))
      · cases h1
    · exfalso;obtain⟨t,_,h1⟩:=bind_some h1;split at h1
      · split at h1<;>simp at h1
      · obtain⟨c,_,h1⟩:=map_some h1;cases c<;>simp[d0w] at h1
    · cases h1
theorem c2t{n:Nat}{o:Oper}{s s':St}{k:Nat}{m:Nat}{p:Place}(hd:o.dst=some k)(ho:e4u o.op=true)(h:b8q E D (l.map (·.dst)) n o s=some s')(hp:a7n p=none)
 (hv:a0i s'.tm k=some (.mview m p)):(∃j,o.op=.move (.tmp j)∧p=.tmp j)∨∃T x b off off',o.op=.load T x∧rd s x=some (.ptr b off')∧p=.cell b off:=by
 unfold b8q at h;obtain⟨w,_,h⟩:=bind_some h;have self:∀v,a0i (s.putD o.dst v).tm k=some v:=fun v=>by rw[hd];simp[St.putD,St.put,a1r]
 cases w with
 | false=>
  simp only[Bool.false_eq_true,if_false,Option.some.injEq] at h;subst h;rw[self] at hv;cases hv
 | true=>
  simp only[if_true] at h;have hcase:(∃x,o.op=.move x)∨(∃T x,o.op=.load T x):=by
   cases hop:o.op<;>simp only[hop,e4u] at ho<;>first|(cases ho;done)|exact .inl ⟨_,rfl⟩|exact .inr ⟨_,_,rfl⟩
  rcases hcase with⟨x,ho'⟩| ⟨T,x,ho'⟩<;>simp only[opF,ho'] at h
  · split at h
    · obtain⟨T,_,rfl⟩:=map_some h;rw[self] at hv;cases hv
    · obtain⟨v,h1,rfl⟩:=map_some h;rw[self] at hv;injection hv with hv;subst hv
      left
      unfold b8z at h1;split at h1
      · rename_i i;obtain⟨v,h2,h1⟩:=bind_some h1;cases v with
        | own T n es=>
         simp only[Option.some.injEq] at h1;split at h1
         · split at h1
           · injection h1 with h1 h3;subst h3;simp[a7n] at hp
           · injection h1 with h1 h3;subst h3;exact⟨_,ho',rfl⟩
         · cases h1
        | mview n q=>
         simp only[mvV,Option.some.injEq] at h1;split at h1
         · cases h1
         · rename_i hq;injection h1 with h1 h3;subst h3;exact absurd hp hq
        | _=>simp only[Option.some.injEq] at h1;cases h1
      · obtain⟨v,h2,h1⟩:=map_some h1;cases v<;>simp[strip,strip2,Av.strip1] at h1<;>(split at h1<;>cases h1)
  · obtain⟨y,h0,h⟩:=bind_some h;obtain⟨v,h1,rfl⟩:=map_some h;rw[self] at hv;injection hv with hv;subst hv
    right
    unfold a8o at h1;split at h1
    · rename_i b' off';obtain⟨cs,_,h1⟩:=bind_some h1;obtain⟨t,_,h1⟩:=bind_some h1;split at h1
      · split at h1
        · split at h1<;>simp at h1
        · obtain⟨c,_,h1⟩:=map_some h1;cases c with
          | own T' n' es=>
           simp only[a9q] at h1;split at h1
           · split at h1
             · cases h1
             · injection h1 with h1 h3;subst h3;exact⟨T,x,b',off',off',ho',h0,rfl⟩
           · cases h1
          | _=>simp only[a9q] at h1;cases h1
      · cases h1
    · obtain⟨t,_,h1⟩:=bind_some h1;split at h1
      · split at h1<;>simp at h1
      · obtain⟨c,_,h1⟩:=map_some h1;cases c<;>simp[d0w] at h1
    · cases h1
structure Out (l:List Oper) (o:Oper) (u u':St):Prop where
 slots:∀k,k∉a1b l o→a0i u'.tm k=a0i u.tm k
 grow:∀b,u.box b≠none→u'.box b≠none
 boxes:∀b,u'.box b≠u.box b→(a2h o=.writes∧u.box b≠none)∨(a2h o=.news∧u.box b=none)
theorem e5v(hT:b8l E D l n T){j:Nat}{o:Oper}(hj:l[j]? =some o)(happ:f1g l j o=true)(ih:∀i,i<j→∀oi,l[i]? =some oi→Out l oi (T i) (T (i+1)))
 {args ats k y} (ho:o.op=.call {callee:=.builtin .append,args:=args,argTypes:=ats}) (hargs:args.toList=[.tmp k,y]):
 ∃p q,p<j∧l[p]? =some q∧q.dst=some k∧e9w q.op=true∧a0i (T j).tm k=a0i (T (p+1)).tm k:=by
 simp only[f1g,ho,hargs] at happ;obtain⟨p,hp,h1⟩:=List.any_eq_true.1 happ;have hp:p<j:=List.mem_range.1 hp;simp only[Bool.and_eq_true] at h1;obtain⟨h1,h2⟩:=h1;split at h1
 · rename_i q hq;simp only[Bool.and_eq_true,decide_eq_true_eq] at h1;refine⟨p,q,hp,hq,h1.1,h1.2,a6g (f:=fun i=>a0i (T i).tm k) (by omega) fun i hi1 hi2=>?_⟩;have hlt:i<l.length:=by have:=(List.getElem?_eq_some_iff.1 hj).1;omega
   have hli:l[i]? =some l[i]:=List.getElem?_eq_getElem hlt;have h3:=List.all_eq_true.1 h2 i (List.mem_range.2 hi2);simp only[hli,Bool.or_eq_true,decide_eq_true_eq,Bool.not_eq_true',List.contains_eq_mem,decide_eq_false_iff_not] at h3;rcases h3 with h3|h3
   · omega
   · exact (ih i hi2 _ hli).slots k h3
 · cases h1
theorem e4e(hT:b8l E D l n T){j:Nat}{o:Oper}(hj:l[j]? =some o)(hok:e7i l j o=true)(ih:∀i,i<j→∀oi,l[i]? =some oi→Out l oi (T i) (T (i+1)))
 {k:Nat} (ho:c7r o=some k):∃p q,p<j∧l[p]? =some q∧q.dst=some k∧e4u q.op=true∧a0i (T j).tm k=a0i (T (p+1)).tm k:=by
 simp only[e7i,ho] at hok;obtain⟨p,hp,h1⟩:=List.any_eq_true.1 hok;have hp:p<j:=List.mem_range.1 hp;simp only[Bool.and_eq_true] at h1;obtain⟨h1,h2⟩:=h1;split at h1
 · rename_i q hq;simp only[Bool.and_eq_true,decide_eq_true_eq] at h1;refine⟨p,q,hp,hq,h1.1,h1.2,a6g (f:=fun i=>a0i (T i).tm k) (by omega) fun i hi1 hi2=>?_⟩;have hlt:i<l.length:=by have:=(List.getElem?_eq_some_iff.1 hj).1;omega
   have hli:l[i]? =some l[i]:=List.getElem?_eq_getElem hlt;have h3:=List.all_eq_true.1 h2 i (List.mem_range.2 hi2);simp only[hli,Bool.or_eq_true,decide_eq_true_eq,Bool.not_eq_true',List.contains_eq_mem,decide_eq_false_iff_not] at h3;rcases h3 with h3|h3
   · omega
   · exact (ih i hi2 _ hli).slots k h3
 · cases h1
theorem c7q{o:Oper}{k:Nat}(h:c7r o=some k):(∃U i ok,o.op=.lookup U (.tmp k) i ok)∨∃U i x,o.op=.mapUpdate U (.tmp k) i x:=by
 unfold c7r at h;split at h
 · rename_i U t i ok ho;injection h with h;subst h;exact .inl ⟨U,i,ok,ho⟩
 · rename_i U t i x ho;injection h with h;subst h;exact .inr ⟨U,i,x,ho⟩
 · cases h
theorem f5c(hT:b8l E D l n T){j:Nat}{o:Oper}(hj:l[j]? =some o)(hok:e7i l j o=true)(ih:∀i,i<j→∀oi,l[i]? =some oi→Out l oi (T i) (T (i+1))):
 ∀k,c7r o=some k→∀m i,a0i (T j).tm k=some (.mview m (.tmp i))→i∈a1b l o:=by
 intro k ho m i hv;obtain⟨p,q,hp,hq,h1,h2,hc⟩:=e4e hT hj hok ih ho;rw[hc] at hv;rcases c2t h1 h2 (hT p q hq) (by simp[a7n]) hv with⟨j',q1,q2⟩| ⟨_,_,_,_,_,_,_,q2⟩
 · injection q2 with q2;subst q2;have hmem:i∈d4d l (.tmp k):=by
    simp only[d4d,List.mem_flatMap];exact⟨k,by simp[a8f],q,List.mem_of_getElem? hq,by rw[if_pos h1,q1];simp[a8f]⟩
   rcases c7q ho with⟨U,x,ok,e⟩| ⟨U,x,y,e⟩<;>simp only[a1b,b6a,e,List.mem_append]<;>exact .inr (.inr hmem)
 · cases q2
theorem g0v(hT:b8l E D l n T){j:Nat}{o:Oper}(hj:l[j]? =some o)(happ:f1g l j o=true)(ih:∀i,i<j→∀oi,l[i]? =some oi→Out l oi (T i) (T (i+1))):k2h l (T j) o:=by
 intro args ats k y ho hargs U m es i hv;obtain⟨p,q,hp,hq,h1,h2,hc⟩:=e5v hT hj happ ih ho hargs;rw[hc] at hv;obtain⟨z,hz,rfl⟩:=d9m h1 h2 (hT p q hq) hv;simp only[a1b,b6a,ho,hargs,List.mem_append,List.mem_flatMap];refine .inr (.inr ⟨k,by simp[a8f],q,List.mem_of_getElem? hq,?_⟩);rw[if_pos h1,hz];simp[a8f]
theorem i4p(hs:Stat ps l)(hT:b8l E D l n T):∀j o,l[j]? =some o→Out l o (T j) (T (j+1)):=by
 intro j
 induction j using Nat.strongRecOn with
 | _ j ih=>
  intro o hj;have happ:=g0v hT hj (hs.kind j o hj).2.1.1 ih;have hmap:=f5c hT hj (hs.kind j o hj).2.1.2 ih;obtain⟨B,t',h1,h2,h3⟩:=e2e (hs.kind j o hj).1 (Fit.mk (E:=E) (ds:=l.map (·.dst)) (l:=l) (o:=o) (u:=T j) (u':=T (j+1)) (t:=T j) (fun _ _=>rfl) (fun _ _=>rfl) (fun _ _=>⟨fun _ _ _=>rfl,fun _ _ _ _ _ h=>h⟩)
   (fun _ _ _ _ _ _ _ h=>h) (fun _ _ _ h _=>h) (fun _ _ _ _=>rfl) (fun args ats k y ho hargs=>⟨happ args ats k y ho hargs,fun _ _ _ _ _ _ h=>h⟩) (fun k ho=>⟨hmap k ho,fun _ _ _ _ _ h=>h⟩)) (hT j o hj)
  rw[hT j o hj] at h1;injection h1 with h1;subst h1;refine⟨fun k hk=>(h3.out k hk).1,fun b=>(h3.grow b).1,fun b hb=>?_⟩;have hB:B b:=Classical.byContradiction fun hn=>hb (h3.outb b hn).1;rcases h2 with⟨k1,k2⟩| ⟨k1,k2⟩|k1
  · exact .inl ⟨k1,(k2 b hB).2⟩
  · exact .inr ⟨k1,k2 b hB⟩
  · exact (k1 b hB).elim
theorem c7v(hs:Stat ps l)(hT:b8l E D l n T){b:BName}{i:Nat}(h:(T i).box b≠none):∀ {j:Nat},i≤j→j≤l.length→(T j).box b≠none
 | 0,h1,_=>by
  have:i=0:=by omega
  exact this▸h
 | j+1,h1,h2=>by
  rcases Nat.lt_or_ge j i with h3|h3
  · have:i=j+1:=by omega
    exact this▸h
  · exact (i4p hs hT j _ (List.getElem?_eq_getElem (by omega))).grow b (c7v hs hT h h3 (by omega))
def Chg(T:Nat→St)(i:Nat)(b:BName):Prop:=(T (i+1)).box b≠(T i).box b
structure Inv (l:List Oper) (T:Nat→St) (L:Nat→Prop) (t:St):Prop where
 tm:∀k,∃m,m≤l.length∧a0i t.tm k=a0i (T m).tm k∧∀i o,l[i]? =some o→k∈a1b l o→(L i↔i<m)
 bx:∀b,∃m,m≤l.length∧t.box b=(T m).box b∧∀i,i<l.length→Chg T i b→(L i↔i<m)
 vw:∀i o k U x,L i→l[i]? =some o→o.op=.load U x→o.dst=some k→∀U' m es b off,a0i (T (i+1)).tm k=some (.view U' m es (.cell b off))→t.box b≠none
 vm:∀i o k U x,L i→l[i]? =some o→o.op=.load U x→o.dst=some k→∀m b off,a7n (.cell b off)=none→a0i (T (i+1)).tm k=some (.mview m (.cell b off))→t.box b≠none
theorem Inv.start:Inv l T (fun _=>False) (T 0):=⟨fun _=>⟨0,by omega,rfl,fun i _ _ _=>⟨False.elim,fun h=>absurd h (Nat.not_lt_zero _)⟩⟩,fun _=>⟨0,by omega,rfl,fun i _ _=>⟨False.elim,fun h=>absurd h (Nat.not_lt_zero _)⟩⟩,
 fun _ _ _ _ _ h=>h.elim,fun _ _ _ _ _ h=>h.elim⟩
def g1e(l:List Oper)(L:Nat→Prop):Prop:=∀j o,L j→l[j]? =some o→∀e∈o.after.toList,Region.binds .any e=true→L e.on
theorem Inv.last(hs:Stat ps l)(hT:b8l E D l n T){L:Nat→Prop}{t:St}(h:Inv l T L t)(hL:∀i,i<l.length→L i):(∀k,a0i t.tm k=a0i (T l.length).tm k)∧∀b,t.box b=(T l.length).box b:=by
 refine⟨fun k=>?_,fun b=>?_⟩
 · obtain⟨m,h1,h2,h3⟩:=h.tm k;rw[h2];refine (a6g (f:=fun i=>a0i (T i).tm k) h1 fun i hi1 hi2=>?_).symm;have hli:l[i]? =some l[i]:=List.getElem?_eq_getElem hi2
   by_cases hk:k∈a1b l l[i]
   · have:=(h3 i _ hli hk).1 (hL i hi2);omega
   · exact (i4p hs hT i _ hli).slots k hk
 · obtain⟨m,h1,h2,h3⟩:=h.bx b;rw[h2];refine (a6g (f:=fun i=>(T i).box b) h1 fun i hi1 hi2=>?_).symm;have hli:l[i]? =some l[i]:=List.getElem?_eq_getElem hi2
   by_cases hk:Chg T i b
   · have:=(h3 i hi2 hk).1 (hL i hi2);omega
   · exact Classical.byContradiction hk
end
end Go.Av
namespace Go.Av
section
variable{E:Env}{D:Den}{l:List Oper}{n:Nat}{ps:List (Nat×Nat)}{T:Nat→St}
theorem d7m{U:TypeId}{b:BName}{off:Nat}{s t:St}(h:s.box b=t.box b):a8o E s U (.ptr b off)=a8o E t U (.ptr b off):=by
 simp only[a8o,h]
theorem Inv.next(hs:Stat ps l)(hT:b8l E D l n T)
 (hps:∀p∈ps,p.2<l.length→∃o U x,l[p.1]? =some o∧o.op=.load U x∧(rd (T p.1) x).bind (a8o E (T p.2) U)=(rd (T p.1) x).bind (a8o E (T (p.2+1)) U))
 {L:Nat→Prop} {t:St} (h:Inv l T L t) (hc:g1e l L) {j:Nat} {o:Oper} (hj:l[j]? =some o) (hn:¬L j) (hr:∀e∈o.after.toList,Region.binds .any e=true→L e.on)
 (hdom:∀x v,rd t x=some v→∀b∈a3w v,t.box b≠none) (hcl:∀b cs,t.box b=some cs→∀m∈cs.flatMap a1h,t.box m≠none):
 ∃t',b8q E D (l.map (·.dst)) (n+j) o t=some t'∧Inv l T (fun i=>L i∨i=j) t':=by
 have hjl:j<l.length:=(List.getElem?_eq_some_iff.1 hj).1;have out:=i4p hs hT;have hget:∀ {i:Nat} (hi:i<l.length),l[i]? =some l[i]:=fun hi=>List.getElem?_eq_getElem hi;have hbefore:∀i,f1b (b5x [] l) j i=true→L i:=c8v hc j (.inr ⟨o,hj,hr⟩);have hafter:∀i,L i→f1b (b5x [] l) i j=true→False:=fun i hi hb=>hn (c8v hc i (.inl hi) j hb)
 -- the edges leave unordered:what is done and stands behind,what is not done and stands ahead
 have un:∀i oi,l[i]? =some oi→i≠j→(L i∧j<i∨¬L i∧i<j)→Apart ps l i j oi o:=by
  rintro i oi hi hne (⟨h1,h2⟩| ⟨h1,h2⟩)
  · rcases hs.apart j i o oi h2 hj hi with h3|h3
    · exact (hafter i h1 h3).elim
    · exact (d2i h3).swap
  · rcases hs.apart i j oi o h2 hi hj with h3|h3
    · exact (h1 (hbefore i h3)).elim
    · exact d2i h3
 have btw:∀ {m i:Nat},(L i↔i<m)→(m≤i∧i<j∨j≤i∧i<m)→i≠j∧(L i∧j<i∨¬L i∧i<j):=by
  intro m i h1 h2
  by_cases e:i=j
  · subst e;rcases h2 with h2|h2
    · omega
    · exact absurd (h1.2 h2.2) hn
  · refine⟨e,?_⟩;rcases h2 with h2|h2
    · exact .inr ⟨fun hL=>by have:=h1.1 hL;omega,h2.2⟩
    · exact .inl ⟨h1.2 h2.2,by omega⟩
 have between:∀ {α:Type} (f:Nat→α) (m:Nat),m≤l.length→(∀i,(m≤i∧i<j∨j≤i∧i<m)→i<l.length→f (i+1)=f i)→f m=f j:=by
  intro α f m hm hf;rcases Nat.le_total m j with h1|h1
  · exact (a6g h1 fun i a b=>hf i (.inl ⟨a,b⟩) (by omega)).symm
  · exact a6g h1 fun i a b=>hf i (.inr ⟨a,b⟩) (by omega)
 have slots:∀k,k∈a8t (l.map (·.dst)) o++a1b l o→a0i t.tm k=a0i (T j).tm k:=by
  intro k hk;obtain⟨m,h1,h2,h3⟩:=h.tm k;rw[h2];refine between (fun i=>a0i (T i).tm k) m h1 fun i hi hil=>?_
  by_cases hw:k∈a1b l l[i]
  · obtain⟨e1,e2⟩:=btw (h3 i _ (hget hil) hw) hi;exact ((un i _ (hget hil) e1 e2).slots k hw hk).elim
  · exact (out i _ (hget hil)).slots k hw
 -- a box that is in t,and in the text's state:nothing but a writer lies between
 have mid:∀b m i,m≤l.length→t.box b=(T m).box b→t.box b≠none→(T j).box b≠none→(L i↔i<m)→(m≤i∧i<j∨j≤i∧i<m)→(hil:i<l.length)→Chg T i b→a2h l[i]=.writes:=by
  intro b m i hm h2 h4 h5 h3 hi hil hch;rcases (out i _ (hget hil)).boxes b hch with⟨h6,_⟩| ⟨_,h6⟩
  · exact h6
  · exfalso;rcases hi with hi|hi
    · rw[h2] at h4;exact c7v hs hT h4 hi.1 (by omega) h6
    · exact c7v hs hT h5 hi.1 (by omega) h6
 have boxes:a2h o=.writes→∀b,t.box b≠none→(T j).box b≠none→t.box b=(T j).box b:=by
  intro hkw b h4 h5;obtain⟨m,h1,h2,h3⟩:=h.bx b;rw[h2];refine between (fun i=>(T i).box b) m h1 fun i hi hil=>?_
  by_cases hw:Chg T i b
  · obtain⟨e1,e2⟩:=btw (h3 i hil hw) hi;exact ((un i _ (hget hil) e1 e2).writers (mid b m i h1 h2 h4 h5 (h3 i hil hw) hi hil hw) hkw).elim
  · exact Classical.byContradiction hw
 have rdj:∀x∈o.op.operands.toList,rd t x=rd (T j) x:=fun x hx=>by
  cases x with
  | tmp k=>
   exact slots k (List.mem_append.2 (.inl (by
    simp only[a8t,List.mem_append];exact .inl (by simp only[a8f,List.mem_filterMap];exact⟨_,hx,rfl⟩))))
  | _=>rfl
 have loads:b4x (l.map (·.dst)) o (T j)=some true→∀U x,o.op=.load U x→(rd (T j) x).bind (a8o E t U)=(rd (T j) x).bind (a8o E (T j) U):=by
  intro hwant U x ho;have hkind:a2h o=.reads:=by simp[a2h,ho]
  have hx:rd t x=rd (T j) x:=rdj x (by simp[ho,Op.operands]);cases hv:rd (T j) x with
  | none=>rfl
  | some v=>
   simp only[Option.bind_some];have hv':=hv;rw[←hx] at hv';cases v with
   | ptr b off=>
    obtain⟨m,h1,h2,h3⟩:=h.bx b;have hd:=hdom x _ hv' b (by simp[a3w,names,a5c,a1h]);have h7:(T j).box b≠none:=by
     have h8:=hT j o hj;simp only[b8q,hwant,Option.bind_some,if_true,opF,ho,hv] at h8;obtain⟨v,h9,_⟩:=map_some h8;simp only[a8o] at h9;obtain⟨cs,h9,_⟩:=bind_some h9;rw[h9];simp
    rw[d7m h2];refine between (fun i=>a8o E (T i) U (.ptr b off)) m h1 fun i hi hil=>?_
    by_cases hw:Chg T i b
    · obtain⟨e1,e2⟩:=btw (h3 i hil hw) hi;have hap:=un i _ (hget hil) e1 e2;have hp:=hap.pair' (mid b m i h1 h2 hd h7 (h3 i hil hw) hi hil hw) hkind;obtain⟨o',U',x',q1,q2,q3⟩:=hps _ hp hil;simp only[hj,Option.some.injEq] at q1;subst q1;rw[ho] at q2;injection q2 with q2 q4;subst q2;subst q4;simp only[hv,Option.bind_some] at q3;exact q3.symm
    · exact d7m (Classical.byContradiction hw)
   | _=>rfl
 have fit:Fit (E:=E) (l.map (·.dst)) l o (T j) (T (j+1)) t:=by
  refine⟨fun k hk=>slots k (List.mem_append.2 (.inl hk)),fun k hk=>slots k (List.mem_append.2 (.inr hk)),fun hkw _=>⟨boxes hkw,fun b cs hb m hm _=>hcl b cs hb m hm⟩,fun _ x _ v hv b hb _=>hdom x v hv b hb,?_,loads,?_,?_⟩
  · intro hkn k hd hnone hsome;obtain⟨m,h1,h2,h3⟩:=h.bx (.loc k);have hch:Chg T j (.loc k):=fun e=>hsome (e.trans hnone);have hm:m≤j:=by
     rcases Nat.lt_or_ge j m with h4|h4
     · exact absurd ((h3 j hjl hch).2 h4) hn
     · exact h4
    rw[h2];exact Classical.byContradiction fun h4=>c7v hs hT h4 hm (by omega) hnone
  · intro args ats k y ho hargs;refine⟨g0v hT hj (hs.kind j o hj).2.1.1 (fun i _ oi hoi=>out i oi hoi) args ats k y ho hargs,fun U m es b off hv _=>?_⟩;obtain⟨p,q,hp,hq,q1,q2,q3⟩:=e5v hT hj (hs.kind j o hj).2.1.1 (fun i _ oi hoi=>out i oi hoi) ho hargs;rw[q3] at hv;obtain⟨U',x,off',q4,_⟩:=d5u q1 q2 (hT p q hq) hv;have hLp:L p:=by
     refine Classical.byContradiction fun hLp=>?_;refine (un p q hq (by omega) (.inr ⟨hLp,hp⟩)).slots k (by simp[a1b,q1]) (List.mem_append.2 (.inl ?_));simp only[a8t,List.mem_append];refine .inl ?_;rw[ho];simp[a8f,Op.operands,Call.operands,hargs]
    exact h.vw p q k U' x hLp hq q4 q1 U m es b off hv
  · intro k ho;refine⟨f5c hT hj (hs.kind j o hj).2.1.2 (fun i _ oi hoi=>out i oi hoi) k ho,fun m b off hpl hv _=>?_⟩;obtain⟨p,q,hp,hq,q1,q2,q3⟩:=e4e hT hj (hs.kind j o hj).2.1.2 (fun i _ oi hoi=>out i oi hoi) ho;rw[q3] at hv;have hLp:L p:=by
     refine Classical.byContradiction fun hLp=>?_;refine (un p q hq (by omega) (.inr ⟨hLp,hp⟩)).slots k (by simp[a1b,q1]) (List.mem_append.2 (.inl ?_));simp only[a8t,List.mem_append];refine .inl ?_;rcases c7q ho with⟨U,x,ok,e⟩| ⟨U,x,y,e⟩<;>rw[e]<;>simp[a8f,Op.operands]
    rcases c2t q1 q2 (hT p q hq) hpl hv with⟨_,_,q4⟩| ⟨U',x,b',off',off2,q4,_,q5⟩
    · cases q4
    · exact h.vm p q k U' x hLp hq q4 q1 m b off hpl hv
 obtain⟨B,t',k1,k0,k2⟩:=e2e (hs.kind j o hj).1 fit (hT j o hj);have hBch:∀b,Chg T j b→B b:=fun b hb=>Classical.byContradiction fun hB=>hb (k2.outb b hB).1
 -- what the operation changes in t,and in the text's state
 have same:∀b,¬Chg T j b→t'.box b=t.box b:=by
  intro b hb
  by_cases hB:B b
  · have h5:(T (j+1)).box b=(T j).box b:=Classical.byContradiction hb;rcases k0 with⟨q1,q2⟩| ⟨q1,q2⟩|q1
    · have:=q2 b hB;rw[k2.on.bx b hB,h5,boxes q1 b this.1 this.2]
    · have h6:=q2 b hB;have hold:t.box b=none:=by
       obtain⟨m,h1,h2,h3⟩:=h.bx b;exact Classical.byContradiction fun h7=>by
        have h8:=(k2.grow b).2 h7;rw[k2.on.bx b hB,h5,h6] at h8;exact h8 rfl
      rw[k2.on.bx b hB,h5,h6,hold]
    · exact (q1 b hB).elim
  · exact (k2.outb b hB).2
 refine⟨t',k1,⟨fun k=>?_,fun b=>?_,?_,?_⟩⟩
 · by_cases hk:k∈a1b l o
   · refine⟨j+1,by omega,k2.on.tm k hk,fun i oi hi hw=>⟨?_,fun hlt=>?_⟩⟩
     · rintro (h1|rfl)
       · rcases Nat.lt_or_ge i (j+1) with h2|h2
         · exact h2
         · exact ((un i oi hi (by omega) (.inl ⟨h1,by omega⟩)).slots k hw (List.mem_append.2 (.inr hk))).elim
       · omega
     · by_cases e:i=j
       · exact .inr e
       · by_cases hL:L i
         · exact .inl hL
         · exact ((un i oi hi e (.inr ⟨hL,by omega⟩)).slots k hw (List.mem_append.2 (.inr hk))).elim
   · obtain⟨m,h1,h2,h3⟩:=h.tm k;refine⟨m,h1,by rw[(k2.out k hk).2,h2],fun i oi hi hw=>?_⟩;rw[←h3 i oi hi hw];refine⟨fun h4=>h4.elim id fun e=>?_,.inl⟩;subst e;rw[hj] at hi;injection hi with hi;subst hi;exact (hk hw).elim
 · obtain⟨m,h1,h2,h3⟩:=h.bx b
   by_cases hk:Chg T j b
   · have hmj:m≤j:=by
      rcases Nat.lt_or_ge j m with h4|h4
      · exact absurd ((h3 j hjl hk).2 h4) hn
      · exact h4
     have hkind:=(out j o hj).boxes b hk;have hsome:(T (j+1)).box b≠none:=by
      rcases hkind with⟨_,h5⟩| ⟨_,h5⟩
      · exact (out j o hj).grow b h5
      · exact fun h6=>hk (h6.trans h5.symm)
     have htn:a2h o=.writes→t.box b≠none:=fun hkw=>by
      rcases k0 with⟨q1,q2⟩| ⟨q1,q2⟩|q1
      · exact (q2 b (hBch b hk)).1
      · rw[q1] at hkw;cases hkw
      · exact (q1 b (hBch b hk)).elim
     refine⟨j+1,by omega,k2.on.bx b (hBch b hk),fun i hil hw=>⟨?_,fun hlt=>?_⟩⟩
     · rintro (h4|rfl)
       · rcases Nat.lt_or_ge i (j+1) with h5|h5
         · exact h5
         · have:=(h3 i hil hw).1 h4;omega
       · omega
     · by_cases e:i=j
       · exact .inr e
       · by_cases hL:L i
         · exact .inl hL
         · exfalso;have hap:=un i _ (hget hil) e (.inr ⟨hL,by omega⟩);have hmi:m≤i:=by
            rcases Nat.lt_or_ge i m with h4|h4
            · exact absurd ((h3 i hil hw).2 h4) hL
            · exact h4
           rcases (out i _ (hget hil)).boxes b hw with⟨p1,p2⟩| ⟨p1,p2⟩<;>rcases hkind with⟨q1,q2⟩| ⟨q1,q2⟩
           · exact hap.writers p1 q1
           · exact c7v hs hT p2 (show i≤j by omega) (by omega) q2
           · have:=htn q1;rw[h2] at this;exact c7v hs hT this hmi (by omega) p2
           · have hi1:(T (i+1)).box b≠none:=fun h6=>hw (h6.trans p2.symm);exact c7v hs hT hi1 (show i+1≤j by omega) (by omega) q2
   · refine⟨m,h1,by rw[same b hk,h2],fun i hil hw=>?_⟩;rw[←h3 i hil hw];refine⟨fun h4=>h4.elim id fun e=>?_,.inl⟩;subst e;exact (hk hw).elim
 · rintro i oi k U x (hL|rfl) hi hop hd U' m es b off hv
   · exact (k2.grow b).2 (h.vw i oi k U x hL hi hop hd U' m es b off hv)
   · rw[hj] at hi;injection hi with hi;subst hi;obtain⟨U2,x2,off',q4,q5⟩:=d5u hd (by rw[hop];rfl) (hT i o hj) hv;rw[hop] at q4;injection q4 with e1 e2;subst e1;subst e2;have hx:rd t x=rd (T i) x:=rdj x (by simp[hop,Op.operands]);exact (k2.grow b).2 (hdom x _ (hx.trans q5) b (by simp[a3w,names,a5c,a1h]))
 · rintro i oi k U x (hL|rfl) hi hop hd m b off hpl hv
   · exact (k2.grow b).2 (h.vm i oi k U x hL hi hop hd m b off hpl hv)
   · rw[hj] at hi;injection hi with hi;subst hi;rcases c2t hd (by rw[hop];rfl) (hT i o hj) hpl hv with⟨_,q4,_⟩| ⟨U2,x2,b',off',off2,q4,q5,q6⟩
     · rw[hop] at q4;cases q4
     · rw[hop] at q4;injection q4 with e1 e2;subst e1;subst e2;injection q6 with e3 e4;subst e3;have hx:rd t x=rd (T i) x:=rdj x (by simp[hop,Op.operands]);exact (k2.grow b).2 (hdom x _ (hx.trans q5) b (by simp[a3w,names,a5c,a1h]))
end
end Go.Av
namespace Go.Av
theorem SRel.congr{P:Program}{Q Q':Nat→Prop}{s t:St}{a:Act}{w:World}{V:Vis}{μ:a5m}{γ:a7a}(h:SRel P Q t a w V μ γ)(hQ:QLe Q Q')(h1:∀k,a0i t.tm k=a0i s.tm k)(h2:∀b,t.box b=s.box b):SRel P Q' s a w V μ γ:=by
 have h3:∀p,t.at p=s.at p:=fun p=>by cases p<;>simp only[St.at,h1,h2]
 exact {tm:=fun k v hv=>h.tm k v (by rw[h1];exact hv),bx:=fun b cs hb=>h.bx b cs (by rw[h2];exact hb),dom:=fun b g hb=>(h2 b)▸(h.dom b g hb),inj:=h.inj,visb:=h.visb,vis:=h.vis,gq:=fun p n hn=>hQ n (h.gq p n hn),
         ow:=fun p T n es x g hp=>h.ow p T n es x g (by rw[h3];exact hp),
         ow2:=fun p p' T n es T' n' es' x x' g hp hp'=>h.ow2 p p' T n es T' n' es' x x' g (by rw[h3];exact hp) (by rw[h3];exact hp')}
theorem Loc.congr{w0:World}{T0:Tch}{s t:St}{μ:a5m}{γ:a7a}(h:Loc w0 T0 t μ γ)(h1:∀k,a0i t.tm k=a0i s.tm k)(h2:∀b,t.box b=s.box b):Loc w0 T0 s μ γ:=by
 have h3:∀p,t.at p=s.at p:=fun p=>by cases p<;>simp only[St.at,h1,h2]
 exact⟨h.box,h.par,fun p T n es x g hp=>h.own p T n es x g (by rw[h3];exact hp)⟩
theorem Sim.congr{P:Program}{w0:World}{V0:Vis}{T0:Tch}{Q Q':Nat→Prop}{s t:St}{a:Act}{w:World}(h:Sim P w0 V0 T0 Q t a w)(hQ:QLe Q Q')(h1:∀k,a0i t.tm k=a0i s.tm k)(h2:∀b,t.box b=s.box b):Sim P w0 V0 T0 Q' s a w:=by
 obtain⟨hd,V,μ,γ,k1,k2,k3⟩:=h;exact⟨hd,V,μ,γ,k1.congr hQ h1 h2,k2,k3.congr h1 h2⟩
theorem e7g{w:World}{V:Vis}{μ:a5m}{v:AVal}{x:Value}(h:c9j w V μ v x):∀b∈names v,∃g,μ b=some g:=by
 intro b hb;cases v with
 | ptr b' off=>simp[names,a5c,a1h] at hb;subst hb;obtain⟨g,hg,_⟩:=h;exact⟨g,hg⟩
 | agg cs=>simp[c9j,a1t] at h
 | tup cs=>simp[c9j,a1t] at h
 | func f a c=>simp[c9j,a1t] at h
 | _=>simp[names,a5c,a1h] at hb
theorem c5y{w:World}{V:Vis}{μ:a5m}{vs:List AVal}{xs:List Value}(h:a3r (c9j w V μ) vs xs):∀v∈vs,∀b∈names v,∃g,μ b=some g:=by
 intro v hv;obtain⟨i,hi⟩:=List.getElem?_of_mem hv;obtain⟨x,_,hx⟩:=h.get hi;exact e7g hx
theorem d7b{v:AVal}{b:BName}(h:b∈c7n v):b∈names v:=by
 cases v<;>first|exact h|cases h
theorem b0y{w:World}{V:Vis}{μ:a5m}{v:AVal}{x:Value}(h:a3k w V μ v x):∀b∈a1h v,∃g,μ b=some g:=by
 intro b hb;cases v with
 | ptr b' off=>simp[a1h] at hb;subst hb;obtain⟨g,hg,_⟩:=h;exact⟨g,hg⟩
 | func f a c=>
  obtain⟨x1,x2,_,h1,h2⟩:=h;obtain⟨v,hv,hb⟩:=List.mem_flatMap.1 hb;rcases List.mem_append.1 hv with hv|hv
  · exact c5y h1 v hv b (d7b hb)
  · exact c5y h2 v hv b (d7b hb)
 | _=>simp[a1h] at hb
theorem d0z{w:World}{V:Vis}{μ:a5m}{v:AVal}{x:Value}(h:b2r w V μ v x):∀b∈a5c v,∃g,μ b=some g:=by
 intro b hb;cases v with
 | agg cs=>
  obtain⟨xs,_,h1⟩:=h;obtain⟨c,hc,hb⟩:=List.mem_flatMap.1 hb;obtain⟨i,hi⟩:=List.getElem?_of_mem hc;obtain⟨x,_,hx⟩:=h1.get hi;exact b0y hx b hb
 | ptr _ _=>exact b0y (w:=w) (V:=V) (μ:=μ) (x:=x) (v:=.ptr _ _) h b hb
 | func _ _ _=>exact b0y (w:=w) (V:=V) (μ:=μ) (x:=x) (v:=.func _ _ _) h b hb
 | _=>simp[a5c,a1h] at hb
theorem f4o{w:World}{V:Vis}{μ:a5m}{v:AVal}{x:Value}(h:a4r w V μ v x):∀b∈a3w v,∃g,μ b=some g:=by
 intro b hb;cases v with
 | tup cs=>
  obtain⟨xs,_,h1⟩:=h;obtain⟨c,hc,hb⟩:=List.mem_flatMap.1 hb;obtain⟨i,hi⟩:=List.getElem?_of_mem hc;obtain⟨x,_,hx⟩:=h1.get hi;exact d0z hx b hb
 | agg cs=>exact d0z (w:=w) (V:=V) (μ:=μ) (x:=x) (v:=.agg cs) h b hb
 | ptr _ _=>exact b0y (w:=w) (V:=V) (μ:=μ) (x:=x) (v:=.ptr _ _) h b hb
 | func f a c=>
  rcases List.mem_append.1 hb with hb|hb
  · exact b0y (w:=w) (V:=V) (μ:=μ) (x:=x) (v:=.func _ _ _) h b hb
  · obtain⟨x1,x2,_,h1,h2⟩:=h;obtain⟨v,hv,hb⟩:=List.mem_flatMap.1 hb;rcases List.mem_append.1 hv with hv|hv
    · exact c5y h1 v hv b hb
    · exact c5y h2 v hv b hb
 | _=>simp[a3w,names,a5c,a1h] at hb
theorem e7e{P:Program}{w:World}{V:Vis}{μ:a5m}{γ:a7a}{p:Place}{v:AVal}{x:Value}(h:c1p P w V μ γ p v x):∀b∈a3w v,∃g,μ b=some g:=by
 intro b hb;cases v with
 | own _ _ _=>simp[a3w,names,a5c,a1h] at hb
 | dead _ _ _=>simp[a3w,names,a5c,a1h] at hb
 | view _ _ _ _=>simp[a3w,names,a5c,a1h] at hb
 | full _=>simp[a3w,names,a5c,a1h] at hb
 | mview _ _=>simp[a3w,names,a5c,a1h] at hb
 | _=>simp only[c1p] at h;exact f4o h b hb
theorem e7f{P:Program}{w:World}{V:Vis}{μ:a5m}{γ:a7a}{p:Place}{v:AVal}{x:Value}(h:b2m P w V μ γ p v x):∀b∈a1h v,∃g,μ b=some g:=by
 intro b hb;cases v with
 | own _ _ _=>simp[a1h] at hb
 | dead _ _ _=>simp[a1h] at hb
 | _=>simp only[b2m] at h;exact b0y h b hb
theorem e1c{x:Value}{v:AVal}(h:d2a x=some v):a3w v=[]:=by
 have key:∀ {x v},a7u x=some v→a3w v=[]∧a1h v=[]:=fun {x v} h=>by
  unfold a7u at h;split at h<;>first|(injection h with h;subst h;exact⟨rfl,rfl⟩)|cases h
 have many:∀ {l:List Value} {cs:List AVal},l.mapM a7u=some cs→cs.flatMap a1h=[]:=by
  intro l
  induction l with
  | nil=>intro cs h;simp at h;subst h;rfl
  | cons y l ih=>
   intro cs h;rw[List.mapM_cons] at h;obtain⟨c,h1,h⟩:=bind_some h;obtain⟨r,h2,h⟩:=bind_some h;injection h with h;subst h;rw[List.flatMap_cons,(key h1).2,ih h2];rfl
 unfold d2a at h;split at h
 · injection h with h;subst h;rfl
 · obtain⟨cs,h1,rfl⟩:=map_some h;exact many h1
 · exact (key h).1
theorem SRel.closed_rd{P:Program}{Q:Nat→Prop}{s:St}{a:Act}{w:World}{V:Vis}{μ:a5m}{γ:a7a}(h:SRel P Q s a w V μ γ){x:Operand}{v:AVal}(hv:Av.rd s x=some v):∀b∈a3w v,s.box b≠none:=by
 intro b hb;cases x with
 | tmp k=>
  obtain⟨x,_,h2⟩:=h.tm k _ hv;obtain⟨g,hg⟩:=e7e h2 b hb;obtain⟨cs,hcs⟩:=h.dom b g hg;rw[hcs];simp
 | const c=>rw[e1c hv] at hb;cases hb
 | func f=>simp only[Av.rd,Option.some.injEq] at hv;subst hv;simp[a3w,names,a5c,a1h] at hb
 | global g=>cases hv
theorem SRel.closed_box{P:Program}{Q:Nat→Prop}{s:St}{a:Act}{w:World}{V:Vis}{μ:a5m}{γ:a7a}(h:SRel P Q s a w V μ γ){b:BName}{cs:List AVal}(hb:s.box b=some cs):∀m∈cs.flatMap a1h,s.box m≠none:=by
 intro m hm;obtain⟨c,hc,hm⟩:=List.mem_flatMap.1 hm;obtain⟨i,hi⟩:=List.getElem?_of_mem hc;obtain⟨g,U,cur,_,_,_,h4⟩:=h.bx b cs hb;obtain⟨x,_,hx⟩:=h4 i c hi;obtain⟨g',hg⟩:=e7f hx m hm;obtain⟨cs',hcs⟩:=h.dom m g' hg;rw[hcs];simp
def done(listed:Array Bool)(i:Nat):Prop:=listed.getD i false=true
theorem e5b{listed:Array Bool}{i j:Nat}(hi:i<listed.size):done (listed.setIfInBounds i true) j↔(done listed j∨j=i):=by
 unfold done
 by_cases e:i=j
 · subst e;simp[hi]
 · rw[getD_set_ne false e];constructor
   · exact .inl
   · rintro (h|h)
     · exact h
     · exact absurd h.symm e
theorem b6z{ops:Array Oper}{listed:Array Bool}(hsz:listed.size=ops.size){j:Nat}(h:j∈Region.ready .any ops listed):∃o,ops[j]? =some o∧j<ops.size∧¬done listed j∧∀e∈o.after.toList,Region.binds .any e=true→done listed e.on:=by
 obtain⟨h1,o,h2,h3⟩:=mem_ready.1 h;have hlt:j<ops.size:=(Array.getElem?_eq_some_iff.1 h2).1;refine⟨o,h2,hlt,fun hd=>?_,fun e he hb=>h3 e (Array.mem_toList_iff.1 he) hb⟩;unfold done at hd;have:j<listed.size:=by omega
 simp[this] at h1 hd;rw[h1] at hd;cases hd
theorem e6q{ops:Array Oper}{listed:Array Bool}(hsz:listed.size=ops.size)(hs:∀(j:Nat) (o:Oper),ops.toList[j]? =some o→∀e∈o.after.toList,Region.binds .any e=true→e.on<j):
 ∀(j:Nat),j<ops.size→¬done listed j→Region.ready .any ops listed≠[]:=by
 intro j
 induction j using Nat.strongRecOn with
 | _ j ih=>
  intro hj hn
  by_cases hall:∀e∈(ops[j]).after,Region.binds .any e=true→done listed e.on
  · have:j∈Region.ready .any ops listed:=by
     refine mem_ready.2 ⟨?_,ops[j],Array.getElem?_eq_getElem hj,hall⟩;unfold done at hn;have hj':j<listed.size:=by omega
     simpa [hj'] using hn
    intro h;rw[h] at this;cases this
  · have:∃e∈(ops[j]).after,Region.binds .any e=true∧¬done listed e.on:=by
     refine Classical.byContradiction fun hc=>hall fun e he hb=>Classical.byContradiction fun hd=>hc ⟨e,he,hb,hd⟩
    obtain⟨e,he,hbi,hd⟩:=this;have hlt:=hs j ops[j] (by simp[hj]) e (Array.mem_toList_iff.2 he) hbi;exact ih e.on hlt (by omega) hd
def left(listed:Array Bool):Nat:=listed.toList.count false
theorem g7m{listed:Array Bool}{i:Nat}(hi:i<listed.size)(h:¬done listed i):left (listed.setIfInBounds i true)+1=left listed:=by
 have hf:listed[i]=false:=by
  unfold done at h;simpa [hi] using h
 unfold left;have:(listed.setIfInBounds i true).toList=listed.toList.set i true:=by simp
 rw[this];have h2:i<listed.toList.length:=by simpa using hi
 have hpos:0<listed.toList.count false:=List.count_pos_iff.2 (by rw[←hf];simp);rw[List.count_set h2];simp[hf];have:Array.count false listed=List.count false listed.toList:=by simp
 omega
theorem f6m{listed:Array Bool}(h:left listed=0){i:Nat}(hi:i<listed.size):done listed i:=by
 unfold left at h;rw[List.count_eq_zero] at h;unfold done;have:listed[i]≠false:=fun e=>h (by rw[←e];simp);simpa [hi] using this
section
variable{E:Env}{D:Den}{ps:List (Nat×Nat)}{T:Nat→St}{w0:World}{V0:Vis}{T0:Tch}{N n:Nat}{ops:Array Oper}{Qx:Exit→Act→World→Prop}
theorem i7y(hD:a4x E.P T0.F D)(hs:Stat ps ops.toList)(hT:b8l E D ops.toList n T)
 (hps:∀p∈ps,p.2<ops.toList.length→∃o U x,ops.toList[p.1]? =some o∧o.op=.load U x∧(rd (T p.1) x).bind (a8o E (T p.2) U)=(rd (T p.1) x).bind (a8o E (T (p.2+1)) U))
 (hok:∀o∈ops.toList,c4j N o=true) (hQx:∀a' w',b8m E.P w0 V0 T0 N (n+ops.size) (T ops.size) a' w'→Qx .normal a' w'):
 ∀(fuel:Nat) (listed:Array Bool) (t:St) (a:Act) (w:World),listed.size=ops.size→left listed≤fuel→g1e ops.toList (done listed)→(∀i,done listed i→i<ops.size)→Inv ops.toList T (done listed) t→
  Sim E.P w0 V0 T0 (fun m=>m<n∨∃i,done listed i∧m=n+i) t a w→a.tmps.size=N→wpAny E.P .any ops Qx fuel listed a w:=by
 have fin:∀(listed:Array Bool) (t:St) (a:Act) (w:World),(∀i,i<ops.size→done listed i)→(∀i,done listed i→i<ops.size)→Inv ops.toList T (done listed) t→
  Sim E.P w0 V0 T0 (fun m=>m<n∨∃i,done listed i∧m=n+i) t a w→a.tmps.size=N→Qx .normal a w:=by
  intro listed t a w hall hlt hinv hsim hN;obtain⟨h1,h2⟩:=hinv.last hs hT (fun i hi=>hall i (by simpa using hi));refine hQx a w ⟨hsim.congr ?_ (by simpa using h1) (by simpa using h2),hN⟩;rintro m (h| ⟨i,hi,rfl⟩)
  · show m<n+ops.size
    omega
  · show n+i<n+ops.size
    have:=hlt i hi;omega
 intro fuel
 induction fuel with
 | zero=>
  intro listed t a w hsz hleft hcl hlt hinv hsim hN;have hall:∀i,i<ops.size→done listed i:=fun i hi=>f6m (by omega) (by omega);refine⟨?_,fin listed t a w hall hlt hinv hsim hN⟩;cases hr:Region.ready .any ops listed with
  | nil=>rfl
  | cons j r=>
   obtain⟨o,h1,h2,h3,_⟩:=b6z hsz (j:=j) (by rw[hr];simp);exact absurd (hall j h2) h3
 | succ fuel ih=>
  intro listed t a w hsz hleft hcl hlt hinv hsim hN;refine⟨fun h0=>fin listed t a w (fun i hi=>Classical.byContradiction fun hd=>e6q hsz (fun j o hj=>(hs.kind j o hj).2.2) i hi hd h0) hlt hinv hsim hN,fun j hj=>?_⟩;obtain⟨o,ho,hjlt,hnd,hpre⟩:=b6z hsz hj;have hol:ops.toList[j]? =some o:=by simpa using ho
  have hsz':j<listed.size:=by omega
  have hds:∀i,done (listed.setIfInBounds j true) i↔(done listed i∨i=j):=fun i=>e5b hsz';obtain⟨hdef,V,μ,γ,hrel,hf,hl⟩:=hsim;obtain⟨t',k1,k2⟩:=hinv.next hs hT hps hcl hol hnd hpre (fun x v hv b hb=>hrel.closed_rd hv b hb) (fun b cs hb m hm=>hrel.closed_box hb m hm);have key:∀a' w',Sim E.P w0 V0 T0 (fun m=>m<n∨∃i,done (listed.setIfInBounds j true) i∧m=n+i) t' a' w'→a'.tmps.size=N→wpAny E.P .any ops Qx fuel (listed.setIfInBounds j true) a' w':=by
   intro a' w' hsim' hN';have hleft':=g7m hsz' hnd;refine ih (listed.setIfInBounds j true) t' a' w' (by simpa using hsz) (by omega) ?_ (fun i hi=>((hds i).1 hi).elim (hlt i) (fun e=>by omega)) ?_ hsim' hN'
   · intro i oi hi hoi e he hb;refine (hds _).2 (.inl ?_);rcases (hds i).1 hi with h1|h1
     · exact hcl i oi h1 hoi e he hb
     · subst h1;rw[hol] at hoi;injection hoi with hoi;subst hoi;exact hpre e he hb
   · have:done (listed.setIfInBounds j true)=fun i=>done listed i∨i=j:=funext fun i=>propext (hds i);rw[this];exact k2
  have hQ:QLe (fun m=>m<n∨∃i,done listed i∧m=n+i) (fun m=>m<n∨∃i,done (listed.setIfInBounds j true) i∧m=n+i):=by
   rintro m (h| ⟨i,h1,h2⟩)
   · exact .inl h
   · exact .inr ⟨i,(hds i).2 (.inl h1),h2⟩
  have hnew:¬(n+j<n∨∃i,done listed i∧n+j=n+i):=by
   rintro (h| ⟨i,h1,h2⟩)
   · omega
   · have:i=j:=by omega
     subst this;exact hnd h1
  have hmem:o∈ops.toList:=List.mem_of_getElem? hol;unfold wpOp;simp only[ho];obtain⟨b,hw,k1⟩:=bind_some k1;rw[d2n hrel hw];cases b with
  | true=>
   simp only[if_true] at k1⊢;refine .inl (Oper.wp_mono (fun a1 w1 h2=>key a1 w1 h2.1 (by rw[h2.2,hN])) (b8n (d0u hD hdef hrel hf hl hQ hnew (.inr ⟨j,(hds j).2 (.inr rfl),rfl⟩) (by rw[hN];exact hok o hmem) k1)))
  | false=>
   simp only[Bool.false_eq_true,if_false,Option.some.injEq] at k1⊢;subst k1;exact key _ _ (b5h hdef hrel hf hl hQ (by rw[hN];exact a6y (hok o hmem)) rfl c6e) (by rw[b1y,hN])
end
theorem g9h{E:Env}(hm:E.P.follows .mixedOrders=true):c3o E:=by
 intro D w0 V0 T0 hD N n ps id ops s s1 a w hst hok hs hsim;obtain⟨T,h0,h1,h2,h3⟩:=c8f hs;have hlen:ops.toList.length=ops.size:=by simp
 have hstat:=d1x hst;refine wp_region_any hm ?_;obtain⟨⟨hd,V,μ,γ,k1,k2,k3⟩,hN⟩:=hsim;have hno:∀i,¬done (Array.replicate ops.size false) i:=fun i h=>by by_cases hi:i<ops.size<;>simp[done,hi] at h
 have hfun:done (Array.replicate ops.size false)=fun _=>False:=funext fun i=>propext ⟨fun h=>hno i h,False.elim⟩;refine i7y (n:=s.ver) (T:=T) (w0:=w0) (V0:=V0) (T0:=T0) hD hstat h2 h3 hok (fun a' w' h=>⟨rfl,by rw[←hlen,h1] at h;rw[hlen] at h;exact h⟩) ops.size _ (T 0) a _ (by simp) ?_ (fun i _ h=>(hno i h).elim) (fun i h=>(hno i h).elim) (hfun▸Inv.start) ?_ hN
 · unfold left;simp
 · rw[h0];refine⟨hd,V,μ,γ,?_,k2.drew,k3⟩;have:=k1.drew;exact {this with gq:=fun p m hm=>.inl (this.gq p m hm)}
end Go.Av
namespace Go.Av
open Go.RowKit (Below)
theorem b7c{P:Program}{F:World→Prop}{g:FuncId}{p:List AVal→a3e→Option (AVal×a3e)}(he:b0m P g)(hpl:∀as H r,p as H=some r→∀v∈as,a1k v=true)
 (hp:∀as H r,p as H=some r→H=[]∧r.2=[]∧a1k r.1=true∧∀(xs:Array Value) (w:World) (V:Vis) (μ:a5m),a3r (a4r w V μ) as xs.toList→(∀g o,V g o→g<w.heap.size)→F w→
   Calls P g xs w fun e w'=>∃v,e=.returned v∧(∀w' V' μ',a4r w' V' μ' r.1 v)∧Below w.heap.size w w'):a4x P F fun f as H=>if f=g then p as H else none:=by
 refine a4x.of_plain (fun f as H r hr=>?_) ?_
 · replace hr:(if f=g then p as H else none)=some r:=hr;split at hr
   · exact hpl as H r hr
   · cases hr
 intro f as H r hr xs w V T0 μ γ a0 hx hpl h hl hF hsl;replace hr:(if f=g then p as H else none)=some r:=hr;split at hr
 · rename_i hfg;subst hfg;obtain⟨rfl,h2,h3,h4⟩:=hp as H r hr;refine⟨he,(h4 xs w V μ hx h.vis (hF▸hsl.fact)).mono fun e w' ⟨v,h7,h5,h8⟩=>⟨v,h7,V,γ,⟨#[v],[]⟩,rfl,?_,?_,?_,.inl h3⟩⟩
   · have hnb:∀b,(a2u r.1 r.2).box b=none:=fun b=>by rw[h2];cases b<;>simp[a2u,St.box,a0i]
     have hno:∀b g,μ b≠some g:=fun b g hb=>by
      obtain⟨cs,hc⟩:=h.dom b g hb;cases b<;>simp[a5q,St.box,a0i] at hc
     have hat:∀p T n es,(a2u r.1 r.2).at p≠some (.own T n es):=fun p T n es hp=>by
      cases p with
      | tmp k=>
       simp only[St.at,a2u,a0i] at hp;split at hp
       · injection hp with hp;rw[hp] at h3;cases h3
       · cases hp
      | cell b off=>simp only[St.at,hnb,Option.bind_none] at hp;cases hp
     refine {tm:=?_,bx:=fun b cs hb=>?_,dom:=fun b g hb=>(hno b g hb).elim,inj:=h.inj,visb:=h.visb,vis:=fun g o hv=>Nat.lt_of_lt_of_le (h.vis g o hv) h8.size,ow:=fun p T n es x g hp=>(hat p T n es hp).elim,ow2:=fun p p' T n es T' n' es' x x' g hp=>(hat p T n es hp).elim,gq:=fun _ _ _=>trivial}
     · intro k u hu;simp only[a2u,a0i] at hu;split at hu
       · rename_i hk;injection hu with hu;subst hu;subst hk;exact⟨v,rfl,(h5 w' V μ).repS h3⟩
       · cases hu
     · rw[hnb] at hb;cases hb
   · exact⟨h8.os,h8.tape,h8.output,h8.size,fun g hg _=>h8.block g hg,fun g o hv=>⟨hv,.of (h8.block g (h.vis g o hv))⟩,fun _ _ hv=>.inl hv,hsl⟩
   · refine⟨fun b g hb=>?_,hl.par,fun p T n es x g hp=>?_⟩
     · obtain⟨cs,hc⟩:=h.dom b g hb;cases b<;>simp[a5q,St.box,a0i] at hc
     · exfalso;cases p with
       | tmp k=>
        simp only[St.at,a2u,a0i] at hp;split at hp
        · injection hp with hp;rw[hp] at h3;cases h3
        · cases hp
       | cell b off=>
        rw[h2] at hp;cases b<;>simp[St.at,a2u,St.box,a0i] at hp
 · cases hr
theorem j5k{P:Program}{g:FuncId}{xs:Array Value}{w:World}{R:Value→Prop}(h:∃v,R v∧Calls P g xs w fun e w'=>e=.returned v∧Below w.heap.size w w'):Calls P g xs w fun e w'=>∃v,e=.returned v∧R v∧Below w.heap.size w w':=by
 obtain⟨v,h1,h2⟩:=h;exact h2.mono fun e w' ⟨h3,h4⟩=>⟨v,h3,h1,h4⟩
def b9v:List AVal→Option (List (List UInt8))
 | []=>some []
 | .str s::r=>(b9v r).map (s:: ·)
 | _::_=>none
def e0n:List AVal→a3e→Option (AVal×a3e)
 | [.slice es,.str sep],[]=>(b9v es).bind fun ss=>if (Lib.join ss sep).length≤140737488355328∧ss.length≤140737488355328 then some (.str (Lib.join ss sep),[]) else none
 | _,_=>none
def d7s:List AVal→a3e→Option (AVal×a3e)
 | [.int .i64 n],[]=>if -9223372036854775808≤n∧n≤9223372036854775807 then some (.str (Lib.itoa n),[]) else none
 | _,_=>none
def e1i:List AVal→a3e→Option (AVal×a3e)
 | [.str s],[]=>if s=[] then some (.tup [.int .i64 0,.nilf],[]) else if s.length≤18 then (Lib.atoi s).map fun n=>(.tup [.int .i64 n,.nilf],[]) else none
 | _,_=>none
def a9n:List AVal→a3e→Option (AVal×a3e)
 | [.str s,.int .u8 c],[]=>some (.int .i64 (Lib.indexByte s c.toNat.toUInt8),[])
 | _,_=>none
theorem d0c{w:World}{V:Vis}{g sz:Nat}:∀ {es:List AVal} {ss:List (List UInt8)} {o:Nat},b9v es=some ss→b0v w V sz g o es→es.length=ss.length∧∀(j:Nat) (x:ByteArray),(ss.map fun s=>(⟨s.toArray⟩:ByteArray))[j]? =some x→w.cell? ⟨g,o+j,none⟩=some (.string x)∧V g (o+j)
 | [],ss,o,h,_=>by simp only[b9v,Option.some.injEq] at h;subst h;exact⟨rfl,fun j x hj=>by simp at hj⟩
 | e::es,ss,o,h,hr=>by
  cases e<;>simp only[b9v] at h<;>try (cases h;done)
  rename_i s;obtain⟨r,h1,rfl⟩:=map_some h;rw[a2y] at hr;obtain⟨⟨h2,h3⟩,h4⟩:=hr;simp only[cellsOf,List.length_cons,List.length_nil] at h2;have:sz=1:=by omega
  subst this;obtain⟨k1,k2⟩:=d0c h1 h4;refine⟨by simp[k1],fun j x hj=>?_⟩;cases j with
  | zero=>
   simp only[List.map_cons,List.getElem?_cons_zero,Option.some.injEq] at hj;subst hj;simp only[cellsOf,a3b,a1t] at h3;obtain⟨⟨hv,x,hx,rfl⟩,_⟩:=h3;exact⟨hx,hv⟩
  | succ j=>
   have:=k2 j x (by simpa using hj);rw[show o+(j+1)=o+1+j by omega];exact this
theorem e9i{P:Program}{F:World→Prop}{g:FuncId}(he:b0m P g)
 (h0:∀(A:Option Addr) (c:Nat) (sep:ByteArray) (w:World),Calls P g #[.slice A 0 c,.string sep] w fun e w'=>e=.returned (.string ⟨#[]⟩)∧w'=w)
 (h1:∀(bk o c:Nat) (xs:List ByteArray) (sep:ByteArray) (w:World),(∀(j:Nat) x,xs[j]? =some x→w.cell? ⟨bk,o+j,none⟩=some (.string x))→bk<w.heap.size→xs.length≤140737488355328→xs.length≤c→
   (Lib.join (xs.map (·.data.toList)) sep.data.toList).length≤140737488355328→Calls P g #[.slice (some ⟨bk,o,none⟩) xs.length c,.string sep] w fun e w'=>e=.returned (.string ⟨(Lib.join (xs.map (·.data.toList)) sep.data.toList).toArray⟩)∧Below w.heap.size w w'):
 a4x P F fun f as H=>if f=g then e0n as H else none:=by
 refine b7c he (fun as H r hr=>?_) fun as H r hr=>?_
 · unfold e0n at hr;split at hr
   · simp[a1k]
   · cases hr
 unfold e0n at hr;split at hr
 · rename_i es sep;obtain⟨ss,h2,hr⟩:=bind_some hr;split at hr
   · rename_i hb;injection hr with hr;subst hr;refine⟨rfl,rfl,rfl,fun xs w V μ hx hvis hF=>j5k ?_⟩;obtain⟨xs⟩:=xs
     match xs,hx with
     | [x,y],hx=>
      obtain⟨hx1,hx2,_⟩:=hx;have hy:y=.string ⟨sep.toArray⟩:=hx2;subst hy;obtain⟨A,c,rfl,hc,hrow⟩:a1t w V (.slice es) x:=hx1;refine⟨.string ⟨(Lib.join ss sep).toArray⟩,fun _ _ _=>rfl,?_⟩
      by_cases hes:es=[]
      · subst hes;simp only[b9v,Option.some.injEq] at h2;subst h2;refine (h0 A c ⟨sep.toArray⟩ w).mono fun e w' ⟨h3,h4⟩=>⟨?_,h4▸Below.refl _ _⟩
        rw[h3];simp[Lib.join,List.intercalate]
      · rcases hrow with h3| ⟨gg,o,sz,rfl,hsz,hrow⟩
        · exact absurd h3 hes
        · obtain⟨k1,k2⟩:=d0c h2 hrow;have hm:(ss.map fun s=>(⟨s.toArray⟩:ByteArray)).map (·.data.toList)=ss:=by
           rw[List.map_map];exact (List.map_congr_left fun s _=>by simp).trans (List.map_id ss)
          have hlt:gg<w.heap.size:=by
           cases ss with
           | nil=>simp at k1;exact absurd k1 hes
           | cons s ss=>exact hvis gg o (by have:=(k2 0 _ rfl).2;simpa using this)
          have:=h1 gg o c (ss.map fun s=>⟨s.toArray⟩) ⟨sep.toArray⟩ w (fun j x hj=>(k2 j x hj).1) hlt (by simpa using hb.2) (by simp;omega) (by rw[hm];exact hb.1);rw[hm] at this;simpa [k1] using this
   · cases hr
 · cases hr
theorem i4t{w:World}{V:Vis}{μ:a5m}{k:IntKind}{n:Int}{xs:Array Value}(h:a3r (a4r w V μ) [.int k n] xs.toList):xs= #[.int k n]:=by
 obtain⟨xs⟩:=xs
 match xs,h with
 | [x],h=>
  have:x=.int k n:=h.1;rw[this]
theorem f4h{w:World}{V:Vis}{μ:a5m}{s:List UInt8}{xs:Array Value}(h:a3r (a4r w V μ) [.str s] xs.toList):xs= #[.string ⟨s.toArray⟩]:=by
 obtain⟨xs⟩:=xs
 match xs,h with
 | [x],h=>
  have:x=.string ⟨s.toArray⟩:=h.1;rw[this]
theorem e9j{P:Program}{F:World→Prop}{g:FuncId}(he:b0m P g)
 (h:∀(n:Int) (w:World),-9223372036854775808≤n→n≤9223372036854775807→F w→Calls P g #[.int .i64 n] w fun e w'=>e=.returned (.string ⟨(Lib.itoa n).toArray⟩)∧Below w.heap.size w w'):
 a4x P F fun f as H=>if f=g then d7s as H else none:=by
 refine b7c he (fun as H r hr=>?_) fun as H r hr=>?_
 · unfold d7s at hr;split at hr
   · simp[a1k]
   · cases hr
 unfold d7s at hr;split at hr
 · split at hr
   · rename_i n hb;injection hr with hr;subst hr;refine⟨rfl,rfl,rfl,fun xs w V μ hx hvis hF=>j5k ⟨.string ⟨(Lib.itoa n).toArray⟩,fun _ _ _=>rfl,?_⟩⟩;rw[i4t hx];exact h n w hb.1 hb.2 hF
   · cases hr
 · cases hr
theorem f1f{P:Program}{F:World→Prop}{g:FuncId}(he:b0m P g)
 (h:∀(s:ByteArray) (n:Int) (w:World),s.size≤18→Lib.atoi s.data.toList=some n→Calls P g #[.string s] w fun e w'=>e=.returned (.tuple #[.int .i64 n,.nilIface])∧Below w.heap.size w w')
 (h0:∀(w:World),F w→Calls P g #[.string ⟨#[]⟩] w fun e w'=>∃t x,e=.returned (.tuple #[.int .i64 0,.iface t x])∧Below w.heap.size w w'):
 a4x P F fun f as H=>if f=g then e1i as H else none:=by
 refine b7c he (fun as H r hr=>?_) fun as H r hr=>?_
 · unfold e1i at hr;split at hr
   · simp[a1k]
   · cases hr
 unfold e1i at hr;split at hr
 · split at hr
   · rename_i s hb;subst hb;injection hr with hr;subst hr;refine⟨rfl,rfl,rfl,fun xs w V μ hx hvis hF=>?_⟩;rw[f4h hx];exact (h0 w hF).mono fun e w' ⟨t,x,h1,h2⟩=>⟨_,h1,fun _ _ _=>⟨_,rfl,rfl,.inr (.inr ⟨_,_,rfl⟩),trivial⟩,h2⟩
   · split at hr
     · rename_i s hs0 hb;obtain⟨n,h1,rfl⟩:=map_some hr;refine⟨rfl,rfl,rfl,fun xs w V μ hx hvis hF=>j5k ⟨.tuple #[.int .i64 n,.nilIface],fun _ _ _=>⟨_,rfl,rfl,.inr (.inl rfl),trivial⟩,?_⟩⟩;rw[f4h hx];exact h ⟨s.toArray⟩ n w (by simpa [ByteArray.size] using hb) (by simpa using h1)
     · cases hr
 · cases hr
theorem c7u{P:Program}{F:World→Prop}{g:FuncId}(he:b0m P g)
 (h:∀(s:ByteArray) (c:Int) (w:World),Calls P g #[.string s,.int .u8 c] w fun e w'=>e=.returned (.int .i64 (Lib.indexByte s.data.toList c.toNat.toUInt8))∧w'=w):
 a4x P F fun f as H=>if f=g then a9n as H else none:=by
 refine b7c he (fun as H r hr=>?_) fun as H r hr=>?_
 · unfold a9n at hr;split at hr
   · simp[a1k]
   · cases hr
 unfold a9n at hr;split at hr
 · rename_i s c;injection hr with hr;subst hr;refine⟨rfl,rfl,rfl,fun xs w V μ hx hvis hF=>j5k ⟨.int .i64 (Lib.indexByte s c.toNat.toUInt8),fun _ _ _=>rfl,?_⟩⟩;obtain⟨xs⟩:=xs
   match xs,hx with
   | [x,y],hx=>
    have h1:x=.string ⟨s.toArray⟩:=hx.1;have h2:y=.int .u8 c:=hx.2.1;subst h1;subst h2;refine (h ⟨s.toArray⟩ c w).mono fun e w' ⟨h3,h4⟩=>⟨?_,h4▸Below.refl _ _⟩
    rw[h3]
 · cases hr
end Go.Av
namespace Go.Av
def c9q(m:Nat)(listed:Array Bool):Nat:=(listed.toList.take m).count false
theorem f6n{m:Nat}{listed:Array Bool}{i:Nat}(hi:i<listed.size)(him:i<m)(h:¬done listed i):c9q m (listed.setIfInBounds i true)+1=c9q m listed:=by
 have hf:listed[i]=false:=by
  unfold done at h;simpa [hi] using h
 unfold c9q;have e:(listed.setIfInBounds i true).toList=listed.toList.set i true:=by simp
 rw[e,List.take_set];have h2:i<(listed.toList.take m).length:=by simp;omega
 have h3:(listed.toList.take m)[i]=false:=by simp[hf]
 have hpos:0<(listed.toList.take m).count false:=List.count_pos_iff.2 (by rw[←h3];exact List.getElem_mem h2);rw[List.count_set h2,h3];simp only[beq_self_eq_true,if_true];have e2:(true==false)=false:=rfl;rw[e2];simp only[Bool.false_eq_true,if_false];omega
theorem e9e{m:Nat}{listed:Array Bool}(h:c9q m listed=0){i:Nat}(hi:i<listed.size)(him:i<m):done listed i:=by
 unfold c9q at h;rw[List.count_eq_zero] at h;unfold done;have h2:i<(listed.toList.take m).length:=by simp;omega
 have:listed[i]≠false:=fun e=>h (by
  have h3:(listed.toList.take m)[i]=false:=by simp[e]
  rw[←h3];exact List.getElem_mem h2)
 simpa [hi] using this
theorem f6o{m:Nat}{listed:Array Bool}(h:c9q m listed≠0):∃i,i<listed.size∧i<m∧¬done listed i:=by
 unfold c9q at h;have:false∈listed.toList.take m:=List.count_pos_iff.1 (by omega);obtain⟨i,h1,h2⟩:=List.getElem_of_mem this;simp only[List.length_take,Array.length_toList] at h1;refine⟨i,by omega,by omega,?_⟩;unfold done;have:i<listed.size:=by omega
 simp only[List.getElem_take,Array.getElem_toList] at h2;simp[this,h2]
theorem f1s{l:List (Option Nat)}{m:Nat}{o:Oper}{s:St}{b:Bool}(h:b4x (l.take m) o s=some b):b4x l o s=some b:=by
 unfold b4x at *;split at h
 · exact h
 · rename_i j _ _;obtain⟨k,h1,h⟩:=bind_some h;have:e0s l j=some k:=by
    unfold e0s at h1⊢;obtain⟨d,h2,h3⟩:=bind_some h1;rw[List.getElem?_take] at h2;split at h2
    · rw[h2];exact h3
    · cases h2
   rw[this];exact h
section
variable{E:Env}{D:Den}{ps:List (Nat×Nat)}{T:Nat→St}{w0:World}{V0:Vis}{T0:Tch}{N n m:Nat}{ops:Array Oper}{Qx:Exit→Act→World→Prop}
theorem g7z(hD:a4x E.P T0.F D)(hm:m≤ops.size)(hs:Stat ps (ops.toList.take m))(hT:b8l E D (ops.toList.take m) n T)
 (hps:∀p∈ps,p.2<(ops.toList.take m).length→∃o U x,(ops.toList.take m)[p.1]? =some o∧o.op=.load U x∧(rd (T p.1) x).bind (a8o E (T p.2) U)=(rd (T p.1) x).bind (a8o E (T (p.2+1)) U))
 (hok:∀o∈ops.toList,c4j N o=true) (hbar:∀j o,m≤j→ops[j]? =some o→∀i,i<m→∃e∈o.after.toList,Region.binds .any e=true∧e.on=i)
 (hK:∀listed a w,listed.size=ops.size→(∀i,done listed i↔i<m)→b8m E.P w0 V0 T0 N (n+m) (T m) a w→wpAny E.P .any ops Qx (ops.size - m) listed a w):
 ∀(k:Nat) (listed:Array Bool) (t:St) (a:Act) (w:World),listed.size=ops.size→c9q m listed=k→g1e (ops.toList.take m) (done listed)→(∀i,done listed i→i<m)→Inv (ops.toList.take m) T (done listed) t→
  Sim E.P w0 V0 T0 (fun q=>q<n∨∃i,done listed i∧q=n+i) t a w→a.tmps.size=N→wpAny E.P .any ops Qx (k+(ops.size - m)) listed a w:=by
 have hll:(ops.toList.take m).length=m:=by simp;omega
 intro k
 induction k with
 | zero=>
  intro listed t a w hsz hleft hcl hlt hinv hsim hN;have hall:∀i,i<m→done listed i:=fun i hi=>e9e hleft (by omega) hi;rw[Nat.zero_add];obtain⟨h1,h2⟩:=hinv.last hs hT (fun i hi=>hall i (by omega));rw[hll] at h1 h2;refine hK listed a w hsz (fun i=>⟨hlt i,hall i⟩) ⟨hsim.congr ?_ h1 h2,hN⟩;rintro q (h| ⟨i,hi,rfl⟩)
  · show q<n+m
    omega
  · show n+i<n+m
    have:=hlt i hi;omega
 | succ k ih=>
  intro listed t a w hsz hleft hcl hlt hinv hsim hN;rw[show k+1+(ops.size - m)=(k+(ops.size - m))+1 by omega];obtain⟨i0,hi0,him0,hnd0⟩:=f6o (m:=m) (listed:=listed) (by omega);have hin:∀j,j∈Region.ready .any ops listed→j<m:=by
   intro j hj;obtain⟨o,ho,_,_,hpre⟩:=b6z hsz hj;rcases Nat.lt_or_ge j m with h|h
   · exact h
   · obtain⟨e,he,hb,heq⟩:=hbar j o h ho i0 him0;have:=hpre e he hb;rw[heq] at this;exact absurd this hnd0
  -- one is ready
  have hne:Region.ready .any ops listed≠[]:=by
   have key:∀(j:Nat),j<m→¬done listed j→Region.ready .any ops listed≠[]:=by
    intro j
    induction j using Nat.strongRecOn with
    | _ j ih2=>
     intro hj hn;have hjs:j<ops.size:=by omega
     by_cases hall:∀e∈(ops[j]).after,Region.binds .any e=true→done listed e.on
     · have:j∈Region.ready .any ops listed:=by
        refine mem_ready.2 ⟨?_,ops[j],Array.getElem?_eq_getElem hjs,hall⟩;unfold done at hn;have hj':j<listed.size:=by omega
        simpa [hj'] using hn
       intro h;rw[h] at this;cases this
     · have:∃e∈(ops[j]).after,Region.binds .any e=true∧¬done listed e.on:=by
        refine Classical.byContradiction fun hc=>hall fun e he hb=>Classical.byContradiction fun hd=>hc ⟨e,he,hb,hd⟩
       obtain⟨e,he,hbi,hd⟩:=this;have hjl:(ops.toList.take m)[j]? =some ops[j]:=by rw[List.getElem?_take];simp[hj,hjs]
       have hlt2:=(hs.kind j ops[j] hjl).2.2 e (Array.mem_toList_iff.2 he) hbi;exact ih2 e.on hlt2 (by omega) hd
   exact key i0 him0 hnd0
  refine⟨fun h0=>absurd h0 hne,fun j hj=>?_⟩;have hjm:=hin j hj;obtain⟨o,ho,hjlt,hnd,hpre⟩:=b6z hsz hj;have hol:(ops.toList.take m)[j]? =some o:=by rw[List.getElem?_take];simpa [hjm] using ho
  have hsz':j<listed.size:=by omega
  have hds:∀i,done (listed.setIfInBounds j true) i↔(done listed i∨i=j):=fun i=>e5b hsz';obtain⟨hdef,V,μ,γ,hrel,hf,hl⟩:=hsim;obtain⟨t',k1,k2⟩:=hinv.next hs hT hps hcl hol hnd hpre (fun x v hv b hb=>hrel.closed_rd hv b hb) (fun b cs hb m hm=>hrel.closed_box hb m hm);have key:∀a' w',Sim E.P w0 V0 T0 (fun q=>q<n∨∃i,done (listed.setIfInBounds j true) i∧q=n+i) t' a' w'→a'.tmps.size=N→wpAny E.P .any ops Qx (k+(ops.size - m)) (listed.setIfInBounds j true) a' w':=by
   intro a' w' hsim' hN';have hleft':=f6n hsz' hjm hnd;refine ih (listed.setIfInBounds j true) t' a' w' (by simpa using hsz) (by omega) ?_ (fun i hi=>((hds i).1 hi).elim (hlt i) (fun e=>by omega)) ?_ hsim' hN'
   · intro i oi hi hoi e he hb;refine (hds _).2 (.inl ?_);rcases (hds i).1 hi with h1|h1
     · exact hcl i oi h1 hoi e he hb
     · subst h1;rw[hol] at hoi;injection hoi with hoi;subst hoi;exact hpre e he hb
   · have:done (listed.setIfInBounds j true)=fun i=>done listed i∨i=j:=funext fun i=>propext (hds i);rw[this];exact k2
  have hQ:QLe (fun q=>q<n∨∃i,done listed i∧q=n+i) (fun q=>q<n∨∃i,done (listed.setIfInBounds j true) i∧q=n+i):=by
   rintro q (h| ⟨i,h1,h2⟩)
   · exact .inl h
   · exact .inr ⟨i,(hds i).2 (.inl h1),h2⟩
  have hnew:¬(n+j<n∨∃i,done listed i∧n+j=n+i):=by
   rintro (h| ⟨i,h1,h2⟩)
   · omega
   · have:i=j:=by omega
     subst this;exact hnd h1
  have hmem:o∈ops.toList:=List.mem_of_mem_take (List.mem_of_getElem? hol);unfold wpOp;simp only[ho];obtain⟨b,hw,k1⟩:=bind_some k1;rw[List.map_take] at hw;rw[d2n hrel (f1s hw)];cases b with
  | true=>
   simp only[if_true] at k1⊢;refine .inl (Oper.wp_mono (fun a1 w1 h2=>key a1 w1 h2.1 (by rw[h2.2,hN])) (b8n (d0u hD hdef hrel hf hl hQ hnew (.inr ⟨j,(hds j).2 (.inr rfl),rfl⟩) (by rw[hN];exact hok o hmem) k1)))
  | false=>
   simp only[Bool.false_eq_true,if_false,Option.some.injEq] at k1⊢;subst k1;exact key _ _ (b5h hdef hrel hf hl hQ (by rw[hN];exact a6y (hok o hmem)) rfl c6e) (by rw[b1y,hN])
end
end Go.Av
namespace Go.Av
theorem c9g{α:Type}(l:List (Nat×α))(k j:Nat):a0i (b6p l k) j=if k=j then none else a0i l j:=by
 induction l with
 | nil=>simp[b6p,a0i]
 | cons x r ih=>
  obtain⟨i,u⟩:=x
  by_cases h:i=k
  · subst h;simp only[b6p,if_true,ih,a0i];split<;>rfl
  · simp only[b6p,h,if_false,a0i,ih]
    by_cases h2:i=j
    · subst h2;simp[Ne.symm h]
    · simp[h2]
theorem d4t{s:St}{k:Nat}{p:Place}{T n es}(h:(s.drop k).at p=some (.own T n es)):s.at p=some (.own T n es):=by
 cases p with
 | tmp j=>
  simp only[St.at,St.drop,c9g] at h⊢;split at h
  · cases h
  · exact h
 | cell b off=>cases b<;>exact h
theorem Sim.drop{P:Program}{w0:World}{V0:Vis}{T0:Tch}{Q:Nat→Prop}{s:St}{a:Act}{w:World}{k:Nat}(y:Value)(h:Sim P w0 V0 T0 Q s a w):Sim P w0 V0 T0 Q (s.drop k) (a.put (some k) y) w:=by
 obtain⟨hd,V,μ,γ,h1,h2,h3⟩:=h;refine⟨hd,V,μ,γ,{tm:=fun j v hv=>?_,bx:=fun b cs hb=>h1.bx b cs (by cases b<;>exact hb),dom:=fun b g hb=>?_,inj:=h1.inj,visb:=h1.visb,vis:=h1.vis,ow:=fun p T n es x g hp=>h1.ow p T n es x g (d4t hp),ow2:=fun p p' T n es T' n' es' x x' g hp hp'=>h1.ow2 p p' T n es T' n' es' x x' g (d4t hp) (d4t hp'),gq:=h1.gq},h2,⟨h3.box,h3.par,fun p T n es x g hp=>h3.own p T n es x g (d4t hp)⟩⟩
 · simp only[St.drop,c9g] at hv;split at hv
   · cases hv
   · rename_i hne;obtain⟨x,h4,h5⟩:=h1.tm j v hv;exact⟨x,by simp only[Act.put];rw[Array.getElem?_setIfInBounds_ne hne];exact h4,h5⟩
 · obtain⟨cs,hcs⟩:=h1.dom b g hb;exact⟨cs,by cases b<;>exact hcs⟩
structure Alike (w w':World):Prop where
 os:w'.os=w.os
 tape:w'.tape=w.tape
 output:w'.output=w.output
 size:w'.heap.size=w.heap.size
 heap:∀k:Nat,w'.heap[k]? =w.heap[k]?
theorem Sim.alike{P:Program}{w0:World}{V0:Vis}{T0:Tch}{Q:Nat→Prop}{s:St}{a:Act}{w w':World}(h:Sim P w0 V0 T0 Q s a w)(hw:Alike w w'):Sim P w0 V0 T0 Q s a w':=by
 obtain⟨hd,V,μ,γ,h1,h2,h3⟩:=h;have hk:a3x w V w' V:=fun g o hv=>⟨hv,.of (hw.heap g)⟩
 refine⟨hd,V,μ,γ,h1.world hk (fun _ g _=>hw.heap g) (fun _ _ _ _ _ g _ _ _=>hw.heap g) (fun _ _ hv=>.inl hv) (fun g o hv=>by rw[hw.size];exact h1.vis g o hv),?_,h3⟩;exact {os:=hw.os.trans h2.os,tape:=hw.tape.trans h2.tape,output:=hw.output.trans h2.output,size:=by rw[hw.size];exact h2.size,keep:=fun g hg ht=>(hw.heap g).trans (h2.keep g hg ht),vkeep:=h2.vkeep.trans hk,vnew:=h2.vnew,sl:=h2.sl}
theorem d1j{o:Oper}{d x z:Nat}{t t2:TypeId}(h:d4n o=some (d,x,z,t,t2)):o.dst=some d∧o.guard=none∧o.op=.call {callee:=.builtin .append,args:= #[.tmp x,.tmp z],argTypes:= #[t,t2]}:=by
 unfold d4n at h;split at h
 · rename_i h1 h2 h3;split at h
   · rename_i h4 h5;simp only[Option.some.injEq,Prod.mk.injEq] at h;obtain⟨rfl,rfl,rfl,rfl,rfl⟩:=h;exact⟨h1,h2,by rw[h3,a8e h4,a8e h5]⟩
   · cases h
 · cases h
theorem d1h{o:Oper}{p d i:Nat}{t:TypeId}(h:e9o o=some (p,t,d,i)):o.dst=some p∧o.guard=none∧o.op=.indexAddr t (.tmp d) (.tmp i):=by
 unfold e9o at h;split at h
 · rename_i h1 h2 h3;simp only[Option.some.injEq,Prod.mk.injEq] at h;obtain⟨rfl,rfl,rfl,rfl⟩:=h;exact⟨h1,h2,h3⟩
 · cases h
theorem c2z{o:Oper}{p v:Nat}{t:TypeId}(h:e0u o=some (t,p,v)):o.dst=none∧o.guard=none∧o.op=.store t (.tmp p) (.tmp v):=by
 unfold e0u at h;split at h
 · rename_i h1 h2 h3;simp only[Option.some.injEq,Prod.mk.injEq] at h;obtain⟨rfl,rfl,rfl⟩:=h;exact⟨h1,h2,h3⟩
 · cases h
theorem e9n{o:Oper}{r y:Nat}(h:g8b o=some (r,y)):o.dst=some r∧o.guard=none∧o.op=.nilCheck (.tmp y):=by
 unfold g8b at h;split at h
 · rename_i h1 h2 h3;simp only[Option.some.injEq,Prod.mk.injEq] at h;obtain⟨rfl,rfl⟩:=h;exact⟨h1,h2,h3⟩
 · cases h
theorem e9p{o:Oper}{q r i:Nat}{t:TypeId}(h:g8c o=some (q,t,r,i)):o.dst=some q∧o.guard=none∧o.op=.fieldAddr t (.tmp r) i:=by
 unfold g8c at h;split at h
 · rename_i h1 h2 h3;simp only[Option.some.injEq,Prod.mk.injEq] at h;obtain⟨rfl,rfl,rfl,rfl⟩:=h;exact⟨h1,h2,h3⟩
 · cases h
section
variable{E:Env}{w0:World}{V0:Vis}{T0:Tch}{Q Q':Nat→Prop}{s:St}{a:Act}{w w':World}{V V':Vis}{μ μ':a5m}{γ γ':a7a}
theorem f5f(hd:a.defers=[])(h:SRel E.P Q s a w V μ γ)(hf:Fr w0 V0 T0 w V)(hl:Loc w0 T0 s μ γ)(hQ:QLe Q Q'){n:Nat}(hn:¬Q n)(hn':Q' n){ap ix st:Oper}{d x z p i v:Nat}{t t2 t' U:TypeId}
 (g1:d4n ap=some (d,x,z,t,t2)) (g2:e9o ix=some (p,t',d,i)) (g3:e0u st=some (U,p,v)) (hdl:d<a.tmps.size) {s3:St} (hs:e4g E n ap ix st s=some s3):
 ∃(x32 p33:Value) (w1 w2:World) (g:Nat),(execOp a.eval ap).run E.P w=.ok (.value x32) w1∧
  (∀(a':Act) (W:World),a'.eval (.tmp d)=x32→a'.eval (.tmp i)=a.eval (.tmp i)→(execOp a'.eval ix).run E.P W=.ok (.value p33) W)∧
  (∀(a':Act) (W:World),a'.eval (.tmp p)=p33→a'.eval (.tmp v)=a.eval (.tmp v)→W.heap[g]? =w1.heap[g]? →∃W',(execOp a'.eval st).run E.P W=.ok .skip W'∧OnlyBlock g W W'∧W'.heap[g]? =w2.heap[g]?)∧
  OnlyBlock g w1 w2∧ownBlock x32=some g∧(p≠d→∃T es,T≠a3i∧a0i s3.tm d=some (.own T n es))∧Sim E.P w0 V0 T0 Q' s3 ((a.put (some d) x32).put (some p) p33) w2:=by
 unfold e4g at hs;rw[g1,g2,g3] at hs;simp only at hs;obtain⟨T,hT,hs⟩:=bind_some hs;obtain⟨val,hval,hs⟩:=bind_some hs;obtain⟨zv,hz,hs⟩:=bind_some hs;obtain⟨news,hnews,hs⟩:=bind_some hs;obtain⟨iv,hiv,hs⟩:=bind_some hs;obtain⟨⟨es,s1,fl⟩,how,hs⟩:=bind_some hs;obtain⟨ik,k,rfl⟩:∃ik k,iv=.int ik k:=by cases iv<;>first|exact⟨_,_,rfl⟩|cases hs
 simp only at hs;split at hs
 · rename_i hc;obtain⟨c0,c1,c2,c3,c4,c5,c6,c7,c8,c9,c10⟩:=hc;injection hs with hs;subst hs;subst c6;unfold a1d at c3 c5 c8 c9;obtain⟨hapd,_,hapo⟩:=d1j g1;obtain⟨hixd,_,hixo⟩:=d1h g2;obtain⟨hstd,_,hsto⟩:=c2z g3;have hpos:0<E.P.cellsOf T:=by unfold c8d at c3;simp only[Bool.and_eq_true,decide_eq_true_eq] at c3;exact c3.1
   obtain⟨ii,hi,hisz⟩:=a8u (P:=E.P) (t:=T) (by omega);obtain⟨zz,hz0,hzs⟩:=map_some c5;rw[hi,Option.bind_some] at hz0;have hby:ii.bytes≤32768:=by unfold Program.bytesOf at c4;rw[hi] at c4;simpa using c4
   obtain⟨t2',dd,ht2,hud,hnd,hlen,nvs,hnv,hnf⟩:=c2r (y:=.tmp z) h hz hnews c3;injection ht2 with ht2;subst ht2;have hTm:T≠a3i:=b3n hT;obtain⟨h1,hl1,hcase⟩:=b8x h hl hTm how;rcases hcase with⟨e,_⟩| ⟨_,hown,hblk⟩
   · cases e
   unfold a0s at c1;have hy:=d0n (h.rd (x:=.tmp v) hval) c7;generalize hye:a.eval (.tmp v)=y at hy;generalize strip2 val=e at hy c7 c8;have hyl:=hy.length;have hysz:y.cells.size=E.P.cellsOf T:=by rw[←c8,hyl];simp
   have hiv':a.eval (.tmp i)=.int ik k:=by
    have:=b0g (h.rd (x:=.tmp i) hiv);exact this
   have hkn:k.toNat=es.length:=by rw[c0];simp
   have hexec:∀r w',(Builtin.append_ #[t,t2] ap.type #[a.eval (.tmp x),a.eval (.tmp z)]).run E.P w=.ok r w'→(execOp a.eval ap).run E.P w=.ok (.value r) w':=by
    intro r w' hr;simp[execOp,hapo,resolve,invoke,builtin,hr]
   obtain⟨A,c,hx,hcap,vs,hvs,hfc⟩:=d3w hTm hown;have hone:b7w w V (E.P.cellsOf T) [e] y.cells.toList:=⟨c8,y.cells.toList,[],by simp,hy,rfl⟩
   have honec:∀u∈y.cells.toList,u.oneCell'=true:=hone.one;rw[c2] at hlen hnf;have hnvl:nvs.length=E.P.cellsOf T:=by have:=hnv.length;rw[c2,Nat.one_mul] at this;exact this
   -- what is common to an array in place and a new one
   have fin:∀(g cap:Nat) (cur1:Array Value) (w1:World),(execOp a.eval ap).run E.P w=.ok (.value (.slice (some ⟨g,0,none⟩) (es.length+1) cap)) w1→w1.heap[g]? =some (.cells cur1 T (0,0))→cur1.size=cap*E.P.cellsOf T→es.length+1≤cap→
    (∀(w2:World) (cur2:Array Value),OnlyBlock g w1 w2→w2.heap[g]? =some (.cells cur2 T (0,0))→cur2.size=cur1.size→(∀j,cur2[j]? =if es.length*E.P.cellsOf T≤j∧j<es.length*E.P.cellsOf T+y.cells.toList.length then y.cells.toList[j - es.length*E.P.cellsOf T]? else cur1[j]?)→
      Sim E.P w0 V0 T0 Q' (s1.putD (some d) (.own T n (es++[e]))) (a.put (some d) (.slice (some ⟨g,0,none⟩) (es.length+1) cap)) w2)→
    ∃(x32 p33:Value) (w1 w2:World) (g:Nat),(execOp a.eval ap).run E.P w=.ok (.value x32) w1∧
     (∀(a':Act) (W:World),a'.eval (.tmp d)=x32→a'.eval (.tmp i)=a.eval (.tmp i)→(execOp a'.eval ix).run E.P W=.ok (.value p33) W)∧
     (∀(a':Act) (W:World),a'.eval (.tmp p)=p33→a'.eval (.tmp v)=y→W.heap[g]? =w1.heap[g]? →∃W',(execOp a'.eval st).run E.P W=.ok .skip W'∧OnlyBlock g W W'∧W'.heap[g]? =w2.heap[g]?)∧
     OnlyBlock g w1 w2∧ownBlock x32=some g∧(p≠d→∃T' es',T'≠a3i∧a0i ((s1.put d (.own T n (es++[e]))).drop p).tm d=some (.own T' n es'))∧
     Sim E.P w0 V0 T0 Q' ((s1.put d (.own T n (es++[e]))).drop p) ((a.put (some d) x32).put (some p) p33) w2:=by
    intro g cap cur1 w1 hrun hh1 hsz1 hcap1 hsim;have hroom:es.length*E.P.cellsOf T+E.P.cellsOf U≤cur1.size:=by
     rw[c9,hsz1,←Nat.succ_mul];exact Nat.mul_le_mul_right _ hcap1
    have store:∀(W:World),W.heap[g]? =w1.heap[g]? →∃W' cur',(storeVar U ⟨g,es.length*E.P.cellsOf T,none⟩ y).run E.P W=.ok () W'∧OnlyBlock g W W'∧W'.heap[g]? =some (.cells cur' T (0,0))∧cur'.size=cur1.size∧
     (∀j,cur'[j]? =if es.length*E.P.cellsOf T≤j∧j<es.length*E.P.cellsOf T+y.cells.toList.length then y.cells.toList[j - es.length*E.P.cellsOf T]? else cur1[j]?):=fun W hW=>
     b5j (T:=U) (hW.trans hh1) (by omega) (by rw[hysz,c9]) honec hroom
    obtain⟨w2,cur2,hr2,hob2,hh2,hsz2,hcur2⟩:=store w1 rfl;refine⟨_,.pointer (some ⟨g,es.length*E.P.cellsOf T,none⟩),w1,w2,g,hrun,fun a' W e1 e2=>?_,fun a' W e1 e2 hW=>?_,hob2,rfl,fun hpd=>⟨T,es++[e],hTm,?_⟩,?_⟩
    · have hne:E.P.cellsOf T≠0:=by omega
      have hin:(0:Int)≤es.length∧(es.length:Int)<(es.length:Int)+1:=by omega
      simp[execOp,hixo,e1,e2,hiv',c0,Instr.indexAt,asIntOf,a0e (a2z c10),hin,a6d hne,a6i]
    · obtain⟨W',cur',hr,hob,hh,hsz,hcur⟩:=store W hW;refine⟨W',?_,hob,?_⟩
      · simp[execOp,hsto,e1,e2,Instr.storeAt,Instr.sureAddr,hr]
      · rw[hh,hh2];have:cur'=cur2:=Array.ext_getElem? fun j=>by rw[hcur,hcur2]
        rw[this]
    · simp only[St.drop,c9g,St.put,a1r,if_true,hpd,if_false]
    · exact (hsim w2 cur2 hob2 hh2 hsz2 hcur2).drop _
   by_cases hroom:es.length+1≤c
   · -- in place
     rcases hown.toS hTm with⟨rfl,hxn⟩| ⟨g,c',cur,hxr,_,hheap,hcsz,_,hrow⟩
     · rw[hxn] at hx;injection hx with e1 e2 e3;subst e3;simp at hroom
     · rw[hxr] at hx;injection hx with e1 e2 e3;subst e3;subst e1;have hln:=hnv.length;have hbound:es.length*E.P.cellsOf T+nvs.length≤cur.size:=by
        rw[hcsz,hnvl,←Nat.succ_mul];exact Nat.mul_le_mul_right _ hroom
       obtain⟨w1,cur1,hst,hob,hheap1,hsz1,hcur1⟩:=a7s (P:=E.P) (g:=g) (o:=es.length*E.P.cellsOf T) nvs 0 w cur hheap hnv.one (by omega);have hr:=a4z (P:=E.P) (w:=w) (w':=w1) (ty:=ap.type) (a2z hT) hud hnd hi (A:=some ⟨g,0,none⟩) (sLen:=es.length) (sCap:=c') (m:=1) (x:=a.eval (.tmp z)) (news:=nvs) hlen
        (by rw[hisz];exact hnf _ rfl) hroom (fun ad e=>by injection e with e;subst e;rw[a6i,hisz,Nat.zero_add];exact hst) (fun e=>by cases e)
       rw[←hxr] at hr;refine fin g c' cur1 w1 (hexec _ _ hr) hheap1 (by rw[hsz1,hcsz]) hroom (fun w2 cur2 hob2 hheap2 hsz2 hcur2=>?_);have hob3:=hob.trans hob2;have hcur3:∀j,cur2[j]? =if es.length*E.P.cellsOf T≤j∧j<es.length*E.P.cellsOf T+y.cells.toList.length then y.cells.toList[j - es.length*E.P.cellsOf T]? else cur[j]? :=by
        intro j;rw[hcur2 j];split
        · rfl
        · rename_i hj;rw[hcur1 j];have:¬(es.length*E.P.cellsOf T+0≤j∧j<es.length*E.P.cellsOf T+0+nvs.length):=by
           rw[hnvl];rw[←hyl,c8] at hj;omega
          simp only[this,if_false]
       have hyl2:y.cells.toList.length=E.P.cellsOf T:=by rw[←hyl,c8]
       obtain⟨b1,b2,b3,b4⟩:=hblk g (by rw[hxr];rfl)
       let V':Vis:=fun g' o=>V g' o∨(g'=g∧o<(es++[e]).length*E.P.cellsOf T)
       have hk0:a3x w V w2 V:=by
        intro g' q hv;refine⟨hv,?_⟩
        by_cases hg':g'=g
        · subst hg';have:=b2 q hv;refine⟨?_,fun e c hm=>by rw[hheap] at hm;cases hm⟩;rw[a5t hheap,a5t hheap2,hcur3];have hni:¬(es.length*E.P.cellsOf T≤q∧q<es.length*E.P.cellsOf T+y.cells.toList.length):=by omega
          simp only[hni,if_false]
        · exact .of (hob3.other g' hg')
       have hkeep:a3x w V w2 V':=fun g' q hv=>⟨.inl hv,(hk0 g' q hv).2⟩
       have hlt:g<w.heap.size:=(Array.getElem?_eq_some_iff.1 hheap).1;have h2:SRel E.P Q s1 a w2 V' μ γ:=by
        refine h1.world hkeep (fun b g' hb=>hob3.other g' (fun e=>b1 b (e▸hb))) (fun q T' n' es' x' g' hp hx' hg'=>hob3.other g' (fun e=>b3 q T' n' es' x' hp hx' (e▸hg'))) (fun g' q hv=>?_) (fun g' q hv=>?_)
        · rcases hv with hv| ⟨rfl,_⟩
          · exact .inl hv
          · exact .inr ⟨b1,b3⟩
        · rw[hob3.size];rcases hv with hv| ⟨rfl,_⟩
          · exact h1.vis g' q hv
          · exact hlt
       have hf2:Fr w0 V0 T0 w2 V':=(hf.only b4 hob3 hk0).vis (fun _ _=>.inl) (fun g' q hv=>by
        rcases hv with hv| ⟨rfl,_⟩
        · exact .inl hv
        · exact .inr b4.symm)
       have hrow2:b0v w2 V' (E.P.cellsOf T) g 0 (es++[e]):=by
        refine b6x (hrow.keep hkeep) ?_;rw[Nat.zero_add];refine a8a (hone.keep hkeep) (fun j hj=>.inr ⟨rfl,by rw[List.length_append,List.length_singleton,Nat.add_mul];omega⟩) (fun j u hj=>?_);rw[a5t hheap2,hcur3];have hjl:j<y.cells.toList.length:=(List.getElem?_eq_some_iff.1 hj).1;have hin:es.length*E.P.cellsOf T≤es.length*E.P.cellsOf T+j∧es.length*E.P.cellsOf T+j<es.length*E.P.cellsOf T+y.cells.toList.length:=by omega
        simp only[hin,and_self,if_true];rw[show es.length*E.P.cellsOf T+j - es.length*E.P.cellsOf T=j by omega];exact hj
       have hrep:a2t E.P w2 V' T (es++[e]) (.slice (some ⟨g,0,none⟩) (es.length+1) c'):=
        .ofS hTm (.inr ⟨g,c',cur2,by rw[List.length_append,List.length_singleton],by rw[List.length_append,List.length_singleton];exact hroom,hheap2,by rw[hsz2,hsz1,hcsz],hpos,hrow2⟩)
       refine b3o hd h2 hf2 hl1 hQ hn hn' (fun k hk=>by injection hk with hk;subst hk;exact hdl) hrep (fun k g' _ hg'=>?_);simp only[ownBlock] at hg';injection hg' with hg';subst hg';refine⟨b1,fun q hv=>?_,fun p' T' n' es' x' _ hp hx'=>b3 p' T' n' es' x' hp hx',b4⟩;rcases hv with hv| ⟨_,hlt'⟩
       · have:=b2 q hv;rw[List.length_append,Nat.add_mul];omega
       · exact hlt'
   · -- a new array
     have hlt:c<es.length+1:=by omega
     have hfit:Builtin.nextslicecap (es.length+1) c*ii.bytes≤281474976710656:=growslice_fits hlt (Nat.le_trans (Nat.mul_le_mul c1 hby) (by decide));have hr:=b0f (P:=E.P) (w:=w) (ty:=ap.type) (a2z hT) hud hnd hi hz0 (A:=A) (sLen:=es.length) (sCap:=c) (m:=1) (x:=a.eval (.tmp z)) (olds:=vs) (news:=nvs) hlen
      (by rw[hisz];exact hfc _ rfl) (by rw[hisz];exact hnf _ rfl) hlt (by omega) hfit
     rw[←hx] at hr;have hge:=b5z w (es.length+1) c T;have hlv:=hvs.length;generalize hcells:vs.toArray++nvs.toArray++Builtin.zeroCells zz.cells (grownCap w (es.length+1) c T - (es.length+1))=cells1 at hr;have hsz1:cells1.size=grownCap w (es.length+1) c T*E.P.cellsOf T:=by
      rw[←hcells];simp only[Array.size_append,List.size_toArray,hlv,hnvl];rw[show (Builtin.zeroCells zz.cells (grownCap w (es.length+1) c T - (es.length+1))).size=(grownCap w (es.length+1) c T - (es.length+1))*zz.cells.size by simp[Builtin.zeroCells],hzs,←Nat.succ_mul,←Nat.add_mul]
      congr 1;omega
     refine fin w.heap.size _ cells1 _ (hexec _ _ hr) a5z hsz1 hge (fun w2 cur2 hob2 hheap2 hsz2 hcur2=>?_);have hyl2:y.cells.toList.length=E.P.cellsOf T:=by rw[←hyl,c8]
     have:=d9r (T:=T) (es:=es++[e]) (vs:=vs++y.cells.toList) (cells:=cur2) (cap:=grownCap w (es.length+1) c T) hd h1.drew hf.drew hl1 hQ hn hn' (dst:=some d) (fun k hk=>by injection hk with hk;subst hk;exact hdl) hTm hpos
      (b7w.keep (w:=w) (V:=V) (w':=w.drew) (V':=V) (fun g o hv=>⟨hv,.of rfl⟩) (hvs.append hone)) (fun j u hj=>?_) (by rw[hsz2,hsz1]) (by rw[List.length_append,List.length_singleton];exact hge)
     · rw[List.length_append,List.length_singleton] at this;refine this.alike ⟨hob2.os,hob2.tape,hob2.output,?_,fun k=>?_⟩
       · rw[hob2.size];simp
       · by_cases hk:k=w.heap.size
         · subst hk;rw[hheap2];exact (a5z (w:=w.drew)).symm
         · rw[hob2.other k hk];show (w.drew.heap.push _)[k]? =(w.drew.heap.push _)[k]?
           rw[Array.getElem?_push,Array.getElem?_push];have:k≠w.drew.heap.size:=hk;simp only[this,if_false]
     · rw[hcur2 j];have hjlt:j<(vs++y.cells.toList).length:=(List.getElem?_eq_some_iff.1 hj).1;rw[List.length_append,hlv] at hjlt
       by_cases hj2:j<vs.length
       · have:¬(es.length*E.P.cellsOf T≤j∧j<es.length*E.P.cellsOf T+y.cells.toList.length):=by omega
         simp only[this,if_false];rw[List.getElem?_append_left hj2] at hj;rw[←hcells,Array.getElem?_append_left (by simp;omega),Array.getElem?_append_left (by simpa using hj2)];simpa using hj
       · have:es.length*E.P.cellsOf T≤j∧j<es.length*E.P.cellsOf T+y.cells.toList.length:=by omega
         simp only[this,and_self,if_true];rw[List.getElem?_append_right (by omega),hlv] at hj;exact hj
 · cases hs
end
end Go.Av
namespace Go.Av
theorem a8w{a:Act}{k:Nat}{y:Value}(h:k<a.tmps.size):(a.put (some k) y).eval (.tmp k)=y:=by
 simp[Act.eval,Act.put,Array.getD_eq_getD_getElem?,Array.getElem?_setIfInBounds_self_of_lt h]
theorem a5k{a:Act}{k j:Nat}{y:Value}(h:k≠j):(a.put (some k) y).eval (.tmp j)=a.eval (.tmp j):=by
 simp[Act.eval,Act.put,Array.getD_eq_getD_getElem?,Array.getElem?_setIfInBounds_ne h]
theorem h5u{listed:Array Bool}{m n:Nat}(h1:listed.size=n)(h2:∀i,done listed i↔i<m):listed=i8q m n:=by
 apply Array.ext_getElem?;intro i;rcases Nat.lt_or_ge i n with h|h
 · have h3:=h2 i;unfold done at h3;have hi:i<listed.size:=by omega
   have e1:listed[i]? =some listed[i]:=Array.getElem?_eq_getElem hi;have e2:(i8q m n)[i]? =some (decide (i<m)):=by simp[i8q,h]
   rw[e1,e2]
   congr 1
   have h4:listed[i]=true↔i<m:=by rw[←h3];simp[hi]
   cases hb:listed[i] with
   | true=>exact (decide_eq_true (h4.1 hb)).symm
   | false=>exact (decide_eq_false fun hlt=>by rw[h4.2 hlt] at hb;cases hb).symm
 · rw[Array.getElem?_eq_none (by omega),Array.getElem?_eq_none (by simp[i8q];omega)]
theorem a7c{o:Oper}{y:Nat→Option Bool}(h:o.guard=none):Region.wanted o y=true:=by
 simp[Region.wanted,h]
theorem OnlyBlock.alike2{g:Nat}{w1 w2 w':World}(h:OnlyBlock g w1 w2)(k:OnlyBlock g w1 w')(e:w'.heap[g]? =w2.heap[g]?):Alike w2 w':=
 ⟨k.os.trans h.os.symm,k.tape.trans h.tape.symm,k.output.trans h.output.symm,k.size.trans h.size.symm,fun i=>by
  by_cases hi:i=g
  · subst hi;exact e
  · rw[k.other i hi,h.other i hi]⟩
set_option maxHeartbeats 2000000 in
theorem g7y{E:Env}(hmx:E.P.follows .mixedOrders=true):c3n E:=by
 intro D w0 V0 T0 hD N n id ops s sF a w hok hops hs hsim;unfold e0r at hok;simp only[Bool.and_eq_true] at hok;obtain⟨⟨⟨hdr,hbar⟩,hrdy⟩,htail⟩:=hok;unfold b8g at hs;obtain⟨sH,hhead,hs⟩:=bind_some hs;have hlen:ops.toList.length=ops.size:=by simp
 rw[hlen] at hhead hs;split at hs
 case h_2=>cases hs
 rename_i _ ap ix st nc fa sh hdrop;rw[hdrop] at htail;simp only at htail;have hsize:ops.size=(ops.size - 6)+6:=by
  have:=congrArg List.length hdrop;simp at this;omega
 generalize hmdef:ops.size - 6=m at *;have hget:∀k o,([ap,ix,st,nc,fa,sh]:List Oper)[k]? =some o→ops[m+k]? =some o:=by
  intro k o hk;rw[←hdrop,List.getElem?_drop] at hk;simpa using hk
 have o0:ops[m]? =some ap:=hget 0 ap rfl;have o1:ops[m+1]? =some ix:=hget 1 ix rfl;have o2:ops[m+2]? =some st:=hget 2 st rfl;have o3:ops[m+3]? =some nc:=hget 3 nc rfl;have o4:ops[m+4]? =some fa:=hget 4 fa rfl;have o5:ops[m+5]? =some sh:=hget 5 sh rfl;have hopN:∀k o,([ap,ix,st,nc,fa,sh]:List Oper)[k]? =some o→c4j N o=true:=fun k o hk=>hops o (by
  have:=hget k o hk;exact Array.mem_toList_iff.2 (Array.mem_of_getElem? this))
 unfold h4g at htail;split at htail
 case h_2=>cases htail
 rename_i d x z t t2 p t' d1 i U p1 v r y q S r1 fld T2 q1 d2 g1 g2 g3 g4 g5 g6;simp only[Bool.and_eq_true,decide_eq_true_eq] at htail;obtain⟨⟨e1,e2,e3,e4,e5⟩,n1,n2,n3,n4,n5,n6,n7,n8,n9,n10,n11,n12,n13,n14⟩:=htail;have e1':=e1.symm;subst e1';have e2':=e2.symm;subst e2';have e3':=e3.symm;subst e3';have e4':=e4.symm;subst e4';have e5':=e5.symm;subst e5';obtain⟨apd,apg,apo⟩:=d1j g1;obtain⟨ixd,ixg,ixo⟩:=d1h g2;obtain⟨std,stg,sto⟩:=c2z g3;obtain⟨ncd,ncg,nco⟩:=e9n g4;obtain⟨fad,fag,fao⟩:=e9p g5;obtain⟨shd,shg,sho⟩:=c2z g6;unfold f3q at hrdy;simp only[Bool.and_eq_true,decide_eq_true_eq] at hrdy;obtain⟨⟨⟨⟨⟨⟨⟨⟨⟨⟨⟨⟨q0,q1⟩,q2⟩,q3⟩,q4⟩,q5⟩,q6⟩,q7⟩,q8⟩,q9⟩,q10⟩,q11⟩,hsel⟩:=hrdy;obtain⟨s3,hmac,hs⟩:=bind_some hs
 -- the three others,one behind the other
 have hw:∀(ds:List (Option Nat)) (o:Oper) (s:St),o.guard=none→b4x ds o s=some true:=fun ds o s hg=>by unfold b4x;rw[hg]
 simp only[c1q,hw _ _ _ ncg,hw _ _ _ fag,hw _ _ _ shg,Option.bind_some,if_true] at hs;obtain⟨s4,hs4,hs⟩:=bind_some hs;obtain⟨s5,hs5,hs⟩:=bind_some hs;obtain⟨s6,hs6,hs⟩:=bind_some hs;injection hs with hs;subst hs;refine wp_region_any hmx ?_;obtain⟨T,h0,h1,hT,hps⟩:=c8f (ps:=[]) (E:=E) (D:=D) (l:=ops.toList.take m) (ds:=(ops.toList.take m).map (fun o:Oper=>o.dst)) (s:=s) (s1:=sH) hhead;have hll:(ops.toList.take m).length=m:=by simp;omega
 rw[hll] at h1;obtain⟨⟨hd,V,μ,γ,k1,k2,k3⟩,hN⟩:=hsim;have hno:∀i,¬done (Array.replicate ops.size false) i:=fun i h=>by by_cases hi:i<ops.size<;>simp[done,hi] at h
 have hfun:done (Array.replicate ops.size false)=fun _=>False:=funext fun i=>propext ⟨fun h=>hno i h,False.elim⟩;have hleft:c9q m (Array.replicate ops.size false)=m:=by unfold c9q;simp;omega
 have hbar':∀j o,m≤j→ops[j]? =some o→∀i,i<m→∃e∈o.after.toList,Region.binds .any e=true∧e.on=i:=by
  intro j o hj ho i hi;have hjs:j<ops.size:=(Array.getElem?_eq_some_iff.1 ho).1;have:=List.all_eq_true.1 hbar (j - m) (List.mem_range.2 (by omega));rw[show m+(j - m)=j by omega,ho] at this;obtain⟨e,he,hb⟩:=List.any_eq_true.1 (List.all_eq_true.1 this i (List.mem_range.2 hi));simp only[Bool.and_eq_true,decide_eq_true_eq] at hb;exact⟨e,he,hb.1,hb.2⟩
 have hQp:∀c (a':Act) (w':World),((Exit.panic c)=Exit.normal∧b8m E.P w0 V0 T0 N (s.ver+ops.size) s6 a' w')→False:=fun c a' w' h=>by cases h.1
 have main:=g7z (E:=E) (D:=D) (ps:=[]) (T:=T) (w0:=w0) (V0:=V0) (T0:=T0) (N:=N) (n:=s.ver) (m:=m) (ops:=ops) (Qx:=fun e a' w'=>e=.normal∧b8m E.P w0 V0 T0 N (s.ver+ops.size) s6 a' w') hD (by omega) (d1x hdr) hT hps hops hbar' ?_
  m (Array.replicate ops.size false) (T 0) a {w with drawn:=w.drawn+1} (by simp) hleft (fun i _ h=>(hno i h).elim) (fun i h=>(hno i h).elim) (hfun▸Inv.start) ?_ hN
 · rw[show m+(ops.size - m)=ops.size by omega] at main;exact main
 · -- behind the first ones
   intro listed a w hsz hdone hsim;rw[h1] at hsim;have hL:=h5u hsz hdone;subst hL;clear hdone hsz hfun hleft hno k1 k2 k3 hN hd V μ γ;obtain⟨⟨hd,V,μ,γ,hrel,hf,hl⟩,hN⟩:=hsim;rw[show ops.size - m=6 by omega];have hdN:d<a.tmps.size:=by rw[hN];exact a6y (hopN 0 ap rfl) d apd
   have hpN:p<N:=a6y (hopN 1 ix rfl) p ixd;have hrN:r<N:=a6y (hopN 3 nc rfl) r ncd;have hqN:q<N:=a6y (hopN 4 fa rfl) q fad;have QQ:∀ {i j:Nat},i≤j→QLe (fun k=>k<i) (fun k=>k<j):=fun h k hk=>Nat.lt_of_lt_of_le hk h;obtain⟨x32,p33,w1,w2,g,rap,rix,rst,hob,hown,hds3,hS3⟩:=f5f (Q:=fun k=>k<s.ver+m) (Q':=fun k=>k<s.ver+m+3) hd hrel hf hl (QQ (by omega)) (n:=s.ver+m) (by omega) (by show s.ver+m<s.ver+m+3;omega) g1 g2 g3 hdN hmac;obtain⟨Te,es,hTe,hds3⟩:=hds3 n8.symm
   -- the acts
   let a2:=a.put (some d) x32
   let a3:=a2.put (some p) p33
   have z2:a2.tmps.size=N:=by simp[a2,Act.put,hN]
   have z3:a3.tmps.size=N:=by simp[a3,Act.put,z2]
   obtain⟨hd3,V3,μ3,γ3,hrel3,hf3,hl3⟩:=hS3
   -- what the others are,in the abstract
   simp only[opF,nco] at hs4;obtain⟨vy,hvy,hs4⟩:=bind_some hs4;obtain⟨u4,hu4,hs4⟩:=map_some hs4;subst hs4;simp only[opF,fao] at hs5;obtain⟨vr,hvr,hs5⟩:=bind_some hs5;obtain⟨u5,hu5,hs5⟩:=map_some hs5;have hvr':vr=u4:=by
    rw[ncd] at hvr;simp only[rd,St.putD,St.put,a1r,if_true] at hvr;injection hvr with hvr;exact hvr.symm
   subst hvr';have hs6':=hs6;simp only[opF,sho] at hs6';obtain⟨pp,hpp,hs6'⟩:=bind_some hs6';have hpp':pp=u5:=by
    rw[←hs5,fad] at hpp;simp only[rd,St.putD,St.put,a1r,if_true] at hpp;injection hpp with hpp;exact hpp.symm
   subst hpp';have hnil:b9e (.tmp d)=false:=rfl;simp only[hnil,Bool.false_eq_true,if_false] at hs6';obtain⟨⟨tv,ts⟩,htk,hst6⟩:=bind_some hs6';have hds5:a0i s5.tm d=some (.own Te (s.ver+m) es):=by
    rw[←hs5,fad,ncd];simp only[St.putD,St.put,a1r,n14,if_false,n13];exact hds3
   have htv:tv=.own Te (s.ver+m) es∧ts=s5.put d (.dead Te (s.ver+m) es):=by
    simp only[b8p,hds5,Option.bind_some,Option.some.injEq,Prod.mk.injEq] at htk;rw[c5q hTe] at htk;exact⟨htk.1.symm,htk.2.symm⟩
   obtain⟨rfl,rfl⟩:=htv;obtain⟨b,off2,cs,rfl,hbox,hclen,hTpos,hroom,_,hs6e⟩:=b6u hst6
   -- the field's address
   obtain⟨off,hu5e⟩:∃off,vr=.ptr b off:=by
    cases vr<;>simp only[d1o] at hu5<;>try (cases hu5;done)
    · obtain⟨f,_,hu5⟩:=bind_some hu5;split at hu5
      · cases hu5
      · split at hu5
        · injection hu5 with hu5;injection hu5 with e1 e2;subst e1;exact⟨_,rfl⟩
        · cases hu5
    · obtain⟨f,_,hu5⟩:=bind_some hu5;split at hu5<;>cases hu5
   subst hu5e;have hvye:vy=.ptr b off∧off<a2s:=by
    cases vy<;>simp only[j4a] at hu4<;>first|(split at hu4<;>first|(rename_i hlt0;injection hu4 with hu4;injection hu4 with e1 e2;subst e1 e2;exact⟨rfl,hlt0⟩)|cases hu4)|(injection hu4 with hu4;cases hu4)|cases hu4
   obtain⟨hvye,hoff⟩:=hvye;subst hvye;have hoff2:off2<a2s:=by
    simp only[d1o] at hu5;obtain⟨f,_,hu5⟩:=bind_some hu5;split at hu5
    · cases hu5
    · split at hu5
      · rename_i hlt0;injection hu5 with hu5;injection hu5 with e1 e2;subst e2;exact hlt0
      · cases hu5
   have hry:=hrel3.rd hvy;obtain⟨gb,hmub,hey⟩:=hry;rw[a6e hoff] at hey
   -- runs,from whatever world
   have rnc:∀W,(execOp a3.eval nc).run E.P W=.ok (.value (.pointer (some ⟨gb,off,none⟩))) W:=fun W=>by
    obtain⟨_,zq,hz1,hz2⟩:=e5k (E:=E) (w:=W) (V:=fun _ _=>False) (μ:=μ3) nco (.ptr b off) (.ptr b off) _ ⟨gb,hmub,(a6e hoff).2 rfl⟩ hey hu4;obtain⟨g',hg',hz1⟩:=hz1;rw[hmub] at hg';injection hg' with hg';subst hg';rw[a6e hoff] at hz1;rw[hz1] at hz2;exact hz2
   let a4:=a3.put (some r) (.pointer (some ⟨gb,off,none⟩))
   have z4:a4.tmps.size=N:=by simp[a4,Act.put,z3]
   have ey4:a4.eval (.tmp r)=.pointer (some ⟨gb,off,none⟩):=a8w (by rw[z3];exact hrN);have rfa:∀W,(execOp a4.eval fa).run E.P W=.ok (.value (.pointer (some ⟨gb,off2,none⟩))) W:=fun W=>by
    obtain⟨_,zq,hz1,hz2⟩:=d2h (E:=E) (w:=W) (V:=fun _ _=>False) (μ:=μ3) fao (.ptr b off) (.ptr b off2) _ ⟨gb,hmub,(a6e hoff).2 rfl⟩ ey4 hu5;obtain⟨g',hg',hz1⟩:=hz1;rw[hmub] at hg';injection hg' with hg';subst hg';rw[a6e hoff2] at hz1;rw[hz1] at hz2;exact hz2
   let a5:=a4.put (some q) (.pointer (some ⟨gb,off2,none⟩))
   have z5:a5.tmps.size=N:=by simp[a5,Act.put,z4]
   -- the states along
   have S4:Sim E.P w0 V0 T0 (fun k=>k<s.ver+m+4) (s3.putD nc.dst (.ptr b off)) a4 w2:=by
    have:=d0u (Q':=fun k=>k<s.ver+m+4) hD hd3 hrel3 hf3 hl3 (QQ (by omega)) (n:=s.ver+m+3) (by omega) (by show s.ver+m+3<s.ver+m+4;omega) (o:=nc) (by rw[z3];exact hopN 3 nc rfl) (s':=s3.putD nc.dst (.ptr b off)) (by simp only[opF,nco,hvy,Option.bind_some,hu4];rfl) (X:=fun _ _ _=>False);unfold Oper.wp at this;rw[rnc w2] at this;simp only[Oper.upon] at this;rw[ncd] at this⊢;exact this
   have S5:Sim E.P w0 V0 T0 (fun k=>k<s.ver+m+5) s5 a5 w2:=by
    obtain⟨hd4,V4,μ4,γ4,hrel4,hf4,hl4⟩:=S4;have:=d0u (Q':=fun k=>k<s.ver+m+5) hD hd4 hrel4 hf4 hl4 (QQ (by omega)) (n:=s.ver+m+4) (by omega) (by show s.ver+m+4<s.ver+m+5;omega) (o:=fa) (by rw[z4];exact hopN 4 fa rfl) (s':=s5) (by simp only[opF,fao,hvr,Option.bind_some,hu5];rw[←hs5];rfl) (X:=fun _ _ _=>False);unfold Oper.wp at this;rw[rfa w2] at this;simp only[Oper.upon] at this;rw[fad] at this;exact this
   -- the store of the header,from the state behind the element's store
   have hver:s.ver+ops.size=s.ver+m+6:=by omega
   have shW:∀W,Alike w2 W→sh.wp E.P a5 W (fun a' w'=>b8m E.P w0 V0 T0 N (s.ver+ops.size) s6 a' w') (fun e a' w'=>e=.normal∧b8m E.P w0 V0 T0 N (s.ver+ops.size) s6 a' w'):=by
    intro W hW;obtain⟨hd5,V5,μ5,γ5,hrel5,hf5,hl5⟩:=S5.alike hW;rw[hver];refine Oper.wp_mono (fun a' w' h'=>⟨h'.1,by rw[h'.2,z5]⟩) (b8n (d0u (Q':=fun k=>k<s.ver+m+6) hD hd5 hrel5 hf5 hl5 (QQ (by omega)) (n:=s.ver+m+5) (by omega) (by show s.ver+m+5<s.ver+m+6;omega) (o:=sh) (by rw[z5];exact hopN 5 sh rfl) (s':=s6) hs6))
   -- where all that lies
   obtain⟨hd5,V5,μ5,γ5,hrel5,hf5,hl5⟩:=S5;have ex5:a5.eval (.tmp d)=x32:=by
    show (((a2.put (some p) p33).put (some r) _).put (some q) _).eval (.tmp d)=x32
    rw[a5k n14,a5k n13,a5k n8.symm];exact a8w hdN
   have eq5:a5.eval (.tmp q)=.pointer (some ⟨gb,off2,none⟩):=a8w (by rw[z4];exact hqN);obtain⟨gb',U5,curb,hmub5,hheapb,hszb,_⟩:=hrel5.bx b cs hbox;have hgb:gb'=gb:=by
    have hq5:a0i s5.tm q=some (.ptr b off2):=by
     rw[←hs5,fad];simp only[St.putD,St.put,a1r,if_true]
    obtain⟨g'',hm5,he5⟩:=hrel5.rd (x:=.tmp q) hq5;rw[eq5,a6e hoff2] at he5;injection he5 with he5;injection he5 with he5;injection he5 with he5;rw[hmub5] at hm5;injection hm5 with hm5;omega
   subst hgb;have hgne:gb'≠g:=by
    intro e;obtain⟨xx,hx1,hx2⟩:=hrel5.tm d _ hds5;have:xx=x32:=by
     have:=ex5;simp only[Act.eval,Array.getD_eq_getD_getElem?,hx1,Option.getD_some] at this;exact this
    subst this;exact (hrel5.ow (.tmp d) _ _ _ _ _ hds5 hx2.2 hown).1 b (e▸hmub5)
   have hheapb1:w1.heap[gb']? =some (.cells curb U5 (0,0)):=(hob.other gb' hgne).symm.trans hheapb
   -- the header's store,from whatever world that has the box so
   have hx32:x32.cells= #[x32]∧x32.oneCell'=true:=by
    obtain⟨xx,hx1,hx2⟩:=hrel5.tm d _ hds5;have:xx=x32:=by
     have:=ex5;simp only[Act.eval,Array.getD_eq_getD_getElem?,hx1,Option.getD_some] at this;exact this
    subst this;rcases hx2.1.toS hTe with⟨_,rfl⟩| ⟨_,_,_,rfl,_⟩<;>exact⟨rfl,rfl⟩
   have hT1:E.P.cellsOf T2=1:=by
    simpa [cellsOf] using hclen.symm
   have rsh:∀W,W.heap[gb']? =some (.cells curb U5 (0,0))→∃W' cur',(execOp a5.eval sh).run E.P W=.ok .skip W'∧OnlyBlock gb' W W'∧W'.heap[gb']? =some (.cells cur' U5 (0,0))∧(∀j,cur'[j]? =if off2≤j∧j<off2+x32.cells.toList.length then x32.cells.toList[j - off2]? else curb[j]?):=by
    intro W hW;obtain⟨W',cur',hr,hob',hh',_,hc'⟩:=b5j (P:=E.P) (T:=T2) (o:=off2) (v:=x32) hW (by omega) (by rw[hx32.1,hT1];rfl) (by rw[hx32.1];simp[hx32.2]) (by omega);exact⟨W',cur',by simp[execOp,sho,eq5,ex5,Instr.storeAt,Instr.sureAddr,hr],hob',hh',hc'⟩
   have ep5:a5.eval (.tmp p)=p33:=by
    show (((a2.put (some p) p33).put (some r) _).put (some q) _).eval (.tmp p)=p33
    rw[a5k n7,a5k n6];exact a8w (by rw[z2];exact hpN)
   have ev5:a5.eval (.tmp v)=a.eval (.tmp v):=by
    show ((((a.put (some d) x32).put (some p) p33).put (some r) _).put (some q) _).eval (.tmp v)=a.eval (.tmp v)
    rw[a5k n5,a5k n4,a5k n3,a5k n2]
   -- first the append
   refine wpAny_all q0 (by simp) fun j hj=>?_;have hjm:j=m:=by simpa using hj
   subst hjm;unfold wpOp;simp only[o0];rw[a7c apg];simp only[if_true];refine .inl (a9s rap ?_);rw[apd]
   -- the element's place
   refine wpAny_take (v:=p33) o1 hsel q2 q1 (fun c a' w' h=>(hQp c _ _ h).elim) (.inl ⟨a7c ixg,fun W=>rix _ W (a8w hdN) (a5k n1)⟩) ?_;rw[ixd];refine wpAny_take (v:=.pointer (some ⟨gb',off,none⟩)) o3 hsel q4 q3 (fun c a' w' h=>(hQp c _ _ h).elim) (.inl ⟨a7c ncg,rnc⟩) ?_;rw[ncd];refine wpAny_take (v:=.pointer (some ⟨gb',off2,none⟩)) o4 hsel q6 q5 (fun c a' w' h=>(hQp c _ _ h).elim) (.inl ⟨a7c fag,rfa⟩) ?_;rw[fad]
   -- the two stores
   refine wpAny_all q7 (by simp) fun k hk=>?_;simp only[List.mem_cons,List.not_mem_nil,or_false] at hk;rcases hk with rfl|rfl
   · unfold wpOp;simp only[o2];rw[a7c stg];simp only[if_true];obtain⟨W',r1',r2',r3'⟩:=rst a5 w1 ep5 ev5 rfl;refine .inl (c9y r1' ?_);rw[std];refine wpAny_all q8 (by simp) fun k hk=>?_;have:k=j+5:=by simpa using hk
     subst this;unfold wpOp;simp only[o5];rw[a7c shg];simp only[if_true];refine .inl (Oper.wp_mono (fun a' w' h'=>wpAny_done (List.isEmpty_iff.1 q10) ⟨rfl,h'⟩ _) (shW W' (hob.alike2 r2' r3')))
   · unfold wpOp;simp only[o5];rw[a7c shg];simp only[if_true];obtain⟨W1,cur1,s1',s2',s3',s4'⟩:=rsh w1 hheapb1;refine .inl (c9y s1' ?_);rw[shd];refine wpAny_all q9 (by simp) fun k hk=>?_;have:k=j+2:=by simpa using hk
     subst this;unfold wpOp;simp only[o2];rw[a7c stg];simp only[if_true];obtain⟨W2,t1',t2',t3'⟩:=rst a5 W1 ep5 ev5 (s2'.other g hgne.symm);refine .inl (c9y t1' ?_);rw[std];refine wpAny_done (List.isEmpty_iff.1 q11) ⟨rfl,?_⟩ _
     -- the same as the other way round
     obtain⟨W3,cur3,u1',u2',u3',u4'⟩:=rsh w2 hheapb;have hfin:=shW w2 ⟨rfl,rfl,rfl,rfl,fun _=>rfl⟩;unfold Oper.wp at hfin;rw[u1'] at hfin;simp only[Oper.upon] at hfin;rw[shd] at hfin;have hal:Alike W3 W2:=by
      have hcur:cur1=cur3:=Array.ext_getElem? fun j=>by rw[s4',u4']
      refine⟨by rw[t2'.os,s2'.os,u2'.os,hob.os],by rw[t2'.tape,s2'.tape,u2'.tape,hob.tape],by rw[t2'.output,s2'.output,u2'.output,hob.output],by rw[t2'.size,s2'.size,u2'.size,hob.size],fun k=>?_⟩
      by_cases hk1:k=g
      · subst hk1;rw[t3',u2'.other k hgne.symm]
      · rw[t2'.other k hk1]
        by_cases hk2:k=gb'
        · subst hk2;rw[s3',u3',hcur]
        · rw[s2'.other k hk2,u2'.other k hk2,hob.other k hk1]
     exact⟨hfin.1.alike hal,hfin.2⟩
 · rw[h0];refine⟨hd,V,μ,γ,?_,k2.drew,k3⟩;have:=k1.drew;exact {this with gq:=fun p m hm=>.inl (this.gq p m hm)}
end Go.Av
namespace Go.Av
def c4d:List AVal→a3e→Option (AVal×a3e)
 | [.pmap es],[]=>some (.own a3i 0 es,[])
 | [.nilm],[]=>some (.nilm,[])
 | _,_=>none
theorem e1d{P:Program}{F:World→Prop}{g:FuncId}(he:b0m P g)(hT:P.cellsOf a3i=0)
 (h0:∀(w:World),Calls P g #[.map none] w fun e w'=>e=.returned (.map none)∧w'=w)
 (h1:∀(b:Nat) (es:Array MapEntry) (clock:Nat) (w:World),w.heap[b]? =some (.map es clock)→Calls P g #[.map (some b)] w fun e w'=>e=.returned (.map (some w.heap.size))∧w'=w.alloc (.map es clock)):
 a4x P F fun f as H=>if f=g then c4d as H else none:=by
 refine a4x.of_plain (fun f as H r hr=>?_) ?_
 · replace hr:(if f=g then c4d as H else none)=some r:=hr;split at hr
   · unfold c4d at hr;split at hr
     · simp[a1k]
     · simp[a1k]
     · cases hr
   · cases hr
 intro f as H r hr xs w V T0 μ γ a0 hx hpl h hl hF hsl;replace hr:(if f=g then c4d as H else none)=some r:=hr;split at hr
 · rename_i hfg;subst hfg;refine⟨he,?_⟩;have hno:H=[]→∀b g,μ b≠some g:=fun hH b g hb=>by
    subst hH;obtain⟨cs,hc⟩:=h.dom b g hb;cases b<;>simp[a5q,St.box,a0i] at hc
   have hnb:∀v b,(a2u v []).box b=none:=fun v b=>by cases b<;>simp[a2u,St.box,a0i]
   unfold c4d at hr;split at hr
   · rename_i es;injection hr with hr;subst hr;obtain⟨xs⟩:=xs
     match xs,hx with
     | [x],hx=>
      obtain⟨g,ents,cl,rfl,hv,hh,hen⟩:a1t w V (.pmap es) x:=hx.1;refine (h1 g ents cl w hh).mono fun e w' ⟨h3,h4⟩=>⟨_,h3,?_⟩
      subst h4;have hk:a3x w V (w.alloc (.map ents cl)) V:=a7i h.vis
      let γ2:a7a:=fun p m=>if p=.tmp 0∧m=0 then some (.map (some w.heap.size)) else none
      have hat:∀p T n fs,(a2u (.own a3i 0 es) []).at p=some (.own T n fs)→p=.tmp 0∧T=a3i∧n=0∧fs=es:=by
       intro p T n fs hp;cases p with
       | tmp k=>
        simp only[St.at,a2u,a0i] at hp;split at hp
        · rename_i hk;injection hp with hp;injection hp with e1 e2 e3;exact⟨by rw[←hk],e1.symm,e2.symm,e3.symm⟩
        · cases hp
       | cell b off=>simp only[St.at,hnb,Option.bind_none] at hp;cases hp
      refine⟨V,γ2,⟨#[.map (some w.heap.size)],[]⟩,rfl,?_,?_,?_,.inr ⟨_,_,_,rfl⟩⟩
      · refine {tm:=?_,bx:=fun b cs hb=>(by rw[hnb] at hb;cases hb),dom:=fun b g hb=>(hno rfl b g hb).elim,inj:=fun b b' g hb=>(hno rfl b g hb).elim,visb:=fun b g hb=>(hno rfl b g hb).elim,vis:=fun g o hv=>(by have:=h.vis g o hv;simp;omega),ow:=?_,ow2:=?_,gq:=fun _ _ _=>trivial}
        · intro k u hu;simp only[a2u,a0i] at hu;split at hu
          · rename_i hk';injection hu with hu;subst hu;subst hk';exact⟨_,rfl,.ofM ⟨hT,w.heap.size,ents,cl,rfl,a5z,hen.keep hk⟩,by simp[γ2]⟩
          · cases hu
        · intro p T n fs x g' hp hy hg;obtain⟨rfl,rfl,rfl,rfl⟩:=hat p T n fs hp;simp only[γ2,and_self,if_true] at hy;injection hy with hy;subst hy;simp only[ownBlock] at hg;injection hg with hg;subst hg;exact⟨fun b=>hno rfl b _,fun o hv=>by have:=h.vis _ _ hv;omega⟩
        · intro p p' T n fs T' n' fs' x x' g' hp hp' _ _ _ _;exact (hat p T n fs hp).1.trans (hat p' T' n' fs' hp').1.symm
      · refine⟨rfl,rfl,rfl,by simp,fun g' hg _=>a6p hg,hk,fun _ _ hv=>.inl hv,hsl⟩
      · refine⟨fun b g hb=>(hno rfl b g hb).elim,hl.par,fun p T n fs x g' hp hy hg=>?_⟩;obtain⟨rfl,rfl,rfl,rfl⟩:=hat p T n fs hp;simp only[γ2,and_self,if_true] at hy;injection hy with hy;subst hy;simp only[ownBlock] at hg;injection hg with hg;subst hg;exact .inr (Nat.le_refl _)
   · injection hr with hr;subst hr;obtain⟨xs⟩:=xs
     match xs,hx with
     | [x],hx=>
      have hx1:x=.map none:=hx.1;subst hx1;refine (h0 w).mono fun e w' ⟨h3,h4⟩=>⟨_,h3,?_⟩
      subst h4;have hat:∀p T n fs,(a2u .nilm []).at p≠some (.own T n fs):=by
       intro p T n fs hp;cases p with
       | tmp k=>
        simp only[St.at,a2u,a0i] at hp;split at hp<;>cases hp
       | cell b off=>simp only[St.at,hnb,Option.bind_none] at hp;cases hp
      refine⟨V,γ,⟨#[.map none],[]⟩,rfl,?_,?_,?_,.inl rfl⟩
      · refine {tm:=?_,bx:=fun b cs hb=>(by rw[hnb] at hb;cases hb),dom:=fun b g hb=>(hno rfl b g hb).elim,inj:=fun b b' g hb=>(hno rfl b g hb).elim,visb:=fun b g hb=>(hno rfl b g hb).elim,vis:=h.vis,ow:=fun p T n fs x g hp=>(hat p T n fs hp).elim,ow2:=fun p p' T n fs T' n' fs' x x' g hp=>(hat p T n fs hp).elim,gq:=fun _ _ _=>trivial};intro k u hu;simp only[a2u,a0i] at hu;split at hu
        · rename_i hk';injection hu with hu;subst hu;subst hk';exact⟨_,rfl,rfl⟩
        · cases hu
      · exact⟨rfl,rfl,rfl,Nat.le_refl _,fun _ _ _=>rfl,.refl _ _,fun _ _ hv=>.inl hv,hsl⟩
      · exact⟨fun b g hb=>(hno rfl b g hb).elim,hl.par,fun p T n fs x g hp=>(hat p T n fs hp).elim⟩
   · cases hr
 · cases hr
end Go.Av
namespace Go.Av
end Go.Av
namespace Go.Kn
def look{α:Type}(k:ByteArray):List (ByteArray×α)→Option α
 | []=>none
 | p::l=>if p.1=k then some p.2 else look k l
def upd{α:Type}(k:ByteArray)(v:α):List (ByteArray×α)→List (ByteArray×α)
 | []=>[(k,v)]
 | p::l=>if p.1=k then (k,v)::l else p::upd k v l
structure Dc where
 kind:Int
 name:ByteArray
 np:Nat
 cons:List ByteArray
def h5p:ByteArray:={data:= #[65,110,121]}
def arS(ar:List (ByteArray×Int))(d:Dc):List (ByteArray×Int):=if d.kind=1 then upd d.name d.np ar else ar
def g1b(name:ByteArray)(cs:List (ByteArray×List ByteArray))(l:List ByteArray):List (ByteArray×List ByteArray):=l.foldl (fun cs x=>upd name ((look name cs).getD []++[x]) cs) cs
def csS(cs:List (ByteArray×List ByteArray))(d:Dc):List (ByteArray×List ByteArray):=if d.kind=1 then g1b d.name cs d.cons else cs
def nmS(n:Nat)(d:Dc):Nat:=if d.kind=1 then n+d.cons.length else n
def arF(l:List Dc):List (ByteArray×Int):=l.foldl arS [(h5p,0)]
def csF(l:List Dc):List (ByteArray×List ByteArray):=l.foldl csS []
def nmF(l:List Dc):Nat:=l.foldl nmS 0
end Go.Kn
namespace Go.Av
open Go.Kn
def ba(s:List UInt8):ByteArray:=⟨s.toArray⟩
def b4o:List AVal→Option (List ByteArray)
 | []=>some []
 | .agg (.str n::us)::r=>if us.length=4 then (b4o r).map (ba n:: ·) else none
 | _::_=>none
def j4l:AVal→Option Dc
 | .agg (.int .i64 k:: .str n:: .slice ps:: .slice cs::vt)=>if vt.length=13∧ps.length≤1073741824∧cs.length≤1073741824 then (b4o cs).map fun l=>⟨k,ba n,ps.length,l⟩ else none
 | _=>none
def c8q:List AVal→Option (List Dc)
 | []=>some []
 | v::r=>(j4l v).bind fun d=>(c8q r).map (d:: ·)
def e6c(s:ByteArray):AVal:=.str s.data.toList
def arA(l:List (ByteArray×Int)):List AVal:=l.map fun p=>.tup [e6c p.1,.int .i64 p.2]
def csA(l:List (ByteArray×List ByteArray)):List AVal:=l.map fun p=>.tup [e6c p.1,.slice (p.2.map e6c)]
def c7t:List AVal→a3e→Option (AVal×a3e)
 | [.slice es],[]=>(c8q es).bind fun DS=>if es.length≤1073741824∧nmF DS≤1073741824 then some (.ptr (.par 0) 0,[[.own a3i 0 (arA (arF DS)),.own a3i 0 (csA (csF DS)),.own a3i 0 []]]) else none
 | _,_=>none
def d2x:List AVal→Option (List ByteArray)
 | []=>some []
 | .str s::r=>(d2x r).map (ba s:: ·)
 | _::_=>none
def c0r:List AVal→Option (List (List ByteArray))
 | []=>some []
 | .slice es::r=>(d2x es).bind fun l=>(c0r r).map (l:: ·)
 | _::_=>none
def b4a:List AVal→a3e→Option (AVal×a3e)
 | [.slice ls],[]=>(c0r ls).bind fun LS=>if ls.length≤1073741824∧LS.flatten.length≤1073741824 then some (.slice (LS.flatten.map e6c),[]) else none
 | _,_=>none
end Go.Av
namespace Go.Av
def c0i:List AVal→Option (List (List UInt8×List UInt8))
 | []=>some []
 | .agg [.str a,.str b]::r=>(c0i r).map ((a,b):: ·)
 | _::_=>none
def c9o(p:List UInt8×List UInt8):AVal:=.agg [.str p.1,.str p.2]
def b4b:List AVal→a3e→Option (AVal×a3e)
 | [.slice es],[]=>(c0i es).bind fun l=>if l.length≤536870912 then some (.own 300 0 (l.map c9o),[]) else none
 | _,_=>none
end Go.Av
namespace Go.Av
open Go.RowKit (Below)
theorem b6l{E:Env}{F:World→Prop}(hs:a4x E.P F (den E)){f:FuncId}{vs:List AVal}{b:Bool}{xs:Array Value}{W:World}(S:Nat→Prop)
 (hlt:∀g,S g→g<W.heap.size) (hF:F W) (hc:∀w w':World,(∀g,S g→w'.heap[g]? =w.heap[g]?)→F w→F w')
 (hx:a3r (a4r W (fun _ _=>False) (fun _=>none)) vs xs.toList) (hp:∀v∈vs,a1k v=true) (hd:den E f vs []=some (.bool b,[])):
 Calls E.P f xs W fun e w'=>e=.returned (.bool b)∧Below W.heap.size W w':=by
 have hb:∀n,(a5q []).box n=none:=fun n=>by cases n<;>simp[a5q,St.box,a0i]
 have hat:∀p T n es,(a5q []).at p≠some (.own T n es):=fun p T n es h=>by
  cases p with
  | tmp k=>simp[St.at,a5q,a0i] at h
  | cell b off=>simp only[St.at,hb,Option.bind_none] at h;cases h
 have rel:SRel E.P old (a5q []) ⟨#[],[]⟩ W (fun _ _=>False) (fun _=>none) (fun _ _=>none):=
  { tm:=fun k v h=>by simp[a5q,a0i] at h,bx:=fun b cs h=>(by rw[hb] at h;cases h),dom:=fun b g h=>(by cases h),inj:=fun b b' g h=>(by cases h),visb:=fun b g h=>(by cases h),vis:=fun g o h=>h.elim,
    ow:=fun p T n es x g h=>(hat p T n es h).elim,ow2:=fun p p' T n es T' n' es' x x' g h=>(hat p T n es h).elim,gq:=fun p n h=>(h rfl).elim}
 have:=hs.plain f vs [] _ hd xs W (fun _ _=>False) ⟨fun _=>False,fun _=>none,S,F⟩ (fun _=>none) (fun _ _=>none) ⟨#[],[]⟩ hx hp rel
  ⟨fun b g h=>(by cases h),fun _=>rfl,fun p T n es x g h=>(hat p T n es h).elim⟩ rfl ⟨hlt,fun _ _ h=>h,hF,hc⟩
 refine this.2.mono fun e w' h=>?_;obtain⟨v,he,V',γ',a',μ',ht,_,hr,hfr,_⟩:=h;obtain⟨x,h1,h2⟩:=hr.tm 0 (.bool b) (by simp[a2u,a0i]);rw[ht] at h1;have hxv:v=x:=by simpa using h1
 have h3:x=.bool b:=h2;subst hxv;rw[h3] at he;exact⟨he,⟨hfr.os,hfr.tape,hfr.output,hfr.size,fun g hg=>hfr.keep g hg fun h=>h⟩⟩
end Go.Av
