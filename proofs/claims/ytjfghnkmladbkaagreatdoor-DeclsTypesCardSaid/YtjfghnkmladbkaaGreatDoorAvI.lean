/- There is always an answer, and it is bounded. -/
import Derived.Test.YtjfghnkmladbkaaGreatDoorAvH
namespace Go.Proofs
open Go.Av
set_option maxHeartbeats 4000000
set_option maxRecDepth 100000
def a6q(t:Tok):Prop:=b8j t∧t.text.length≤16
theorem f1f(p:UInt8→Bool)(s:List UInt8):∀c∈s.take (a3w p s),p c=true:=by
 intro c hc;obtain⟨i,hi,rfl⟩:=List.mem_iff_getElem.1 hc;simp only[List.length_take] at hi;obtain⟨c,h1,h2⟩:=b8n p (s:=s) (i:=i) (by omega);rw[List.getElem_take];have:s[i]? =some (s[i]'(by omega)):=List.getElem?_eq_getElem (by omega);rw[this] at h1;injection h1 with h1;rw[h1];exact h2
theorem c0o{s:List UInt8}(h:¬a2n s=0):a2n s≤6∧a2n s=a3w a1r s:=by
 unfold a2n at h⊢;split
 · rename_i h1;rw[if_pos h1] at h;exact absurd rfl h
 · rename_i h1;simp only[Bool.or_eq_true,decide_eq_true_eq,not_or] at h1;exact⟨by omega,rfl⟩
theorem f5t(w:List UInt8):d2x w≠5:=by unfold d2x;split<;>(try split)<;>decide
theorem h4j{s:List UInt8}{k:Int}{n:Nat}(h:c1s s=some (k,n))(pos:Nat):a6q ⟨k,s.take n,pos⟩:=by
 have hle:=b9w h;refine⟨⟨?_,?_⟩,?_⟩
 · rintro rfl;simp only;unfold c1s at h;simp only at h;split at h
   · split at h
     · cases h
     · injection h with h;injection h with h _;exact absurd h (f5t _)
   · split at h
     · split at h
       · cases h
       · injection h with h;injection h with h _;exact absurd h (by decide)
     · split at h
       · rename_i h3;split at h
         · cases h
         · rename_i h4;injection h with h;injection h with _ h;subst h;have hn:=c0o h4;cases s with
           | nil=>simp at h3
           | cons x r=>
            simp only[List.drop_succ_cons,List.drop_zero] at hn h4⊢;refine⟨x,r.take (a2n r),by rw[List.take_succ_cons],?_,?_,?_⟩
            · intro h0;have:=congrArg List.length h0;simp only[List.length_take,List.length_nil] at this;have:=a9u a1r r;omega
            · simp only[List.length_take];omega
            · rw[hn.2];exact f1f a1r r
       · split at h
         · injection h with h;injection h with h _;exact absurd h (by decide)
         · split at h
           · injection h with h;injection h with h _;exact absurd h (by decide)
           · cases h
 · intro ht;simp only at ht⊢;cases s with
   | nil=>simp at ht
   | cons x r=>
    obtain⟨m,rfl⟩:∃m,n=m+1:=⟨n - 1,by omega⟩
    rw[List.take_succ_cons] at ht;injection ht with hx _;subst hx;unfold c1s at h;simp only[List.headD_cons,show (a6a 40||a5g 40)=false from by decide,show a1r 40=false from by decide,show ((40:UInt8)==63)=false from by decide,Bool.false_eq_true,if_false] at h;split at h
    · injection h with h;injection h with h _;exact h.symm
    · simp only[show a5u.contains 40=true from by decide,if_true] at h;injection h with h;injection h with h _;exact h.symm
 · simp only[List.length_take];unfold c1s at h;simp only at h;split at h
   · split at h
     · cases h
     · injection h with h;injection h with _ h;omega
   · split at h
     · split at h
       · cases h
       · rename_i h4;have:=c0o h4;injection h with h;injection h with _ h;omega
     · split at h
       · split at h
         · cases h
         · rename_i h4;have:=c0o h4;injection h with h;injection h with _ h;omega
       · split at h
         · injection h with h;injection h with _ h;omega
         · split at h
           · injection h with h;injection h with _ h;omega
           · cases h
theorem e0e:∀(f pos:Nat) (s:List UInt8) (l:List Tok),a9e f pos s=.ok l→l.length≤s.length∧∀t∈l,a6q t
 | 0,pos,s,l,h=>by simp[a9e] at h
 | f+1,pos,s,l,h=>by
  cases s with
  | nil=>simp only[a9e] at h;injection h with h;subst h;simp
  | cons x r=>
   simp only[a9e] at h;split at h
   · cases h
   · rename_i k n ht;have hle:=b9w ht;have hok:=h4j ht pos;split at h
     · rename_i l1 h1;injection h with h;subst h;have ih:=e0e f _ _ _ h1;simp only[List.length_drop] at ih;refine⟨by simp only[List.length_cons] at ih hle⊢;omega,?_⟩;intro t ht;rcases List.mem_cons.1 ht with rfl|ht
       · exact hok
       · exact ih.2 t ht
     · cases h
theorem b8q(s:List UInt8):(a5d s).1.length≤4000∧∀t∈(a5d s).1,a6q t:=by
 unfold a5d;split
 · simp
 · split
   · rename_i l h;have:=e0e _ _ _ _ h;simp only[List.length_drop] at this;exact⟨by simp only;omega,this.2⟩
   · simp
inductive GT:Ty→Prop
 | var (s:List UInt8):s.length≤16→GT (.mk 1 s 0 [])
 | unk (n:Int):0≤n→n<1000000→GT (.mk 2 [] n [])
 | con (s:List UInt8) (a:List Ty):s.length≤16→(∀x,x∈a→GT x)→GT (.mk 3 s 0 a)
 | fn (a b:Ty):GT a→GT b→GT (.mk 4 [] 0 [a,b])
 | all (s:List UInt8) (t:Ty):s.length≤16→GT t→GT (.mk 5 s 0 [t])
theorem a1l(a:Ty):Ty.szs [a]=a.sz:=by simp[Ty.szs]
theorem a1h(a b:Ty):Ty.szs [a,b]=a.sz+b.sz:=by simp[Ty.szs]
theorem d9v(l:List Ty)(t:Ty):Ty.szs (l++[t])=Ty.szs l+t.sz:=by
 induction l with
 | nil=>simp[Ty.szs]
 | cons x l ih=>simp only[List.cons_append,Ty.szs,ih];omega
theorem a0y(k:Int)(s:List UInt8)(n:Int)(a:List Ty):(Ty.mk k s n a).sz=Ty.szs a+1:=by simp[Ty.sz]
theorem f9y:∀(ns:List (List UInt8)) (t:Ty),(∀n∈ns,n.length≤16)→GT t→GT (ns.foldr (fun n t=>.mk 5 n 0 [t]) t)∧(ns.foldr (fun n t=>Ty.mk 5 n 0 [t]) t).sz=ns.length+t.sz
 | [],t,_,h=>by simp[h]
 | n::r,t,hn,h=>by
  have ih:=f9y r t (fun x hx=>hn x (List.mem_cons_of_mem _ hx)) h;simp only[List.foldr_cons];refine⟨.all _ _ (hn n (List.mem_cons_self ..)) ih.1,?_⟩;rw[a0y,a1l,ih.2,List.length_cons];omega
theorem c5v:∀ {l:List Tok},(∀t∈l,a6q t)→∀n∈a3v l,n.length≤16
 | [],_,n,h=>by simp[a3v] at h
 | t::r,hl,n,h=>by
  simp only[a3v] at h;split at h
  · rcases List.mem_cons.1 h with rfl|h
    · exact (hl t (List.mem_cons_self ..)).2
    · exact c5v (fun x hx=>hl x (List.mem_cons_of_mem _ hx)) n h
  · simp at h
theorem c2x{l:List Tok}(hl:∀t∈l,a6q t):(b1z l).length≤16:=by
 cases l with
 | nil=>simp[b1z]
 | cons t r=>exact (hl t (List.mem_cons_self ..)).2
theorem e1n{l:List Tok}(hl:∀t∈l,a6q t)(h:a2h l 5 []=true):0≤d5p (b1z l)∧d5p (b1z l)<1000000:=by
 obtain⟨t,r,rfl⟩:=a7q h;have hk:t.kind=5:=by simpa [a2h] using h
 obtain⟨c,q,h1,h2,h3,h4⟩:=(hl t (List.mem_cons_self ..)).1.1 hk;simp only[b1z,d5p,h1,List.tail_cons,d3q h4 h2,Option.getD_some];have:=f3e q h4;have:10 ^ q.length≤10 ^ 6:=Nat.pow_le_pow_right (by decide) h3;omega
theorem a1n{l' l:List Tok}(hl:∀t∈l,a6q t)(h:l'<:+l):∀t∈l',a6q t:=fun t ht=>hl t (h.subset ht)
theorem a5e{l' l:List Tok}(h:l'<:+l):l'.length≤l.length:=h.length_le
def TOK(l:List Tok)(t:Ty)(l':List Tok):TM→Prop
 | .loop name acc=>name.length≤16→(∀x,x∈acc→GT x)→GT t∧t.sz+l'.length≤l.length+Ty.szs acc+1
 | _=>GT t∧t.sz+l'.length≤l.length
theorem f0k:∀(f:Nat) (m:TM) (l:List Tok) (t:Ty) (l':List Tok),(∀t∈l,a6q t)→tyR f m l=some (t,true,l')→TOK l t l' m:=by
 intro f
 induction f with
 | zero=>intro m l t l' _ h;cases h
 | succ f ih=>
  intro m l t l' hl h;have ht:=a1n hl (a3e l);cases m with
  | typ=>
   simp only[tyR] at h;split at h
   · rename_i h1;have:=ih _ _ _ _ ht h;have h2:=a5n h1;exact⟨this.1,by have:=this.2;omega⟩
   · split at h
     · cases h
     · rename_i a ok1 l1 h1;cases ok1
       · simp at h
       · simp only[if_true] at h;have i1:=ih _ _ _ _ hl h1;have hl1:=a1n hl (a8l _ _ _ _ _ _ h1);split at h
         · rename_i h3;have h4:=a5n h3;split at h
           · cases h
           · rename_i b ok2 l2 h2;injection h with h;injection h with h h5;injection h5 with h5 h6;subst h h5 h6;have i2:=ih _ _ _ _ (a1n hl1 (a3e l1)) h2;exact⟨.fn _ _ i1.1 i2.1,by rw[a0y,a1h];have:=i1.2;have:=i2.2;omega⟩
         · injection h with h;injection h with h h5;injection h5 with h5 h6;subst h h6;exact i1
  | all=>
   simp only[tyR] at h;split at h
   · rename_i h1;have h2:=a5n h1;simp only[List.length_drop] at h2;have hn:=c5v hl;split at h
     · simp at h
     · rename_i n ns hns;rw[hns] at hn h2;split at h
       · cases h
       · rename_i t1 ok l2 h3;injection h with h;injection h with h h5;injection h5 with h5 h6;subst h h5 h6;have i1:=ih _ _ _ _ (a1n hl ((a3e _).trans (List.drop_suffix _ _))) h3;have ha:=f9y (n::ns) t1 hn i1.1;have:=i1.2;rw[hns] at this;exact⟨ha.1,by rw[ha.2];omega⟩
   · simp at h
  | app=>
   simp only[tyR] at h;split at h
   · rename_i h1;have h2:=a5n h1;have i1:=ih _ _ _ _ ht h (c2x hl) (by simp);exact⟨i1.1,by have:=i1.2;simp only[Ty.szs] at this;omega⟩
   · exact ih .atom _ _ _ hl h
  | loop name acc=>
   intro hn hacc;simp only[tyR] at h;split at h
   · split at h
     · cases h
     · rename_i x ok l1 h1;cases ok
       · simp at h
       · simp only[if_true] at h;have i1:=ih _ _ _ _ hl h1;have i2:=ih _ _ _ _ (a1n hl (a8l _ _ _ _ _ _ h1)) h hn (by
          intro y hy;rcases List.mem_append.1 hy with hy|hy
          · exact hacc y hy
          · rw[List.mem_singleton.1 hy];exact i1.1)
         rw[d9v] at i2;exact⟨i2.1,by have:=i1.2;have:=i2.2;omega⟩
   · injection h with h;injection h with h h5;injection h5 with h5 h6;subst h h6;exact⟨.con _ _ hn hacc,by rw[a0y];omega⟩
  | atom=>
   simp only[tyR] at h;split at h
   · rename_i h1;have h2:=a5n h1;injection h with h;injection h with h h5;injection h5 with h5 h6;subst h h6;exact⟨.var _ (c2x hl),by rw[a0y];simp only[Ty.szs];omega⟩
   · split at h
     · rename_i h1;have h2:=a5n h1;injection h with h;injection h with h h5;injection h5 with h5 h6;subst h h6;exact⟨.con _ _ (c2x hl) (by simp),by rw[a0y];simp only[Ty.szs];omega⟩
     · split at h
       · rename_i h1;have h2:=a5n h1;injection h with h;injection h with h h5;injection h5 with h5 h6;subst h h6;exact⟨.unk _ (e1n hl h1).1 (e1n hl h1).2,by rw[a0y];simp only[Ty.szs];omega⟩
       · split at h
         · rename_i h1;have h2:=a5n h1;split at h
           · cases h
           · rename_i t1 ok l1 h3;cases ok
             · simp at h
             · simp only[if_true] at h;injection h with h;injection h with h h5;injection h5 with h5 h6;rw[if_pos h5] at h6;subst h h6;have i1:=ih _ _ _ _ ht h3;have:=a5e (a3e l1);exact⟨i1.1,by have:=i1.2;omega⟩
         · simp at h
def b2s:TM→Nat
 | .atom=>1
 | .loop _ _=>2
 | .app=>3
 | .typ=>4
 | .all=>5
theorem d7q:∀(f:Nat) (m:TM) (l:List Tok),5*l.length+b2s m≤f→∃r,tyR f m l=some r:=by
 intro f
 induction f with
 | zero=>intro m l h;cases m<;>simp[b2s] at h
 | succ f ih=>
  intro m l h;cases m with
  | typ=>
   simp only[b2s] at h;simp only[tyR];split
   · rename_i h1;have:=a5n h1;exact ih _ _ (by simp only[b2s];omega)
   · obtain⟨⟨a,ok,l1⟩,h1⟩:=ih .app l (by simp only[b2s];omega);rw[h1];simp only;cases ok
     · simp
     · simp only[if_true];have hs:=a5e (a8l _ _ _ _ _ _ h1);split
       · rename_i h2;have:=a5n h2;obtain⟨⟨b,ok2,l2⟩,h3⟩:=ih .typ l1.tail (by simp only[b2s];omega);rw[h3];exact⟨_,rfl⟩
       · exact⟨_,rfl⟩
  | all=>
   simp only[b2s] at h;simp only[tyR];split
   · rename_i h1;have h2:=a5n h1;simp only[List.length_drop] at h2;split
     · exact⟨_,rfl⟩
     · obtain⟨⟨b,ok2,l2⟩,h3⟩:=ih .typ (l.drop (a3v l).length).tail (by simp only[b2s];omega);rw[h3];exact⟨_,rfl⟩
   · exact⟨_,rfl⟩
  | app=>
   simp only[b2s] at h;simp only[tyR];split
   · rename_i h1;have:=a5n h1;exact ih _ _ (by simp only[b2s];omega)
   · exact ih _ _ (by simp only[b2s];omega)
  | loop name acc=>
   simp only[b2s] at h;simp only[tyR];split
   · obtain⟨⟨b,ok2,l2⟩,h3⟩:=ih .atom l (by simp only[b2s];omega);rw[h3];simp only;cases ok2
     · simp
     · simp only[if_true];have:=c1m h3;exact ih _ _ (by simp only[b2s];omega)
   · exact⟨_,rfl⟩
  | atom=>
   simp only[b2s] at h;simp only[tyR];split
   · exact⟨_,rfl⟩
   · split
     · exact⟨_,rfl⟩
     · split
       · exact⟨_,rfl⟩
       · split
         · rename_i h1;have:=a5n h1;obtain⟨⟨b,ok2,l2⟩,h3⟩:=ih .typ l.tail (by simp only[b2s];omega);rw[h3];simp only;split<;>exact⟨_,rfl⟩
         · exact⟨_,rfl⟩
inductive GX:Ex→Prop
 | nam (k:Int) (s:List UInt8):(k=1∨k=2)→s.length≤16→GX (.mk k s false zTy [] [])
 | lam (s:List UInt8) (x:Ex):s.length≤16→GX x→GX (.mk 3 s false zTy [x] [])
 | app (x y:Ex):GX x→GX y→GX (.mk 4 [] false zTy [x,y] [])
 | lett (s:List UInt8) (t:Ty) (x y:Ex):s.length≤16→GT t→GX x→GX y→GX (.mk 5 s true t [x,y] [])
 | letu (s:List UInt8) (x y:Ex):s.length≤16→GX x→GX y→GX (.mk 5 s false zTy [x,y] [])
 | cas (x:Ex) (al:List Al):GX x→(∀a,a∈al→GX a.body)→(∀a∈al,a.con.length≤16∧∀v∈a.vars,v.length≤16)→GX (.mk 6 [] false zTy [x] al)
 | ann (x:Ex) (t:Ty):GX x→GT t→GX (.mk 7 [] false t [x] [])
def GA(al:List Al):Prop:=∀a∈al,GX a.body∧a.con.length≤16∧∀v∈a.vars,v.length≤16
theorem b6y(k:Int)(s:List UInt8)(b:Bool)(t:Ty)(ks:List Ex)(al:List Al):(Ex.mk k s b t ks al).tot=Ex.tots ks+Al.tots al+t.sz:=by simp[Ex.tot]
theorem d1l:Ex.tots []=0:=by simp[Ex.tots]
theorem c2v(x:Ex):Ex.tots [x]=x.tot:=by simp[Ex.tots]
theorem d1k(x y:Ex):Ex.tots [x,y]=x.tot+y.tot:=by simp[Ex.tots]
theorem a6e:Al.tots []=0:=by simp[Al.tots]
theorem d9k(l:List Al)(c:List UInt8)(v:List (List UInt8))(b:Ex):Al.tots (l++[.mk c v b])=Al.tots l+(b.tot+v.length+1):=by
 induction l with
 | nil=>simp[Al.tots,Al.tot]
 | cons x l ih=>simp only[List.cons_append,Al.tots,ih];omega
theorem b3v:zTy.sz=1:=rfl
theorem a1j{r:Rd}{k:Int}{s:List UInt8}(h:(a0n r k s).bad=false):(a0n r k s).l.length+1=r.l.length∧r.bad=false:=by
 have h1:=a1o h;obtain⟨hb,t,q,hl⟩:=a3a h1;rw[d1m h1,hl];exact⟨by simp,hb⟩
theorem a2k{r:Rd}{k:Int}{s:List UInt8}(h:a1k r k s=true):(a0s r k s).l.length+1=r.l.length∧(a0s r k s).bad=false∧r.bad=false:=by
 obtain⟨hb,t,q,hl⟩:=a3a h;rw[a6x h,hl];exact⟨by simp,rfl,hb⟩
theorem b8d{r:Rd}(h:(a2j r).bad=false):(a2j r).l.length+(a3b r).length=r.l.length∧r.bad=false:=by
 have hb:r.bad=false:=h;have:=c5w r.l;unfold a2j a3b;rw[hb];simp only[Bool.false_eq_true,if_false,List.length_drop];exact⟨by omega,trivial⟩
theorem a8u{r:Rd}(hl:∀t∈r.l,a6q t)(k:Int)(s:List UInt8):(a6h r k s).length≤16:=by
 unfold a6h;split
 · exact c2x hl
 · simp
theorem d5n{r:Rd}(hl:∀t∈r.l,a6q t):∀n∈a3b r,n.length≤16:=by
 unfold a3b;split
 · simp
 · exact c5v hl
theorem d1j{f:Nat}{r:Rd}{t:Ty}{r':Rd}(hl:∀t∈r.l,a6q t)(h:d4h f r=some (t,r'))(hg:r'.bad=false):GT t∧t.sz+r'.l.length≤r.l.length:=by
 have hb:=d4g h hg;unfold d4h at h;rw[hb] at h;simp only[Bool.false_eq_true,if_false] at h;split at h
 · cases h
 · rename_i t1 ok l1 h1;cases ok
   · simp only[Bool.false_eq_true,if_false] at h;injection h with h;injection h with _ h;subst h;cases hg
   · simp only[if_true] at h;injection h with h;injection h with h5 h;subst h5 h;exact f0k _ _ _ _ _ hl h1
theorem c2u{f:Nat}{r:Rd}(h:5*r.l.length+4≤f):∃x,d4h f r=some x:=by
 unfold d4h;split
 · exact⟨_,rfl⟩
 · obtain⟨⟨t,ok,l'⟩,h1⟩:=d7q f .typ r.l (by simp only[b2s];omega);rw[h1];simp only;split<;>exact⟨_,rfl⟩
def XOK(r:Rd)(x:Ex)(r':Rd):XM→Prop
 | .loop e=>GX e→GX x∧x.tot+2*r'.l.length≤e.tot+2*r.l.length
 | .alts acc=>GA acc→GA x.alts∧Al.tots x.alts+2*r'.l.length≤Al.tots acc+2*r.l.length
 | _=>GX x∧x.tot+1+2*r'.l.length≤2*r.l.length
theorem h2y:∀(f:Nat) (m:XM) (r:Rd) (x:Ex) (r':Rd),(∀t∈r.l,a6q t)→exR f m r=some (x,r')→r'.bad=false→XOK r x r' m:=by
 intro f
 induction f with
 | zero=>intro m r x r' _ h;cases h
 | succ f ih=>
  intro m r x r' hl h hg;have fin:∀ {a b:Ex} {p q:Rd},some (a,p)=some (b,q)→a=b∧p=q:=fun h1=>by
   injection h1 with h1;injection h1 with h2 h1;exact⟨h2,h1⟩
  cases m with
  | expr=>
   simp only[exR] at h;split at h
   · rename_i hb;obtain⟨_,rfl⟩:=fin h;rw[hb] at hg;cases hg
   · split at h
     · rename_i h1;split at h
       · cases h
       · rename_i x1 r1 h2;obtain⟨rfl,rfl⟩:=fin h;have k1:=a2k h1;have g2:=a3z h2 hg;have k2:=a1j g2;have k3:=a1j k2.2;have i:=ih _ _ _ _ (a1n hl ((a0b _ _ _).trans ((a0b _ _ _).trans (a0m _ _ _)))) h2 hg;refine⟨.lam _ _ (a8u (a1n hl (a0m _ _ _)) _ _) i.1,?_⟩;rw[b6y,c2v,a6e,b3v];have:=i.2;omega
     · split at h
       · rename_i h1;have k1:=a2k h1;have i:=ih _ _ _ _ (a1n hl (a0m _ _ _)) h hg;exact⟨i.1,by have:=i.2;omega⟩
       · split at h
         · rename_i h1;have k1:=a2k h1;split at h
           · cases h
           · rename_i x1 r1 h2;have s1:=(a2x _ _ _ _ _ h2).trans (a0m _ _ _);have s2:=(a0b (a0n r1 3 [111,102]) 6 [123]).trans ((a0b r1 3 [111,102]).trans s1);split at h
             · rename_i h3;obtain⟨rfl,rfl⟩:=fin h;have k3:=a2k h3;have k4:=a1j k3.2.2;have k5:=a1j k4.2;have i:=ih _ _ _ _ (a1n hl (a0m _ _ _)) h2 k5.2;refine⟨.cas _ _ i.1 (by simp) (by simp),?_⟩;rw[b6y,c2v,a6e,b3v];have:=i.2;omega
             · split at h
               · cases h
               · rename_i y r4 h4;obtain⟨rfl,rfl⟩:=fin h;have k6:=a1j hg;have g4:=a3z h4 k6.2;have k4:=a1j g4;have k5:=a1j k4.2;have i:=ih _ _ _ _ (a1n hl (a0m _ _ _)) h2 k5.2;have j:=ih _ _ _ _ (a1n hl s2) h4 k6.2 (by intro a ha;simp at ha);refine⟨.cas _ _ i.1 (fun a ha=>(j.1 a ha).1) (fun a ha=>(j.1 a ha).2),?_⟩;rw[b6y,c2v,b3v];have:=i.2;have:=j.2;rw[a6e] at this;omega
         · split at h
           · cases h
           · rename_i e r1 h1;have g1:=a3z h hg;have i:=ih _ _ _ _ hl h1 g1;have j:=ih _ _ _ _ (a1n hl (a2x _ _ _ _ _ h1)) h hg i.1;exact⟨j.1,by have:=i.2;have:=j.2;omega⟩
  | loop e=>
   intro he;simp only[exR] at h;split at h
   · split at h
     · cases h
     · rename_i e1 r1 h1;have g1:=a3z h hg;have i:=ih _ _ _ _ hl h1 g1;have j:=ih _ _ _ _ (a1n hl (a2x _ _ _ _ _ h1)) h hg (.app _ _ he i.1);rw[b6y,d1k,a6e,b3v] at j;exact⟨j.1,by have:=i.2;have:=j.2;omega⟩
   · obtain⟨rfl,rfl⟩:=fin h;exact⟨he,by omega⟩
  | lets=>
   simp only[exR] at h;split at h
   · rename_i h1;have k1:=a2k h1;have k0:=a1j k1.2.2;split at h
     · cases h
     · rename_i t r2 h2;have s2:=(a9s h2).trans ((a0m _ _ _).trans (a0b _ _ _));split at h
       · cases h
       · rename_i x r3 h3;have s3:=(a2x _ _ _ _ _ h3).trans ((a0b _ _ _).trans s2);split at h
         · cases h
         · rename_i y r4 h4;obtain⟨rfl,rfl⟩:=fin h;have g4:=a1j (a3z h4 hg);have g3:=a1j (a3z h3 g4.2);have i2:=d1j (a1n hl ((a0m _ _ _).trans (a0b _ _ _))) h2 g3.2;have i3:=ih _ _ _ _ (a1n hl ((a0b _ _ _).trans s2)) h3 g4.2;have i4:=ih _ _ _ _ (a1n hl ((a0b _ _ _).trans s3)) h4 hg;refine⟨.lett _ _ _ _ (a8u hl _ _) i2.1 i3.1 i4.1,?_⟩;rw[b6y,d1k,a6e];have:=i2.2;have:=i3.2;have:=i4.2;omega
   · split at h
     · cases h
     · rename_i x r3 h3;have s3:=(a2x _ _ _ _ _ h3).trans ((a0b _ _ _).trans (a0b _ _ _));split at h
       · cases h
       · rename_i y r4 h4;obtain⟨rfl,rfl⟩:=fin h;have g4:=a1j (a3z h4 hg);have g3:=a1j (a3z h3 g4.2);have g2:=a1j g3.2;have i3:=ih _ _ _ _ (a1n hl ((a0b _ _ _).trans (a0b _ _ _))) h3 g4.2;have i4:=ih _ _ _ _ (a1n hl ((a0b _ _ _).trans s3)) h4 hg;refine⟨.letu _ _ _ (a8u hl _ _) i3.1 i4.1,?_⟩;rw[b6y,d1k,a6e,b3v];have:=i3.2;have:=i4.2;omega
  | atom=>
   simp only[exR] at h;split at h
   · obtain⟨rfl,rfl⟩:=fin h;have k1:=a1j hg;refine⟨.nam 1 _ (.inl rfl) (a8u hl _ _),?_⟩;rw[b6y,d1l,a6e,b3v];omega
   · split at h
     · obtain⟨rfl,rfl⟩:=fin h;have k1:=a1j hg;refine⟨.nam 2 _ (.inr rfl) (a8u hl _ _),?_⟩;rw[b6y,d1l,a6e,b3v];omega
     · split at h
       · cases h
       · rename_i e r1 h1;have s1:=(a2x _ _ _ _ _ h1).trans (a0b _ _ _);split at h
         · rename_i h3;split at h
           · cases h
           · rename_i t r2 h2;obtain⟨rfl,rfl⟩:=fin h;have k3:=a1j hg;have k2:=a2k h3;have k1:=a1j (a3z h1 k2.2.2);have i1:=ih _ _ _ _ (a1n hl (a0b _ _ _)) h1 k2.2.2;have i2:=d1j (a1n hl ((a0m _ _ _).trans s1)) h2 k3.2;refine⟨.ann _ _ i1.1 i2.1,?_⟩;rw[b6y,c2v,a6e];have:=i1.2;have:=i2.2;omega
         · obtain⟨rfl,rfl⟩:=fin h;have k3:=a1j hg;have k1:=a1j (a3z h1 k3.2);have i1:=ih _ _ _ _ (a1n hl (a0b _ _ _)) h1 k3.2;exact⟨i1.1,by have:=i1.2;omega⟩
  | alts acc=>
   intro ha;simp only[exR] at h;split at h
   · cases h
   · rename_i b r4 h4;have s4:=(a2x _ _ _ _ _ h4).trans ((a0b _ _ _).trans ((a4b _).trans (a0b _ _ _)));have key:r4.bad=false→GA (acc++[.mk (a6h r 2 []) (a3b (a0n r 2 [])) b])∧Al.tots (acc++[.mk (a6h r 2 []) (a3b (a0n r 2 [])) b])+2*r4.l.length≤Al.tots acc+2*r.l.length:=by
      intro g4;have k3:=a1j (a3z h4 g4);have k2:=b8d k3.2;have k1:=a1j k2.2;have i:=ih _ _ _ _ (a1n hl ((a0b _ _ _).trans ((a4b _).trans (a0b _ _ _)))) h4 g4;refine⟨?_,?_⟩
      · intro a hm;rcases List.mem_append.1 hm with hm|hm
        · exact ha a hm
        · rw[List.mem_singleton.1 hm];exact⟨i.1,a8u hl _ _,d5n (a1n hl (a0b _ _ _))⟩
      · rw[d9k];have:=i.2;omega
     split at h
     · rename_i h5;have k5:=a2k h5;have k:=key k5.2.2;have j:=ih _ _ _ _ (a1n hl ((a0m _ _ _).trans s4)) h hg k.1;exact⟨j.1,by have:=j.2;have:=k.2;omega⟩
     · obtain⟨rfl,rfl⟩:=fin h;exact key hg
def a9x:XM→Nat
 | .atom=>4
 | .loop _=>5
 | .expr=>6
 | .lets=>8
 | .alts _=>8
theorem c3u(f:Nat){r:Rd}(h:r.bad=true):exR (f+1) .expr r=some (zEx,r):=by simp only[exR,h,if_true]
theorem d8y(f:Nat)(m:XM){r:Rd}(h:r.bad=true):∃x,exR (f+2) m r=some x:=by
 cases m with
 | expr=>exact⟨_,c3u _ h⟩
 | lets=>
  rw[show f+2=(f+1)+1 from rfl,exR];simp only[a3r h,a3y h,Bool.false_eq_true,if_false,c3u f h];exact⟨_,rfl⟩
 | atom=>
  rw[show f+2=(f+1)+1 from rfl,exR];simp only[a3r h,a3y h,Bool.false_eq_true,if_false,c3u f h];exact⟨_,rfl⟩
 | loop e=>
  rw[show f+2=(f+1)+1 from rfl,exR];simp only[a3y h,Bool.or_self,Bool.false_eq_true,if_false];exact⟨_,rfl⟩
 | alts acc=>
  have hb:(a2j r).bad=true:=h;rw[show f+2=(f+1)+1 from rfl,exR];simp only[a3r h,a3r hb,c3u f hb,a3y hb,Bool.false_eq_true,if_false];exact⟨_,rfl⟩
def e4z(m:XM)(r:Rd):Nat:=if r.bad then 2 else 10*r.l.length+a9x m
theorem a5j{m:XM}{r:Rd}{n:Nat}(h1:2≤n)(h2:r.bad=false→10*r.l.length+a9x m≤n):e4z m r≤n:=by
 unfold e4z;cases h:r.bad
 · simpa using h2 h
 · simpa using h1
theorem i3u:∀(f:Nat) (m:XM) (r:Rd),(∀t∈r.l,a6q t)→e4z m r≤f→∃x,exR f m r=some x:=by
 intro f
 induction f with
 | zero=>intro m r _ h;unfold e4z at h;cases hb:r.bad<;>rw[hb] at h<;>cases m<;>simp[a9x] at h
 | succ f ih=>
  intro m r hl hn;cases hb:r.bad
  case true=>
   unfold e4z at hn;rw[hb,if_pos rfl] at hn;obtain⟨g,rfl⟩:∃g,f=g+1:=⟨f - 1,by omega⟩
   exact d8y g m hb
  case false=>
  unfold e4z at hn;rw[hb] at hn;simp only[Bool.false_eq_true,if_false] at hn;cases m with
  | expr=>
   simp only[a9x] at hn;simp only[exR,hb,Bool.false_eq_true,if_false];split
   · rename_i h1;have k1:=a2k h1;obtain⟨⟨x,r4⟩,h2⟩:=ih .expr (a0n (a0n (a0s r 6 [92]) 1 []) 6 [45,62]) (a1n hl ((a0b _ _ _).trans ((a0b _ _ _).trans (a0m _ _ _)))) (a5j (by omega) fun g=>by
      have k2:=a1j g;have k3:=a1j k2.2;simp only[a9x];omega)
     rw[h2];exact⟨_,rfl⟩
   · split
     · rename_i h1;have k1:=a2k h1;exact ih .lets _ (a1n hl (a0m _ _ _)) (a5j (by omega) fun g=>by simp only[a9x];omega)
     · split
       · rename_i h1;have k1:=a2k h1;obtain⟨⟨x,r1⟩,h2⟩:=ih .expr (a0s r 3 [99,97,115,101]) (a1n hl (a0m _ _ _)) (a5j (by omega) fun g=>by simp only[a9x];omega);rw[h2];simp only;have s1:=(a2x _ _ _ _ _ h2)
         have s2:=(a0b (a0n r1 3 [111,102]) 6 [123]).trans ((a0b r1 3 [111,102]).trans s1);split
         · exact⟨_,rfl⟩
         · obtain⟨⟨y,r4⟩,h4⟩:=ih (.alts []) (a0n (a0n r1 3 [111,102]) 6 [123]) (a1n hl (s2.trans (a0m _ _ _))) (a5j (by omega) fun g=>by
            have:=a5e s2;simp only[a9x];omega)
           rw[h4];exact⟨_,rfl⟩
       · obtain⟨⟨e,r1⟩,h1⟩:=ih .atom r hl (a5j (by omega) fun g=>by simp only[a9x];omega);rw[h1];simp only;have s1:=a2x _ _ _ _ _ h1;exact ih (.loop e) r1 (a1n hl s1) (a5j (by omega) fun g=>by have:=a5e s1;simp only[a9x];omega)
  | loop e=>
   simp only[a9x] at hn;simp only[exR];split
   · obtain⟨⟨x,r1⟩,h1⟩:=ih .atom r hl (a5j (by omega) fun g=>by simp only[a9x];omega);rw[h1];simp only;have s1:=a2x _ _ _ _ _ h1;exact ih _ r1 (a1n hl s1) (a5j (by omega) fun g=>by
      have i:=(h2y _ _ _ _ _ hl h1 g).2;have:=a9k x;simp only[a9x];omega)
   · exact⟨_,rfl⟩
  | lets=>
   simp only[a9x] at hn;simp only[exR];split
   · rename_i h1;have k1:=a2k h1;have l1:=a5e (a0b r 1 []);obtain⟨⟨t,r2⟩,h2⟩:=c2u (f:=f) (r:=a0s (a0n r 1 []) 6 [58]) (by omega);rw[h2];simp only;have s2:=(a9s h2).trans ((a0m _ _ _).trans (a0b _ _ _));have l2:=a5e s2;obtain⟨⟨x,r3⟩,h3⟩:=ih .expr (a0n r2 6 [61]) (a1n hl ((a0b _ _ _).trans s2)) (a5j (by omega) fun g=>by
      have:=a5e (a0b r2 6 [61]);simp only[a9x];omega)
     rw[h3];simp only;have s3:=(a2x _ _ _ _ _ h3).trans ((a0b _ _ _).trans s2);have l3:=a5e s3;obtain⟨⟨y,r4⟩,h4⟩:=ih .expr (a0n r3 3 [105,110]) (a1n hl ((a0b _ _ _).trans s3)) (a5j (by omega) fun g=>by
      have:=a5e (a0b r3 3 [105,110]);simp only[a9x];omega)
     rw[h4];exact⟨_,rfl⟩
   · obtain⟨⟨x,r3⟩,h3⟩:=ih .expr (a0n (a0n r 1 []) 6 [61]) (a1n hl ((a0b _ _ _).trans (a0b _ _ _))) (a5j (by omega) fun g=>by
      have:=a5e ((a0b (a0n r 1 []) 6 [61]).trans (a0b _ _ _));simp only[a9x];omega)
     rw[h3];simp only;have s3:=(a2x _ _ _ _ _ h3).trans ((a0b _ _ _).trans (a0b _ _ _));have l3:=a5e s3;obtain⟨⟨y,r4⟩,h4⟩:=ih .expr (a0n r3 3 [105,110]) (a1n hl ((a0b _ _ _).trans s3)) (a5j (by omega) fun g=>by
      have:=a5e (a0b r3 3 [105,110]);simp only[a9x];omega)
     rw[h4];exact⟨_,rfl⟩
  | atom=>
   simp only[a9x] at hn;simp only[exR];split
   · exact⟨_,rfl⟩
   · split
     · exact⟨_,rfl⟩
     · obtain⟨⟨x,r3⟩,h3⟩:=ih .expr (a0n r 6 [40]) (a1n hl (a0b _ _ _)) (a5j (by omega) fun g=>by
        have:=a1j g;simp only[a9x];omega)
       rw[h3];simp only;have l3:=a5e ((a2x _ _ _ _ _ h3).trans (a0b _ _ _));split
       · rename_i h5;have l4:=a2k h5;obtain⟨⟨t,r2⟩,h2⟩:=c2u (f:=f) (r:=a0s r3 6 [58]) (by omega);rw[h2];exact⟨_,rfl⟩
       · exact⟨_,rfl⟩
  | alts acc=>
   simp only[a9x] at hn;simp only[exR];have s0:=(a0b (a2j (a0n r 2 [])) 6 [45,62]).trans ((a4b _).trans (a0b _ _ _));obtain⟨⟨x,r3⟩,h3⟩:=ih .expr (a0n (a2j (a0n r 2 [])) 6 [45,62]) (a1n hl s0) (a5j (by omega) fun g=>by
    have:=a5e s0;simp only[a9x];omega)
   rw[h3];simp only;have s3:=(a2x _ _ _ _ _ h3).trans s0;have l3:=a5e s3;split
   · rename_i h5;have k5:=a2k h5;exact ih _ _ (a1n hl ((a0m _ _ _).trans s3)) (a5j (by omega) fun g=>by simp only[a9x];omega)
   · exact⟨_,rfl⟩
inductive GD:De→Prop
 | data (s:List UInt8) (vs:List (List UInt8)) (cs:List Co):s.length≤16→(∀v∈vs,v.length≤16)→(∀c∈cs,c.name.length≤16∧GT c.ty)→GD ⟨1,s,vs,cs,zTy,zEx⟩
 | sig (s:List UInt8) (t:Ty):s.length≤16→GT t→GD ⟨2,s,[],[],t,zEx⟩
 | bind (s:List UInt8) (x:Ex):s.length≤16→GX x→GD ⟨3,s,[],[],zTy,x⟩
theorem d7n:zEx.tot=1:=by unfold zEx;rw[b6y,d1l,a6e,b3v]
theorem j2v{f:Nat}{q:Rd}{c:Co}{r:Rd}(hl:∀t∈q.l,a6q t)(h:coR f q=some (c,r))(hg:r.bad=false):(c.name.length≤16∧GT c.ty)∧c.ty.sz+2+r.l.length≤q.l.length:=by
 have g:=d3j h hg;unfold coR at h;split at h
 · cases h
 · rename_i t r1 h1;injection h with h;injection h with h2 h;subst h2 h;have k1:=a1j g;have k2:=a1j k1.2;have i:=d1j (a1n hl ((a0b _ _ _).trans (a0b _ _ _))) h1 hg;refine⟨⟨a8u hl _ _,i.1⟩,?_⟩;have:=i.2;simp only;omega
theorem i4d{f:Nat}:∀ {g:Nat} {acc:List Co} {q:Rd} {cs:List Co} {r:Rd},(∀t∈q.l,a6q t)→(∀c∈acc,c.name.length≤16∧GT c.ty)→d6v f g acc q=some (cs,r)→r.bad=false→
 (∀c∈cs,c.name.length≤16∧GT c.ty)∧Ty.szs (cs.map Co.ty)+cs.length+r.l.length≤Ty.szs (acc.map Co.ty)+acc.length+q.l.length:=by
 intro g
 induction g with
 | zero=>intro acc q cs r _ _ h;cases h
 | succ g ih=>
  intro acc q cs r hl ha h hg;simp only[d6v] at h;split at h
  · cases h
  · rename_i c r1 h1;have key:r1.bad=false→(∀c'∈acc++[c],c'.name.length≤16∧GT c'.ty)∧Ty.szs ((acc++[c]).map Co.ty)+(acc++[c]).length+r1.l.length≤Ty.szs (acc.map Co.ty)+acc.length+q.l.length:=by
     intro g1;have i:=j2v hl h1 g1;refine⟨?_,?_⟩
     · intro c' hc;rcases List.mem_append.1 hc with hc|hc
       · exact ha c' hc
       · rw[List.mem_singleton.1 hc];exact i.1
     · rw[List.map_append,List.map_cons,List.map_nil,d9v,List.length_append,List.length_singleton];have:=i.2;omega
    split at h
    · rename_i h2;have k2:=a2k h2;have k:=key k2.2.2;have j:=ih (a1n hl ((a0m _ _ _).trans (c1h h1))) k.1 h hg;exact⟨j.1,by have:=j.2;have:=k.2;omega⟩
    · injection h with h;injection h with h2 h;subst h2 h;exact key hg
theorem j2s{f:Nat}{r:Rd}{d:De}{r':Rd}(hl:∀t∈r.l,a6q t)(h:deR f r=some (d,r'))(hg:r'.bad=false):GD d∧d.tot+3*r'.l.length≤3*r.l.length:=by
 unfold deR at h;split at h
 · rename_i h1;have k1:=a2k h1;have sb:=(a4b (a0n (a0s r 3 [100,97,116,97]) 2 [])).trans ((a0b _ _ _).trans (a0m _ _ _));have hw:(a6h (a0s r 3 [100,97,116,97]) 2 []).length≤16:=a8u (a1n hl (a0m _ _ _)) _ _;have hn:=d5n (r:=a0n (a0s r 3 [100,97,116,97]) 2 []) (a1n hl ((a0b _ _ _).trans (a0m _ _ _)));split at h
   · rename_i h2;injection h with h;injection h with h3 h;subst h3 h;have k2:=a2k h2;have k3:=a1j k2.2.2;have k4:=b8d k3.2;have k5:=a1j k4.2;refine⟨.data _ _ _ hw hn (by simp),?_⟩;simp only[De.tot,List.map_nil,Ty.szs,b3v,d7n,List.length_nil];omega
   · split at h
     · cases h
     · rename_i cs r5 h3;injection h with h;injection h with h4 h;subst h4 h;have k6:=a1j hg;have g3:=c7d h3 k6.2;have k3:=a1j g3;have k4:=b8d k3.2;have k5:=a1j k4.2;have i:=i4d (a1n hl ((a0b _ _ _).trans sb)) (by simp) h3 k6.2;refine⟨.data _ _ _ hw hn i.1,?_⟩;simp only[De.tot,b3v,d7n];have:=i.2;simp only[List.map_nil,Ty.szs,List.length_nil] at this;omega
 · split at h
   · rename_i h1;have k1:=a2k h1;have k0:=a1j k1.2.2;split at h
     · cases h
     · rename_i t r2 h2;injection h with h;injection h with h4 h;subst h4 h;have i:=d1j (a1n hl ((a0m _ _ _).trans (a0b _ _ _))) h2 hg;refine⟨.sig _ _ (a8u hl _ _) i.1,?_⟩;simp only[De.tot,d7n,List.map_nil,Ty.szs,List.length_nil];have:=i.2;omega
   · split at h
     · cases h
     · rename_i x r3 h3;injection h with h;injection h with h4 h;subst h4 h;have k1:=a1j (a3z h3 hg);have k0:=a1j k1.2;have i:=h2y _ _ _ _ _ (a1n hl ((a0b _ _ _).trans (a0b _ _ _))) h3 hg;refine⟨.bind _ _ (a8u hl _ _) i.1,?_⟩;simp only[De.tot,b3v,List.map_nil,Ty.szs,List.length_nil];have:=i.2;omega
def De.sum(l:List De):Nat:=(l.map De.tot).sum
theorem e8x(l:List De)(d:De):De.sum (l++[d])=De.sum l+d.tot:=by simp[De.sum]
theorem c6u:De.sum []=0:=rfl
theorem e8z(d:De):1≤d.tot:=by unfold De.tot;have:=a9k d.val;omega
theorem a9i{l:List De}{d:De}(h:d∈l):d.tot≤De.sum l:=by
 induction l with
 | nil=>cases h
 | cons x l ih=>
  simp only[De.sum,List.map_cons,List.sum_cons] at ih⊢;rcases List.mem_cons.1 h with rfl|h
  · omega
  · have:=ih h;omega
theorem b2g(l:List De):l.length≤De.sum l:=by
 induction l with
 | nil=>simp
 | cons x l ih=>
  simp only[De.sum,List.map_cons,List.sum_cons,List.length_cons] at ih⊢;have:=e8z x;omega
theorem i3y{f:Nat}:∀ {g:Nat} {acc:List De} {q:Rd} {ds:List De} {r:Rd},(∀t∈q.l,a6q t)→(∀d∈acc,GD d)→e9x f g acc q=some (ds,r)→r.bad=false→
 (∀d∈ds,GD d)∧De.sum ds+3*r.l.length≤De.sum acc+3*q.l.length:=by
 intro g
 induction g with
 | zero=>intro acc q cs r _ _ h;cases h
 | succ g ih=>
  intro acc q cs r hl ha h hg;simp only[e9x] at h;split at h
  · cases h
  · rename_i c r1 h1;have key:r1.bad=false→(∀d∈acc++[c],GD d)∧De.sum (acc++[c])+3*r1.l.length≤De.sum acc+3*q.l.length:=by
     intro g1;have i:=j2s hl h1 g1;refine⟨?_,?_⟩
     · intro c' hc;rcases List.mem_append.1 hc with hc|hc
       · exact ha c' hc
       · rw[List.mem_singleton.1 hc];exact i.1
     · rw[e8x];have:=i.2;omega
    split at h
    · rename_i h2;have k2:=a2k h2;have k:=key k2.2.2;have j:=ih (a1n hl ((a0m _ _ _).trans (c7b h1))) k.1 h hg;exact⟨j.1,by have:=j.2;have:=k.2;omega⟩
    · injection h with h;injection h with h2 h;subst h2 h;exact key hg
theorem i4g{f:Nat}{q:Rd}(h:5*q.l.length+4≤f):∃x,coR f q=some x:=by
 have:=a5e ((a0b (a0n q 2 []) 6 [58]).trans (a0b _ _ _));obtain⟨⟨t,r⟩,h1⟩:=c2u (f:=f) (r:=a0n (a0n q 2 []) 6 [58]) (by omega);unfold coR;rw[h1];exact⟨_,rfl⟩
theorem g8a{f:Nat}:∀(g:Nat) (acc:List Co) (q:Rd),5*q.l.length+4≤f→q.l.length+1≤g→∃x,d6v f g acc q=some x:=by
 intro g
 induction g with
 | zero=>intro acc q _ h;omega
 | succ g ih=>
  intro acc q hf hg;obtain⟨⟨c,r⟩,h1⟩:=i4g hf;simp only[d6v];rw[h1];simp only;have:=a5e (c1h h1);split
  · rename_i h2;have k2:=a2k h2;exact ih _ _ (by omega) (by omega)
  · exact⟨_,rfl⟩
theorem i4a{f:Nat}{r:Rd}(hl:∀t∈r.l,a6q t)(h:10*r.l.length+10≤f):∃x,deR f r=some x:=by
 unfold deR;split
 · have sb:=(a4b (a0n (a0s r 3 [100,97,116,97]) 2 [])).trans ((a0b _ _ _).trans (a0m _ _ _));have:=a5e ((a0b (a2j (a0n (a0s r 3 [100,97,116,97]) 2 [])) 6 [123]).trans sb);split
   · exact⟨_,rfl⟩
   · obtain⟨⟨cs,r5⟩,h3⟩:=g8a (f:=f) f [] (a0n (a2j (a0n (a0s r 3 [100,97,116,97]) 2 [])) 6 [123]) (by omega) (by omega);rw[h3];exact⟨_,rfl⟩
 · split
   · have:=a5e ((a0m (a0n r 1 []) 6 [58]).trans (a0b _ _ _));obtain⟨⟨t,r2⟩,h1⟩:=c2u (f:=f) (r:=a0s (a0n r 1 []) 6 [58]) (by omega);rw[h1];exact⟨_,rfl⟩
   · have s:=(a0b (a0n r 1 []) 6 [61]).trans (a0b _ _ _);have:=a5e s;obtain⟨⟨x,r3⟩,h3⟩:=i3u f .expr (a0n (a0n r 1 []) 6 [61]) (a1n hl s) (a5j (by omega) fun _=>by simp only[a9x];omega);rw[h3];exact⟨_,rfl⟩
theorem g7v{f:Nat}:∀(g:Nat) (acc:List De) (q:Rd),(∀t∈q.l,a6q t)→10*q.l.length+10≤f→q.l.length+1≤g→∃x,e9x f g acc q=some x:=by
 intro g
 induction g with
 | zero=>intro acc q _ _ h;omega
 | succ g ih=>
  intro acc q hl hf hg;obtain⟨⟨c,r⟩,h1⟩:=i4a hl hf;simp only[e9x];rw[h1];simp only;have:=a5e (c7b h1);split
  · rename_i h2;have k2:=a2k h2;exact ih _ _ (a1n hl ((a0m _ _ _).trans (c7b h1))) (by omega) (by omega)
  · exact⟨_,rfl⟩
def F0:Nat:=100000
theorem k0o{l:List Tok}(h:∀t∈l,a6q t):∀t∈l,b8j t:=fun t ht=>(h t ht).1
theorem k0p{l:List Tok}(h:∀t∈l,a6q t):∀t∈l,b9x t:=fun t ht=>(h t ht).1.one
theorem e4v(s:List UInt8):∃p,b4r F0 s=some p:=by
 obtain⟨h1,h2⟩:=b8q s;unfold b4r;split
 · exact⟨_,rfl⟩
 · have:∃x,f8q F0 (a5d s).1=some x:=by
    unfold f8q;split
    · exact⟨_,rfl⟩
    · rename_i t q hq;rw[hq] at h1 h2;exact g7v F0 [] ⟨t::q,false⟩ h2 (by unfold F0;simp only;omega) (by unfold F0;simp only;omega)
   obtain⟨⟨ds,r⟩,h3⟩:=this;rw[h3];exact⟨_,rfl⟩
theorem f8p{f:Nat}{s:List UInt8}{ds:List De}{r:Rd}(h:f8q f (a5d s).1=some (ds,r))(hg:r.bad=false):(∀d∈ds,GD d)∧De.sum ds≤12000:=by
 obtain⟨h1,h2⟩:=b8q s;unfold f8q at h;split at h
 · injection h with h;injection h with h3 h;subst h3;exact⟨by simp,by rw[c6u];omega⟩
 · rename_i t q hq;rw[hq] at h1 h2;have:=i3y (q:=⟨t::q,false⟩) h2 (by simp) h hg;rw[c6u] at this;exact⟨this.1,by have:=this.2;simp only at this;omega⟩
theorem e2v{f:Nat}{s:List UInt8}(ds:List De)(r:Rd)(h:f8q f (a5d s).1=some (ds,r))(hg:r.bad=false):ds.length<1000000∧∀d∈ds,d.tot<1000000:=by
 have k:=(f8p h hg).2;have:=b2g ds;exact⟨by omega,fun d hd=>by have:=a9i hd;omega⟩
theorem f2r{f:Nat}{s:List UInt8}{p:List De×Int}(hp:b4r f s=some p):den E 78 [.str s] []=some (d2l p,[])∧den E 79 [.str s] []=some (d2l p,[]):=by
 obtain⟨h1,h2⟩:=b8q s;exact⟨f2s f s p (k0p h2) (by omega) e2v hp,e4w f s p (k0o h2) (by omega) e2v hp⟩
theorem i2w(l:List (List UInt8))(sep:List UInt8):(Lib.join l sep).length≤sep.length*l.length+Lib.lens l:=by
 cases l with
 | nil=>simp[Lib.join]
 | cons x r=>rw[Lib.join_length,List.length_cons,Nat.mul_add];omega
theorem d5v(x:List UInt8)(r:List (List UInt8)):Lib.lens (x::r)=x.length+Lib.lens r:=by simp[Lib.lens]
theorem a9w{s:List UInt8}(h:s.length≤1000000000):c0d s=some s:=by unfold c0d lim;rw[if_pos h]
theorem a6l{n f:Nat}(h:n≤f)(hn:0<n):∃g,f=g+1∧n≤g+1:=⟨f - 1,by omega,by omega⟩
theorem GT.goodK{t:Ty}(h:GT t):goodK t=true:=by cases h<;>rfl
theorem d9w(t:Ty):1≤t.sz:=by rw[a2s];omega
def j3g(t:Ty):Prop:=(∃s,s.length+8≤40*t.sz∧∀f,3*t.sz≤f→prR f .pr t=some s)∧(∃s,s.length+6≤40*t.sz∧∀f,3*t.sz+1≤f→prR f .tail t=some s)
theorem i5u{t:Ty}(h:GT t)(hs:t.sz≤1000000)(hp:j3g t):∃s,s.length+6≤40*t.sz∧∀f,3*t.sz+1≤f→prR f .arg t=some s:=by
 obtain⟨⟨a,ha,hf⟩,_⟩:=hp;have hk:=h.goodK;unfold Go.Proofs.goodK at hk;cases hc:c1l t
 · refine⟨[40]++a++[41],by simp only[List.length_append,List.length_cons,List.length_nil];omega,fun f h=>?_⟩;obtain⟨g,rfl,hg⟩:=a6l h (by omega);simp only[prR,hk,if_true,hf g (by omega),hc,Bool.false_eq_true,if_false];exact a9w (by simp only[List.length_append,List.length_cons,List.length_nil];omega)
 · refine⟨a,by omega,fun f h=>?_⟩;obtain⟨g,rfl,hg⟩:=a6l h (by omega);simp only[prR,hk,if_true,hf g (by omega),hc]
theorem g6a{t:Ty}(h:GT t)(hs:t.sz≤1000000)(hp:j3g t):∃s,s.length+6≤40*t.sz∧∀f,3*t.sz+1≤f→prR f .left t=some s:=by
 obtain⟨⟨a,ha,hf⟩,_⟩:=hp;have hk:=h.goodK;unfold Go.Proofs.goodK at hk;cases hc:decide (t.kind<4)
 · refine⟨[40]++a++[41],by simp only[List.length_append,List.length_cons,List.length_nil];omega,fun f h=>?_⟩;obtain⟨g,rfl,hg⟩:=a6l h (by omega);simp only[prR,hk,if_true,hf g (by omega),hc,Bool.false_eq_true,if_false];exact a9w (by simp only[List.length_append,List.length_cons,List.length_nil];omega)
 · refine⟨a,by omega,fun f h=>?_⟩;obtain⟨g,rfl,hg⟩:=a6l h (by omega);simp only[prR,hk,if_true,hf g (by omega),hc]
theorem e3m:∀(l:List Ty),(∀x,x∈l→GT x)→Ty.szs l≤1000000→(∀x,x∈l→x.sz≤1000000→j3g x)→∃ss,Lib.lens ss+6*l.length≤40*Ty.szs l∧ss.length=l.length∧∀f,3*Ty.szs l+1≤f→d9h (prR f .arg) l=some ss
 | [],_,_,_=>⟨[],by simp[Lib.lens],rfl,fun f _=>rfl⟩
 | x::r,hg,hs,hp=>by
  simp only[Ty.szs] at hs;have hx:x∈x::r:=List.mem_cons_self ..;obtain⟨a,ha,hf⟩:=i5u (hg x hx) (by omega) (hp x hx (by omega));obtain⟨ss,h1,h2,h3⟩:=e3m r (fun y hy=>hg y (List.mem_cons_of_mem _ hy)) (by omega) (fun y hy=>hp y (List.mem_cons_of_mem _ hy));refine⟨a::ss,?_,by simp[h2],fun f hf'=>?_⟩
  · simp only[d5v,Ty.szs,List.length_cons];omega
  · simp only[Ty.szs] at hf';simp only[d9h,hf f (by omega),h3 f (by omega)]
theorem i2e{t:Ty}(h:GT t):t.sz≤1000000→j3g t:=by
 have tl:∀ {t:Ty},t.sz≤1000000→(t.kind==5)=false→(∃s,s.length+8≤40*t.sz∧∀f,3*t.sz≤f→prR f .pr t=some s)→j3g t:=by
  intro t hs hk hp;refine⟨hp,?_⟩;obtain⟨a,ha,hf⟩:=hp;refine⟨[46,32]++a,by simp only[List.length_append,List.length_cons,List.length_nil];omega,fun f h=>?_⟩;obtain⟨g,rfl,hg⟩:=a6l h (by omega);simp only[prR,hk,Bool.false_eq_true,if_false,hf g (by omega)];exact a9w (by simp only[List.length_append,List.length_cons,List.length_nil];omega)
 induction h with
 | var s h1=>
  intro hs;refine tl hs rfl ⟨s,by rw[a0y];simp only[Ty.szs];omega,fun f h=>?_⟩;obtain⟨g,rfl,hg⟩:=a6l h (by have:=d9w (.mk 1 s 0 []);omega);simp only[prR,Ty.kind];exact a9w (by simp only[Ty.name];omega)
 | unk n h1 h2=>
  intro hs;have hl:(Lib.itoa n).length≤6:=by
   have:=b0a 5 n.toNat (by omega)
   rwa[show ((n.toNat:Nat):Int)=n by omega] at this
  refine tl hs rfl ⟨63::Lib.itoa n,by rw[a0y];simp only[Ty.szs,List.length_cons];omega,fun f h=>?_⟩;obtain⟨g,rfl,hg⟩:=a6l h (by have:=d9w (.mk 2 [] n []);omega);have hc:(0≤n∧n<1000000000)=True:=eq_true ⟨h1,by omega⟩;simp only[prR,Ty.kind,Ty.n,beq_self_eq_true,if_true,hc];exact a9w (by simp only[List.length_cons];omega)
 | con s a h1 h2 ih=>
  intro hs;rw[a0y] at hs;obtain⟨ss,h3,h4,h5⟩:=e3m a h2 (by omega) ih;have hj:=i2w (s::ss) [32];rw[d5v] at hj;simp only[List.length_cons,List.length_nil] at hj;have hsz:=d1n a;refine tl (by rw[a0y];exact hs) rfl ⟨Lib.join (s::ss) [32],by rw[a0y];omega,fun f h=>?_⟩;rw[a0y] at h;obtain⟨g,rfl,hg⟩:=a6l h (by omega);simp only[prR,Ty.kind,Ty.args,Ty.name,h5 g (by omega)];exact a9w (by omega)
 | fn x y hx hy ihx ihy=>
  intro hs;rw[a0y,a1h] at hs;obtain⟨a,ha,fa⟩:=g6a hx (by omega) (ihx (by omega));obtain⟨⟨b,hb,fb⟩,_⟩:=ihy (by omega);refine tl (by rw[a0y,a1h];exact hs) rfl ⟨a++[32,45,62,32]++b,by rw[a0y,a1h];simp only[List.length_append,List.length_cons,List.length_nil];omega,fun f h=>?_⟩;rw[a0y,a1h] at h;obtain⟨g,rfl,hg⟩:=a6l h (by omega);have:=d9w y;have:=d9w x;simp only[prR,Ty.kind,Ty.args,kids2,fa g (by omega),fb g (by omega)];exact a9w (by simp only[List.length_append,List.length_cons,List.length_nil];omega)
 | all s x h1 hx ih=>
  intro hs;rw[a0y,a1l] at hs;obtain⟨_,⟨a,ha,fa⟩⟩:=ih (by omega);refine⟨⟨[102,111,114,97,108,108,32]++s++a,by rw[a0y,a1l];simp only[List.length_append,List.length_cons,List.length_nil];omega,fun f h=>?_⟩,⟨[32]++s++a,by rw[a0y,a1l];simp only[List.length_append,List.length_cons,List.length_nil];omega,fun f h=>?_⟩⟩
  · rw[a0y,a1l] at h;obtain⟨g,rfl,hg⟩:=a6l h (by omega);simp only[prR,Ty.kind,Ty.args,Ty.name,e7l,fa g (by omega)];exact a9w (by simp only[List.length_append,List.length_cons,List.length_nil];omega)
  · rw[a0y,a1l] at h;obtain⟨g,rfl,hg⟩:=a6l h (by omega);simp only[prR,Ty.kind,Ty.args,Ty.name,e7l,fa g (by omega)];exact a9w (by simp only[List.length_append,List.length_cons,List.length_nil];omega)
theorem h2n{t:Ty}(h:GT t)(hs:t.sz≤1000000):∃s,s.length+8≤40*t.sz∧∀f,3*t.sz≤f→prR f .pr t=some s:=(i2e h hs).1
theorem e8y(d:De)(l:List De):De.sum (d::l)=d.tot+De.sum l:=by simp[De.sum]
theorem c0m{f:Nat}{s:List UInt8}{p:List De×Int}(h:b4r f s=some p)(h0:p.2=0):(∀d∈p.1,GD d)∧De.sum p.1≤12000:=by
 unfold b4r at h;split at h
 · injection h with h;subst h;exact⟨by simp,by rw[c6u];omega⟩
 · split at h
   · cases h
   · rename_i ds r hd;injection h with h;subst h;unfold i3x at h0⊢;cases hb:r.bad
     · have k:=f8p hd hb;rw[hb] at h0;split at h0
       · exact absurd h0 (by decide)
       · split at h0
         · exact absurd h0 (by decide)
         · rename_i h3 h4;rw[if_neg (by simpa using h3),if_neg h4];exact k
     · rw[hb] at h0;simp at h0
end Go.Proofs
