/- There is always an answer, and it is bounded. -/
import Derived.Test.YtjfghnkmladbkaaGreatDoorAvH
namespace Go.Proofs
open Go.Av
set_option maxHeartbeats 4000000
set_option maxRecDepth 100000
def a7m(t:Tok):Prop:=b9t t∧t.text.length≤16
theorem f2r(p:UInt8→Bool)(s:List UInt8):∀c∈s.take (a4e p s),p c=true:=by
 intro c hc;obtain⟨i,hi,rfl⟩:=List.mem_iff_getElem.1 hc;simp only[List.length_take] at hi;obtain⟨c,h1,h2⟩:=b9x p (s:=s) (i:=i) (by omega);rw[List.getElem_take];have:s[i]? =some (s[i]'(by omega)):=List.getElem?_eq_getElem (by omega);rw[this] at h1;injection h1 with h1;rw[h1];exact h2
theorem c2p{s:List UInt8}(h:¬a2v s=0):a2v s≤6∧a2v s=a4e a1v s:=by
 unfold a2v at h⊢;split
 · rename_i h1;rw[if_pos h1] at h;exact absurd rfl h
 · rename_i h1;simp only[Bool.or_eq_true,decide_eq_true_eq,not_or] at h1;exact⟨by omega,rfl⟩
theorem f6t(w:List UInt8):d4j w≠5:=by unfold d4j;split<;>(try split)<;>decide
theorem h7b{s:List UInt8}{k:Int}{n:Nat}(h:c3q s=some (k,n))(pos:Nat):a7m ⟨k,s.take n,pos⟩:=by
 have hle:=c1w h;refine⟨⟨?_,?_⟩,?_⟩
 · rintro rfl;simp only;unfold c3q at h;simp only at h;split at h
   · split at h
     · cases h
     · injection h with h;injection h with h _;exact absurd h (f6t _)
   · split at h
     · split at h
       · cases h
       · injection h with h;injection h with h _;exact absurd h (by decide)
     · split at h
       · rename_i h3;split at h
         · cases h
         · rename_i h4;injection h with h;injection h with _ h;subst h;have hn:=c2p h4;cases s with
           | nil=>simp at h3
           | cons x r=>
            simp only[List.drop_succ_cons,List.drop_zero] at hn h4⊢;refine⟨x,r.take (a2v r),by rw[List.take_succ_cons],?_,?_,?_⟩
            · intro h0;have:=congrArg List.length h0;simp only[List.length_take,List.length_nil] at this;have:=b0p a1v r;omega
            · simp only[List.length_take];omega
            · rw[hn.2];exact f2r a1v r
       · split at h
         · injection h with h;injection h with h _;exact absurd h (by decide)
         · split at h
           · injection h with h;injection h with h _;exact absurd h (by decide)
           · cases h
 · intro ht;simp only at ht⊢;cases s with
   | nil=>simp at ht
   | cons x r=>
    obtain⟨m,rfl⟩:∃m,n=m+1:=⟨n - 1,by omega⟩
    rw[List.take_succ_cons] at ht;injection ht with hx _;subst hx;unfold c3q at h;simp only[List.headD_cons,show (a6m 40||a5n 40)=false from by decide,show a1v 40=false from by decide,show ((40:UInt8)==63)=false from by decide,Bool.false_eq_true,if_false] at h;split at h
    · injection h with h;injection h with h _;exact h.symm
    · simp only[show a6c.contains 40=true from by decide,if_true] at h;injection h with h;injection h with h _;exact h.symm
 · simp only[List.length_take];unfold c3q at h;simp only at h;split at h
   · split at h
     · cases h
     · injection h with h;injection h with _ h;omega
   · split at h
     · split at h
       · cases h
       · rename_i h4;have:=c2p h4;injection h with h;injection h with _ h;omega
     · split at h
       · split at h
         · cases h
         · rename_i h4;have:=c2p h4;injection h with h;injection h with _ h;omega
       · split at h
         · injection h with h;injection h with _ h;omega
         · split at h
           · injection h with h;injection h with _ h;omega
           · cases h
theorem e2m:∀(f pos:Nat) (s:List UInt8) (l:List Tok),a9x f pos s=.ok l→l.length≤s.length∧∀t∈l,a7m t
 | 0,pos,s,l,h=>by simp[a9x] at h
 | f+1,pos,s,l,h=>by
  cases s with
  | nil=>simp only[a9x] at h;injection h with h;subst h;simp
  | cons x r=>
   simp only[a9x] at h;split at h
   · cases h
   · rename_i k n ht;have hle:=c1w ht;have hok:=h7b ht pos;split at h
     · rename_i l1 h1;injection h with h;subst h;have ih:=e2m f _ _ _ h1;simp only[List.length_drop] at ih;refine⟨by simp only[List.length_cons] at ih hle⊢;omega,?_⟩;intro t ht;rcases List.mem_cons.1 ht with rfl|ht
       · exact hok
       · exact ih.2 t ht
     · cases h
theorem d3e(s:List UInt8):(b1t s).1.length≤4000∧∀t∈(b1t s).1,a7m t:=by
 unfold b1t;split
 · simp
 · split
   · rename_i l h;have:=e2m _ _ _ _ h;simp only[List.length_drop] at this;exact⟨by simp only;omega,this.2⟩
   · simp
inductive GT:Ty→Prop
 | var (s:List UInt8):s.length≤16→GT (.mk 1 s 0 [])
 | unk (n:Int):0≤n→n<1000000→GT (.mk 2 [] n [])
 | con (s:List UInt8) (a:List Ty):s.length≤16→(∀x,x∈a→GT x)→GT (.mk 3 s 0 a)
 | fn (a b:Ty):GT a→GT b→GT (.mk 4 [] 0 [a,b])
 | all (s:List UInt8) (t:Ty):s.length≤16→GT t→GT (.mk 5 s 0 [t])
theorem a1o(a:Ty):Ty.szs [a]=a.sz:=by simp[Ty.szs]
theorem a1u(a b:Ty):Ty.szs [a,b]=a.sz+b.sz:=by simp[Ty.szs]
theorem e2a(l:List Ty)(t:Ty):Ty.szs (l++[t])=Ty.szs l+t.sz:=by
 induction l with
 | nil=>simp[Ty.szs]
 | cons x l ih=>simp only[List.cons_append,Ty.szs,ih];omega
theorem a0x(k:Int)(s:List UInt8)(n:Int)(a:List Ty):(Ty.mk k s n a).sz=Ty.szs a+1:=by simp[Ty.sz]
theorem g0w:∀(ns:List (List UInt8)) (t:Ty),(∀n∈ns,n.length≤16)→GT t→GT (ns.foldr (fun n t=>.mk 5 n 0 [t]) t)∧(ns.foldr (fun n t=>Ty.mk 5 n 0 [t]) t).sz=ns.length+t.sz
 | [],t,_,h=>by simp[h]
 | n::r,t,hn,h=>by
  have ih:=g0w r t (fun x hx=>hn x (List.mem_cons_of_mem _ hx)) h;simp only[List.foldr_cons];refine⟨.all _ _ (hn n (List.mem_cons_self ..)) ih.1,?_⟩;rw[a0x,a1o,ih.2,List.length_cons];omega
theorem c7k:∀ {l:List Tok},(∀t∈l,a7m t)→∀n∈a4d l,n.length≤16
 | [],_,n,h=>by simp[a4d] at h
 | t::r,hl,n,h=>by
  simp only[a4d] at h;split at h
  · rcases List.mem_cons.1 h with rfl|h
    · exact (hl t (List.mem_cons_self ..)).2
    · exact c7k (fun x hx=>hl x (List.mem_cons_of_mem _ hx)) n h
  · simp at h
theorem c4v{l:List Tok}(hl:∀t∈l,a7m t):(b2u l).length≤16:=by
 cases l with
 | nil=>simp[b2u]
 | cons t r=>exact (hl t (List.mem_cons_self ..)).2
theorem e3z{l:List Tok}(hl:∀t∈l,a7m t)(h:a2n l 5 []=true):0≤d7e (b2u l)∧d7e (b2u l)<1000000:=by
 obtain⟨t,r,rfl⟩:=a8g h;have hk:t.kind=5:=by simpa [a2n] using h
 obtain⟨c,q,h1,h2,h3,h4⟩:=(hl t (List.mem_cons_self ..)).1.1 hk;simp only[b2u,d7e,h1,List.tail_cons,d5f h4 h2,Option.getD_some];have:=f4l q h4;have:10 ^ q.length≤10 ^ 6:=Nat.pow_le_pow_right (by decide) h3;omega
theorem a1q{l' l:List Tok}(hl:∀t∈l,a7m t)(h:l'<:+l):∀t∈l',a7m t:=fun t ht=>hl t (h.subset ht)
theorem a5j{l' l:List Tok}(h:l'<:+l):l'.length≤l.length:=h.length_le
def TOK(l:List Tok)(t:Ty)(l':List Tok):TM→Prop
 | .loop name acc=>name.length≤16→(∀x,x∈acc→GT x)→GT t∧t.sz+l'.length≤l.length+Ty.szs acc+1
 | _=>GT t∧t.sz+l'.length≤l.length
theorem i9a:∀(f:Nat) (m:TM) (l:List Tok) (t:Ty) (l':List Tok),(∀t∈l,a7m t)→tyR f m l=some (t,true,l')→TOK l t l' m:=by
 intro f
 induction f with
 | zero=>intro m l t l' _ h;cases h
 | succ f ih=>
  intro m l t l' hl h;have ht:=a1q hl (a3s l);cases m with
  | typ=>
   simp only[tyR] at h;split at h
   · rename_i h1;have:=ih _ _ _ _ ht h;have h2:=a5v h1;exact⟨this.1,by have:=this.2;omega⟩
   · split at h
     · cases h
     · rename_i a ok1 l1 h1;cases ok1
       · simp at h
       · simp only[if_true] at h;have i1:=ih _ _ _ _ hl h1;have hl1:=a1q hl (a9g _ _ _ _ _ _ h1);split at h
         · rename_i h3;have h4:=a5v h3;split at h
           · cases h
           · rename_i b ok2 l2 h2;injection h with h;injection h with h h5;injection h5 with h5 h6;subst h h5 h6;have i2:=ih _ _ _ _ (a1q hl1 (a3s l1)) h2;exact⟨.fn _ _ i1.1 i2.1,by rw[a0x,a1u];have:=i1.2;have:=i2.2;omega⟩
         · injection h with h;injection h with h h5;injection h5 with h5 h6;subst h h6;exact i1
  | all=>
   simp only[tyR] at h;split at h
   · rename_i h1;have h2:=a5v h1;simp only[List.length_drop] at h2;have hn:=c7k hl;split at h
     · simp at h
     · rename_i n ns hns;rw[hns] at hn h2;split at h
       · cases h
       · rename_i t1 ok l2 h3;injection h with h;injection h with h h5;injection h5 with h5 h6;subst h h5 h6;have i1:=ih _ _ _ _ (a1q hl ((a3s _).trans (List.drop_suffix _ _))) h3;have ha:=g0w (n::ns) t1 hn i1.1;have:=i1.2;rw[hns] at this;exact⟨ha.1,by rw[ha.2];omega⟩
   · simp at h
  | app=>
   simp only[tyR] at h;split at h
   · rename_i h1;have h2:=a5v h1;have i1:=ih _ _ _ _ ht h (c4v hl) (by simp);exact⟨i1.1,by have:=i1.2;simp only[Ty.szs] at this;omega⟩
   · exact ih .atom _ _ _ hl h
  | loop name acc=>
   intro hn hacc;simp only[tyR] at h;split at h
   · split at h
     · cases h
     · rename_i x ok l1 h1;cases ok
       · simp at h
       · simp only[if_true] at h;have i1:=ih _ _ _ _ hl h1;have i2:=ih _ _ _ _ (a1q hl (a9g _ _ _ _ _ _ h1)) h hn (by
          intro y hy;rcases List.mem_append.1 hy with hy|hy
          · exact hacc y hy
          · rw[List.mem_singleton.1 hy];exact i1.1)
         rw[e2a] at i2;exact⟨i2.1,by have:=i1.2;have:=i2.2;omega⟩
   · injection h with h;injection h with h h5;injection h5 with h5 h6;subst h h6;exact⟨.con _ _ hn hacc,by rw[a0x];omega⟩
  | atom=>
   simp only[tyR] at h;split at h
   · rename_i h1;have h2:=a5v h1;injection h with h;injection h with h h5;injection h5 with h5 h6;subst h h6;exact⟨.var _ (c4v hl),by rw[a0x];simp only[Ty.szs];omega⟩
   · split at h
     · rename_i h1;have h2:=a5v h1;injection h with h;injection h with h h5;injection h5 with h5 h6;subst h h6;exact⟨.con _ _ (c4v hl) (by simp),by rw[a0x];simp only[Ty.szs];omega⟩
     · split at h
       · rename_i h1;have h2:=a5v h1;injection h with h;injection h with h h5;injection h5 with h5 h6;subst h h6;exact⟨.unk _ (e3z hl h1).1 (e3z hl h1).2,by rw[a0x];simp only[Ty.szs];omega⟩
       · split at h
         · rename_i h1;have h2:=a5v h1;split at h
           · cases h
           · rename_i t1 ok l1 h3;cases ok
             · simp at h
             · simp only[if_true] at h;injection h with h;injection h with h h5;injection h5 with h5 h6;rw[if_pos h5] at h6;subst h h6;have i1:=ih _ _ _ _ ht h3;have:=a5j (a3s l1);exact⟨i1.1,by have:=i1.2;omega⟩
         · simp at h
def b5p:TM→Nat
 | .atom=>1
 | .loop _ _=>2
 | .app=>3
 | .typ=>4
 | .all=>5
theorem h5v:∀(f:Nat) (m:TM) (l:List Tok),5*l.length+b5p m≤f→∃r,tyR f m l=some r:=by
 intro f
 induction f with
 | zero=>intro m l h;cases m<;>simp[b5p] at h
 | succ f ih=>
  intro m l h;cases m with
  | typ=>
   simp only[b5p] at h;simp only[tyR];split
   · rename_i h1;have:=a5v h1;exact ih _ _ (by simp only[b5p];omega)
   · obtain⟨⟨a,ok,l1⟩,h1⟩:=ih .app l (by simp only[b5p];omega);rw[h1];simp only;cases ok
     · simp
     · simp only[if_true];have hs:=a5j (a9g _ _ _ _ _ _ h1);split
       · rename_i h2;have:=a5v h2;obtain⟨⟨b,ok2,l2⟩,h3⟩:=ih .typ l1.tail (by simp only[b5p];omega);rw[h3];exact⟨_,rfl⟩
       · exact⟨_,rfl⟩
  | all=>
   simp only[b5p] at h;simp only[tyR];split
   · rename_i h1;have h2:=a5v h1;simp only[List.length_drop] at h2;split
     · exact⟨_,rfl⟩
     · obtain⟨⟨b,ok2,l2⟩,h3⟩:=ih .typ (l.drop (a4d l).length).tail (by simp only[b5p];omega);rw[h3];exact⟨_,rfl⟩
   · exact⟨_,rfl⟩
  | app=>
   simp only[b5p] at h;simp only[tyR];split
   · rename_i h1;have:=a5v h1;exact ih _ _ (by simp only[b5p];omega)
   · exact ih _ _ (by simp only[b5p];omega)
  | loop name acc=>
   simp only[b5p] at h;simp only[tyR];split
   · obtain⟨⟨b,ok2,l2⟩,h3⟩:=ih .atom l (by simp only[b5p];omega);rw[h3];simp only;cases ok2
     · simp
     · simp only[if_true];have:=c3j h3;exact ih _ _ (by simp only[b5p];omega)
   · exact⟨_,rfl⟩
  | atom=>
   simp only[b5p] at h;simp only[tyR];split
   · exact⟨_,rfl⟩
   · split
     · exact⟨_,rfl⟩
     · split
       · exact⟨_,rfl⟩
       · split
         · rename_i h1;have:=a5v h1;obtain⟨⟨b,ok2,l2⟩,h3⟩:=ih .typ l.tail (by simp only[b5p];omega);rw[h3];simp only;split<;>exact⟨_,rfl⟩
         · exact⟨_,rfl⟩
inductive GX:Ex→Prop
 | nam (k:Int) (s:List UInt8):(k=1∨k=2)→s.length≤16→GX (.mk k s false zTy [] [])
 | lam (s:List UInt8) (x:Ex):s.length≤16→GX x→GX (.mk 3 s false zTy [x] [])
 | app (x y:Ex):GX x→GX y→GX (.mk 4 [] false zTy [x,y] [])
 | lett (s:List UInt8) (t:Ty) (x y:Ex):s.length≤16→GT t→GX x→GX y→GX (.mk 5 s true t [x,y] [])
 | letu (s:List UInt8) (x y:Ex):s.length≤16→GX x→GX y→GX (.mk 5 s false zTy [x,y] [])
 | cas (x:Ex) (al:List Al):GX x→(∀a,a∈al→GX a.body)→(∀a∈al,a.con.length≤16∧∀v∈a.vars,v.length≤16)→GX (.mk 6 [] false zTy [x] al)
 | ann (x:Ex) (t:Ty):GX x→GT t→GX (.mk 7 [] false t [x] [])
def GA(al:List Al):Prop:=∀a∈al,GX a.body∧a.con.length≤16∧∀v∈a.vars,v.length≤16
theorem b8b(k:Int)(s:List UInt8)(b:Bool)(t:Ty)(ks:List Ex)(al:List Al):(Ex.mk k s b t ks al).tot=Ex.tots ks+Al.tots al+t.sz:=by simp[Ex.tot]
theorem d2t:Ex.tots []=0:=by simp[Ex.tots]
theorem c4t(x:Ex):Ex.tots [x]=x.tot:=by simp[Ex.tots]
theorem d2s(x y:Ex):Ex.tots [x,y]=x.tot+y.tot:=by simp[Ex.tots]
theorem a6t:Al.tots []=0:=by simp[Al.tots]
theorem e1n(l:List Al)(c:List UInt8)(v:List (List UInt8))(b:Ex):Al.tots (l++[.mk c v b])=Al.tots l+(b.tot+v.length+1):=by
 induction l with
 | nil=>simp[Al.tots,Al.tot]
 | cons x l ih=>simp only[List.cons_append,Al.tots,ih];omega
theorem b4v:zTy.sz=1:=rfl
theorem a1m{r:Rd}{k:Int}{s:List UInt8}(h:(a0o r k s).bad=false):(a0o r k s).l.length+1=r.l.length∧r.bad=false:=by
 have h1:=a1s h;obtain⟨hb,t,q,hl⟩:=a3o h1;rw[d2v h1,hl];exact⟨by simp,hb⟩
theorem a2r{r:Rd}{k:Int}{s:List UInt8}(h:a1n r k s=true):(a0r r k s).l.length+1=r.l.length∧(a0r r k s).bad=false∧r.bad=false:=by
 obtain⟨hb,t,q,hl⟩:=a3o h;rw[a7q h,hl];exact⟨by simp,rfl,hb⟩
theorem b9m{r:Rd}(h:(a2q r).bad=false):(a2q r).l.length+(a3p r).length=r.l.length∧r.bad=false:=by
 have hb:r.bad=false:=h;have:=c7l r.l;unfold a2q a3p;rw[hb];simp only[Bool.false_eq_true,if_false,List.length_drop];exact⟨by omega,trivial⟩
theorem a9p{r:Rd}(hl:∀t∈r.l,a7m t)(k:Int)(s:List UInt8):(a7b r k s).length≤16:=by
 unfold a7b;split
 · exact c4v hl
 · simp
theorem d7a{r:Rd}(hl:∀t∈r.l,a7m t):∀n∈a3p r,n.length≤16:=by
 unfold a3p;split
 · simp
 · exact c7k hl
theorem d2r{f:Nat}{r:Rd}{t:Ty}{r':Rd}(hl:∀t∈r.l,a7m t)(h:d5x f r=some (t,r'))(hg:r'.bad=false):GT t∧t.sz+r'.l.length≤r.l.length:=by
 have hb:=d5w h hg;unfold d5x at h;rw[hb] at h;simp only[Bool.false_eq_true,if_false] at h;split at h
 · cases h
 · rename_i t1 ok l1 h1;cases ok
   · simp only[Bool.false_eq_true,if_false] at h;injection h with h;injection h with _ h;subst h;cases hg
   · simp only[if_true] at h;injection h with h;injection h with h5 h;subst h5 h;exact i9a _ _ _ _ _ hl h1
theorem c4s{f:Nat}{r:Rd}(h:5*r.l.length+4≤f):∃x,d5x f r=some x:=by
 unfold d5x;split
 · exact⟨_,rfl⟩
 · obtain⟨⟨t,ok,l'⟩,h1⟩:=h5v f .typ r.l (by simp only[b5p];omega);rw[h1];simp only;split<;>exact⟨_,rfl⟩
def XOK(r:Rd)(x:Ex)(r':Rd):XM→Prop
 | .loop e=>GX e→GX x∧x.tot+2*r'.l.length≤e.tot+2*r.l.length
 | .alts acc=>GA acc→GA x.alts∧Al.tots x.alts+2*r'.l.length≤Al.tots acc+2*r.l.length
 | _=>GX x∧x.tot+1+2*r'.l.length≤2*r.l.length
theorem h5f:∀(f:Nat) (m:XM) (r:Rd) (x:Ex) (r':Rd),(∀t∈r.l,a7m t)→exR f m r=some (x,r')→r'.bad=false→XOK r x r' m:=by
 intro f
 induction f with
 | zero=>intro m r x r' _ h;cases h
 | succ f ih=>
  intro m r x r' hl h hg;have fin:∀ {a b:Ex} {p q:Rd},some (a,p)=some (b,q)→a=b∧p=q:=fun h1=>by
   injection h1 with h1;injection h1 with h2 h1;exact⟨h2,h1⟩
  cases m with
  | expr=>
   simp only[exR] at h;split at h
   · rename_i hb;obtain⟨_,rfl⟩:=fin h;rw[hb] at hg;cases hg
   · split at h
     · rename_i h1;split at h
       · cases h
       · rename_i x1 r1 h2;obtain⟨rfl,rfl⟩:=fin h;have k1:=a2r h1;have g2:=a4h h2 hg;have k2:=a1m g2;have k3:=a1m k2.2;have i:=ih _ _ _ _ (a1q hl ((a0b _ _ _).trans ((a0b _ _ _).trans (a0l _ _ _)))) h2 hg;refine⟨.lam _ _ (a9p (a1q hl (a0l _ _ _)) _ _) i.1,?_⟩;rw[b8b,c4t,a6t,b4v];have:=i.2;omega
     · split at h
       · rename_i h1;have k1:=a2r h1;have i:=ih _ _ _ _ (a1q hl (a0l _ _ _)) h hg;exact⟨i.1,by have:=i.2;omega⟩
       · split at h
         · rename_i h1;have k1:=a2r h1;split at h
           · cases h
           · rename_i x1 r1 h2;have s1:=(a3j _ _ _ _ _ h2).trans (a0l _ _ _);have s2:=(a0b (a0o r1 3 [111,102]) 6 [123]).trans ((a0b r1 3 [111,102]).trans s1);split at h
             · rename_i h3;obtain⟨rfl,rfl⟩:=fin h;have k3:=a2r h3;have k4:=a1m k3.2.2;have k5:=a1m k4.2;have i:=ih _ _ _ _ (a1q hl (a0l _ _ _)) h2 k5.2;refine⟨.cas _ _ i.1 (by simp) (by simp),?_⟩;rw[b8b,c4t,a6t,b4v];have:=i.2;omega
             · split at h
               · cases h
               · rename_i y r4 h4;obtain⟨rfl,rfl⟩:=fin h;have k6:=a1m hg;have g4:=a4h h4 k6.2;have k4:=a1m g4;have k5:=a1m k4.2;have i:=ih _ _ _ _ (a1q hl (a0l _ _ _)) h2 k5.2;have j:=ih _ _ _ _ (a1q hl s2) h4 k6.2 (by intro a ha;simp at ha);refine⟨.cas _ _ i.1 (fun a ha=>(j.1 a ha).1) (fun a ha=>(j.1 a ha).2),?_⟩;rw[b8b,c4t,b4v];have:=i.2;have:=j.2;rw[a6t] at this;omega
         · split at h
           · cases h
           · rename_i e r1 h1;have g1:=a4h h hg;have i:=ih _ _ _ _ hl h1 g1;have j:=ih _ _ _ _ (a1q hl (a3j _ _ _ _ _ h1)) h hg i.1;exact⟨j.1,by have:=i.2;have:=j.2;omega⟩
  | loop e=>
   intro he;simp only[exR] at h;split at h
   · split at h
     · cases h
     · rename_i e1 r1 h1;have g1:=a4h h hg;have i:=ih _ _ _ _ hl h1 g1;have j:=ih _ _ _ _ (a1q hl (a3j _ _ _ _ _ h1)) h hg (.app _ _ he i.1);rw[b8b,d2s,a6t,b4v] at j;exact⟨j.1,by have:=i.2;have:=j.2;omega⟩
   · obtain⟨rfl,rfl⟩:=fin h;exact⟨he,by omega⟩
  | lets=>
   simp only[exR] at h;split at h
   · rename_i h1;have k1:=a2r h1;have k0:=a1m k1.2.2;split at h
     · cases h
     · rename_i t r2 h2;have s2:=(b0n h2).trans ((a0l _ _ _).trans (a0b _ _ _));split at h
       · cases h
       · rename_i x r3 h3;have s3:=(a3j _ _ _ _ _ h3).trans ((a0b _ _ _).trans s2);split at h
         · cases h
         · rename_i y r4 h4;obtain⟨rfl,rfl⟩:=fin h;have g4:=a1m (a4h h4 hg);have g3:=a1m (a4h h3 g4.2);have i2:=d2r (a1q hl ((a0l _ _ _).trans (a0b _ _ _))) h2 g3.2;have i3:=ih _ _ _ _ (a1q hl ((a0b _ _ _).trans s2)) h3 g4.2;have i4:=ih _ _ _ _ (a1q hl ((a0b _ _ _).trans s3)) h4 hg;refine⟨.lett _ _ _ _ (a9p hl _ _) i2.1 i3.1 i4.1,?_⟩;rw[b8b,d2s,a6t];have:=i2.2;have:=i3.2;have:=i4.2;omega
   · split at h
     · cases h
     · rename_i x r3 h3;have s3:=(a3j _ _ _ _ _ h3).trans ((a0b _ _ _).trans (a0b _ _ _));split at h
       · cases h
       · rename_i y r4 h4;obtain⟨rfl,rfl⟩:=fin h;have g4:=a1m (a4h h4 hg);have g3:=a1m (a4h h3 g4.2);have g2:=a1m g3.2;have i3:=ih _ _ _ _ (a1q hl ((a0b _ _ _).trans (a0b _ _ _))) h3 g4.2;have i4:=ih _ _ _ _ (a1q hl ((a0b _ _ _).trans s3)) h4 hg;refine⟨.letu _ _ _ (a9p hl _ _) i3.1 i4.1,?_⟩;rw[b8b,d2s,a6t,b4v];have:=i3.2;have:=i4.2;omega
  | atom=>
   simp only[exR] at h;split at h
   · obtain⟨rfl,rfl⟩:=fin h;have k1:=a1m hg;refine⟨.nam 1 _ (.inl rfl) (a9p hl _ _),?_⟩;rw[b8b,d2t,a6t,b4v];omega
   · split at h
     · obtain⟨rfl,rfl⟩:=fin h;have k1:=a1m hg;refine⟨.nam 2 _ (.inr rfl) (a9p hl _ _),?_⟩;rw[b8b,d2t,a6t,b4v];omega
     · split at h
       · cases h
       · rename_i e r1 h1;have s1:=(a3j _ _ _ _ _ h1).trans (a0b _ _ _);split at h
         · rename_i h3;split at h
           · cases h
           · rename_i t r2 h2;obtain⟨rfl,rfl⟩:=fin h;have k3:=a1m hg;have k2:=a2r h3;have k1:=a1m (a4h h1 k2.2.2);have i1:=ih _ _ _ _ (a1q hl (a0b _ _ _)) h1 k2.2.2;have i2:=d2r (a1q hl ((a0l _ _ _).trans s1)) h2 k3.2;refine⟨.ann _ _ i1.1 i2.1,?_⟩;rw[b8b,c4t,a6t];have:=i1.2;have:=i2.2;omega
         · obtain⟨rfl,rfl⟩:=fin h;have k3:=a1m hg;have k1:=a1m (a4h h1 k3.2);have i1:=ih _ _ _ _ (a1q hl (a0b _ _ _)) h1 k3.2;exact⟨i1.1,by have:=i1.2;omega⟩
  | alts acc=>
   intro ha;simp only[exR] at h;split at h
   · cases h
   · rename_i b r4 h4;have s4:=(a3j _ _ _ _ _ h4).trans ((a0b _ _ _).trans ((a4k _).trans (a0b _ _ _)));have key:r4.bad=false→GA (acc++[.mk (a7b r 2 []) (a3p (a0o r 2 [])) b])∧Al.tots (acc++[.mk (a7b r 2 []) (a3p (a0o r 2 [])) b])+2*r4.l.length≤Al.tots acc+2*r.l.length:=by
      intro g4;have k3:=a1m (a4h h4 g4);have k2:=b9m k3.2;have k1:=a1m k2.2;have i:=ih _ _ _ _ (a1q hl ((a0b _ _ _).trans ((a4k _).trans (a0b _ _ _)))) h4 g4;refine⟨?_,?_⟩
      · intro a hm;rcases List.mem_append.1 hm with hm|hm
        · exact ha a hm
        · rw[List.mem_singleton.1 hm];exact⟨i.1,a9p hl _ _,d7a (a1q hl (a0b _ _ _))⟩
      · rw[e1n];have:=i.2;omega
     split at h
     · rename_i h5;have k5:=a2r h5;have k:=key k5.2.2;have j:=ih _ _ _ _ (a1q hl ((a0l _ _ _).trans s4)) h hg k.1;exact⟨j.1,by have:=j.2;have:=k.2;omega⟩
     · obtain⟨rfl,rfl⟩:=fin h;exact key hg
def b0s:XM→Nat
 | .atom=>4
 | .loop _=>5
 | .expr=>6
 | .lets=>8
 | .alts _=>8
theorem c5o(f:Nat){r:Rd}(h:r.bad=true):exR (f+1) .expr r=some (zEx,r):=by simp only[exR,h,if_true]
theorem e0y(f:Nat)(m:XM){r:Rd}(h:r.bad=true):∃x,exR (f+2) m r=some x:=by
 cases m with
 | expr=>exact⟨_,c5o _ h⟩
 | lets=>
  rw[show f+2=(f+1)+1 from rfl,exR];simp only[a3z h,a4f h,Bool.false_eq_true,if_false,c5o f h];exact⟨_,rfl⟩
 | atom=>
  rw[show f+2=(f+1)+1 from rfl,exR];simp only[a3z h,a4f h,Bool.false_eq_true,if_false,c5o f h];exact⟨_,rfl⟩
 | loop e=>
  rw[show f+2=(f+1)+1 from rfl,exR];simp only[a4f h,Bool.or_self,Bool.false_eq_true,if_false];exact⟨_,rfl⟩
 | alts acc=>
  have hb:(a2q r).bad=true:=h;rw[show f+2=(f+1)+1 from rfl,exR];simp only[a3z h,a3z hb,c5o f hb,a4f hb,Bool.false_eq_true,if_false];exact⟨_,rfl⟩
def e7d(m:XM)(r:Rd):Nat:=if r.bad then 2 else 10*r.l.length+b0s m
theorem a5r{m:XM}{r:Rd}{n:Nat}(h1:2≤n)(h2:r.bad=false→10*r.l.length+b0s m≤n):e7d m r≤n:=by
 unfold e7d;cases h:r.bad
 · simpa using h2 h
 · simpa using h1
theorem i6f:∀(f:Nat) (m:XM) (r:Rd),(∀t∈r.l,a7m t)→e7d m r≤f→∃x,exR f m r=some x:=by
 intro f
 induction f with
 | zero=>intro m r _ h;unfold e7d at h;cases hb:r.bad<;>rw[hb] at h<;>cases m<;>simp[b0s] at h
 | succ f ih=>
  intro m r hl hn;cases hb:r.bad
  case true=>
   unfold e7d at hn;rw[hb,if_pos rfl] at hn;obtain⟨g,rfl⟩:∃g,f=g+1:=⟨f - 1,by omega⟩
   exact e0y g m hb
  case false=>
  unfold e7d at hn;rw[hb] at hn;simp only[Bool.false_eq_true,if_false] at hn;cases m with
  | expr=>
   simp only[b0s] at hn;simp only[exR,hb,Bool.false_eq_true,if_false];split
   · rename_i h1;have k1:=a2r h1;obtain⟨⟨x,r4⟩,h2⟩:=ih .expr (a0o (a0o (a0r r 6 [92]) 1 []) 6 [45,62]) (a1q hl ((a0b _ _ _).trans ((a0b _ _ _).trans (a0l _ _ _)))) (a5r (by omega) fun g=>by
      have k2:=a1m g;have k3:=a1m k2.2;simp only[b0s];omega)
     rw[h2];exact⟨_,rfl⟩
   · split
     · rename_i h1;have k1:=a2r h1;exact ih .lets _ (a1q hl (a0l _ _ _)) (a5r (by omega) fun g=>by simp only[b0s];omega)
     · split
       · rename_i h1;have k1:=a2r h1;obtain⟨⟨x,r1⟩,h2⟩:=ih .expr (a0r r 3 [99,97,115,101]) (a1q hl (a0l _ _ _)) (a5r (by omega) fun g=>by simp only[b0s];omega);rw[h2];simp only;have s1:=(a3j _ _ _ _ _ h2)
         have s2:=(a0b (a0o r1 3 [111,102]) 6 [123]).trans ((a0b r1 3 [111,102]).trans s1);split
         · exact⟨_,rfl⟩
         · obtain⟨⟨y,r4⟩,h4⟩:=ih (.alts []) (a0o (a0o r1 3 [111,102]) 6 [123]) (a1q hl (s2.trans (a0l _ _ _))) (a5r (by omega) fun g=>by
            have:=a5j s2;simp only[b0s];omega)
           rw[h4];exact⟨_,rfl⟩
       · obtain⟨⟨e,r1⟩,h1⟩:=ih .atom r hl (a5r (by omega) fun g=>by simp only[b0s];omega);rw[h1];simp only;have s1:=a3j _ _ _ _ _ h1;exact ih (.loop e) r1 (a1q hl s1) (a5r (by omega) fun g=>by have:=a5j s1;simp only[b0s];omega)
  | loop e=>
   simp only[b0s] at hn;simp only[exR];split
   · obtain⟨⟨x,r1⟩,h1⟩:=ih .atom r hl (a5r (by omega) fun g=>by simp only[b0s];omega);rw[h1];simp only;have s1:=a3j _ _ _ _ _ h1;exact ih _ r1 (a1q hl s1) (a5r (by omega) fun g=>by
      have i:=(h5f _ _ _ _ _ hl h1 g).2;have:=b1f x;simp only[b0s];omega)
   · exact⟨_,rfl⟩
  | lets=>
   simp only[b0s] at hn;simp only[exR];split
   · rename_i h1;have k1:=a2r h1;have l1:=a5j (a0b r 1 []);obtain⟨⟨t,r2⟩,h2⟩:=c4s (f:=f) (r:=a0r (a0o r 1 []) 6 [58]) (by omega);rw[h2];simp only;have s2:=(b0n h2).trans ((a0l _ _ _).trans (a0b _ _ _));have l2:=a5j s2;obtain⟨⟨x,r3⟩,h3⟩:=ih .expr (a0o r2 6 [61]) (a1q hl ((a0b _ _ _).trans s2)) (a5r (by omega) fun g=>by
      have:=a5j (a0b r2 6 [61]);simp only[b0s];omega)
     rw[h3];simp only;have s3:=(a3j _ _ _ _ _ h3).trans ((a0b _ _ _).trans s2);have l3:=a5j s3;obtain⟨⟨y,r4⟩,h4⟩:=ih .expr (a0o r3 3 [105,110]) (a1q hl ((a0b _ _ _).trans s3)) (a5r (by omega) fun g=>by
      have:=a5j (a0b r3 3 [105,110]);simp only[b0s];omega)
     rw[h4];exact⟨_,rfl⟩
   · obtain⟨⟨x,r3⟩,h3⟩:=ih .expr (a0o (a0o r 1 []) 6 [61]) (a1q hl ((a0b _ _ _).trans (a0b _ _ _))) (a5r (by omega) fun g=>by
      have:=a5j ((a0b (a0o r 1 []) 6 [61]).trans (a0b _ _ _));simp only[b0s];omega)
     rw[h3];simp only;have s3:=(a3j _ _ _ _ _ h3).trans ((a0b _ _ _).trans (a0b _ _ _));have l3:=a5j s3;obtain⟨⟨y,r4⟩,h4⟩:=ih .expr (a0o r3 3 [105,110]) (a1q hl ((a0b _ _ _).trans s3)) (a5r (by omega) fun g=>by
      have:=a5j (a0b r3 3 [105,110]);simp only[b0s];omega)
     rw[h4];exact⟨_,rfl⟩
  | atom=>
   simp only[b0s] at hn;simp only[exR];split
   · exact⟨_,rfl⟩
   · split
     · exact⟨_,rfl⟩
     · obtain⟨⟨x,r3⟩,h3⟩:=ih .expr (a0o r 6 [40]) (a1q hl (a0b _ _ _)) (a5r (by omega) fun g=>by
        have:=a1m g;simp only[b0s];omega)
       rw[h3];simp only;have l3:=a5j ((a3j _ _ _ _ _ h3).trans (a0b _ _ _));split
       · rename_i h5;have l4:=a2r h5;obtain⟨⟨t,r2⟩,h2⟩:=c4s (f:=f) (r:=a0r r3 6 [58]) (by omega);rw[h2];exact⟨_,rfl⟩
       · exact⟨_,rfl⟩
  | alts acc=>
   simp only[b0s] at hn;simp only[exR];have s0:=(a0b (a2q (a0o r 2 [])) 6 [45,62]).trans ((a4k _).trans (a0b _ _ _));obtain⟨⟨x,r3⟩,h3⟩:=ih .expr (a0o (a2q (a0o r 2 [])) 6 [45,62]) (a1q hl s0) (a5r (by omega) fun g=>by
    have:=a5j s0;simp only[b0s];omega)
   rw[h3];simp only;have s3:=(a3j _ _ _ _ _ h3).trans s0;have l3:=a5j s3;split
   · rename_i h5;have k5:=a2r h5;exact ih _ _ (a1q hl ((a0l _ _ _).trans s3)) (a5r (by omega) fun g=>by simp only[b0s];omega)
   · exact⟨_,rfl⟩
inductive GD:De→Prop
 | data (s:List UInt8) (vs:List (List UInt8)) (cs:List Co):s.length≤16→(∀v∈vs,v.length≤16)→(∀c∈cs,c.name.length≤16∧GT c.ty)→GD ⟨1,s,vs,cs,zTy,zEx⟩
 | sig (s:List UInt8) (t:Ty):s.length≤16→GT t→GD ⟨2,s,[],[],t,zEx⟩
 | bind (s:List UInt8) (x:Ex):s.length≤16→GX x→GD ⟨3,s,[],[],zTy,x⟩
theorem d9k:zEx.tot=1:=by unfold zEx;rw[b8b,d2t,a6t,b4v]
theorem j4n{f:Nat}{q:Rd}{c:Co}{r:Rd}(hl:∀t∈q.l,a7m t)(h:coR f q=some (c,r))(hg:r.bad=false):(c.name.length≤16∧GT c.ty)∧c.ty.sz+2+r.l.length≤q.l.length:=by
 have g:=d4z h hg;unfold coR at h;split at h
 · cases h
 · rename_i t r1 h1;injection h with h;injection h with h2 h;subst h2 h;have k1:=a1m g;have k2:=a1m k1.2;have i:=d2r (a1q hl ((a0b _ _ _).trans (a0b _ _ _))) h1 hg;refine⟨⟨a9p hl _ _,i.1⟩,?_⟩;have:=i.2;simp only;omega
theorem i6r{f:Nat}:∀ {g:Nat} {acc:List Co} {q:Rd} {cs:List Co} {r:Rd},(∀t∈q.l,a7m t)→(∀c∈acc,c.name.length≤16∧GT c.ty)→d8s f g acc q=some (cs,r)→r.bad=false→
 (∀c∈cs,c.name.length≤16∧GT c.ty)∧Ty.szs (cs.map Co.ty)+cs.length+r.l.length≤Ty.szs (acc.map Co.ty)+acc.length+q.l.length:=by
 intro g
 induction g with
 | zero=>intro acc q cs r _ _ h;cases h
 | succ g ih=>
  intro acc q cs r hl ha h hg;simp only[d8s] at h;split at h
  · cases h
  · rename_i c r1 h1;have key:r1.bad=false→(∀c'∈acc++[c],c'.name.length≤16∧GT c'.ty)∧Ty.szs ((acc++[c]).map Co.ty)+(acc++[c]).length+r1.l.length≤Ty.szs (acc.map Co.ty)+acc.length+q.l.length:=by
     intro g1;have i:=j4n hl h1 g1;refine⟨?_,?_⟩
     · intro c' hc;rcases List.mem_append.1 hc with hc|hc
       · exact ha c' hc
       · rw[List.mem_singleton.1 hc];exact i.1
     · rw[List.map_append,List.map_cons,List.map_nil,e2a,List.length_append,List.length_singleton];have:=i.2;omega
    split at h
    · rename_i h2;have k2:=a2r h2;have k:=key k2.2.2;have j:=ih (a1q hl ((a0l _ _ _).trans (c3e h1))) k.1 h hg;exact⟨j.1,by have:=j.2;have:=k.2;omega⟩
    · injection h with h;injection h with h2 h;subst h2 h;exact key hg
theorem j4k{f:Nat}{r:Rd}{d:De}{r':Rd}(hl:∀t∈r.l,a7m t)(h:deR f r=some (d,r'))(hg:r'.bad=false):GD d∧d.tot+3*r'.l.length≤3*r.l.length:=by
 unfold deR at h;split at h
 · rename_i h1;have k1:=a2r h1;have sb:=(a4k (a0o (a0r r 3 [100,97,116,97]) 2 [])).trans ((a0b _ _ _).trans (a0l _ _ _));have hw:(a7b (a0r r 3 [100,97,116,97]) 2 []).length≤16:=a9p (a1q hl (a0l _ _ _)) _ _;have hn:=d7a (r:=a0o (a0r r 3 [100,97,116,97]) 2 []) (a1q hl ((a0b _ _ _).trans (a0l _ _ _)));split at h
   · rename_i h2;injection h with h;injection h with h3 h;subst h3 h;have k2:=a2r h2;have k3:=a1m k2.2.2;have k4:=b9m k3.2;have k5:=a1m k4.2;refine⟨.data _ _ _ hw hn (by simp),?_⟩;simp only[De.tot,List.map_nil,Ty.szs,b4v,d9k,List.length_nil];omega
   · split at h
     · cases h
     · rename_i cs r5 h3;injection h with h;injection h with h4 h;subst h4 h;have k6:=a1m hg;have g3:=c8r h3 k6.2;have k3:=a1m g3;have k4:=b9m k3.2;have k5:=a1m k4.2;have i:=i6r (a1q hl ((a0b _ _ _).trans sb)) (by simp) h3 k6.2;refine⟨.data _ _ _ hw hn i.1,?_⟩;simp only[De.tot,b4v,d9k];have:=i.2;simp only[List.map_nil,Ty.szs,List.length_nil] at this;omega
 · split at h
   · rename_i h1;have k1:=a2r h1;have k0:=a1m k1.2.2;split at h
     · cases h
     · rename_i t r2 h2;injection h with h;injection h with h4 h;subst h4 h;have i:=d2r (a1q hl ((a0l _ _ _).trans (a0b _ _ _))) h2 hg;refine⟨.sig _ _ (a9p hl _ _) i.1,?_⟩;simp only[De.tot,d9k,List.map_nil,Ty.szs,List.length_nil];have:=i.2;omega
   · split at h
     · cases h
     · rename_i x r3 h3;injection h with h;injection h with h4 h;subst h4 h;have k1:=a1m (a4h h3 hg);have k0:=a1m k1.2;have i:=h5f _ _ _ _ _ (a1q hl ((a0b _ _ _).trans (a0b _ _ _))) h3 hg;refine⟨.bind _ _ (a9p hl _ _) i.1,?_⟩;simp only[De.tot,b4v,List.map_nil,Ty.szs,List.length_nil];have:=i.2;omega
def De.sum(l:List De):Nat:=(l.map De.tot).sum
theorem f0n(l:List De)(d:De):De.sum (l++[d])=De.sum l+d.tot:=by simp[De.sum]
theorem c8h:De.sum []=0:=rfl
theorem f0p(d:De):1≤d.tot:=by unfold De.tot;have:=b1f d.val;omega
theorem b0b{l:List De}{d:De}(h:d∈l):d.tot≤De.sum l:=by
 induction l with
 | nil=>cases h
 | cons x l ih=>
  simp only[De.sum,List.map_cons,List.sum_cons] at ih⊢;rcases List.mem_cons.1 h with rfl|h
  · omega
  · have:=ih h;omega
theorem b6f(l:List De):l.length≤De.sum l:=by
 induction l with
 | nil=>simp
 | cons x l ih=>
  simp only[De.sum,List.map_cons,List.sum_cons,List.length_cons] at ih⊢;have:=f0p x;omega
theorem i6m{f:Nat}:∀ {g:Nat} {acc:List De} {q:Rd} {ds:List De} {r:Rd},(∀t∈q.l,a7m t)→(∀d∈acc,GD d)→f1o f g acc q=some (ds,r)→r.bad=false→
 (∀d∈ds,GD d)∧De.sum ds+3*r.l.length≤De.sum acc+3*q.l.length:=by
 intro g
 induction g with
 | zero=>intro acc q cs r _ _ h;cases h
 | succ g ih=>
  intro acc q cs r hl ha h hg;simp only[f1o] at h;split at h
  · cases h
  · rename_i c r1 h1;have key:r1.bad=false→(∀d∈acc++[c],GD d)∧De.sum (acc++[c])+3*r1.l.length≤De.sum acc+3*q.l.length:=by
     intro g1;have i:=j4k hl h1 g1;refine⟨?_,?_⟩
     · intro c' hc;rcases List.mem_append.1 hc with hc|hc
       · exact ha c' hc
       · rw[List.mem_singleton.1 hc];exact i.1
     · rw[f0n];have:=i.2;omega
    split at h
    · rename_i h2;have k2:=a2r h2;have k:=key k2.2.2;have j:=ih (a1q hl ((a0l _ _ _).trans (c8p h1))) k.1 h hg;exact⟨j.1,by have:=j.2;have:=k.2;omega⟩
    · injection h with h;injection h with h2 h;subst h2 h;exact key hg
theorem i6u{f:Nat}{q:Rd}(h:5*q.l.length+4≤f):∃x,coR f q=some x:=by
 have:=a5j ((a0b (a0o q 2 []) 6 [58]).trans (a0b _ _ _));obtain⟨⟨t,r⟩,h1⟩:=c4s (f:=f) (r:=a0o (a0o q 2 []) 6 [58]) (by omega);unfold coR;rw[h1];exact⟨_,rfl⟩
theorem g9n{f:Nat}:∀(g:Nat) (acc:List Co) (q:Rd),5*q.l.length+4≤f→q.l.length+1≤g→∃x,d8s f g acc q=some x:=by
 intro g
 induction g with
 | zero=>intro acc q _ h;omega
 | succ g ih=>
  intro acc q hf hg;obtain⟨⟨c,r⟩,h1⟩:=i6u hf;simp only[d8s];rw[h1];simp only;have:=a5j (c3e h1);split
  · rename_i h2;have k2:=a2r h2;exact ih _ _ (by omega) (by omega)
  · exact⟨_,rfl⟩
theorem i6o{f:Nat}{r:Rd}(hl:∀t∈r.l,a7m t)(h:10*r.l.length+10≤f):∃x,deR f r=some x:=by
 unfold deR;split
 · have sb:=(a4k (a0o (a0r r 3 [100,97,116,97]) 2 [])).trans ((a0b _ _ _).trans (a0l _ _ _));have:=a5j ((a0b (a2q (a0o (a0r r 3 [100,97,116,97]) 2 [])) 6 [123]).trans sb);split
   · exact⟨_,rfl⟩
   · obtain⟨⟨cs,r5⟩,h3⟩:=g9n (f:=f) f [] (a0o (a2q (a0o (a0r r 3 [100,97,116,97]) 2 [])) 6 [123]) (by omega) (by omega);rw[h3];exact⟨_,rfl⟩
 · split
   · have:=a5j ((a0l (a0o r 1 []) 6 [58]).trans (a0b _ _ _));obtain⟨⟨t,r2⟩,h1⟩:=c4s (f:=f) (r:=a0r (a0o r 1 []) 6 [58]) (by omega);rw[h1];exact⟨_,rfl⟩
   · have s:=(a0b (a0o r 1 []) 6 [61]).trans (a0b _ _ _);have:=a5j s;obtain⟨⟨x,r3⟩,h3⟩:=i6f f .expr (a0o (a0o r 1 []) 6 [61]) (a1q hl s) (a5r (by omega) fun _=>by simp only[b0s];omega);rw[h3];exact⟨_,rfl⟩
theorem g9j{f:Nat}:∀(g:Nat) (acc:List De) (q:Rd),(∀t∈q.l,a7m t)→10*q.l.length+10≤f→q.l.length+1≤g→∃x,f1o f g acc q=some x:=by
 intro g
 induction g with
 | zero=>intro acc q _ _ h;omega
 | succ g ih=>
  intro acc q hl hf hg;obtain⟨⟨c,r⟩,h1⟩:=i6o hl hf;simp only[f1o];rw[h1];simp only;have:=a5j (c8p h1);split
  · rename_i h2;have k2:=a2r h2;exact ih _ _ (a1q hl ((a0l _ _ _).trans (c8p h1))) (by omega) (by omega)
  · exact⟨_,rfl⟩
def F0:Nat:=100000
theorem tok2{l:List Tok}(h:∀t∈l,a7m t):∀t∈l,b9t t:=fun t ht=>(h t ht).1
theorem tok1{l:List Tok}(h:∀t∈l,a7m t):∀t∈l,c1x t:=fun t ht=>(h t ht).1.one
theorem e6y(s:List UInt8):∃p,b5s F0 s=some p:=by
 obtain⟨h1,h2⟩:=d3e s;unfold b5s;split
 · exact⟨_,rfl⟩
 · have:∃x,f9p F0 (b1t s).1=some x:=by
    unfold f9p;split
    · exact⟨_,rfl⟩
    · rename_i t q hq;rw[hq] at h1 h2;exact g9j F0 [] ⟨t::q,false⟩ h2 (by unfold F0;simp only;omega) (by unfold F0;simp only;omega)
   obtain⟨⟨ds,r⟩,h3⟩:=this;rw[h3];exact⟨_,rfl⟩
theorem f9o{f:Nat}{s:List UInt8}{ds:List De}{r:Rd}(h:f9p f (b1t s).1=some (ds,r))(hg:r.bad=false):(∀d∈ds,GD d)∧De.sum ds≤12000:=by
 obtain⟨h1,h2⟩:=d3e s;unfold f9p at h;split at h
 · injection h with h;injection h with h3 h;subst h3;exact⟨by simp,by rw[c8h];omega⟩
 · rename_i t q hq;rw[hq] at h1 h2;have:=i6m (q:=⟨t::q,false⟩) h2 (by simp) h hg;rw[c8h] at this;exact⟨this.1,by have:=this.2;simp only at this;omega⟩
theorem e5c{f:Nat}{s:List UInt8}(ds:List De)(r:Rd)(h:f9p f (b1t s).1=some (ds,r))(hg:r.bad=false):ds.length<1000000∧∀d∈ds,d.tot<1000000:=by
 have k:=(f9o h hg).2;have:=b6f ds;exact⟨by omega,fun d hd=>by have:=b0b hd;omega⟩
theorem f3z{f:Nat}{s:List UInt8}{p:List De×Int}(hp:b5s f s=some p):den E 78 [.str s] []=some (d3v p,[])∧den E 79 [.str s] []=some (d3v p,[]):=by
 obtain⟨h1,h2⟩:=d3e s;exact⟨f4a f s p (tok1 h2) (by omega) e5c hp,e6z f s p (tok2 h2) (by omega) e5c hp⟩
theorem i5g(l:List (List UInt8))(sep:List UInt8):(Lib.join l sep).length≤sep.length*l.length+Lib.lens l:=by
 cases l with
 | nil=>simp[Lib.join]
 | cons x r=>rw[Lib.join_length,List.length_cons,Nat.mul_add];omega
theorem d7n(x:List UInt8)(r:List (List UInt8)):Lib.lens (x::r)=x.length+Lib.lens r:=by simp[Lib.lens]
theorem b0r{s:List UInt8}(h:s.length≤1000000000):c2d s=some s:=by unfold c2d lim;rw[if_pos h]
theorem a7h{n f:Nat}(h:n≤f)(hn:0<n):∃g,f=g+1∧n≤g+1:=⟨f - 1,by omega,by omega⟩
theorem GT.goodK{t:Ty}(h:GT t):goodK t=true:=by cases h<;>rfl
theorem e2b(t:Ty):1≤t.sz:=by rw[a3g];omega
def j4y(t:Ty):Prop:=(∃s,s.length+8≤40*t.sz∧∀f,3*t.sz≤f→prR f .pr t=some s)∧(∃s,s.length+6≤40*t.sz∧∀f,3*t.sz+1≤f→prR f .tail t=some s)
theorem i7v{t:Ty}(h:GT t)(hs:t.sz≤1000000)(hp:j4y t):∃s,s.length+6≤40*t.sz∧∀f,3*t.sz+1≤f→prR f .arg t=some s:=by
 obtain⟨⟨a,ha,hf⟩,_⟩:=hp;have hk:=h.goodK;unfold Go.Proofs.goodK at hk;cases hc:c3i t
 · refine⟨[40]++a++[41],by simp only[List.length_append,List.length_cons,List.length_nil];omega,fun f h=>?_⟩;obtain⟨g,rfl,hg⟩:=a7h h (by omega);simp only[prR,hk,if_true,hf g (by omega),hc,Bool.false_eq_true,if_false];exact b0r (by simp only[List.length_append,List.length_cons,List.length_nil];omega)
 · refine⟨a,by omega,fun f h=>?_⟩;obtain⟨g,rfl,hg⟩:=a7h h (by omega);simp only[prR,hk,if_true,hf g (by omega),hc]
theorem g7l{t:Ty}(h:GT t)(hs:t.sz≤1000000)(hp:j4y t):∃s,s.length+6≤40*t.sz∧∀f,3*t.sz+1≤f→prR f .left t=some s:=by
 obtain⟨⟨a,ha,hf⟩,_⟩:=hp;have hk:=h.goodK;unfold Go.Proofs.goodK at hk;cases hc:decide (t.kind<4)
 · refine⟨[40]++a++[41],by simp only[List.length_append,List.length_cons,List.length_nil];omega,fun f h=>?_⟩;obtain⟨g,rfl,hg⟩:=a7h h (by omega);simp only[prR,hk,if_true,hf g (by omega),hc,Bool.false_eq_true,if_false];exact b0r (by simp only[List.length_append,List.length_cons,List.length_nil];omega)
 · refine⟨a,by omega,fun f h=>?_⟩;obtain⟨g,rfl,hg⟩:=a7h h (by omega);simp only[prR,hk,if_true,hf g (by omega),hc]
theorem e5u:∀(l:List Ty),(∀x,x∈l→GT x)→Ty.szs l≤1000000→(∀x,x∈l→x.sz≤1000000→j4y x)→∃ss,Lib.lens ss+6*l.length≤40*Ty.szs l∧ss.length=l.length∧∀f,3*Ty.szs l+1≤f→e1j (prR f .arg) l=some ss
 | [],_,_,_=>⟨[],by simp[Lib.lens],rfl,fun f _=>rfl⟩
 | x::r,hg,hs,hp=>by
  simp only[Ty.szs] at hs;have hx:x∈x::r:=List.mem_cons_self ..;obtain⟨a,ha,hf⟩:=i7v (hg x hx) (by omega) (hp x hx (by omega));obtain⟨ss,h1,h2,h3⟩:=e5u r (fun y hy=>hg y (List.mem_cons_of_mem _ hy)) (by omega) (fun y hy=>hp y (List.mem_cons_of_mem _ hy));refine⟨a::ss,?_,by simp[h2],fun f hf'=>?_⟩
  · simp only[d7n,Ty.szs,List.length_cons];omega
  · simp only[Ty.szs] at hf';simp only[e1j,hf f (by omega),h3 f (by omega)]
theorem i4m{t:Ty}(h:GT t):t.sz≤1000000→j4y t:=by
 have tl:∀ {t:Ty},t.sz≤1000000→(t.kind==5)=false→(∃s,s.length+8≤40*t.sz∧∀f,3*t.sz≤f→prR f .pr t=some s)→j4y t:=by
  intro t hs hk hp;refine⟨hp,?_⟩;obtain⟨a,ha,hf⟩:=hp;refine⟨[46,32]++a,by simp only[List.length_append,List.length_cons,List.length_nil];omega,fun f h=>?_⟩;obtain⟨g,rfl,hg⟩:=a7h h (by omega);simp only[prR,hk,Bool.false_eq_true,if_false,hf g (by omega)];exact b0r (by simp only[List.length_append,List.length_cons,List.length_nil];omega)
 induction h with
 | var s h1=>
  intro hs;refine tl hs rfl ⟨s,by rw[a0x];simp only[Ty.szs];omega,fun f h=>?_⟩;obtain⟨g,rfl,hg⟩:=a7h h (by have:=e2b (.mk 1 s 0 []);omega);simp only[prR,Ty.kind];exact b0r (by simp only[Ty.name];omega)
 | unk n h1 h2=>
  intro hs;have hl:(Lib.itoa n).length≤6:=by
   have:=b0t 5 n.toNat (by omega)
   rwa[show ((n.toNat:Nat):Int)=n by omega] at this
  refine tl hs rfl ⟨63::Lib.itoa n,by rw[a0x];simp only[Ty.szs,List.length_cons];omega,fun f h=>?_⟩;obtain⟨g,rfl,hg⟩:=a7h h (by have:=e2b (.mk 2 [] n []);omega);have hc:(0≤n∧n<1000000000)=True:=eq_true ⟨h1,by omega⟩;simp only[prR,Ty.kind,Ty.n,beq_self_eq_true,if_true,hc];exact b0r (by simp only[List.length_cons];omega)
 | con s a h1 h2 ih=>
  intro hs;rw[a0x] at hs;obtain⟨ss,h3,h4,h5⟩:=e5u a h2 (by omega) ih;have hj:=i5g (s::ss) [32];rw[d7n] at hj;simp only[List.length_cons,List.length_nil] at hj;have hsz:=d2w a;refine tl (by rw[a0x];exact hs) rfl ⟨Lib.join (s::ss) [32],by rw[a0x];omega,fun f h=>?_⟩;rw[a0x] at h;obtain⟨g,rfl,hg⟩:=a7h h (by omega);simp only[prR,Ty.kind,Ty.args,Ty.name,h5 g (by omega)];exact b0r (by omega)
 | fn x y hx hy ihx ihy=>
  intro hs;rw[a0x,a1u] at hs;obtain⟨a,ha,fa⟩:=g7l hx (by omega) (ihx (by omega));obtain⟨⟨b,hb,fb⟩,_⟩:=ihy (by omega);refine tl (by rw[a0x,a1u];exact hs) rfl ⟨a++[32,45,62,32]++b,by rw[a0x,a1u];simp only[List.length_append,List.length_cons,List.length_nil];omega,fun f h=>?_⟩;rw[a0x,a1u] at h;obtain⟨g,rfl,hg⟩:=a7h h (by omega);have:=e2b y;have:=e2b x;simp only[prR,Ty.kind,Ty.args,kids2,fa g (by omega),fb g (by omega)];exact b0r (by simp only[List.length_append,List.length_cons,List.length_nil];omega)
 | all s x h1 hx ih=>
  intro hs;rw[a0x,a1o] at hs;obtain⟨_,⟨a,ha,fa⟩⟩:=ih (by omega);refine⟨⟨[102,111,114,97,108,108,32]++s++a,by rw[a0x,a1o];simp only[List.length_append,List.length_cons,List.length_nil];omega,fun f h=>?_⟩,⟨[32]++s++a,by rw[a0x,a1o];simp only[List.length_append,List.length_cons,List.length_nil];omega,fun f h=>?_⟩⟩
  · rw[a0x,a1o] at h;obtain⟨g,rfl,hg⟩:=a7h h (by omega);simp only[prR,Ty.kind,Ty.args,Ty.name,e9h,fa g (by omega)];exact b0r (by simp only[List.length_append,List.length_cons,List.length_nil];omega)
  · rw[a0x,a1o] at h;obtain⟨g,rfl,hg⟩:=a7h h (by omega);simp only[prR,Ty.kind,Ty.args,Ty.name,e9h,fa g (by omega)];exact b0r (by simp only[List.length_append,List.length_cons,List.length_nil];omega)
theorem h4m{t:Ty}(h:GT t)(hs:t.sz≤1000000):∃s,s.length+8≤40*t.sz∧∀f,3*t.sz≤f→prR f .pr t=some s:=(i4m h hs).1
theorem f0o(d:De)(l:List De):De.sum (d::l)=d.tot+De.sum l:=by simp[De.sum]
theorem c2n{f:Nat}{s:List UInt8}{p:List De×Int}(h:b5s f s=some p)(h0:p.2=0):(∀d∈p.1,GD d)∧De.sum p.1≤12000:=by
 unfold b5s at h;split at h
 · injection h with h;subst h;exact⟨by simp,by rw[c8h];omega⟩
 · split at h
   · cases h
   · rename_i ds r hd;injection h with h;subst h;unfold i6i at h0⊢;cases hb:r.bad
     · have k:=f9o hd hb;rw[hb] at h0;split at h0
       · exact absurd h0 (by decide)
       · split at h0
         · exact absurd h0 (by decide)
         · rename_i h3 h4;rw[if_neg (by simpa using h3),if_neg h4];exact k
     · rw[hb] at h0;simp at h0
end Go.Proofs
