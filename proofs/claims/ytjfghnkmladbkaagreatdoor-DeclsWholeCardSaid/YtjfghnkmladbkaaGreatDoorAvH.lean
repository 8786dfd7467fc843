/- What the readers of expressions and declarations give, and sizes and depths. -/
import Derived.Test.YtjfghnkmladbkaaGreatDoorAvG
namespace Go.Proofs
open Go.Av
set_option maxHeartbeats 16000000
set_option maxRecDepth 100000
structure Rd where
 l:List Tok
 bad:Bool
def rdV(r:Rd):List AVal:=[.slice (a2j r.l),.bool r.bad]
def a1n(r:Rd)(k:Int)(s:List UInt8):Bool:= !r.bad&&a2n r.l k s
def a0o(r:Rd)(k:Int)(s:List UInt8):Rd:=if a1n r k s then⟨r.l.tail,false⟩ else⟨r.l,true⟩
def a7b(r:Rd)(k:Int)(s:List UInt8):List UInt8:=if a1n r k s then b2u r.l else []
def a0r(r:Rd)(k:Int)(s:List UInt8):Rd:=if a1n r k s then⟨r.l.tail,false⟩ else r
theorem a3o{r:Rd}{k:Int}{s:List UInt8}(h:a1n r k s=true):r.bad=false∧∃t q,r.l=t::q:=by
 unfold a1n at h;simp only[Bool.and_eq_true,Bool.not_eq_true'] at h;exact⟨h.1,a8g h.2⟩
theorem a9y(r:Rd)(kind:Int)(text:List UInt8):den E 193 [.ptr (.par 0) 0,.int .i64 kind,.str text] [rdV r]=some (.bool (a1n r kind text),[rdV r]):=by
 rw[a0d g4v,h2c];obtain⟨l,bad⟩:=r;unfold a1n rdV;simp only;cases bad
 · cases l with
   | nil=>simp only[go_sem,Tryz.f193,b2t,a2n,show decide ((0:Int)>0)=false from rfl]
   | cons t r=>
    have hl:decide ((((a2j r).length+1:Nat):Int)>0)=true:=by simp
    cases h1:t.kind==kind
    · simp only[go_sem,Tryz.f193,a4o,hl,a2n,h1,Int.le_refl,Int.toNat_zero,List.length_cons]
    · cases h2:text==[]
      · cases h3:t.text==text<;>simp only[go_sem,Tryz.f193,a4o,hl,a2n,h1,h2,h3,Int.le_refl,Int.toNat_zero,List.length_cons]
      · simp only[go_sem,Tryz.f193,a4o,hl,a2n,h1,h2,Int.le_refl,Int.toNat_zero,List.length_cons]
 · simp only[go_sem,Tryz.f193]
theorem a2e(r:Rd)(kind:Int)(text:List UInt8):den E 187 [.ptr (.par 0) 0,.int .i64 kind,.str text] [rdV r]=some (.str (a7b r kind text),[rdV (a0o r kind text)]):=by
 rw[a0d g5a,h2h];have hs:=a9y r kind text;unfold a7b a0o;cases h:a1n r kind text
 · rw[h] at hs;unfold rdV at hs⊢;simp only[go_sem,Tryz.f187,hs]
 · obtain⟨hb,t,q,hl⟩:=a3o h;rw[h] at hs;unfold rdV at hs⊢;rw[hl,a4o,hb] at hs;rw[hl,hb];simp only[go_sem,Tryz.f187,hs,a4o,b2u,Int.le_refl,Int.toNat_zero,List.tail_cons,List.length_cons,Nat.le_refl,Int.toNat_one,Nat.le_add_left,Int.zero_le_ofNat,List.take_length]
theorem a4p(r:Rd)(kind:Int)(text:List UInt8):den E 135 [.ptr (.par 0) 0,.int .i64 kind,.str text] [rdV r]=some (.bool (a1n r kind text),[rdV (a0r r kind text)]):=by
 rw[a0d g5z,h3f];have hs:=a9y r kind text;unfold a0r;cases h:a1n r kind text
 · rw[h] at hs;unfold rdV at hs⊢;simp only[go_sem,Tryz.f135,hs]
 · obtain⟨hb,t,q,hl⟩:=a3o h;rw[h] at hs;unfold rdV at hs⊢;rw[hl,a4o,hb] at hs;rw[hl,hb];simp only[go_sem,Tryz.f135,hs,a4o,List.tail_cons,List.length_cons,Nat.le_refl,Int.toNat_one,Nat.le_add_left,Int.zero_le_ofNat,List.take_length]
def d5x(f:Nat)(r:Rd):Option (Ty×Rd):=
 if r.bad then some (zTy,r) else match tyR f .typ r.l with
  | none=>none
  | some (t,ok,l')=>if ok then some (t,⟨l',false⟩) else some (zTy,⟨[],true⟩)
theorem c4x(f:Nat)(r:Rd)(x:Ty×Rd)(hok:∀t∈r.l,c1x t)(hlen:r.l.length<1000000)(h:d5x f r=some x):den E 191 [.ptr (.par 0) 0] [rdV r]=some (tyV x.1,[rdV x.2]):=by
 rw[a0d g4x,h2e];unfold d5x at h;unfold rdV;cases hb:r.bad
 · rw[hb] at h;simp only[Bool.false_eq_true,if_false] at h;split at h
   · cases h
   · rename_i t ok l' ht;have hd:=f2b r.l f _ hok hlen ht;cases ok
     · simp only[Bool.false_eq_true,if_false] at h hd;injection h with h;subst h;rw[d2l] at hd;simp only[go_sem,Tryz.f191,hd,d2l,b2t]
     · simp only[if_true] at h hd;injection h with h;subst h;rw[a0a] at hd;simp only[go_sem,Tryz.f191,hd,a0a]
 · rw[hb] at h;simp only[if_true] at h;injection h with h;subst h;simp only[go_sem,Tryz.f191,hb,d2l]
def a3p(r:Rd):List (List UInt8):=if r.bad then [] else a4d r.l
def a2q(r:Rd):Rd:=⟨r.l.drop (a3p r).length,r.bad⟩
theorem d0i(r:Rd)(hlen:r.l.length<1000000):den E 188 [.ptr (.par 0) 0] [rdV r]=some (.slice ((a3p r).map .str),[rdV (a2q r)]):=by
 rw[a0d g4z,h2g];simp only[go_sem,Tryz.f188];refine (a0p (fun x:List (List UInt8)×List Tok=>x.2=r.l.drop x.1.length∧a3p r=x.1++a3p ⟨x.2,r.bad⟩∧x.1.length+x.2.length≤r.l.length) (fun x=>⟨[(0,.ptr (.par 0) 0),(3,.own 9 0 (x.1.map .str))],[rdV ⟨x.2,r.bad⟩],[],1⟩)
  (fun _=>some (.slice ((a3p r).map .str),[rdV (a2q r)])) (fun x=>x.2.length) ([],r.l) ⟨by simp,by simp,by simp⟩ ?_ ?_)
 · simp only[go_sem,List.map_nil,rdV]
 · rintro⟨names,lx⟩ ⟨hdrop,hnames,hle⟩ hrun;simp only at hdrop hnames hle hrun⊢;have t1:=a9y ⟨lx,r.bad⟩ 1 [];have t2:=a2e ⟨lx,r.bad⟩ 1 [];cases b1:a1n ⟨lx,r.bad⟩ 1 []
   · have hnx:a3p ⟨lx,r.bad⟩=[]:=by
      unfold a1n at b1;unfold a3p;cases hb:r.bad
      · simp only[hb,Bool.not_false,Bool.true_and] at b1;simp only[Bool.false_eq_true,if_false];cases lx with
        | nil=>rfl
        | cons t q=>simp only[a2n] at b1;simp only[a4d];rw[show (t.kind==1)=false by simpa using b1];rfl
      · rfl
     rw[hnx,List.append_nil] at hnames;rw[b1] at t1;have hbe:a2q r=⟨lx,r.bad⟩:=by unfold a2q;rw[hnames,←hdrop]
     rw[hbe,hnames];simp only[rdV] at t1⊢;simp only[go_sem,t1]
   · obtain⟨hb,tk,q,hl⟩:=a3o b1;simp only at hb hl;subst hl;have hk:(tk.kind==1)=true:=by unfold a1n at b1;simpa [a2n,hb] using b1
     have hnx:a3p ⟨tk::q,r.bad⟩=tk.text::a3p ⟨q,r.bad⟩:=by simp only[a3p,hb,Bool.false_eq_true,if_false,a4d,hk,if_true]
     rw[b1] at t1;simp only[a7b,a0o,b1,if_true,b2u,List.tail_cons] at t2;have hap:(names.map AVal.str).length+1≤a0s:=by
      rw[List.length_map];simp only[List.length_cons] at hle;unfold a0s;omega
     have hmap:names.map AVal.str++[.str tk.text]=(names++[tk.text]).map AVal.str:=by simp
     simp only[rdV,hb] at t1 t2 hrun⊢;simp only[go_sem,t1,t2,hap,hmap];refine hrun (names++[tk.text],q) _ ⟨?_,?_,?_⟩ ?_ ?_
     · simp only[List.length_append,List.length_singleton];rw[←List.drop_drop,←hdrop];rfl
     · rw[hnames,hnx,hb];simp
     · simp only[List.length_append,List.length_singleton];simp only[List.length_cons] at hle;omega
     · simp
     · simp only[go_sem]
mutual
inductive Ex where
 | mk (kind:Int) (name:List UInt8) (told:Bool) (ty:Ty) (kids:List Ex) (alts:List Al)
inductive Al where
 | mk (con:List UInt8) (vars:List (List UInt8)) (body:Ex)
end
def Ex.kind:Ex→Int| .mk k _ _ _ _ _=>k
def Ex.name:Ex→List UInt8| .mk _ s _ _ _ _=>s
def Ex.told:Ex→Bool| .mk _ _ b _ _ _=>b
def Ex.ty:Ex→Ty| .mk _ _ _ t _ _=>t
def Ex.kids:Ex→List Ex| .mk _ _ _ _ l _=>l
def Ex.alts:Ex→List Al| .mk _ _ _ _ _ l=>l
def Al.con:Al→List UInt8| .mk c _ _=>c
def Al.vars:Al→List (List UInt8)| .mk _ v _=>v
def Al.body:Al→Ex| .mk _ _ e=>e
mutual
def exC:Ex→List AVal
 | .mk k s b t ks al=>[.int .i64 k,.str s,.bool b,.int .i64 t.kind,.str t.name,.int .i64 t.n,.slice (a3a t.args),.slice (a8p ks),.slice (b4r al)]
def a8p:List Ex→List AVal
 | []=>[]
 | e::r=>.agg (exC e)::a8p r
def alV:Al→AVal
 | .mk c vs e=>.agg (.str c:: .slice (vs.map .str)::exC e)
def b4r:List Al→List AVal
 | []=>[]
 | a::r=>alV a::b4r r
end
theorem a0f(e:Ex):exC e=[.int .i64 e.kind,.str e.name,.bool e.told,.int .i64 e.ty.kind,.str e.ty.name,.int .i64 e.ty.n,.slice (a3a e.ty.args),.slice (a8p e.kids),.slice (b4r e.alts)]:=by
 cases e;simp[exC,Ex.kind,Ex.name,Ex.told,Ex.ty,Ex.kids,Ex.alts]
theorem a0u:a8p []=[]:=by simp[a8p]
theorem a0v(e:Ex)(r:List Ex):a8p (e::r)=.agg (exC e)::a8p r:=by simp[a8p]
theorem d4r(l:List Ex):a8p l=l.map fun e=>.agg (exC e):=by induction l<;>simp_all [a8p]
theorem a2d:b4r []=[]:=by simp[b4r]
theorem b4i(l:List Al):b4r l=l.map alV:=by induction l<;>simp_all [b4r]
theorem b1r(a:Al):alV a=.agg (.str a.con:: .slice (a.vars.map .str)::exC a.body):=by cases a;simp[alV,Al.con,Al.vars,Al.body]
def zEx:Ex:=.mk 0 [] false zTy [] []
inductive XM where
 | expr
 | lets
 | atom
 | loop (e:Ex)
 | alts (acc:List Al)
def exR:Nat→XM→Rd→Option (Ex×Rd)
 | 0,_,_=>none
 | f+1,m,r=>match m with
  | .expr=>if r.bad then some (zEx,r)
   else if a1n r 6 [92] then (match exR f .expr (a0o (a0o (a0r r 6 [92]) 1 []) 6 [45,62]) with
    | none=>none
    | some (x,r4)=>some (.mk 3 (a7b (a0r r 6 [92]) 1 []) false zTy [x] [],r4))
   else if a1n r 3 [108,101,116] then exR f .lets (a0r r 3 [108,101,116])
   else if a1n r 3 [99,97,115,101] then (match exR f .expr (a0r r 3 [99,97,115,101]) with
    | none=>none
    | some (x,r1)=>if a1n (a0o (a0o r1 3 [111,102]) 6 [123]) 6 [125] then some (.mk 6 [] false zTy [x] [],a0r (a0o (a0o r1 3 [111,102]) 6 [123]) 6 [125])
     else match exR f (.alts []) (a0o (a0o r1 3 [111,102]) 6 [123]) with
      | none=>none
      | some (y,r4)=>some (.mk 6 [] false zTy [x] y.alts,a0o r4 6 [125]))
   else match exR f .atom r with
    | none=>none
    | some (e,r1)=>exR f (.loop e) r1
  | .loop e=>if a1n r 1 []||(a1n r 2 []||a1n r 6 [40]) then (match exR f .atom r with
   | none=>none
   | some (x,r1)=>exR f (.loop (.mk 4 [] false zTy [e,x] [])) r1) else some (e,r)
  | .lets=>if a1n (a0o r 1 []) 6 [58] then (match d5x f (a0r (a0o r 1 []) 6 [58]) with
   | none=>none
   | some (t,r2)=>match exR f .expr (a0o r2 6 [61]) with
    | none=>none
    | some (x,r3)=>match exR f .expr (a0o r3 3 [105,110]) with
     | none=>none
     | some (y,r4)=>some (.mk 5 (a7b r 1 []) true t [x,y] [],r4))
   else (match exR f .expr (a0o (a0o r 1 []) 6 [61]) with
    | none=>none
    | some (x,r3)=>match exR f .expr (a0o r3 3 [105,110]) with
     | none=>none
     | some (y,r4)=>some (.mk 5 (a7b r 1 []) false zTy [x,y] [],r4))
  | .atom=>if a1n r 1 [] then some (.mk 1 (a7b r 1 []) false zTy [] [],a0o r 1 [])
   else if a1n r 2 [] then some (.mk 2 (a7b r 2 []) false zTy [] [],a0o r 2 [])
   else (match exR f .expr (a0o r 6 [40]) with
    | none=>none
    | some (e,r1)=>if a1n r1 6 [58] then (match d5x f (a0r r1 6 [58]) with
     | none=>none
     | some (t,r2)=>some (.mk 7 [] false t [e] [],a0o r2 6 [41])) else some (e,a0o r1 6 [41]))
  | .alts acc=>match exR f .expr (a0o (a2q (a0o r 2 [])) 6 [45,62]) with
   | none=>none
   | some (b,r4)=>if a1n r4 6 [59] then exR f (.alts (acc++[.mk (a7b r 2 []) (a3p (a0o r 2 [])) b])) (a0r r4 6 [59])
    else some (.mk 0 [] false zTy [] (acc++[.mk (a7b r 2 []) (a3p (a0o r 2 [])) b]),r4)
theorem a0b(r:Rd)(k:Int)(s:List UInt8):(a0o r k s).l<:+r.l:=by
 unfold a0o;split
 · exact a3s _
 · exact List.suffix_refl _
theorem a0l(r:Rd)(k:Int)(s:List UInt8):(a0r r k s).l<:+r.l:=by
 unfold a0r;split
 · exact a3s _
 · exact List.suffix_refl _
theorem a4k(r:Rd):(a2q r).l<:+r.l:=List.drop_suffix _ _
theorem b0n{f:Nat}{r:Rd}{t:Ty}{r':Rd}(h:d5x f r=some (t,r')):r'.l<:+r.l:=by
 unfold d5x at h;split at h
 · injection h with h;injection h with _ h;subst h;exact List.suffix_refl _
 · split at h
   · cases h
   · rename_i t2 ok l2 h2;split at h
     · injection h with h;injection h with _ h;subst h;exact a9g _ _ _ _ _ _ h2
     · injection h with h;injection h with _ h;subst h;exact List.nil_suffix
theorem a3j:∀(f:Nat) (m:XM) (r:Rd) (x:Ex) (r':Rd),exR f m r=some (x,r')→r'.l<:+r.l:=by
 intro f
 induction f with
 | zero=>intro m r x r' h;cases h
 | succ f ih=>
  intro m r x r' h;have fin:∀ {a b:Ex} {p q:Rd},some (a,p)=some (b,q)→p.l<:+r.l→q.l<:+r.l:=fun h1 h2=>by
   injection h1 with h1;injection h1 with _ h1;subst h1;exact h2
  cases m with
  | expr=>
   simp only[exR] at h;split at h
   · exact fin h (List.suffix_refl _)
   · split at h
     · split at h
       · cases h
       · rename_i x1 r1 h1;exact fin h ((ih _ _ _ _ h1).trans ((a0b _ _ _).trans ((a0b _ _ _).trans (a0l _ _ _))))
     · split at h
       · exact (ih _ _ _ _ h).trans (a0l _ _ _)
       · split at h
         · split at h
           · cases h
           · rename_i x1 r1 h1;have s1:=(ih _ _ _ _ h1).trans (a0l _ _ _);have s2:=(a0b (a0o r1 3 [111,102]) 6 [123]).trans ((a0b r1 3 [111,102]).trans s1);split at h
             · exact fin h ((a0l _ _ _).trans s2)
             · split at h
               · cases h
               · rename_i y r4 h4;exact fin h ((a0b _ _ _).trans ((ih _ _ _ _ h4).trans s2))
         · split at h
           · cases h
           · rename_i e r1 h1;exact (ih _ _ _ _ h).trans (ih _ _ _ _ h1)
  | loop e=>
   simp only[exR] at h;split at h
   · split at h
     · cases h
     · rename_i e1 r1 h1;exact (ih _ _ _ _ h).trans (ih _ _ _ _ h1)
   · exact fin h (List.suffix_refl _)
  | lets=>
   simp only[exR] at h;split at h
   · split at h
     · cases h
     · rename_i t r2 h2;have s2:=(b0n h2).trans ((a0l _ _ _).trans (a0b _ _ _));split at h
       · cases h
       · rename_i x r3 h3;have s3:=(ih _ _ _ _ h3).trans ((a0b _ _ _).trans s2);split at h
         · cases h
         · rename_i y r4 h4;exact fin h ((ih _ _ _ _ h4).trans ((a0b _ _ _).trans s3))
   · split at h
     · cases h
     · rename_i x r3 h3;have s3:=(ih _ _ _ _ h3).trans ((a0b _ _ _).trans (a0b _ _ _));split at h
       · cases h
       · rename_i y r4 h4;exact fin h ((ih _ _ _ _ h4).trans ((a0b _ _ _).trans s3))
  | atom=>
   simp only[exR] at h;split at h
   · exact fin h (a0b _ _ _)
   · split at h
     · exact fin h (a0b _ _ _)
     · split at h
       · cases h
       · rename_i e r1 h1;have s1:=(ih _ _ _ _ h1).trans (a0b _ _ _);split at h
         · split at h
           · cases h
           · rename_i t r2 h2;exact fin h ((a0b _ _ _).trans ((b0n h2).trans ((a0l _ _ _).trans s1)))
         · exact fin h ((a0b _ _ _).trans s1)
  | alts acc=>
   simp only[exR] at h;split at h
   · cases h
   · rename_i b r4 h4;have s4:=(ih _ _ _ _ h4).trans ((a0b _ _ _).trans ((a4k _).trans (a0b _ _ _)));split at h
     · exact (ih _ _ _ _ h).trans ((a0l _ _ _).trans s4)
     · exact fin h s4
def d5o:XM→Rd→Ex×Rd→Prop
 | .expr,r,x=>den E 192 [.ptr (.par 0) 0] [rdV r]=some (.agg (exC x.1),[rdV x.2])
 | .lets,r,x=>den E 230 [.ptr (.par 0) 0] [rdV r]=some (.agg (exC x.1),[rdV x.2])
 | .atom,r,x=>den E 232 [.ptr (.par 0) 0] [rdV r]=some (.agg (exC x.1),[rdV x.2])
 | _,_,_=>True
theorem i8e:exC zEx=[.int .i64 0,.str [],.bool false,.int .i64 0,.str [],.int .i64 0,.slice [],.slice [],.slice []]:=by
 simp[zEx,exC,zTy,Ty.kind,Ty.name,Ty.n,Ty.args,a3a,a8p,b4r]
theorem a8l:zTy.kind=0:=rfl
theorem a8j:zTy.name=[]:=rfl
theorem a8k:zTy.n=0:=rfl
theorem a8m:zTy.args=[]:=rfl
theorem b8j(k:Int)(s:List UInt8)(b:Bool)(t:Ty)(ks:List Ex)(al:List Al):(Ex.mk k s b t ks al).kind=k∧(Ex.mk k s b t ks al).name=s∧(Ex.mk k s b t ks al).told=b∧(Ex.mk k s b t ks al).ty=t∧(Ex.mk k s b t ks al).kids=ks∧(Ex.mk k s b t ks al).alts=al:=⟨rfl,rfl,rfl,rfl,rfl,rfl⟩
theorem i6s:List.mapM a7u [Value.string {data:= #[]},Value.slice none 0 0,Value.int IntKind.i64 0,Value.string {data:= #[]},Value.bool false,Value.int IntKind.i64 0,Value.string {data:= #[]},Value.int IntKind.i64 0,Value.slice none 0 0,Value.slice none 0 0,Value.slice none 0 0]=
 some [.str [],.slice [],.int .i64 0,.str [],.bool false,.int .i64 0,.str [],.int .i64 0,.slice [],.slice [],.slice []]:=rfl
def exB(b:Bool)(e:Ex):List AVal:=match b with
 | false=>exC e
 | true=>[.int .i64 4,.str [],.bool false,.int .i64 0,.str [],.int .i64 0,.own 25 0 [],.slice (a8p e.kids),.own 291 0 []]
theorem f1h(q:Rd)(acc:List Al)(x:Ex×Rd)(hl:q.l.length<1000000)(ha:acc.length+1≤2000000)(hx:den E 192 [.ptr (.par 0) 0] [rdV (a0o (a2q (a0o q 2 [])) 6 [45,62])]=some (.agg (exC x.1),[rdV x.2])):
 den E 231 [.ptr (.par 0) 0] [[.ptr (.par 1) 0,.own 291 0 (b4r acc)],rdV q]=some (.tup [],[[.ptr (.par 1) 0,.own 291 0 (b4r (acc++[.mk (a7b q 2 []) (a3p (a0o q 2 [])) x.1]))],rdV x.2]):=by
 rw[a0d g3w,h1f];have a1:=a2e q 2 [];have a2:=d0i (a0o q 2 []) (Nat.lt_of_le_of_lt (a0b q 2 []).length_le hl);have a3:=a2e (a2q (a0o q 2 [])) 6 [45,62];have hap:(b4r acc).length+1≤a0s:=by rw[b4i,List.length_map];unfold a0s;omega
 have hlen:((b4r acc).length:Int)=((b4r acc).length:Nat):=rfl;have hmap:b4r (acc++[.mk (a7b q 2 []) (a3p (a0o q 2 [])) x.1])=b4r acc++[.agg (.str (a7b q 2 []):: .slice ((a3p (a0o q 2 [])).map .str)::exC x.1)]:=by
  rw[b4i,b4i,List.map_append,List.map_cons,List.map_nil];simp[alV]
 simp only[rdV,a0f] at a1 a2 a3 hx hmap⊢;simp only[go_sem,Tryz.f231,i6s,a1,a2,a3,hx,hap,hmap]
theorem c6z(r:Rd)(c:AVal)(h:a1n (a0o r 6 [123]) 6 [125]=true)(f:FuncId)(hc:∃T l,c=.own T 0 l):
 den E 189 [.ptr (.par 0) 0,.func f [.ptr (.par 1) 0] []] [rdV r,[.ptr (.par 0) 0,c]]=some (.tup [],[rdV (a0r (a0o r 6 [123]) 6 [125]),[.ptr (.par 0) 0,c]]):=by
 obtain⟨T,l,rfl⟩:=hc;rw[a0d d3r,d5e];have a1:=a2e r 6 [123];have a2:=a4p (a0o r 6 [123]) 6 [125];rw[h] at a2;simp only[rdV] at a1 a2⊢;simp only[go_sem,Tryz.f189,a1,a2]
theorem e6x(f:Nat)(r:Rd)(y:Ex×Rd)(hlen:r.l.length<1000000)(h:a1n (a0o r 6 [123]) 6 [125]=false)(hy:exR f (.alts []) (a0o r 6 [123])=some y)
 (IH:∀g,g<f→∀q x,q.l<:+r.l→exR g .expr q=some x→den E 192 [.ptr (.par 0) 0] [rdV q]=some (.agg (exC x.1),[rdV x.2])):
 den E 189 [.ptr (.par 0) 0,.func 231 [.ptr (.par 1) 0] []] [rdV r,[.ptr (.par 0) 0,.own 291 0 []]]=some (.tup [],[rdV (a0o y.2 6 [125]),[.ptr (.par 0) 0,.own 291 0 (b4r y.1.alts)]]):=by
 have step:∀g,g≤f→∀acc q y,q.l<:+r.l→acc.length+1≤2000000→exR g (.alts acc) q=some y→∃g' acc' r4,g'<g∧r4.l<:+q.l∧acc'.length=acc.length+1∧
  den E 231 [.ptr (.par 0) 0] [[.ptr (.par 1) 0,.own 291 0 (b4r acc)],rdV q]=some (.tup [],[[.ptr (.par 1) 0,.own 291 0 (b4r acc')],rdV r4])∧
  (if a1n r4 6 [59] then exR g' (.alts acc') (a0r r4 6 [59]) else some (.mk 0 [] false zTy [] acc',r4))=some y:=by
  intro g hg acc q y hq hac h;cases g with
  | zero=>cases h
  | succ g=>
   simp only[exR] at h;split at h
   · cases h
   · rename_i b r4 h4;have sq:=(a0b (a2q (a0o q 2 [])) 6 [45,62]).trans ((a4k (a0o q 2 [])).trans (a0b q 2 []));exact⟨g,_,r4,Nat.lt_succ_self g,(a3j _ _ _ _ _ h4).trans sq,by simp,f1h q acc (b,r4) (Nat.lt_of_le_of_lt hq.length_le hlen) hac (IH g (by omega) _ _ (sq.trans hq) h4),h⟩
 rw[a0d d3r,d5e];have a1:=a2e r 6 [123];have a2:=a4p (a0o r 6 [123]) 6 [125];rw[h] at a2;have st:=a0b r 6 [123];obtain⟨g0,acc0,r0,hg0,hs0,hl0,d0,e0⟩:=step f (Nat.le_refl _) [] _ y st (by simp) hy;have ht0:a0r (a0o r 6 [123]) 6 [125]=a0o r 6 [123]:=by unfold a0r;rw[h];rfl
 rw[ht0] at a2;simp only[rdV,a2d] at a1 a2 d0;unfold rdV;simp only[go_sem,Tryz.f189,a1,a2,d0];refine a0p (fun x:Nat×List Al×Rd=>x.1<f∧x.2.2.l<:+r.l∧x.2.1.length+x.2.2.l.length≤r.l.length+1∧(if a1n x.2.2 6 [59] then exR x.1 (.alts x.2.1) (a0r x.2.2 6 [59]) else some (.mk 0 [] false zTy [] x.2.1,x.2.2))=some y)
  (fun x=>⟨[(0,.ptr (.par 0) 0),(1,.func 231 [.ptr (.par 1) 0] [])],[rdV x.2.2,[.ptr (.par 0) 0,.own 291 0 (b4r x.2.1)]],[],1⟩)
  (fun _=>some (.tup [],[rdV (a0o y.2 6 [125]),[.ptr (.par 0) 0,.own 291 0 (b4r y.1.alts)]])) (fun x=>x.1) (g0,acc0,r0) ⟨hg0,hs0.trans st,?_,e0⟩ ?_ ?_
 · have:=hs0.length_le;have:=st.length_le;simp only[List.length_nil] at hl0;simp only;omega
 · simp only[go_sem,rdV]
 · rintro⟨g,acc,q⟩ ⟨hg,hq,hle,he⟩ hrun;simp only at hg hq hle he hrun⊢;have b1:=a4p q 6 [59];cases h1:a1n q 6 [59]
   · rw[h1] at he b1;simp only[Bool.false_eq_true,if_false] at he;injection he with he;subst he;have hk:a0r q 6 [59]=q:=by unfold a0r;rw[h1];rfl
     rw[hk] at b1;have b2:=a2e q 6 [125];simp only[rdV] at b1 b2⊢;simp only[go_sem,b1,b2,Ex.alts]
   · rw[h1] at he b1;simp only[if_true] at he;obtain⟨hb,t,w,hw⟩:=a3o h1;have hk:(a0r q 6 [59]).l.length+1=q.l.length:=by unfold a0r;rw[h1,if_pos rfl,hw];simp
     have hsq:=a0l q 6 [59];obtain⟨g',acc',r',hg',hs',hl',d',e'⟩:=step g (by omega) acc _ y (hsq.trans hq) (by omega) he;simp only[rdV] at b1 d'⊢;simp only[go_sem,b1,d'];refine hrun (g',acc',r') _ ⟨by omega,hs'.trans (hsq.trans hq),?_,e'⟩ hg' ?_
     · have:=hs'.length_le;simp only;omega
     · simp only[go_sem,rdV]
theorem i6h:∀(f:Nat) (m:XM) (r:Rd) (x:Ex×Rd),(∀t∈r.l,c1x t)→r.l.length<1000000→exR f m r=some x→d5o m r x:=by
 intro f
 induction f using Nat.strongRecOn with
 | _ f ih=>
 intro m r x hok hlen h;cases f with
 | zero=>cases h
 | succ f=>
 have sub:∀ {q:Rd},q.l<:+r.l→(∀t∈q.l,c1x t)∧q.l.length<1000000:=fun hs=>⟨fun t ht=>hok t (hs.subset ht),Nat.lt_of_le_of_lt hs.length_le hlen⟩
 cases m with
 | alts acc=>trivial
 | loop e=>trivial
 | lets=>
  simp only[d5o];simp only[exR] at h;rw[a0d g3x,h1g];have a1:=a2e r 1 [];have a2:=a4p (a0o r 1 []) 6 [58];cases b2:a1n (a0o r 1 []) 6 [58]
  · rw[b2] at h a2;simp only[a0r,b2,Bool.false_eq_true,if_false] at h a2;split at h
    · cases h
    · rename_i x1 r3 h3;have sx:=(a0b (a0o r 1 []) 6 [61]).trans (a0b r 1 []);have d3:=ih f (by omega) .expr _ _ (sub sx).1 (sub sx).2 h3;have sx3:=(a3j _ _ _ _ _ h3).trans sx;split at h
      · cases h
      · rename_i y r4 h4;have sx4:=(a0b r3 3 [105,110]).trans sx3;have d4:=ih f (by omega) .expr _ _ (sub sx4).1 (sub sx4).2 h4;have a3:=a2e (a0o r 1 []) 6 [61];have a4:=a2e r3 3 [105,110];injection h with h;subst h;simp only[d5o,rdV,a0f] at a1 a2 a3 a4 d3 d4;unfold rdV;simp only[go_sem,Tryz.f230,a1,a2,a3,a4,d3,d4,a0f,b8j,a0v,a0u,a2d,a0h,a8l,a8j,a8k,a8m]
  · rw[b2] at h a2;simp only[if_true] at h;split at h
    · cases h
    · rename_i t r2 h2;have s2:=(a0l (a0o r 1 []) 6 [58]).trans (a0b r 1 []);have d2:=c4x f _ _ (sub s2).1 (sub s2).2 h2;have s2':=(b0n h2).trans s2;split at h
      · cases h
      · rename_i x1 r3 h3;have sx:=(a0b r2 6 [61]).trans s2';have d3:=ih f (by omega) .expr _ _ (sub sx).1 (sub sx).2 h3;have sx3:=(a3j _ _ _ _ _ h3).trans sx;split at h
        · cases h
        · rename_i y r4 h4;have sx4:=(a0b r3 3 [105,110]).trans sx3;have d4:=ih f (by omega) .expr _ _ (sub sx4).1 (sub sx4).2 h4;have a3:=a2e r2 6 [61];have a4:=a2e r3 3 [105,110];injection h with h;subst h;simp only[d5o,rdV,a0f,a0a] at a1 a2 a3 a4 d2 d3 d4;unfold rdV;simp only[go_sem,Tryz.f230,a1,a2,a3,a4,d2,d3,d4,a0f,b8j,a0v,a0u,a2d]
 | atom=>
  simp only[d5o];simp only[exR] at h;rw[a0d g3v,h1e];have s1:=a9y r 1 [];have s2:=a9y r 2 [];cases b1:a1n r 1 []
  · rw[b1] at h s1;simp only[Bool.false_eq_true,if_false] at h;cases b2:a1n r 2 []
    · rw[b2] at h s2;simp only[Bool.false_eq_true,if_false] at h;have a1:=a2e r 6 [40];split at h
      · cases h
      · rename_i e r1 h1;have sx:=a0b r 6 [40];have d1:=ih f (by omega) .expr _ _ (sub sx).1 (sub sx).2 h1;have sx1:=(a3j _ _ _ _ _ h1).trans sx;have a2:=a4p r1 6 [58];cases b3:a1n r1 6 [58]
        · rw[b3] at h a2;simp only[a0r,b3,Bool.false_eq_true,if_false] at h a2;injection h with h;subst h;have a3:=a2e r1 6 [41];simp only[d5o,rdV,a0f] at s1 s2 a1 a2 a3 d1;unfold rdV;simp only[go_sem,Tryz.f232,s1,s2,a1,a2,a3,d1,a0f]
        · rw[b3] at h a2;simp only[if_true] at h;split at h
          · cases h
          · rename_i t r2 h2;have sx2:=(a0l r1 6 [58]).trans sx1;have d2:=c4x f _ _ (sub sx2).1 (sub sx2).2 h2;injection h with h;subst h;have a3:=a2e r2 6 [41];simp only[d5o,rdV,a0f,a0a] at s1 s2 a1 a2 a3 d1 d2;unfold rdV;simp only[go_sem,Tryz.f232,s1,s2,a1,a2,a3,d1,d2,a0f,b8j,a0v,a0u,a2d]
    · rw[b2] at h s2;simp only[if_true] at h;injection h with h;subst h;have a1:=a2e r 2 [];simp only[rdV] at s1 s2 a1;unfold rdV;simp only[go_sem,Tryz.f232,s1,s2,a1,a0f,b8j,a0u,a2d,a0h,a8l,a8j,a8k,a8m]
  · rw[b1] at h s1;simp only[if_true] at h;injection h with h;subst h;have a1:=a2e r 1 [];simp only[rdV] at s1 a1;unfold rdV;simp only[go_sem,Tryz.f232,s1,a1,a0f,b8j,a0u,a2d,a0h,a8l,a8j,a8k,a8m]
 | expr=>
  simp only[d5o];simp only[exR] at h;rw[a0d g4w,h2d];cases hb:r.bad
  · rw[hb] at h;simp only[Bool.false_eq_true,if_false] at h;have a1:=a4p r 6 [92];cases b1:a1n r 6 [92]
    · have hk1:a0r r 6 [92]=r:=by unfold a0r;rw[b1];rfl
      rw[b1] at h;rw[hk1,b1] at a1;simp only[Bool.false_eq_true,if_false] at h;have a2:=a4p r 3 [108,101,116];cases b2:a1n r 3 [108,101,116]
      · have hk2:a0r r 3 [108,101,116]=r:=by unfold a0r;rw[b2];rfl
        rw[b2] at h;rw[hk2,b2] at a2;simp only[Bool.false_eq_true,if_false] at h;have a3:=a4p r 3 [99,97,115,101];cases b3:a1n r 3 [99,97,115,101]
        · have hk3:a0r r 3 [99,97,115,101]=r:=by unfold a0r;rw[b3];rfl
          rw[b3] at h;rw[hk3,b3] at a3;simp only[Bool.false_eq_true,if_false] at h;split at h
          · cases h
          · rename_i e r1 h1;have d1:=ih f (by omega) .atom _ _ hok hlen h1;have sx:=a3j _ _ _ _ _ h1;simp only[d5o,rdV,hb,a0f] at a1 a2 a3 d1;simp only[rdV,hb];simp only[go_sem,Tryz.f192,a1,a2,a3,d1];refine a0p (fun y:Nat×Bool×Ex×Rd=>y.1≤f∧y.2.2.2.l<:+r.l∧(y.2.1=true→∃ks,y.2.2.1=.mk 4 [] false zTy ks [])∧exR y.1 (.loop y.2.2.1) y.2.2.2=some x) (fun y=>⟨[(0,.ptr (.par 0) 0),(2,.ptr (.loc 2) 0),(6,.ptr (.loc 6) 0)],[rdV y.2.2.2],
             [(2,[.int .i64 0,.str [],.bool false,.int .i64 0,.str [],.int .i64 0,.own 25 0 [],.own 89 0 [],.own 291 0 []]),(6,exB y.2.1 y.2.2.1)],1⟩)
             (fun _=>some (.agg (exC x.1),[rdV x.2])) (fun y=>y.1) (f,false,e,r1) ⟨Nat.le_refl _,sx,(fun h=>by cases h),h⟩ ?_ ?_
            · simp only[go_sem,rdV,exB,a0f]
            · rintro⟨g,b,e2,q⟩ ⟨hg,hq,hb2,hx⟩ hrun;simp only at hg hq hb2 hx hrun⊢;cases g with
              | zero=>cases hx
              | succ g=>
               simp only[exR] at hx;have c1:=a9y q 1 [];have c2:=a9y q 2 [];have c3:=a9y q 6 [40];have step:(a1n q 1 []||(a1n q 2 []||a1n q 6 [40]))=true→∃y r2,exR g .atom q=some (y,r2)∧exR g (.loop (.mk 4 [] false zTy [e2,y] [])) r2=some x:=fun hb=>by
                rw[hb] at hx;simp only[if_true] at hx;split at hx
                · cases hx
                · rename_i y r2 h2;exact⟨y,r2,h2,hx⟩
               cases b
               case' true=>obtain⟨ks,rfl⟩:=hb2 rfl
               all_goals (
                simp only[rdV,a0f] at c1 c2 c3 hrun⊢;cases n1:a1n q 1 []
                · cases n2:a1n q 2 []
                  · cases n3:a1n q 6 [40]
                    · rw[n1,n2,n3] at hx;simp only[Bool.or_false,Bool.false_eq_true,if_false] at hx;injection hx with hx;subst hx;simp only[go_sem,exB,c1,c2,c3,n1,n2,n3,a0f,b8j,a2d,a0h,a8l,a8j,a8k,a8m]
                    · obtain⟨y,r2,h2,h3⟩:=step (by simp[n1,n2,n3]);have d2:=ih g (by omega) .atom _ _ (sub hq).1 (sub hq).2 h2;simp only[d5o,rdV,a0f] at d2;simp only[go_sem,exB,c1,c2,c3,n1,n2,n3,d2,a0f,b8j];refine hrun (g,true,_,r2) _ ⟨by omega,(a3j _ _ _ _ _ h2).trans hq,(fun _=>⟨_,rfl⟩),h3⟩ (by simp only;omega) ?_;simp only[go_sem,exB,a0f,b8j,a0v,a0u,a2d,a0h,a8l,a8j,a8k,a8m]
                  · obtain⟨y,r2,h2,h3⟩:=step (by simp[n1,n2]);have d2:=ih g (by omega) .atom _ _ (sub hq).1 (sub hq).2 h2;simp only[d5o,rdV,a0f] at d2;simp only[go_sem,exB,c1,c2,n1,n2,d2,a0f,b8j];refine hrun (g,true,_,r2) _ ⟨by omega,(a3j _ _ _ _ _ h2).trans hq,(fun _=>⟨_,rfl⟩),h3⟩ (by simp only;omega) ?_;simp only[go_sem,exB,a0f,b8j,a0v,a0u,a2d,a0h,a8l,a8j,a8k,a8m]
                · obtain⟨y,r2,h2,h3⟩:=step (by simp[n1]);have d2:=ih g (by omega) .atom _ _ (sub hq).1 (sub hq).2 h2;simp only[d5o,rdV,a0f] at d2;simp only[go_sem,exB,c1,n1,d2,a0f,b8j];refine hrun (g,true,_,r2) _ ⟨by omega,(a3j _ _ _ _ _ h2).trans hq,(fun _=>⟨_,rfl⟩),h3⟩ (by simp only;omega) ?_;simp only[go_sem,exB,a0f,b8j,a0v,a0u,a2d,a0h,a8l,a8j,a8k,a8m])
        · rw[b3] at h a3;simp only[if_true] at h;split at h
          · cases h
          · rename_i e r1 h1;have s3:=a0l r 3 [99,97,115,101];have d1:=ih f (by omega) .expr _ _ (sub s3).1 (sub s3).2 h1;have sx:=(a3j _ _ _ _ _ h1).trans s3;have a4:=a2e r1 3 [111,102];have s4:=(a0b r1 3 [111,102]).trans sx;cases b4:a1n (a0o (a0o r1 3 [111,102]) 6 [123]) 6 [125]
            · rw[b4] at h;simp only[Bool.false_eq_true,if_false] at h;split at h
              · cases h
              · rename_i y r4 h4;injection h with h;subst h;have d4:=e6x f (a0o r1 3 [111,102]) (y,r4) (sub s4).2 b4 h4 fun g hg q x hq hx=>by
                 have:=ih g (by omega) .expr q x (sub (hq.trans s4)).1 (sub (hq.trans s4)).2 hx;simpa only[d5o] using this
                simp only[d5o,rdV,hb,a0f] at a1 a2 a3 a4 d1 d4;simp only[rdV,hb];simp only[go_sem,Tryz.f192,a1,a2,a3,a4,d1,d4,a0f,b8j,a0v,a0u,a0h,a8l,a8j,a8k,a8m]
            · rw[b4] at h;simp only[if_true] at h;injection h with h;subst h;have d4:=c6z (a0o r1 3 [111,102]) (.own 291 0 []) b4 231 ⟨_,_,rfl⟩;simp only[d5o,rdV,hb,a0f] at a1 a2 a3 a4 d1 d4;simp only[rdV,hb];simp only[go_sem,Tryz.f192,a1,a2,a3,a4,d1,d4,a0f,b8j,a0v,a0u,a2d,a0h,a8l,a8j,a8k,a8m]
      · rw[b2] at h a2;simp only[if_true] at h;have s2:=a0l r 3 [108,101,116];have d1:=ih f (by omega) .lets _ _ (sub s2).1 (sub s2).2 h;simp only[d5o,rdV,hb,a0f] at a1 a2 d1;simp only[rdV,hb];simp only[go_sem,Tryz.f192,a1,a2,d1,a0f]
    · rw[b1] at h a1;simp only[if_true] at h;split at h
      · cases h
      · rename_i x1 r4 h4;have a2:=a2e (a0r r 6 [92]) 1 [];have a3:=a2e (a0o (a0r r 6 [92]) 1 []) 6 [45,62];have s4:=(a0b (a0o (a0r r 6 [92]) 1 []) 6 [45,62]).trans ((a0b (a0r r 6 [92]) 1 []).trans (a0l r 6 [92]));have d4:=ih f (by omega) .expr _ _ (sub s4).1 (sub s4).2 h4;injection h with h;subst h;simp only[d5o,rdV,hb,a0f] at a1 a2 a3 d4;simp only[rdV,hb];simp only[go_sem,Tryz.f192,a1,a2,a3,d4,a0f,b8j,a0v,a0u,a2d,a0h,a8l,a8j,a8k,a8m]
  · rw[hb] at h;simp only[if_true] at h;injection h with h;subst h;simp only[rdV,hb];simp only[go_sem,Tryz.f192,i8e]
structure Co where
 name:List UInt8
 ty:Ty
def coV(c:Co):AVal:=.agg [.str c.name,.int .i64 c.ty.kind,.str c.ty.name,.int .i64 c.ty.n,.slice (a3a c.ty.args)]
structure De where
 kind:Int
 name:List UInt8
 vars:List (List UInt8)
 cons:List Co
 ty:Ty
 val:Ex
def deC(d:De):List AVal:=[.int .i64 d.kind,.str d.name,.slice (d.vars.map .str),.slice (d.cons.map coV),.int .i64 d.ty.kind,.str d.ty.name,.int .i64 d.ty.n,.slice (a3a d.ty.args),
 .int .i64 d.val.kind,.str d.val.name,.bool d.val.told,.int .i64 d.val.ty.kind,.str d.val.ty.name,.int .i64 d.val.ty.n,.slice (a3a d.val.ty.args),.slice (a8p d.val.kids),.slice (b4r d.val.alts)]
def coR(f:Nat)(q:Rd):Option (Co×Rd):=match d5x f (a0o (a0o q 2 []) 6 [58]) with
 | none=>none
 | some (t,r)=>some (⟨a7b q 2 [],t⟩,r)
def d8s(f:Nat):Nat→List Co→Rd→Option (List Co×Rd)
 | 0,_,_=>none
 | g+1,acc,q=>match coR f q with
  | none=>none
  | some (c,r)=>if a1n r 6 [59] then d8s f g (acc++[c]) (a0r r 6 [59]) else some (acc++[c],r)
def deR(f:Nat)(r:Rd):Option (De×Rd):=
 if a1n r 3 [100,97,116,97] then
  (if a1n (a0o (a2q (a0o (a0r r 3 [100,97,116,97]) 2 [])) 6 [123]) 6 [125] then
    some (⟨1,a7b (a0r r 3 [100,97,116,97]) 2 [],a3p (a0o (a0r r 3 [100,97,116,97]) 2 []),[],zTy,zEx⟩,a0r (a0o (a2q (a0o (a0r r 3 [100,97,116,97]) 2 [])) 6 [123]) 6 [125])
  else match d8s f f [] (a0o (a2q (a0o (a0r r 3 [100,97,116,97]) 2 [])) 6 [123]) with
   | none=>none
   | some (cs,r5)=>some (⟨1,a7b (a0r r 3 [100,97,116,97]) 2 [],a3p (a0o (a0r r 3 [100,97,116,97]) 2 []),cs,zTy,zEx⟩,a0o r5 6 [125]))
 else if a1n (a0o r 1 []) 6 [58] then (match d5x f (a0r (a0o r 1 []) 6 [58]) with
  | none=>none
  | some (t,r2)=>some (⟨2,a7b r 1 [],[],[],t,zEx⟩,r2))
 else match exR f .expr (a0o (a0o r 1 []) 6 [61]) with
  | none=>none
  | some (x,r3)=>some (⟨3,a7b r 1 [],[],[],zTy,x⟩,r3)
theorem c3e{f:Nat}{q:Rd}{c:Co}{r:Rd}(h:coR f q=some (c,r)):r.l<:+q.l:=by
 unfold coR at h;split at h
 · cases h
 · rename_i t r1 h1;injection h with h;injection h with _ h;subst h;exact (b0n h1).trans ((a0b _ _ _).trans (a0b _ _ _))
theorem g9o{f:Nat}:∀ {g:Nat} {acc:List Co} {q:Rd} {cs:List Co} {r:Rd},d8s f g acc q=some (cs,r)→r.l<:+q.l:=by
 intro g
 induction g with
 | zero=>intro acc q cs r h;cases h
 | succ g ih=>
  intro acc q cs r h;simp only[d8s] at h;split at h
  · cases h
  · rename_i c r1 h1;split at h
    · exact (ih h).trans ((a0l _ _ _).trans (c3e h1))
    · injection h with h;injection h with _ h;subst h;exact c3e h1
theorem c8p{f:Nat}{r:Rd}{d:De}{r':Rd}(h:deR f r=some (d,r')):r'.l<:+r.l:=by
 unfold deR at h;have s1:(a0o (a2q (a0o (a0r r 3 [100,97,116,97]) 2 [])) 6 [123]).l<:+r.l:=(a0b _ _ _).trans ((a4k _).trans ((a0b _ _ _).trans (a0l _ _ _)));split at h
 · split at h
   · injection h with h;injection h with _ h;subst h;exact (a0l _ _ _).trans s1
   · split at h
     · cases h
     · rename_i cs r5 h5;injection h with h;injection h with _ h;subst h;exact (a0b _ _ _).trans ((g9o h5).trans s1)
 · split at h
   · split at h
     · cases h
     · rename_i t r2 h2;injection h with h;injection h with _ h;subst h;exact (b0n h2).trans ((a0l _ _ _).trans (a0b _ _ _))
   · split at h
     · cases h
     · rename_i x r3 h3;injection h with h;injection h with _ h;subst h;exact (a3j _ _ _ _ _ h3).trans ((a0b _ _ _).trans (a0b _ _ _))
theorem j4m(f:Nat)(q:Rd)(acc:List Co)(c:Co)(r:Rd)(hok:∀t∈q.l,c1x t)(hl:q.l.length<1000000)(ha:acc.length+1≤2000000)(h:coR f q=some (c,r)):
 den E 190 [.ptr (.par 0) 0] [[.ptr (.par 1) 0,.own 94 0 (acc.map coV)],rdV q]=some (.tup [],[[.ptr (.par 1) 0,.own 94 0 ((acc++[c]).map coV)],rdV r]):=by
 unfold coR at h;split at h
 · cases h
 · rename_i t r1 h1;injection h with h;injection h with hc hr;subst hr;rw[a0d g4y,h2f];have a1:=a2e q 2 [];have a2:=a2e (a0o q 2 []) 6 [58];have s2:=(a0b (a0o q 2 []) 6 [58]).trans (a0b q 2 []);have a3:=c4x f _ _ (fun t ht=>hok t (s2.subset ht)) (Nat.lt_of_le_of_lt s2.length_le hl) h1;have hap:(acc.map coV).length+1≤a0s:=by rw[List.length_map];unfold a0s;omega
   have hmap:acc.map coV++[.agg [.str (a7b q 2 []),.int .i64 t.kind,.str t.name,.int .i64 t.n,.slice (a3a t.args)]]=(acc++[c]).map coV:=by
    rw[List.map_append,List.map_cons,List.map_nil,←hc];rfl
   simp only[rdV,a0a] at a1 a2 a3⊢;simp only[go_sem,Tryz.f190,a1,a2,a3,hap,hmap]
theorem e0e(f:Nat)(r:Rd)(y:List Co×Rd)(hok:∀t∈r.l,c1x t)(hlen:r.l.length<1000000)(h:a1n (a0o r 6 [123]) 6 [125]=false)(hy:d8s f f [] (a0o r 6 [123])=some y):
 den E 189 [.ptr (.par 0) 0,.func 190 [.ptr (.par 1) 0] []] [rdV r,[.ptr (.par 0) 0,.own 94 0 []]]=some (.tup [],[rdV (a0o y.2 6 [125]),[.ptr (.par 0) 0,.own 94 0 (y.1.map coV)]]):=by
 have step:∀g,g≤f→∀acc q y,q.l<:+r.l→acc.length+1≤2000000→d8s f g acc q=some y→∃g' acc' r4,g'<g∧r4.l<:+q.l∧acc'.length=acc.length+1∧
  den E 190 [.ptr (.par 0) 0] [[.ptr (.par 1) 0,.own 94 0 (acc.map coV)],rdV q]=some (.tup [],[[.ptr (.par 1) 0,.own 94 0 (acc'.map coV)],rdV r4])∧
  (if a1n r4 6 [59] then d8s f g' acc' (a0r r4 6 [59]) else some (acc',r4))=some y:=by
  intro g hg acc q y hq hac h;cases g with
  | zero=>cases h
  | succ g=>
   simp only[d8s] at h;split at h
   · cases h
   · rename_i c r4 h4;exact⟨g,_,r4,Nat.lt_succ_self g,c3e h4,by simp,j4m f q acc c r4 (fun t ht=>hok t (hq.subset ht)) (Nat.lt_of_le_of_lt hq.length_le hlen) hac h4,h⟩
 rw[a0d d3r,d5e];have a1:=a2e r 6 [123];have a2:=a4p (a0o r 6 [123]) 6 [125];rw[h] at a2;have st:=a0b r 6 [123];obtain⟨g0,acc0,r0,hg0,hs0,hl0,d0,e0⟩:=step f (Nat.le_refl _) [] _ y st (by simp) hy;have ht0:a0r (a0o r 6 [123]) 6 [125]=a0o r 6 [123]:=by unfold a0r;rw[h];rfl
 rw[ht0] at a2;simp only[rdV,List.map_nil] at a1 a2 d0;unfold rdV;simp only[go_sem,Tryz.f189,a1,a2,d0];refine a0p (fun x:Nat×List Co×Rd=>x.1<f∧x.2.2.l<:+r.l∧x.2.1.length+x.2.2.l.length≤r.l.length+1∧(if a1n x.2.2 6 [59] then d8s f x.1 x.2.1 (a0r x.2.2 6 [59]) else some (x.2.1,x.2.2))=some y)
  (fun x=>⟨[(0,.ptr (.par 0) 0),(1,.func 190 [.ptr (.par 1) 0] [])],[rdV x.2.2,[.ptr (.par 0) 0,.own 94 0 (x.2.1.map coV)]],[],1⟩)
  (fun _=>some (.tup [],[rdV (a0o y.2 6 [125]),[.ptr (.par 0) 0,.own 94 0 (y.1.map coV)]])) (fun x=>x.1) (g0,acc0,r0) ⟨hg0,hs0.trans st,?_,e0⟩ ?_ ?_
 · have:=hs0.length_le;have:=st.length_le;simp only[List.length_nil] at hl0;simp only;omega
 · simp only[go_sem,rdV]
 · rintro⟨g,acc,q⟩ ⟨hg,hq,hle,he⟩ hrun;simp only at hg hq hle he hrun⊢;have b1:=a4p q 6 [59];cases h1:a1n q 6 [59]
   · rw[h1] at he b1;simp only[Bool.false_eq_true,if_false] at he;injection he with he;subst he;have hk:a0r q 6 [59]=q:=by unfold a0r;rw[h1];rfl
     rw[hk] at b1;have b2:=a2e q 6 [125];simp only[rdV] at b1 b2⊢;simp only[go_sem,b1,b2]
   · rw[h1] at he b1;simp only[if_true] at he;obtain⟨hb,t,w,hw⟩:=a3o h1;have hk:(a0r q 6 [59]).l.length+1=q.l.length:=by unfold a0r;rw[h1,if_pos rfl,hw];simp
     have hsq:=a0l q 6 [59];obtain⟨g',acc',r',hg',hs',hl',d',e'⟩:=step g (by omega) acc _ y (hsq.trans hq) (by omega) he;simp only[rdV] at b1 d'⊢;simp only[go_sem,b1,d'];refine hrun (g',acc',r') _ ⟨by omega,hs'.trans (hsq.trans hq),?_,e'⟩ hg' ?_
     · have:=hs'.length_le;simp only;omega
     · simp only[go_sem,rdV]
theorem exz:zEx.kind=0∧zEx.name=[]∧zEx.told=false∧zEx.ty=zTy∧zEx.kids=[]∧zEx.alts=[]:=⟨rfl,rfl,rfl,rfl,rfl,rfl⟩
theorem j4j(f:Nat)(r:Rd)(d:De)(r':Rd)(hok:∀t∈r.l,c1x t)(hlen:r.l.length<1000000)(h:deR f r=some (d,r')):
 den E 134 [.ptr (.par 0) 0] [rdV r]=some (.agg (deC d),[rdV r']):=by
 rw[a0d g6a,h3g];have sub:∀ {q:Rd},q.l<:+r.l→(∀t∈q.l,c1x t)∧q.l.length<1000000:=fun hs=>⟨fun t ht=>hok t (hs.subset ht),Nat.lt_of_le_of_lt hs.length_le hlen⟩
 unfold deR at h;have a1:=a4p r 3 [100,97,116,97];cases b1:a1n r 3 [100,97,116,97]
 · have hk1:a0r r 3 [100,97,116,97]=r:=by unfold a0r;rw[b1];rfl
   rw[b1] at h;rw[hk1,b1] at a1;simp only[Bool.false_eq_true,if_false] at h;have a2:=a2e r 1 [];have a3:=a4p (a0o r 1 []) 6 [58];cases b2:a1n (a0o r 1 []) 6 [58]
   · have hk2:a0r (a0o r 1 []) 6 [58]=a0o r 1 []:=by unfold a0r;rw[b2];rfl
     rw[b2] at h;rw[hk2,b2] at a3;simp only[Bool.false_eq_true,if_false] at h;split at h
     · cases h
     · rename_i x r3 h3;injection h with h;injection h with hd hr;subst hr;subst hd;have a4:=a2e (a0o r 1 []) 6 [61];have s4:=(a0b (a0o r 1 []) 6 [61]).trans (a0b r 1 []);have a5:=i6h f .expr _ _ (sub s4).1 (sub s4).2 h3;simp only[d5o,rdV,a0f,deC] at a1 a2 a3 a4 a5⊢;simp only[go_sem,Tryz.f134,a1,a2,a3,a4,a5,a0h,a8l,a8j,a8k,a8m,List.map_nil]
   · rw[b2] at h a3;simp only[if_true] at h;split at h
     · cases h
     · rename_i t r2 h2;injection h with h;injection h with hd hr;subst hr;subst hd;have s4:=(a0l (a0o r 1 []) 6 [58]).trans (a0b r 1 []);have a5:=c4x f _ _ (sub s4).1 (sub s4).2 h2;simp only[rdV,deC,a0a] at a1 a2 a3 a5⊢;simp only[go_sem,Tryz.f134,a1,a2,a3,a5,a0u,a2d,a0h,a8l,a8j,a8k,a8m,exz,List.map_nil]
 · rw[b1] at h a1;simp only[if_true] at h;have s1:=a0l r 3 [100,97,116,97];generalize a0r r 3 [100,97,116,97]=r1 at *;have a2:=a2e r1 2 [];have s2:=(a0b r1 2 []).trans s1;have a3:=d0i (a0o r1 2 []) (sub s2).2;have s3:=(a4k (a0o r1 2 [])).trans s2;cases b4:a1n (a0o (a2q (a0o r1 2 [])) 6 [123]) 6 [125]
   · rw[b4] at h;simp only[Bool.false_eq_true,if_false] at h;split at h
     · cases h
     · rename_i cs r5 h5;injection h with h;injection h with hd hr;subst hr;subst hd;have a4:=e0e f (a2q (a0o r1 2 [])) (cs,r5) (sub s3).1 (sub s3).2 b4 h5;simp only[rdV,deC] at a1 a2 a3 a4⊢;simp only[go_sem,Tryz.f134,a1,a2,a3,a4,a0u,a2d,a0h,a8l,a8j,a8k,a8m,exz,List.map_nil]
   · rw[b4] at h;simp only[if_true] at h;injection h with h;injection h with hd hr;subst hr;subst hd;have a4:=c6z (a2q (a0o r1 2 [])) (.own 94 0 []) b4 190 ⟨_,_,rfl⟩;simp only[rdV,deC] at a1 a2 a3 a4⊢;simp only[go_sem,Tryz.f134,a1,a2,a3,a4,a0u,a2d,a0h,a8l,a8j,a8k,a8m,exz,List.map_nil]
mutual
def Ex.size:Ex→Nat
 | .mk _ _ _ _ ks al=>Ex.sizes ks+Al.sizes al+1
def Ex.sizes:List Ex→Nat
 | []=>0
 | e::r=>Ex.size e+Ex.sizes r
def Al.size:Al→Nat
 | .mk _ _ b=>Ex.size b
def Al.sizes:List Al→Nat
 | []=>0
 | a::r=>Al.size a+Al.sizes r
end
mutual
def Ex.depth:Ex→Nat
 | .mk _ _ _ _ ks al=>max (Ex.depths ks) (Al.depths al)+1
def Ex.depths:List Ex→Nat
 | []=>0
 | e::r=>max (Ex.depth e) (Ex.depths r)
def Al.depth:Al→Nat
 | .mk _ _ b=>Ex.depth b
def Al.depths:List Al→Nat
 | []=>0
 | a::r=>max (Al.depth a) (Al.depths r)
end
mutual
def Ex.tdep:Ex→Nat
 | .mk k _ b t ks al=>max (if b||k==7 then t.depth else 0) (max (Ex.tdeps ks) (Al.tdeps al))
def Ex.tdeps:List Ex→Nat
 | []=>0
 | e::r=>max (Ex.tdep e) (Ex.tdeps r)
def Al.tdep:Al→Nat
 | .mk _ _ b=>Ex.tdep b
def Al.tdeps:List Al→Nat
 | []=>0
 | a::r=>max (Al.tdep a) (Al.tdeps r)
end
mutual
def Ex.tot:Ex→Nat
 | .mk _ _ _ t ks al=>Ex.tots ks+Al.tots al+t.sz
def Ex.tots:List Ex→Nat
 | []=>0
 | e::r=>Ex.tot e+Ex.tots r
def Al.tot:Al→Nat
 | .mk _ vs b=>Ex.tot b+vs.length+1
def Al.tots:List Al→Nat
 | []=>0
 | a::r=>Al.tot a+Al.tots r
end
def Ex.inner(e:Ex):List Ex:=e.kids++e.alts.map Al.body
theorem d6f(a b:List Ex):Ex.sizes (a++b)=Ex.sizes a+Ex.sizes b:=by
 induction a with
 | nil=>simp[Ex.sizes]
 | cons x a ih=>simp only[List.cons_append,Ex.sizes,ih];omega
theorem c1d(a b:List Ex):Ex.depths (a++b)=max (Ex.depths a) (Ex.depths b):=by
 induction a with
 | nil=>simp[Ex.depths]
 | cons x a ih=>simp only[List.cons_append,Ex.depths,ih];omega
theorem c3r(a b:List Ex):Ex.tdeps (a++b)=max (Ex.tdeps a) (Ex.tdeps b):=by
 induction a with
 | nil=>simp[Ex.tdeps]
 | cons x a ih=>simp only[List.cons_append,Ex.tdeps,ih];omega
theorem h4a(l:List Al):Al.sizes l=Ex.sizes (l.map Al.body):=by
 induction l with
 | nil=>rfl
 | cons a l ih=>cases a;simp only[Al.sizes,Al.size,List.map_cons,Ex.sizes,Al.body,ih]
theorem g0z(l:List Al):Al.depths l=Ex.depths (l.map Al.body):=by
 induction l with
 | nil=>rfl
 | cons a l ih=>cases a;simp only[Al.depths,Al.depth,List.map_cons,Ex.depths,Al.body,ih]
theorem h3z(l:List Al):Al.tdeps l=Ex.tdeps (l.map Al.body):=by
 induction l with
 | nil=>rfl
 | cons a l ih=>cases a;simp only[Al.tdeps,Al.tdep,List.map_cons,Ex.tdeps,Al.body,ih]
theorem h8s(e:Ex):e.size=Ex.sizes e.inner+1:=by
 cases e;simp only[Ex.size,Ex.inner,Ex.kids,Ex.alts,d6f,h4a]
theorem c8e(e:Ex):e.depth=Ex.depths e.inner+1:=by
 cases e;simp only[Ex.depth,Ex.inner,Ex.kids,Ex.alts,c1d,g0z]
theorem d9o(e:Ex):e.tdep=max (if e.told||e.kind==7 then e.ty.depth else 0) (Ex.tdeps e.inner):=by
 cases e;simp only[Ex.tdep,Ex.inner,Ex.kids,Ex.alts,Ex.told,Ex.kind,Ex.ty,c3r,h3z];rfl
theorem g0y(l:List Al):Ex.tots (l.map Al.body)+l.length≤Al.tots l:=by
 induction l with
 | nil=>simp[Al.tots,Ex.tots]
 | cons a l ih=>cases a;simp only[Al.tots,Al.tot,List.map_cons,Ex.tots,Al.body,List.length_cons];omega
theorem i8a{l:List Al}{a:Al}(h:a∈l):a.vars.length+a.body.tot+1≤Al.tots l:=by
 induction l with
 | nil=>cases h
 | cons x l ih=>
  simp only[Al.tots];rcases List.mem_cons.1 h with rfl|h
  · cases a;simp only[Al.tot,Al.vars,Al.body];omega
  · have:=ih h;omega
theorem d9n(a b:List Ex):Ex.tots (a++b)=Ex.tots a+Ex.tots b:=by
 induction a with
 | nil=>simp[Ex.tots]
 | cons x a ih=>simp only[List.cons_append,Ex.tots,ih];omega
theorem b1f(e:Ex):1≤e.tot:=by
 cases e with|mk _ _ _ t _ _=>simp only[Ex.tot];have:=a3g t;omega
theorem b3m(l:List Ex):l.length≤Ex.tots l:=by
 induction l with
 | nil=>simp
 | cons a l ih=>simp only[List.length_cons,Ex.tots];have:=b1f a;omega
theorem b0o{l:List Ex}{e:Ex}(h:e∈l):e.tot≤Ex.tots l:=by
 induction l with
 | nil=>cases h
 | cons x l ih=>
  simp only[Ex.tots];rcases List.mem_cons.1 h with rfl|h
  · omega
  · have:=ih h;omega
theorem b0k(e:Ex):e.tot=Ex.tots e.kids+Al.tots e.alts+e.ty.sz:=by cases e;simp[Ex.tot,Ex.kids,Ex.alts,Ex.ty]
theorem c6i(e:Ex):Ex.tots e.inner+e.ty.sz≤e.tot:=by
 rw[b0k];have:=g0y e.alts;simp only[Ex.inner,d9n];omega
theorem a9h(e:Ex):Ex.tots e.inner+1≤e.tot:=by
 have:=c6i e;have:=a3g e.ty;omega
theorem g9l(t:Ty):t.depth≤t.sz:=by
 rw[c5p,a3g];have:=c8k t.args;omega
theorem h4x:∀(n:Nat) (e:Ex),e.tot≤n→e.size≤e.tot∧e.depth≤e.tot∧e.tdep≤e.tot:=by
 intro n
 induction n with
 | zero=>intro e h;have:=b1f e;omega
 | succ n ih=>
  intro e h;have h1:=a9h e;have h2:=c6i e;have h3:=g9l e.ty;have key:∀l:List Ex,Ex.tots l≤n→Ex.sizes l≤Ex.tots l∧Ex.depths l≤Ex.tots l∧Ex.tdeps l≤Ex.tots l:=by
   intro l
   induction l with
   | nil=>intro _;simp[Ex.sizes,Ex.depths,Ex.tdeps]
   | cons a l ihl=>
    intro hl;simp only[Ex.tots] at hl⊢;have ⟨a1,a2,a3⟩:=ih a (by omega);have ⟨b1,b2,b3⟩:=ihl (by omega);simp only[Ex.sizes,Ex.depths,Ex.tdeps];omega
  obtain⟨k1,k2,k3⟩:=key e.inner (by omega);rw[h8s,c8e,d9o];refine⟨by omega,by omega,?_⟩;split<;>omega
theorem b9h(a b:List Ex):a8p (a++b)=a8p a++a8p b:=by simp[d4r]
theorem a3v(l:List Ex):(a8p l).length=l.length:=by simp[d4r]
theorem a6f(l:List Ex)(i:Nat):(a8p l)[i]? =(l[i]?).map fun e=>.agg (exC e):=by simp[d4r]
theorem b2i(l:List Al):(b4r l).length=l.length:=by simp[b4i]
theorem b4j(l:List Al)(i:Nat):(b4r l)[i]? =(l[i]?).map alV:=by simp[b4i]
theorem b9u{l:List Al}{i:Nat}{x:Al}(h:l[i]? =some x):a8p ((l.take (i+1)).map Al.body)=a8p ((l.take i).map Al.body)++[.agg (exC x.body)]:=by
 rw[a6k h,List.map_append,b9h,List.map_cons,List.map_nil,a0v,a0u]
theorem c8c(e:Ex)(hs:e.tot<1000000):den E 233 [.agg (exC e)] []=some (.slice (a8p e.inner),[]):=by
 have h1:=a9h e;have hl:=b3m e.inner;simp only[Ex.inner,List.length_append,List.length_map] at hl;have hin:a8p e.inner=a8p e.kids++a8p (e.alts.map Al.body):=by rw[Ex.inner,b9h]
 rw[a0d g3u,h1d,a0f,hin];have hle:Ex.tots e.inner=Ex.tots (e.kids++e.alts.map Al.body):=rfl;have hlk:=a3v e.kids;have hes:a8p e.kids=[]∨∃a1 a2 a3 a4 a5 a6 a7 a8 a9 K',a8p e.kids=.agg [a1,a2,a3,a4,a5,a6,a7,a8,a9]::K':=by
  cases e.kids with
  | nil=>exact .inl a0u
  | cons k ks=>rw[a0v,a0f];exact .inr ⟨_,_,_,_,_,_,_,_,_,_,rfl⟩
 generalize hK:a8p e.kids=K at *;rcases hes with hKK| ⟨a1,a2,a3,a4,a5,a6,a7,a8,a9,K',hKK⟩
 all_goals (
  simp only[go_sem,hKK,Tryz.f233,a0c,a0j,b2i,Nat.le_refl,List.take_length,Nat.zero_le,Int.toNat_zero,Int.le_refl];refine a4j (fun i=>⟨[(3,if i=0 then .full K else .own 89 0 (K++a8p ((e.alts.take i).map Al.body))),(16,.slice (b4r e.alts)),(17,.int .i64 e.alts.length),(18,.int .i64 i)],[],[],1⟩) e.alts.length ?_ ?_ ?_
  · simp only[go_sem,hKK]
  · intro i hi h;obtain⟨x,hx⟩:∃x,e.alts[i]? =some x:=⟨e.alts[i],List.getElem?_eq_getElem hi⟩
    have w1:IntKind.i64.wrap ((i:Int)+1)=((i+1:Nat):Int):=a1e (i+1) (by omega);have hsn:=b9u hx;rw[a0f] at hsn;have hlen2:(a8p ((e.alts.take i).map Al.body)).length≤e.alts.length:=by rw[a3v];simp;omega
    cases i with
    | zero=>
     have hap:K.length+1≤a0s:=by unfold a0s;omega
     simp only[hKK,List.length_cons,List.length_nil,Nat.zero_add] at hap;have hsn0:a8p ((e.alts.take 1).map Al.body)=[.agg [.int .i64 x.body.kind,.str x.body.name,.bool x.body.told,.int .i64 x.body.ty.kind,.str x.body.ty.name,.int .i64 x.body.ty.n,.slice (a3a x.body.ty.args),.slice (a8p x.body.kids),.slice (b4r x.body.alts)]]:=by
      rw[hsn];simp[a0u]
     have hi0:decide ((0:Int)<(e.alts.length:Int))=true:=decide_eq_true (by omega);simp only[go_sem,hKK,hi0,b4j,hx,b1r,a0f,hap,List.isEmpty_cons,Nat.zero_add,Int.le_refl,Int.toNat_zero];refine h _ ?_;simp only[go_sem,hKK,hsn0,show IntKind.i64.wrap ((0:Int)+1)=1 from by decide]
    | succ i=>
     have hap:(K++a8p ((e.alts.take (i+1)).map Al.body)).length+1≤a0s:=by rw[List.length_append];unfold a0s;omega
     simp only[hKK,List.nil_append,List.cons_append,List.length_cons,List.length_append] at hap;simp only[go_sem,hKK,a0g,decide_eq_true hi,a0c,a0j,b4j,hx,b1r,a0f,List.length_append,hap,Nat.zero_add];refine h _ ?_;simp only[go_sem,hKK,w1,hsn,List.append_assoc,List.cons_append]
  · by_cases h0:e.alts.length=0
    · have:e.alts=[]:=List.eq_nil_of_length_eq_zero h0;simp only[h0,if_true];simp only[go_sem,hKK,this,List.map_nil,a0u,Int.lt_irrefl,List.length_nil]
    · simp only[h0,if_false];simp only[go_sem,hKK,a0g,Nat.lt_irrefl,List.take_length])
theorem c4b(l:List Ex)(t:Ex):Ex.depths (l++[t])=max (Ex.depths l) t.depth:=by rw[c1d];simp[Ex.depths]
theorem c2a(l:List Ex)(t:Ex):Ex.tdeps (l++[t])=max (Ex.tdeps l) t.tdep:=by rw[c3r];simp[Ex.tdeps]
theorem e0x:∀(n:Nat) (e:Ex),e.tot≤n→e.tot<1000000→den E 194 [.agg (exC e)] []=some (.int .i64 e.depth,[]):=by
 intro n
 induction n with
 | zero=>intro e he;have:=b1f e;omega
 | succ n ih=>
  intro e he hs;have ht:=a9h e;have hl:=b3m e.inner;have hsz:=(h4x _ e (Nat.le_refl _)).2.1;have hin:=c8c e hs;rw[a0d g4u,h2b];rw[a0f] at hin⊢;rw[c8e] at hsz⊢;simp only[go_sem,Tryz.f194,hin,a3v];refine a4j (fun i=>⟨[(3,.int .i64 ((Ex.depths (e.inner.take i):Nat):Int)),(7,.slice (a8p e.inner)),(8,.int .i64 e.inner.length),(9,.int .i64 i)],[],[],1⟩) e.inner.length ?_ ?_ ?_
  · simp only[go_sem,List.take_zero,Ex.depths]
  · intro i hi h;obtain⟨x,hx⟩:∃x,e.inner[i]? =some x:=⟨e.inner[i],List.getElem?_eq_getElem hi⟩
    have hm:=b0o (List.mem_of_getElem? hx);have hd:=ih x (by omega) (by omega);rw[a0f] at hd;have w1:IntKind.i64.wrap ((i:Int)+1)=((i+1:Nat):Int):=a1e (i+1) (by omega);simp only[go_sem,a0g,decide_eq_true hi,a0c,a0j,a6f,hx,a0f,hd,c7p];refine h _ ?_;simp only[go_sem,w1,a6k hx,c4b]
  · have w1:IntKind.i64.wrap (((Ex.depths e.inner:Nat):Int)+1)=((Ex.depths e.inner+1:Nat):Int):=a1e (Ex.depths e.inner+1) (by omega);simp only[go_sem,a0g,Nat.lt_irrefl,List.take_length,w1]
theorem e5a(e:Ex):e.ty.sz≤e.tot:=by have:=c6i e;omega
theorem e9x:∀(n:Nat) (e:Ex),e.tot≤n→e.tot<1000000→den E 195 [.agg (exC e)] []=some (.int .i64 e.tdep,[]):=by
 intro n
 induction n with
 | zero=>intro e he;have:=b1f e;omega
 | succ n ih=>
  intro e he hs;have ht:=a9h e;have hl:=b3m e.inner;have hts:=e5a e;have hin:=c8c e hs;have htd:=c1z _ e.ty (Nat.le_refl _) (by omega);rw[a0d g4t,h2a];rw[a0a] at htd;rw[a0f] at hin⊢;rw[d9o];cases h1:e.told<;>rw[h1] at hin
  · cases h2:e.kind==7
    · simp only[go_sem,Tryz.f195,h2,hin,a3v];refine a4j (fun i=>⟨[(3,.int .i64 ((Ex.tdeps (e.inner.take i):Nat):Int)),(17,.slice (a8p e.inner)),(18,.int .i64 e.inner.length),(19,.int .i64 i)],[],[],1⟩) e.inner.length ?_ ?_ ?_
      · simp only[go_sem,List.take_zero,Ex.tdeps]
      · intro i hi h;obtain⟨x,hx⟩:∃x,e.inner[i]? =some x:=⟨e.inner[i],List.getElem?_eq_getElem hi⟩
        have hm:=b0o (List.mem_of_getElem? hx);have hd:=ih x (by omega) (by omega);rw[a0f] at hd;have w1:IntKind.i64.wrap ((i:Int)+1)=((i+1:Nat):Int):=a1e (i+1) (by omega);simp only[go_sem,a0g,decide_eq_true hi,a0c,a0j,a6f,hx,a0f,hd,c7p];refine h _ ?_;simp only[go_sem,w1,a6k hx,c2a]
      · simp only[go_sem,a0g,Nat.lt_irrefl,List.take_length,Nat.zero_max]
    · simp only[go_sem,Tryz.f195,h2,hin,a3v,htd];refine a4j (fun i=>⟨[(3,.int .i64 ((max e.ty.depth (Ex.tdeps (e.inner.take i)):Nat):Int)),(17,.slice (a8p e.inner)),(18,.int .i64 e.inner.length),(19,.int .i64 i)],[],[],1⟩) e.inner.length ?_ ?_ ?_
      · simp only[go_sem,List.take_zero,Ex.tdeps,Nat.max_zero]
      · intro i hi h;obtain⟨x,hx⟩:∃x,e.inner[i]? =some x:=⟨e.inner[i],List.getElem?_eq_getElem hi⟩
        have hm:=b0o (List.mem_of_getElem? hx);have hd:=ih x (by omega) (by omega);rw[a0f] at hd;have w1:IntKind.i64.wrap ((i:Int)+1)=((i+1:Nat):Int):=a1e (i+1) (by omega);simp only[go_sem,a0g,decide_eq_true hi,a0c,a0j,a6f,hx,a0f,hd,c7p];refine h _ ?_;simp only[go_sem,w1,a6k hx,c2a,Nat.max_assoc]
      · simp only[go_sem,a0g,Nat.lt_irrefl,List.take_length]
  · simp only[go_sem,Tryz.f195,hin,a3v,htd];refine a4j (fun i=>⟨[(3,.int .i64 ((max e.ty.depth (Ex.tdeps (e.inner.take i)):Nat):Int)),(17,.slice (a8p e.inner)),(18,.int .i64 e.inner.length),(19,.int .i64 i)],[],[],1⟩) e.inner.length ?_ ?_ ?_
    · simp only[go_sem,List.take_zero,Ex.tdeps,Nat.max_zero]
    · intro i hi h;obtain⟨x,hx⟩:∃x,e.inner[i]? =some x:=⟨e.inner[i],List.getElem?_eq_getElem hi⟩
      have hm:=b0o (List.mem_of_getElem? hx);have hd:=ih x (by omega) (by omega);rw[a0f] at hd;have w1:IntKind.i64.wrap ((i:Int)+1)=((i+1:Nat):Int):=a1e (i+1) (by omega);simp only[go_sem,a0g,decide_eq_true hi,a0c,a0j,a6f,hx,a0f,hd,c7p];refine h _ ?_;simp only[go_sem,w1,a6k hx,c2a,Nat.max_assoc]
    · simp only[go_sem,a0g,Nat.lt_irrefl,List.take_length]
theorem d0m(e:Ex)(hs:e.tot<1000000):den E 235 [.agg (exC e)] []=some (.slice (a8p e.inner),[]):=by
 have h1:=a9h e;have hl:=b3m e.inner;simp only[Ex.inner,List.length_append,List.length_map] at hl;have hle:Ex.tots e.inner=Ex.tots (e.kids++e.alts.map Al.body):=rfl;have hin:a8p e.inner=a8p e.kids++a8p (e.alts.map Al.body):=by rw[Ex.inner,b9h]
 rw[a0d g3t,h1c,a0f,hin];have hlk:=a3v e.kids;have hes:a8p e.kids=[]∨∃a1 a2 a3 a4 a5 a6 a7 a8 a9 K',a8p e.kids=.agg [a1,a2,a3,a4,a5,a6,a7,a8,a9]::K':=by
  cases e.kids with
  | nil=>exact .inl a0u
  | cons k ks=>rw[a0v,a0f];exact .inr ⟨_,_,_,_,_,_,_,_,_,_,rfl⟩
 generalize hK:a8p e.kids=K at *;rcases hes with hKK| ⟨a1,a2,a3,a4,a5,a6,a7,a8,a9,K',hKK⟩
 all_goals (
  have hap0:K.length≤a0s:=by unfold a0s;omega
  simp only[hKK,List.length_cons,List.length_nil] at hap0;simp only[go_sem,Tryz.f235,hKK,hap0,Nat.zero_add,Nat.zero_le];refine a4j (fun i=>⟨[(1,.ptr (.loc 1) 0),(3,.own 168 0 (K++a8p ((e.alts.take i).map Al.body))),(4,.int .i64 i)],[],[(1,exC e)],1⟩) e.alts.length ?_ ?_ ?_
  · simp only[go_sem,hKK,a0f,hK,List.take_zero,List.map_nil,a0u]
  · intro i hi h;obtain⟨x,hx⟩:∃x,e.alts[i]? =some x:=⟨e.alts[i],List.getElem?_eq_getElem hi⟩
    have w1:IntKind.i64.wrap ((i:Int)+1)=((i+1:Nat):Int):=a1e (i+1) (by omega);have hsn:=b9u hx;rw[a0f] at hsn;have hlen2:(a8p ((e.alts.take i).map Al.body)).length≤e.alts.length:=by rw[a3v];simp;omega
    have hap:(K++a8p ((e.alts.take i).map Al.body)).length+1≤a0s:=by rw[List.length_append];unfold a0s;omega
    simp only[hKK,List.nil_append,List.cons_append,List.length_cons] at hap;simp only[go_sem,hKK,a0f,hK,a0g,b2i,decide_eq_true hi,a0c,a0j,b4j,hx,b1r,a0f,hap];refine h _ ?_;simp only[go_sem,hKK,a0f,hK,w1,hsn,List.append_assoc,List.cons_append]
  · simp only[go_sem,hKK,a0f,hK,a0g,Nat.lt_irrefl,b2i,List.take_length])
theorem e0c:∀(n:Nat) (e:Ex),e.tot≤n→e.tot<1000000→den E 202 [.agg (exC e)] []=some (.int .i64 e.depth,[]):=by
 intro n
 induction n with
 | zero=>intro e he;have:=b1f e;omega
 | succ n ih=>
  intro e he hs;have ht:=a9h e;have hl:=b3m e.inner;have hsz:=(h4x _ e (Nat.le_refl _)).2.1;have hin:=d0m e hs;rw[a0d g4o,h1v];rw[a0f] at hin⊢;rw[c8e] at hsz⊢;simp only[go_sem,Tryz.f202,hin];refine a4j (fun i=>⟨[(3,.int .i64 ((Ex.depths (e.inner.take i):Nat):Int)),(4,.slice (a8p e.inner)),(5,.int .i64 i)],[],[],1⟩) e.inner.length ?_ ?_ ?_
  · simp only[go_sem,List.take_zero,Ex.depths]
  · intro i hi h;obtain⟨x,hx⟩:∃x,e.inner[i]? =some x:=⟨e.inner[i],List.getElem?_eq_getElem hi⟩
    have hm:=b0o (List.mem_of_getElem? hx);have hd:=ih x (by omega) (by omega);rw[a0f] at hd;have w1:IntKind.i64.wrap ((i:Int)+1)=((i+1:Nat):Int):=a1e (i+1) (by omega);simp only[go_sem,a0g,a3v,decide_eq_true hi,a0c,a0j,a6f,hx,a0f,hd,c7p];refine h _ ?_;simp only[go_sem,w1,a6k hx,c4b]
  · have w1:IntKind.i64.wrap (((Ex.depths e.inner:Nat):Int)+1)=((Ex.depths e.inner+1:Nat):Int):=a1e (Ex.depths e.inner+1) (by omega);simp only[go_sem,a0g,a3v,Nat.lt_irrefl,List.take_length,w1]
def b6g(e:Ex):Bool:=decide (e.tdep>50)
theorem g9m(e:Ex):b6g e=(((e.told||e.kind==7)&&decide (e.ty.depth>50))||e.inner.any b6g):=by
 have key:∀l:List Ex,decide (Ex.tdeps l>50)=l.any b6g:=by
  intro l
  induction l with
  | nil=>simp[Ex.tdeps]
  | cons a l ih=>
   simp only[Ex.tdeps];rw[List.any_cons,←ih];show decide (max a.tdep (Ex.tdeps l)>50)=(decide (a.tdep>50)||decide (Ex.tdeps l>50))
   rw[←Bool.decide_or];exact decide_eq_decide.2 (by omega)
 rw[←key];unfold b6g;rw[d9o,Bool.eq_iff_iff];simp only[decide_eq_true_eq,Bool.or_eq_true,Bool.and_eq_true];split
 · rename_i h;simp only[h,true_and];omega
 · rename_i h;simp only[h,false_and,false_or];omega
theorem b4g{α:Type}{p:α→Bool}{l:List α}{i:Nat}{x:α}(h:l[i]? =some x)(h0:(l.take i).any p=false):(p x=true→l.any p=true)∧(p x=false→(l.take (i+1)).any p=false):=by
 refine⟨fun hx=>List.any_eq_true.2 ⟨x,List.mem_of_getElem? h,hx⟩,fun hx=>?_⟩;rw[a6k h,List.any_append,h0];simp[hx]
theorem e6r:∀(n:Nat) (e:Ex),e.tot≤n→e.tot<1000000→den E 201 [.agg (exC e)] []=some (.bool (b6g e),[]):=by
 intro n
 induction n with
 | zero=>intro e he;have:=b1f e;omega
 | succ n ih=>
  intro e he hs;have ht:=a9h e;have hl:=b3m e.inner;have hts:=e5a e;have hin:=d0m e hs;have htd:=c2i _ e.ty (Nat.le_refl _) (by omega);rw[a0d g4p,h1w];rw[a0a] at htd;rw[a0f] at hin⊢;have hgt:decide ((e.ty.depth:Int)>50)=decide (e.ty.depth>50):=by simp;omega
  rw[g9m];cases h1:e.told<;>rw[h1] at hin
  · cases h2:e.kind==7
    · simp only[go_sem,Tryz.f201,h2,hin];refine a0p (fun i:Nat=>i≤e.inner.length∧(e.inner.take i).any b6g=false) (fun i=>⟨[(3,.slice (a8p e.inner)),(4,.int .i64 i)],[],[],1⟩) (fun _=>some (.bool (e.inner.any b6g),[])) (fun i=>e.inner.length - i) 0 ⟨Nat.zero_le _,by simp⟩ ?_ ?_
      · simp only[go_sem]
      · rintro i ⟨hi,h0⟩ h
        by_cases hlt:i<e.inner.length
        · obtain⟨x,hx⟩:∃x,e.inner[i]? =some x:=⟨e.inner[i],List.getElem?_eq_getElem hlt⟩
          have hm:=b0o (List.mem_of_getElem? hx);have hd:=ih x (by omega) (by omega);rw[a0f] at hd;have w1:IntKind.i64.wrap ((i:Int)+1)=((i+1:Nat):Int):=a1e (i+1) (by omega);obtain⟨ya,yb⟩:=b4g hx h0;cases hdx:b6g x
          · simp only[go_sem,a0g,a3v,decide_eq_true hlt,a0c,a0j,a6f,hx,a0f,hd,hdx];refine h (i+1) _ ⟨hlt,yb hdx⟩ (by omega) ?_;simp only[go_sem,w1]
          · simp only[go_sem,a0g,a3v,decide_eq_true hlt,a0c,a0j,a6f,hx,a0f,hd,hdx,ya hdx]
        · have hie:i=e.inner.length:=by omega
          subst hie;rw[List.take_length] at h0;simp only[go_sem,a0g,a3v,Nat.lt_irrefl,h0]
    · cases h3:decide (e.ty.depth>50)
      · simp only[go_sem,Tryz.f201,h2,hin,htd,hgt,h3];refine a0p (fun i:Nat=>i≤e.inner.length∧(e.inner.take i).any b6g=false) (fun i=>⟨[(3,.slice (a8p e.inner)),(4,.int .i64 i)],[],[],1⟩) (fun _=>some (.bool (e.inner.any b6g),[])) (fun i=>e.inner.length - i) 0 ⟨Nat.zero_le _,by simp⟩ ?_ ?_
        · simp only[go_sem]
        · rintro i ⟨hi,h0⟩ h
          by_cases hlt:i<e.inner.length
          · obtain⟨x,hx⟩:∃x,e.inner[i]? =some x:=⟨e.inner[i],List.getElem?_eq_getElem hlt⟩
            have hm:=b0o (List.mem_of_getElem? hx);have hd:=ih x (by omega) (by omega);rw[a0f] at hd;have w1:IntKind.i64.wrap ((i:Int)+1)=((i+1:Nat):Int):=a1e (i+1) (by omega);obtain⟨ya,yb⟩:=b4g hx h0;cases hdx:b6g x
            · simp only[go_sem,a0g,a3v,decide_eq_true hlt,a0c,a0j,a6f,hx,a0f,hd,hdx];refine h (i+1) _ ⟨hlt,yb hdx⟩ (by omega) ?_;simp only[go_sem,w1]
            · simp only[go_sem,a0g,a3v,decide_eq_true hlt,a0c,a0j,a6f,hx,a0f,hd,hdx,ya hdx]
          · have hie:i=e.inner.length:=by omega
            subst hie;rw[List.take_length] at h0;simp only[go_sem,a0g,a3v,Nat.lt_irrefl,h0]
      · simp only[go_sem,Tryz.f201,h2,htd,hgt,h3]
  · cases h3:decide (e.ty.depth>50)
    · simp only[go_sem,Tryz.f201,hin,htd,hgt,h3];refine a0p (fun i:Nat=>i≤e.inner.length∧(e.inner.take i).any b6g=false) (fun i=>⟨[(3,.slice (a8p e.inner)),(4,.int .i64 i)],[],[],1⟩) (fun _=>some (.bool (e.inner.any b6g),[])) (fun i=>e.inner.length - i) 0 ⟨Nat.zero_le _,by simp⟩ ?_ ?_
      · simp only[go_sem]
      · rintro i ⟨hi,h0⟩ h
        by_cases hlt:i<e.inner.length
        · obtain⟨x,hx⟩:∃x,e.inner[i]? =some x:=⟨e.inner[i],List.getElem?_eq_getElem hlt⟩
          have hm:=b0o (List.mem_of_getElem? hx);have hd:=ih x (by omega) (by omega);rw[a0f] at hd;have w1:IntKind.i64.wrap ((i:Int)+1)=((i+1:Nat):Int):=a1e (i+1) (by omega);obtain⟨ya,yb⟩:=b4g hx h0;cases hdx:b6g x
          · simp only[go_sem,a0g,a3v,decide_eq_true hlt,a0c,a0j,a6f,hx,a0f,hd,hdx];refine h (i+1) _ ⟨hlt,yb hdx⟩ (by omega) ?_;simp only[go_sem,w1]
          · simp only[go_sem,a0g,a3v,decide_eq_true hlt,a0c,a0j,a6f,hx,a0f,hd,hdx,ya hdx]
        · have hie:i=e.inner.length:=by omega
          subst hie;rw[List.take_length] at h0;simp only[go_sem,a0g,a3v,Nat.lt_irrefl,h0]
    · simp only[go_sem,Tryz.f201,htd,hgt,h3]
def b1t(s:List UInt8):List Tok×Int:=
 if s.length>4000 then ([],2) else match a9x (s.length+1) (a7j false s) (s.drop (a7j false s)) with
  | .ok l=>(l,0)
  | .error _=>([],10)
theorem f3f(s:List UInt8):∃p,c9l s=.tup [.slice (a2j (b1t s).1),.int .i64 p,.int .i64 (b1t s).2]:=by
 unfold c9l b1t;split
 · exact⟨0,by simp[b2t]⟩
 · cases a9x (s.length+1) (a7j false s) (s.drop (a7j false s)) with
   | ok l=>exact⟨0,by simp[b7x]⟩
   | error p=>exact⟨p,by simp[b7x,b2t]⟩
theorem d9w(s:List UInt8):den E 45 [.str s] []=some (c9l s,[]):=by
 by_cases h:s.length<1000000
 · exact g2k s h
 · rw[a0d f3x,g0q];have h1:decide ((s.length:Int)>4000)=true:=decide_eq_true (by omega);unfold c9l;rw[if_pos (by omega)];simp only[go_sem,Tryz.f45,h1]
theorem d6i(s:List UInt8):den E 48 [.str s] []=some (c9l s,[]):=by
 by_cases h:s.length<1000000
 · exact f3g s h
 · rw[a0d f3w,g0p];have h1:decide ((s.length:Int)>4000)=true:=decide_eq_true (by omega);unfold c9l;rw[if_pos (by omega)];simp only[go_sem,Tryz.f48,h1]
def De.tot(d:De):Nat:=Ty.szs (d.cons.map Co.ty)+d.ty.sz+d.val.tot+d.cons.length+d.vars.length
def f9s(c:Co):Bool:=decide (c.ty.depth>50)
def b3z(d:De):Bool:=d.cons.any f9s||(decide (d.ty.depth>50)||(decide (d.val.depth>50)||decide (d.val.tdep>50)))
theorem e1v(t:Ty):decide ((t.depth:Int)>50)=decide (t.depth>50):=by simp;omega
theorem c7i(n:Nat):decide ((n:Int)>50)=decide (n>50):=by simp;omega
theorem c5r(l:List Co)(i:Nat):(l.map coV)[i]? =(l[i]?).map coV:=by simp
theorem c8s{l:List Co}{c:Co}(h:c∈l):c.ty.sz≤Ty.szs (l.map Co.ty):=a2p (List.mem_map.2 ⟨c,h,rfl⟩)
theorem f9r(d:De)(hs:d.tot<1000000):den E 136 [.agg (deC d)] []=some (.bool (b3z d),[]):=by
 unfold De.tot at hs;have e1:=c1z _ d.ty (Nat.le_refl _) (by omega);have e2:=e0x _ d.val (Nat.le_refl _) (by omega);have e3:=e9x _ d.val (Nat.le_refl _) (by omega);rw[a0a] at e1;rw[a0f] at e2 e3;rw[a0d g5y,h3e];unfold deC;simp only[go_sem,Tryz.f136,List.length_map];refine a0p (fun i:Nat=>i≤d.cons.length∧(d.cons.take i).any f9s=false) (fun i=>⟨[(1,.ptr (.loc 1) 0),(6,.slice (d.cons.map coV)),(7,.int .i64 d.cons.length),(8,.int .i64 i)],[],[(1,deC d)],1⟩) (fun _=>some (.bool (b3z d),[])) (fun i=>d.cons.length - i) 0 ⟨Nat.zero_le _,by simp⟩ ?_ ?_
 · simp only[go_sem,deC]
 · rintro i ⟨hi,h0⟩ h
   by_cases hlt:i<d.cons.length
   · obtain⟨x,hx⟩:∃x,d.cons[i]? =some x:=⟨d.cons[i],List.getElem?_eq_getElem hlt⟩
     have hm:=c8s (List.mem_of_getElem? hx);have hd:=c1z _ x.ty (Nat.le_refl _) (by omega);rw[a0a] at hd;have w1:IntKind.i64.wrap ((i:Int)+1)=((i+1:Nat):Int):=a1e (i+1) (by omega);obtain⟨ya,yb⟩:=b4g hx h0;have hdc:f9s x=decide (x.ty.depth>50):=rfl;cases hdx:decide (x.ty.depth>50)
     · simp only[go_sem,deC,a0g,decide_eq_true hlt,a0c,a0j,c5r,hx,coV,hd,e1v,hdx];refine h (i+1) _ ⟨hlt,yb (hdc.trans hdx)⟩ (by omega) ?_;simp only[go_sem,deC,w1]
     · have:b3z d=true:=by unfold b3z;rw[ya (hdc.trans hdx)];rfl
       simp only[go_sem,deC,a0g,decide_eq_true hlt,a0c,a0j,c5r,hx,coV,hd,e1v,hdx,this]
   · have hie:i=d.cons.length:=by omega
     subst hie;rw[List.take_length] at h0;have hD:b3z d=(decide (d.ty.depth>50)||(decide (d.val.depth>50)||decide (d.val.tdep>50))):=by unfold b3z;rw[h0];rfl
     rw[hD];cases q1:decide (d.ty.depth>50)
     · cases q2:decide (d.val.depth>50)
       · simp only[go_sem,deC,a0g,Nat.lt_irrefl,e1,e2,e3,c7i,q1,q2]
       · simp only[go_sem,deC,a0g,Nat.lt_irrefl,e1,e2,c7i,q1,q2]
     · simp only[go_sem,deC,a0g,Nat.lt_irrefl,e1,c7i,q1]
theorem e6s(d:De)(hs:d.tot<1000000):den E 139 [.agg (deC d)] []=some (.bool (b3z d),[]):=by
 unfold De.tot at hs;have e1:=c2i _ d.ty (Nat.le_refl _) (by omega);have e2:=e0c _ d.val (Nat.le_refl _) (by omega);have e3:=e6r _ d.val (Nat.le_refl _) (by omega);rw[a0a] at e1;rw[a0f] at e2 e3;rw[a0d g5w,h3c];unfold deC;simp only[go_sem,Tryz.f139];refine a0p (fun i:Nat=>i≤d.cons.length∧(d.cons.take i).any f9s=false) (fun i=>⟨[(1,.ptr (.loc 1) 0),(3,.int .i64 i)],[],[(1,deC d)],1⟩) (fun _=>some (.bool (b3z d),[])) (fun i=>d.cons.length - i) 0 ⟨Nat.zero_le _,by simp⟩ ?_ ?_
 · simp only[go_sem,deC]
 · rintro i ⟨hi,h0⟩ h
   by_cases hlt:i<d.cons.length
   · obtain⟨x,hx⟩:∃x,d.cons[i]? =some x:=⟨d.cons[i],List.getElem?_eq_getElem hlt⟩
     have hm:=c8s (List.mem_of_getElem? hx);have hd:=c2i _ x.ty (Nat.le_refl _) (by omega);rw[a0a] at hd;have w1:IntKind.i64.wrap ((i:Int)+1)=((i+1:Nat):Int):=a1e (i+1) (by omega);obtain⟨ya,yb⟩:=b4g hx h0;have hdc:f9s x=decide (x.ty.depth>50):=rfl;cases hdx:decide (x.ty.depth>50)
     · simp only[go_sem,deC,a0g,List.length_map,decide_eq_true hlt,a0c,a0j,c5r,hx,coV,hd,e1v,hdx];refine h (i+1) _ ⟨hlt,yb (hdc.trans hdx)⟩ (by omega) ?_;simp only[go_sem,deC,w1]
     · have:b3z d=true:=by unfold b3z;rw[ya (hdc.trans hdx)];rfl
       simp only[go_sem,deC,a0g,List.length_map,decide_eq_true hlt,a0c,a0j,c5r,hx,coV,hd,e1v,hdx,this]
   · have hie:i=d.cons.length:=by omega
     subst hie;rw[List.take_length] at h0;have hD:b3z d=(b6g d.val||(decide (d.ty.depth>50)||decide (d.val.depth>50))):=by
      unfold b3z b6g;rw[h0];cases decide (d.ty.depth>50)<;>cases decide (d.val.depth>50)<;>cases decide (d.val.tdep>50)<;>rfl
     rw[hD];cases q0:b6g d.val
     · rw[q0] at e3;cases q1:decide (d.ty.depth>50)
       · simp only[go_sem,deC,a0g,List.length_map,Nat.lt_irrefl,e1,e2,e3,c7i,q1]
       · simp only[go_sem,deC,a0g,List.length_map,Nat.lt_irrefl,e1,e3,c7i,q1]
     · rw[q0] at e3;simp only[go_sem,deC,a0g,List.length_map,Nat.lt_irrefl,e3]
def f1o(f:Nat):Nat→List De→Rd→Option (List De×Rd)
 | 0,_,_=>none
 | g+1,acc,q=>match deR f q with
  | none=>none
  | some (d,r)=>if a1n r 6 [59] then f1o f g (acc++[d]) (a0r r 6 [59]) else some (acc++[d],r)
def f9p(f:Nat)(l:List Tok):Option (List De×Rd):=match l with
 | []=>some ([],⟨[],false⟩)
 | t::q=>f1o f f [] ⟨t::q,false⟩
def i6i(ds:List De)(r:Rd):List De×Int:=if r.bad||decide (0<r.l.length) then ([],80) else if ds.any b3z then ([],3) else (ds,0)
def b5s(f:Nat)(s:List UInt8):Option (List De×Int):=
 if (b1t s).2 !=0 then some ([],(b1t s).2) else match f9p f (b1t s).1 with
  | none=>none
  | some (ds,r)=>some (i6i ds r)
def deV(d:De):AVal:=.agg (deC d)
def d3v(p:List De×Int):AVal:=.tup [.slice (p.1.map deV),.int .i64 p.2]
theorem d4x(l:List De)(i:Nat):(l.map deV)[i]? =(l[i]?).map deV:=by simp
theorem b6n(a b:Int):(a !=b)= !(a==b):=rfl
theorem f4a(f:Nat)(s:List UInt8)(p:List De×Int)(hok:∀t∈(b1t s).1,c1x t)(hlen:(b1t s).1.length<1000000)
 (htot:∀ds r,f9p f (b1t s).1=some (ds,r)→r.bad=false→ds.length<1000000∧∀d∈ds,d.tot<1000000) (h:b5s f s=some p):den E 78 [.str s] []=some (d3v p,[]):=by
 rw[a0d i3y,i7h];obtain⟨pos,hT⟩:=f3f s;have hsc:=d9w s;rw[hT] at hsc;unfold b5s at h;generalize (b1t s).1=l at *;generalize (b1t s).2=e at *;cases he:e==0
 · have he':(e !=0)=true:=by rw[b6n,he];rfl
   rw[he',if_pos rfl] at h;injection h with h;subst h;simp only[go_sem,Tryz.f78,hsc,he',d3v,List.map_nil]
 · have he':(e !=0)=false:=by rw[b6n,he];rfl
   rw[he'] at h;simp only[Bool.false_eq_true,if_false] at h;split at h
   · cases h
   · rename_i ds r hds;injection h with h;subst h;cases l with
     | nil=>
      simp only[f9p,Option.some.injEq,Prod.mk.injEq] at hds;obtain⟨rfl,rfl⟩:=hds;simp only[go_sem,Tryz.f78,hsc,he',b2t,show decide ((0:Int)>0)=false from rfl];refine a4j (fun i=>⟨[(8,.own 91 0 []),(50,.slice []),(51,.int .i64 0),(52,.int .i64 i)],[],[],1⟩) 0 ?_ ?_ ?_
      · simp only[go_sem]
      · intro i hi;omega
      · simp only[go_sem,i6i,d3v,List.map_nil,List.any_nil,Nat.lt_irrefl]
     | cons t0 q0=>
      have hl0:decide ((((a2j q0).length+1:Nat):Int)>0)=true:=by simp
      simp only[f9p] at hds htot;generalize hL:t0::q0=l at *;have hokS:∀ {q:List Tok},q<:+l→∀t∈q,c1x t:=fun hs t ht=>hok t (hs.subset ht);have step:∀g,g≤f→∀acc q,q.l<:+l→acc.length+q.l.length≤l.length+1→f1o f g acc q=some (ds,r)→∃g' d r4,g'<g∧r4.l<:+q.l∧
       den E 134 [.ptr (.par 0) 0] [rdV q]=some (.agg (deC d),[rdV r4])∧(if a1n r4 6 [59] then f1o f g' (acc++[d]) (a0r r4 6 [59]) else some (acc++[d],r4))=some (ds,r):=by
       intro g hg acc q hq hac h;cases g with
       | zero=>cases h
       | succ g=>
        simp only[f1o] at h;split at h
        · cases h
        · rename_i d r4 h4;exact⟨g,d,r4,Nat.lt_succ_self g,c8p h4,j4j f q d r4 (hokS hq) (Nat.lt_of_le_of_lt hq.length_le hlen) h4,h⟩
      obtain⟨g0,d0,r0,hg0,hs0,e0,k0⟩:=step f (Nat.le_refl _) [] ⟨l,false⟩ (List.suffix_refl _) (by simp) hds;have hVl:a2j l=b2o t0::a2j q0:=by rw[←hL,a4o];rfl
      simp only[rdV,hVl,b2o] at e0;simp only[go_sem,Tryz.f78,hsc,he',hVl,b2o,List.length_cons,hl0,e0,deC];refine a0p (fun x:Nat×List De×Rd=>x.1≤f∧x.2.2.l<:+l∧x.2.1.length+x.2.2.l.length≤l.length+1∧(if a1n x.2.2 6 [59] then f1o f x.1 x.2.1 (a0r x.2.2 6 [59]) else some (x.2.1,x.2.2))=some (ds,r))
       (fun x=>⟨[(7,.ptr (.loc 22) 0),(8,.own 91 0 (x.2.1.map deV))],[],[(22,rdV x.2.2)],1⟩) (fun _=>some (d3v (i6i ds r),[])) (fun x=>x.1) (g0,[d0],r0) ⟨by omega,hs0,?_,k0⟩ ?_ ?_
      · have:=hs0.length_le;simp only[List.length_singleton] at this⊢;omega
      · simp only[go_sem,rdV,deV,deC]
      · rintro⟨g,acc,q⟩ ⟨hg,hq,hle,hx⟩ hrun;simp only at hg hq hle hx hrun⊢;have b1:=a4p q 6 [59];cases h1:a1n q 6 [59]
        · rw[h1] at hx b1;simp only[Bool.false_eq_true,if_false] at hx;injection hx with hx;injection hx with hx1 hx2;subst hx1;subst hx2;have hk:a0r q 6 [59]=q:=by unfold a0r;rw[h1];rfl
          rw[hk] at b1;unfold i6i;simp only[rdV] at b1⊢;cases hb:q.bad
          · have hgt:decide (((a2j q.l).length:Int)>0)=decide (0<q.l.length):=by rw[a0y];simp
            cases hn:decide (0<q.l.length)
            · obtain⟨hdl,hdt⟩:=htot _ _ hds hb;rw[hb] at b1;simp only[go_sem,b1,hgt,hn,List.length_map];refine a0p (fun i:Nat=>i≤acc.length∧(acc.take i).any b3z=false) (fun i=>⟨[(8,.own 91 0 (acc.map deV)),(50,.slice (acc.map deV)),(51,.int .i64 acc.length),(52,.int .i64 i)],[],[],1⟩)
               (fun _=>some (d3v (if acc.any b3z then ([],3) else (acc,0)),[])) (fun i=>acc.length - i) 0 ⟨Nat.zero_le _,by simp⟩ ?_ ?_
              · simp only[go_sem]
              · rintro i ⟨hi,h0⟩ h
                by_cases hlt:i<acc.length
                · obtain⟨x,hx⟩:∃x,acc[i]? =some x:=⟨acc[i],List.getElem?_eq_getElem hlt⟩
                  have hd:=f9r x (hdt x (List.mem_of_getElem? hx));have w1:IntKind.i64.wrap ((i:Int)+1)=((i+1:Nat):Int):=a1e (i+1) (by omega);obtain⟨ya,yb⟩:=b4g hx h0;rw[deC] at hd;cases hdx:b3z x
                  · rw[hdx] at hd;simp only[go_sem,a0g,decide_eq_true hlt,a0c,a0j,d4x,hx,deV,deC,hd];refine h (i+1) _ ⟨hlt,yb hdx⟩ (by omega) ?_;simp only[go_sem,w1]
                  · rw[hdx] at hd;simp only[go_sem,a0g,decide_eq_true hlt,a0c,a0j,d4x,hx,deV,deC,hd,ya hdx,d3v,List.map_nil]
                · have hie:i=acc.length:=by omega
                  subst hie;rw[List.take_length] at h0;simp only[go_sem,a0g,Nat.lt_irrefl,h0,d3v]
            · rw[hb] at b1;simp only[go_sem,b1,hgt,hn,d3v,List.map_nil]
          · rw[hb] at b1;simp only[go_sem,b1,d3v,List.map_nil]
        · rw[h1] at hx b1;simp only[if_true] at hx;obtain⟨hb,t,w,hw⟩:=a3o h1;have hk:(a0r q 6 [59]).l.length+1=q.l.length:=by unfold a0r;rw[h1,if_pos rfl,hw];simp
          have hsq:=a0l q 6 [59];obtain⟨g',d,r',hg',hs',d',e'⟩:=step g (by omega) acc _ (hsq.trans hq) (by omega) hx;have hap:(acc.map deV).length+1≤a0s:=by rw[List.length_map];unfold a0s;omega
          have hmap:acc.map deV++[.agg (deC d)]=(acc++[d]).map deV:=by rw[List.map_append];rfl
          rw[deC] at hmap d';simp only[rdV] at b1 d'⊢;simp only[go_sem,b1,d',hap,hmap];refine hrun (g',acc++[d],r') _ ⟨by omega,hs'.trans (hsq.trans hq),?_,e'⟩ hg' ?_
          · have:=hs'.length_le;simp only[List.length_append,List.length_singleton];omega
          · simp only[go_sem,rdV]
def idx(full:List Tok)(r:Rd):Int:=if r.bad then -1 else ((full.length - r.l.length:Nat):Int)
theorem b1n{full:List Tok}{r:Rd}(h:r.bad=true):idx full r= -1:=by unfold idx;rw[h];rfl
theorem d7x{full:List Tok}{r:Rd}(h:r.bad=false):idx full r=((full.length - r.l.length:Nat):Int):=by unfold idx;rw[h];rfl
theorem j4i(full l:List Tok):idx full ⟨l,true⟩= -1:=rfl
theorem idxG(full l:List Tok):idx full ⟨l,false⟩=((full.length - l.length:Nat):Int):=rfl
theorem c7h(n:Nat):decide ((n:Int)<0)=false:=by simp
theorem j4e(n:Nat):decide ((n:Int)≥0)=true:=by simp
theorem a3u(full:List Tok)(r:Rd)(k:Int)(s:List UInt8)(hs:r.l<:+full):
 den E 138 [.slice (a2j full),.int .i64 (idx full r),.int .i64 k,.str s] []=some (.bool (a1n r k s),[]):=by
 rw[a0d g5x,h3d];unfold a1n;cases hb:r.bad
 · have h1:=d1e full (full.length - r.l.length) k s;rw[a6x hs] at h1;rw[d7x hb];simp only[go_sem,Tryz.f138,c7h,h1]
 · rw[b1n hb];simp only[go_sem,Tryz.f138]
theorem c0t{full:List Tok}{r:Rd}{k:Int}{s:List UInt8}(hs:r.l<:+full)(h:a1n r k s=true):idx full ⟨r.l.tail,false⟩=idx full r+1∧idx full r=((full.length - r.l.length:Nat):Int)∧full.length - r.l.length<full.length:=by
 obtain⟨hb,t,q,hl⟩:=a3o h;have:=hs.length_le;rw[hl,List.length_cons] at this;rw[d7x (r:=r) hb];refine⟨?_,rfl,?_⟩
 · unfold idx;rw[hl];simp only[Bool.false_eq_true,if_false,List.tail_cons,List.length_cons];omega
 · rw[hl,List.length_cons];omega
theorem a2f(full:List Tok)(r:Rd)(k:Int)(s:List UInt8)(hs:r.l<:+full)(hlen:full.length<1000000):
 den E 198 [.slice (a2j full),.int .i64 (idx full r),.int .i64 k,.str s] []=some (.int .i64 (idx full (a0o r k s)),[]):=by
 rw[a0d e3g,e5p];have h1:=a3u full r k s hs;unfold a0o;cases h:a1n r k s
 · rw[h] at h1;simp only[go_sem,Tryz.f198,h1,j4i]
 · rw[h] at h1;obtain⟨i1,i2,i3⟩:=c0t hs h;have w1:IntKind.i64.wrap (idx full r+1)=idx full r+1:=by rw[i2];exact IntWalk.i64_in _ (by omega)
   simp only[go_sem,Tryz.f198,h1,w1,i1]
def a9o(r:Rd):List UInt8:=if r.bad then [] else match r.l with
 | []=>[]
 | t::_=>t.text
theorem b1a{r:Rd}{k:Int}{s:List UInt8}(h:a1n r k s=true):a9o r=a7b r k s:=by
 obtain⟨hb,t,q,hl⟩:=a3o h;unfold a9o a7b;rw[h,hb,hl];rfl
theorem b6t(full:List Tok)(r:Rd)(hs:r.l<:+full):den E 196 [.slice (a2j full),.int .i64 (idx full r)] []=some (.str (a9o r),[]):=by
 rw[a0d g4s,h1z];unfold a9o;cases hb:r.bad
 · rw[d7x hb];have hle:=hs.length_le;cases hl:r.l with
   | nil=>
    have hge:decide (((full.length - 0:Nat):Int)≥((full.length:Nat):Int))=true:=by simp
    simp only[go_sem,Tryz.f196,c7h,a0y,hge]
   | cons t q=>
    rw[hl] at hs hle;simp only[List.length_cons] at hle;have hge:decide (((full.length - (t::q).length:Nat):Int)≥((full.length:Nat):Int))=false:=by simp;omega
    have hg:=(b0u (a6x hs)).1;simp only[List.length_cons] at hge hg;simp only[go_sem,Tryz.f196,c7h,a0y,hge,a0c,a0j,a1f,hg,b2o,List.length_cons]
 · rw[b1n hb];simp only[go_sem,Tryz.f196]
theorem b9s(full:List Tok)(hok:∀t∈full,b9t t)(hlen:full.length<1000000)(f:Nat)(r:Rd)(x:Ty×Rd)(hs:r.l<:+full)(h:d5x f r=some x):
 ∃t',den E 199 [.slice (a2j full),.int .i64 (idx full r)] []=some (.tup [tyV t',.int .i64 (idx full x.2)],[])∧(x.2.bad=false→t'=x.1):=by
 rw[a0d g4q,h1x];unfold d5x at h;cases hb:r.bad
 · rw[hb] at h;simp only[Bool.false_eq_true,if_false] at h;rw[d7x hb];split at h
   · cases h
   · rename_i t ok l' ht;have h2:=h5w full hok hlen f .typ (full.length - r.l.length) (t,ok,l') (by omega) (by rw[a6x hs];exact ht);obtain⟨t',j,h3,h4⟩:=h2;cases ok
     · simp only[Bool.false_eq_true,if_false] at h;injection h with h;subst h;have:=c3m h4;subst this;refine⟨t',?_,fun h=>by cases h⟩;rw[a0a] at h3;simp only[go_sem,Tryz.f199,c7h,h3,a0a,j4i]
     · simp only[if_true] at h;injection h with h;subst h;obtain⟨rfl,rfl⟩:=d5n h4;refine⟨t',?_,fun _=>rfl⟩;rw[a0a] at h3;simp only[go_sem,Tryz.f199,c7h,h3,a0a,idxG]
 · rw[hb] at h;simp only[if_true] at h;injection h with h;subst h;refine⟨zTy,?_,fun h2=>absurd (hb.symm.trans h2) (by decide)⟩;rw[b1n hb];simp only[go_sem,Tryz.f199,d2l]
theorem c7m(full:List Tok)(r:Rd)(hs:r.l<:+full)(hlen:full.length<1000000):
 den E 197 [.slice (a2j full),.int .i64 (idx full r)] []=some (.tup [.slice ((a3p r).map .str),.int .i64 (idx full (a2q r))],[]):=by
 rw[a0d g4r,h1y];have h1:=a3u full r 1 [] hs;simp only[go_sem,Tryz.f197,h1];refine a0p (fun x:List (List UInt8)×List Tok=>x.2=r.l.drop x.1.length∧a3p r=x.1++a3p ⟨x.2,r.bad⟩∧x.1.length+x.2.length≤r.l.length) (fun x=>⟨[(0,.slice (a2j full)),(1,.int .i64 (idx full ⟨x.2,r.bad⟩)),(6,.own 9 0 (x.1.map .str)),(7,.bool (a1n ⟨x.2,r.bad⟩ 1 []))],[],[],1⟩)
  (fun _=>some (.tup [.slice ((a3p r).map .str),.int .i64 (idx full (a2q r))],[])) (fun x=>x.2.length) ([],r.l) ⟨by simp,by simp,by simp⟩ ?_ ?_
 · simp only[go_sem,List.map_nil]
 · rintro⟨names,lx⟩ ⟨hdrop,hnames,hle⟩ hrun;simp only at hdrop hnames hle hrun⊢;have hsx:lx<:+full:=(hdrop▸List.drop_suffix _ _:lx<:+r.l).trans hs;cases b1:a1n ⟨lx,r.bad⟩ 1 []
   · have hnx:a3p ⟨lx,r.bad⟩=[]:=by
      unfold a1n at b1;unfold a3p;cases hb:r.bad
      · simp only[hb,Bool.not_false,Bool.true_and] at b1;simp only[Bool.false_eq_true,if_false];cases lx with
        | nil=>rfl
        | cons t q=>simp only[a2n] at b1;simp only[a4d];rw[show (t.kind==1)=false by simpa using b1];rfl
      · rfl
     rw[hnx,List.append_nil] at hnames;have hbe:a2q r=⟨lx,r.bad⟩:=by unfold a2q;rw[hnames,←hdrop]
     rw[hbe,hnames];simp only[go_sem]
   · obtain⟨hb,tk,q,hl⟩:=a3o b1;simp only at hb hl;subst hl;have hk:(tk.kind==1)=true:=by unfold a1n at b1;simpa [a2n,hb] using b1
     have hnx:a3p ⟨tk::q,r.bad⟩=tk.text::a3p ⟨q,r.bad⟩:=by simp only[a3p,hb,Bool.false_eq_true,if_false,a4d,hk,if_true]
     obtain⟨i1,i2,i3⟩:=c0t (r:=⟨tk::q,r.bad⟩) hsx b1;have hsq:q<:+full:=(a3s (tk::q)).trans hsx;have hn:=a3u full ⟨q,r.bad⟩ 1 [] hsq;have hg:=(b0u (a6x hsx)).1;simp only[List.tail_cons,List.length_cons] at i1 i2 i3 hg;have w1:IntKind.i64.wrap (((full.length - (q.length+1):Nat):Int)+1)=idx full ⟨q,r.bad⟩:=by rw[hb,i1,i2];exact IntWalk.i64_in _ (by omega)
     have hap:(names.map AVal.str).length+1≤a0s:=by
      rw[List.length_map];simp only[List.length_cons] at hle;have:=hs.length_le;unfold a0s;omega
     have hmap:names.map AVal.str++[.str tk.text]=(names++[tk.text]).map AVal.str:=by simp
     rw[i2];simp only[go_sem,a0c,a0j,a1f,hg,b2o,hap,hmap,w1,hn];refine hrun (names++[tk.text],q) _ ⟨?_,?_,?_⟩ ?_ ?_
     · simp only[List.length_append,List.length_singleton];rw[←List.drop_drop,←hdrop];rfl
     · rw[hnames,hnx];simp
     · simp only[List.length_append,List.length_singleton];simp only[List.length_cons] at hle;omega
     · simp
     · simp only[go_sem]
theorem f3i{E:Env}{f:FuncId}{C:Code}{K:List Item}{s:St}{α:Type}(Q:Option (AVal×a3e)→Prop)(I:α→Prop)(S:α→St)(m:α→Nat)(x:α)(hx:I x)(h0:c2y E f s K=some (S x))
 (hs:∀x,I x→(∀y t,I y→m y<m x→c2y E f t K=some (S y)→Q (run E f (.inLoop C::K) t))→Q (run E f (.code C:: .inLoop C::K) (S x))):Q (run E f (.code (.loop C)::K) s):=by
 rw[d3f h0];have key:∀n x,m x≤n→I x→Q (run E f (.code C:: .inLoop C::K) (S x)):=by
  intro n
  induction n with
  | zero=>exact fun x hm hi=>hs x hi fun y t _ hy=>by omega
  | succ n ih=>
   exact fun x hm hi=>hs x hi fun y t hiy hy ht=>by
    rw[c2f ht];exact ih y (by omega) hiy
 exact key (m x) x (Nat.le_refl _) hx
theorem a4f{r:Rd}(h:r.bad=true)(k:Int)(s:List UInt8):a1n r k s=false:=by unfold a1n;rw[h];rfl
theorem a3z{r:Rd}(h:r.bad=true)(k:Int)(s:List UInt8):a0o r k s=r:=by
 unfold a0o;rw[a4f h];cases r;simp only at h;subst h;rfl
theorem a1s{r:Rd}{k:Int}{s:List UInt8}(h:(a0o r k s).bad=false):a1n r k s=true:=by
 cases hs:a1n r k s
 · unfold a0o at h;rw[hs] at h;cases h
 · rfl
theorem a2k{r:Rd}{k:Int}{s:List UInt8}(h:a1n r k s=true):r.bad=false:=(a3o h).1
theorem g1p{f:Nat}{r:Rd}{x:Ty×Rd}(hb:r.bad=true)(h:d5x f r=some x):x.2.bad=true:=by
 unfold d5x at h;rw[hb,if_pos rfl] at h;injection h with h;subst h;exact hb
theorem e0z:∀(f:Nat) (m:XM) (r:Rd) (x:Ex×Rd),r.bad=true→exR f m r=some x→x.2.bad=true:=by
 intro f
 induction f with
 | zero=>intro m r x hb h;cases h
 | succ f ih=>
  intro m r x hb h;cases m with
  | expr=>simp only[exR,hb,if_true] at h;injection h with h;subst h;exact hb
  | loop e=>simp only[exR,a4f hb,Bool.or_false,Bool.false_eq_true,if_false] at h;injection h with h;subst h;exact hb
  | lets=>
   simp only[exR,a3z hb,a4f hb,Bool.false_eq_true,if_false] at h;split at h
   · cases h
   · rename_i x1 r3 h3;have b3:r3.bad=true:=ih _ _ _ hb h3;rw[a3z b3] at h;split at h
     · cases h
     · rename_i y r4 h4;injection h with h;subst h;have hh:=ih _ _ _ b3 h4;exact hh
  | atom=>
   simp only[exR,a3z hb,a4f hb,Bool.false_eq_true,if_false] at h;split at h
   · cases h
   · rename_i e r1 h1;have b1:r1.bad=true:=ih _ _ _ hb h1;rw[a4f b1] at h;simp only[Bool.false_eq_true,if_false] at h;injection h with h;subst h;rw[a3z b1];exact b1
  | alts acc=>
   have hbh:(a2q r).bad=true:=hb;simp only[exR,a3z hb,a3z hbh] at h;split at h
   · cases h
   · rename_i b r4 h4;have b4:r4.bad=true:=ih _ _ _ hbh h4;rw[a4f b4] at h;simp only[Bool.false_eq_true,if_false] at h;injection h with h;subst h;exact b4
theorem a4h{f:Nat}{m:XM}{r:Rd}{x:Ex}{r':Rd}(h:exR f m r=some (x,r'))(hg:r'.bad=false):r.bad=false:=by
 cases hb:r.bad
 · rfl
 · have h2:=e0z f m r _ hb h;simp only at h2;rw[hg] at h2;cases h2
theorem d5w{f:Nat}{r:Rd}{x:Ty}{r':Rd}(h:d5x f r=some (x,r'))(hg:r'.bad=false):r.bad=false:=by
 cases hb:r.bad
 · rfl
 · have h2:=g1p hb h;simp only at h2;rw[hg] at h2;cases h2
def RO(full:List Tok)(x:Ex×Rd)(o:Option (AVal×a3e)):Prop:=∃x',o=some (.tup [.agg (exC x'),.int .i64 (idx full x.2)],[])∧(x.2.bad=false→x'=x.1)
def RX(full:List Tok)(r:Rd)(x:Ex×Rd):XM→Prop
 | .expr=>RO full x (den E 200 [.slice (a2j full),.int .i64 (idx full r)] [])
 | .atom=>RO full x (den E 234 [.slice (a2j full),.int .i64 (idx full r)] [])
 | _=>True
theorem a7q{r:Rd}{k:Int}{s:List UInt8}(h:a1n r k s=true):a0r r k s=⟨r.l.tail,false⟩:=by unfold a0r;rw[h,if_pos rfl]
theorem d2v{r:Rd}{k:Int}{s:List UInt8}(h:a1n r k s=true):a0o r k s=⟨r.l.tail,false⟩:=by unfold a0o;rw[h,if_pos rfl]
theorem a5f{full:List Tok}{r:Rd}{k:Int}{s:List UInt8}(hs:r.l<:+full)(hlen:full.length<1000000)(h:a1n r k s=true):IntKind.i64.wrap (idx full r+1)=idx full (a0r r k s):=by
 obtain⟨i1,i2,i3⟩:=c0t hs h;rw[a7q h,i1,i2];exact IntWalk.i64_in _ (by omega)
theorem f7b(full:List Tok)(r:Rd):decide (idx full r<0)=r.bad:=by
 unfold idx;cases r.bad<;>simp
theorem f7c(full:List Tok)(r:Rd):decide (idx full r≥0)= !r.bad:=by
 unfold idx;cases r.bad<;>simp
theorem h3t(full:List Tok):den E 234 [.slice (a2j full),.int .i64 (-1)] []=some (.tup [.agg (exC zEx),.int .i64 (-1)],[]):=by
 have h1:=a3u full ⟨full,true⟩ 1 [] (List.suffix_refl _);have h2:=a3u full ⟨full,true⟩ 2 [] (List.suffix_refl _);have h3:den E 138 [.slice (a2j full),.int .i64 (-1),.int .i64 6,.str [40]] []=some (.bool false,[]):=by
  have:=a3u full ⟨full,true⟩ 6 [40] (List.suffix_refl _);rw[a4f rfl,j4i] at this;exact this
 rw[a4f rfl,j4i] at h1 h2;have h4:den E 198 [.slice (a2j full),.int .i64 (-1),.int .i64 6,.str [40]] []=some (.int .i64 (-1),[]):=by
  rw[a0d e3g,e5p];simp only[go_sem,Tryz.f198,h3]
 rw[a0d b7d,b7s];simp only[go_sem,Tryz.f234,h1,h2,h4,i8e]
theorem g2t(full:List Tok):den E 200 [.slice (a2j full),.int .i64 (-1)] []=some (.tup [.agg (exC zEx),.int .i64 (-1)],[]):=by
 have h1:=a3u full ⟨full,true⟩ 6 [92] (List.suffix_refl _);have h2:=a3u full ⟨full,true⟩ 3 [108,101,116] (List.suffix_refl _);have h3:=a3u full ⟨full,true⟩ 3 [99,97,115,101] (List.suffix_refl _);have h4:=h3t full;rw[a4f rfl,j4i] at h1 h2 h3;rw[i8e] at h4;rw[a0d b3q,b4d];simp only[go_sem,Tryz.f200,h1,h2,h3,h4];refine a4j (fun _=>⟨[(0,.slice (a2j full)),(4,.ptr (.loc 4) 0),(26,.ptr (.loc 26) 0),(27,.int .i64 (-1))],[],[(4,[.int .i64 0,.str [],.bool false,.int .i64 0,.str [],.int .i64 0,.own 38 0 [],.own 168 0 [],.own 312 0 []]),(26,exC zEx)],1⟩) 0 ?_ ?_ ?_
 · simp only[go_sem,i8e]
 · intro i hi;omega
 · simp only[go_sem,show decide ((-1:Int)≥0)=false from rfl,i8e]
def f7w(b:Bool)(e:Ex):List AVal:=match b with
 | false=>exC e
 | true=>[.int .i64 4,.str [],.bool false,.int .i64 0,.str [],.int .i64 0,.own 38 0 [],.slice (a8p e.kids),.own 312 0 []]
theorem i6g(full:List Tok)(hok:∀t∈full,b9t t)(hlen:full.length<1000000):∀(f:Nat) (m:XM) (r:Rd) (x:Ex×Rd),r.l<:+full→exR f m r=some x→RX full r x m:=by
 intro f
 induction f using Nat.strongRecOn with
 | _ f ih=>
 intro m r x hs h;cases f with
 | zero=>cases h
 | succ f=>
 cases m with
 | lets=>trivial
 | loop _=>trivial
 | alts _=>trivial
 | atom=>
  simp only[RX];simp only[exR] at h;have s1:=a3u full r 1 [] hs;have s2:=a3u full r 2 [] hs;cases b1:a1n r 1 []
  · rw[b1] at h s1;simp only[Bool.false_eq_true,if_false] at h;cases b2:a1n r 2 []
    · rw[b2] at h s2;simp only[Bool.false_eq_true,if_false] at h;have n1:=a2f full r 6 [40] hs hlen;have hs1:=(a0b r 6 [40]).trans hs;split at h
      · cases h
      · rename_i e r1 h1;have hs2:=(a3j _ _ _ _ _ h1).trans hs1;cases hb:(a0o r 6 [40]).bad
        · have d1:=ih f (by omega) .expr _ _ hs1 h1;simp only[RX] at d1;obtain⟨e',d1,he⟩:=d1;have lt1:decide (idx full (a0o r 6 [40])<0)=false:=by rw[f7b,hb]
          have s3:=a3u full r1 6 [58] hs2;rw[a0f] at d1;cases b3:a1n r1 6 [58]
          · rw[b3] at h s3;simp only[Bool.false_eq_true,if_false] at h;injection h with h;subst h;have n3:=a2f full r1 6 [41] hs2 hlen;refine⟨e',?_,fun hg=>he (a2k (a1s hg))⟩;rw[a0d b7d,b7s];simp only[go_sem,Tryz.f234,s1,s2,n1,lt1,d1,s3,n3,a0f]
          · rw[b3] at h s3;simp only[if_true] at h;split at h
            · cases h
            · rename_i t r2 h2;injection h with h;subst h;have hs3:=(a0l r1 6 [58]).trans hs2;have hs4:=(b0n h2).trans hs3;obtain⟨t',d2,ht⟩:=b9s full hok hlen f _ _ hs3 h2;have w1:=a5f hs2 hlen b3;have n3:=a2f full r2 6 [41] hs4 hlen;rw[a0a] at d2;have he':=he (a2k b3);simp only at he';subst he';refine⟨.mk 7 [] false t' [e'] [],?_,fun hg=>by rw[ht (a2k (a1s hg))]⟩;rw[a0d b7d,b7s];simp only[go_sem,Tryz.f234,s1,s2,n1,lt1,d1,s3,w1,d2,n3,a0f,b8j,a0v,a0u,a2d]
        · have hx:=e0z f .expr _ _ hb h1;have lt1:decide (idx full (a0o r 6 [40])<0)=true:=by rw[f7b,hb]
          simp only at hx;rw[a4f hx] at h;simp only[Bool.false_eq_true,if_false] at h;injection h with h;subst h;refine⟨zEx,?_,fun hg=>by rw[a3z hx,hx] at hg;cases hg⟩;rw[a0d b7d,b7s,a3z hx,b1n hx];simp only[go_sem,Tryz.f234,s1,s2,n1,lt1,i8e]
    · rw[b2] at h s2;simp only[if_true] at h;injection h with h;subst h;obtain⟨i1,i2,i3⟩:=c0t hs b2;have w1:=a5f hs hlen b2;obtain⟨hb,t,q,hl⟩:=a3o b2;have hg:=(b0u (by rw[←hl];exact a6x hs)).1;refine⟨.mk 2 t.text false zTy [] [],?_,fun _=>by unfold a7b;rw[b2,hl];rfl⟩;rw[a7q b2,i1,i2] at w1;rw[d2v b2,i1];rw[i2] at s1 s2⊢;rw[a0d b7d,b7s];simp only[go_sem,Tryz.f234,s1,s2,a0c,a0j,a1f,hg,b2o,w1,a0f,b8j,a0u,a2d,a0h,a8l,a8j,a8k,a8m]
  · rw[b1] at h s1;simp only[if_true] at h;injection h with h;subst h;obtain⟨i1,i2,i3⟩:=c0t hs b1;have w1:=a5f hs hlen b1;obtain⟨hb,t,q,hl⟩:=a3o b1;have hg:=(b0u (by rw[←hl];exact a6x hs)).1;refine⟨.mk 1 t.text false zTy [] [],?_,fun _=>by unfold a7b;rw[b1,hl];rfl⟩;rw[a7q b1,i1,i2] at w1;rw[d2v b1,i1];rw[i2] at s1⊢;rw[a0d b7d,b7s];simp only[go_sem,Tryz.f234,s1,a0c,a0j,a1f,hg,b2o,w1,a0f,b8j,a0u,a2d,a0h,a8l,a8j,a8k,a8m]
 | expr=>
  simp only[RX];simp only[exR] at h;cases hb:r.bad
  · rw[hb] at h;simp only[Bool.false_eq_true,if_false] at h;have a1:=a3u full r 6 [92] hs;cases b1:a1n r 6 [92]
    · rw[b1] at h a1;simp only[Bool.false_eq_true,if_false] at h;have a2:=a3u full r 3 [108,101,116] hs;cases b2:a1n r 3 [108,101,116]
      · rw[b2] at h a2;simp only[Bool.false_eq_true,if_false] at h;have a3:=a3u full r 3 [99,97,115,101] hs;cases b3:a1n r 3 [99,97,115,101]
        · rw[b3] at h a3;simp only[Bool.false_eq_true,if_false] at h;split at h
          · cases h
          · rename_i e r1 h1;have sx:=(a3j _ _ _ _ _ h1).trans hs;have d1:=ih f (by omega) .atom _ _ hs h1;simp only[RX] at d1;obtain⟨e',d1,he⟩:=d1;rw[a0f] at d1;rw[a0d b3q,b4d];simp only[go_sem,Tryz.f200,a1,a2,a3,d1];refine f3i (RO full x) (fun y:Nat×Bool×Ex×Ex×Rd=>y.1≤f∧y.2.2.2.2.l<:+full∧(y.2.1=true→∃ks,y.2.2.2.1=.mk 4 [] false zTy ks [])∧exR y.1 (.loop y.2.2.1) y.2.2.2.2=some x∧(y.2.2.2.2.bad=false→y.2.2.2.1=y.2.2.1))
             (fun y=>⟨[(0,.slice (a2j full)),(4,.ptr (.loc 4) 0),(26,.ptr (.loc 26) 0),(27,.int .i64 (idx full y.2.2.2.2))],[],
               [(4,[.int .i64 0,.str [],.bool false,.int .i64 0,.str [],.int .i64 0,.own 38 0 [],.own 168 0 [],.own 312 0 []]),(26,f7w y.2.1 y.2.2.2.1)],1⟩)
             (fun y=>y.1) (f,false,e,e',r1) ⟨Nat.le_refl _,sx,(fun h=>by cases h),h,he⟩ ?_ ?_
            · simp only[go_sem,f7w,a0f]
            · rintro⟨g,b,e2,e3,q⟩ ⟨hg,hq,hb2,hx,h23⟩ hrun;simp only at hg hq hb2 hx h23 hrun⊢;cases g with
              | zero=>cases hx
              | succ g=>
               simp only[exR] at hx;have step:(a1n q 1 []||(a1n q 2 []||a1n q 6 [40]))=true→∃y r2,exR g .atom q=some (y,r2)∧exR g (.loop (.mk 4 [] false zTy [e2,y] [])) r2=some x:=fun hb=>by
                rw[hb] at hx;simp only[if_true] at hx;split at hx
                · cases hx
                · rename_i y r2 h2;exact⟨y,r2,h2,hx⟩
               have stop:(a1n q 1 []||(a1n q 2 []||a1n q 6 [40]))=false→x=(e2,q):=fun hb=>by
                rw[hb] at hx;simp only[Bool.false_eq_true,if_false] at hx;injection hx with hx;exact hx.symm
               have go:∀y r2,exR g .atom q=some (y,r2)→∃y',den E 234 [.slice (a2j full),.int .i64 (idx full q)] []=some (.tup [.agg (exC y'),.int .i64 (idx full r2)],[])∧(r2.bad=false→y'=y)∧r2.l<:+full:=fun y r2 h2=>by
                have d2:=ih g (by omega) .atom _ _ hq h2;simp only[RX] at d2;obtain⟨y',d2,hy⟩:=d2;exact⟨y',d2,hy,(a3j _ _ _ _ _ h2).trans hq⟩
               obtain⟨w,hw⟩:∃w,w=e3:=⟨_,rfl⟩
               cases b
               case' true=>obtain⟨ks,rfl⟩:=hb2 rfl
               all_goals (
                cases hqb:q.bad
                · have hi:=d7x (full:=full) hqb;have h23':=h23 hqb;subst h23';rw[hi] at go⊢;have hle:=hq.length_le;cases hql:q.l with
                  | nil=>
                   have hx:=stop (by unfold a1n;rw[hql];simp[a2n]);subst hx;have hge:decide (((full.length - 0:Nat):Int)<((full.length:Nat):Int))=false:=by simp
                   rw[RO,hi];refine⟨_,?_,fun _=>rfl⟩;simp only[go_sem,f7w,hql,j4e,a0y,List.length_nil,hge,a0f,b8j,a2d,a0h,a8l,a8j,a8k,a8m]
                  | cons t qs=>
                   have hg1:=(b0u (by rw[←hql];exact a6x hq)).1;have htok:=hok t (List.mem_of_getElem? hg1);rw[hql] at hle;simp only[List.length_cons] at hle;have hlt:decide (((full.length - (qs.length+1):Nat):Int)<((full.length:Nat):Int))=true:=by simp;omega
                   have e40:a1n q 6 [40]=(t.text==[40]):=by
                    unfold a1n;rw[hqb,hql];cases ht:t.text==[40]
                    · simp[a2n,ht]
                    · have:=htok.2 (by simpa using ht);simp[a2n,ht,this]
                   have e1:a1n q 1 []=(t.kind==1):=by unfold a1n;rw[hqb,hql];simp[a2n]
                   have e2':a1n q 2 []=(t.kind==2):=by unfold a1n;rw[hqb,hql];simp[a2n]
                   rw[e1,e2',e40] at step stop;rw[hql] at hg1;simp only[List.length_cons] at hg1⊢;cases n1:t.kind==1
                   · cases n2:t.kind==2
                     · cases n3:t.text==[40]
                       · have hx:=stop (by simp[n1,n2,n3]);subst hx;refine⟨_,?_,fun _=>rfl⟩;rw[hi,hql,List.length_cons];simp only[go_sem,f7w,a0y,hlt,a0c,a0j,a1f,hg1,b2o,n1,n2,n3,a0f,b8j,a2d,a0h,a8l,a8j,a8k,a8m]
                       · obtain⟨y,r2,h2,h3⟩:=step (by simp[n1,n2,n3]);obtain⟨y',d2,hy,hs2⟩:=go y r2 h2;simp only[hql,List.length_cons,a0f] at d2;simp only[go_sem,f7w,a0y,hlt,a0c,a0j,a1f,hg1,b2o,n1,n2,n3,d2,a0f,b8j];refine hrun (g,true,_,.mk 4 [] false zTy [_,y'] [],r2) _ ⟨by omega,hs2,(fun _=>⟨_,rfl⟩),h3,fun hg=>by rw[hy hg]⟩ (by simp only;omega) ?_;simp only[go_sem,f7w,a0f,b8j,a0v,a0u,a2d,a0h,a8l,a8j,a8k,a8m]
                     · obtain⟨y,r2,h2,h3⟩:=step (by simp[n1,n2]);obtain⟨y',d2,hy,hs2⟩:=go y r2 h2;simp only[hql,List.length_cons,a0f] at d2;simp only[go_sem,f7w,a0y,hlt,a0c,a0j,a1f,hg1,b2o,n1,n2,d2,a0f,b8j];refine hrun (g,true,_,.mk 4 [] false zTy [_,y'] [],r2) _ ⟨by omega,hs2,(fun _=>⟨_,rfl⟩),h3,fun hg=>by rw[hy hg]⟩ (by simp only;omega) ?_;simp only[go_sem,f7w,a0f,b8j,a0v,a0u,a2d,a0h,a8l,a8j,a8k,a8m]
                   · obtain⟨y,r2,h2,h3⟩:=step (by simp[n1]);obtain⟨y',d2,hy,hs2⟩:=go y r2 h2;simp only[hql,List.length_cons,a0f] at d2;simp only[go_sem,f7w,a0y,hlt,a0c,a0j,a1f,hg1,b2o,n1,d2,a0f,b8j];refine hrun (g,true,_,.mk 4 [] false zTy [_,y'] [],r2) _ ⟨by omega,hs2,(fun _=>⟨_,rfl⟩),h3,fun hg=>by rw[hy hg]⟩ (by simp only;omega) ?_;simp only[go_sem,f7w,a0f,b8j,a0v,a0u,a2d,a0h,a8l,a8j,a8k,a8m]
                · have hi:=b1n (full:=full) hqb;have hx:=stop (by rw[a4f hqb,a4f hqb,a4f hqb];rfl);subst hx;rw[RO,hi];refine⟨w,?_,fun hg=>absurd (hqb.symm.trans hg) (by decide)⟩;rw[hw];simp only[go_sem,f7w,show decide ((-1:Int)≥0)=false from rfl,a0f,b8j,a2d,a0h,a8l,a8j,a8k,a8m])
        · rw[b3] at h a3;simp only[if_true] at h;split at h
          · cases h
          · rename_i x1 r1 h1;have w1:=a5f hs hlen b3;have s1:=(a0l r 3 [99,97,115,101]).trans hs;have d1:=ih f (by omega) .expr _ _ s1 h1;simp only[RX] at d1;obtain⟨e1,d1,he1⟩:=d1;simp only at he1;rw[a0f] at d1;have s2:=(a3j _ _ _ _ _ h1).trans s1;have n1:=a2f full r1 3 [111,102] s2 hlen;have s3:=(a0b r1 3 [111,102]).trans s2;have n2:=a2f full _ 6 [123] s3 hlen;have s4:=(a0b (a0o r1 3 [111,102]) 6 [123]).trans s3;have hgq:(a0o (a0o r1 3 [111,102]) 6 [123]).bad=false→e1=x1:=fun hg=>he1 (a2k (a1s (a2k (a1s hg))));generalize a0o (a0o r1 3 [111,102]) 6 [123]=q0 at *;have a4:=a3u full q0 6 [125] s4;cases b4:a1n q0 6 [125]
            · rw[b4] at h a4;simp only[Bool.false_eq_true,if_false] at h;split at h
              · cases h
              · rename_i y rE hE;injection h with h;have hgx:x.2.bad=false→e1=x1:=fun hg=>by
                 subst h;exact hgq (a4h hE (a2k (a1s hg)))
                have hq0:=f7c full q0;rw[a0d b3q,b4d];simp only[go_sem,Tryz.f200,a1,a2,a3,w1,d1,n1,n2,a4,hq0];refine f3i (RO full x) (fun z:Nat×List Al×List Al×Rd×Bool=>z.1≤f∧z.2.2.2.1.l<:+full∧z.2.2.1.length+z.2.2.2.1.l.length≤full.length+1∧
                 (z.2.2.2.2=true→z.2.2.2.1.bad=false∧z.2.2.1.length+z.2.2.2.1.l.length≤full.length∧exR z.1 (.alts z.2.1) z.2.2.2.1=some (y,rE)∧(x.2.bad=false→z.2.2.1=z.2.1))∧
                 (z.2.2.2.2=false→idx full x.2=idx full (a0o z.2.2.2.1 6 [125])∧(x.2.bad=false→x.1=.mk 6 [] false zTy [x1] z.2.2.1)))
                 (fun z=>⟨[(0,.slice (a2j full)),(4,.ptr (.loc 4) 0),(19,.int .i64 (idx full z.2.2.2.1)),(20,.ptr (.loc 20) 0),(22,.bool z.2.2.2.2)],[],
                   [(4,[.int .i64 0,.str [],.bool false,.int .i64 0,.str [],.int .i64 0,.own 38 0 [],.own 168 0 [],.own 312 0 []]),
                    (20,[.int .i64 6,.str [],.bool false,.int .i64 0,.str [],.int .i64 0,.own 38 0 [],.slice (a8p [e1]),.own 312 0 (b4r z.2.2.1)])],1⟩)
                 (fun z=>z.1) (f,[],[],q0,!q0.bad) ⟨Nat.le_refl _,s4,by have:=s4.length_le;simp only[List.length_nil];omega,?_,?_⟩ ?_ ?_
                · intro hm;simp only[Bool.not_eq_true'] at hm;exact⟨hm,by have:=s4.length_le;simp only[List.length_nil];omega,hE,fun _=>rfl⟩
                · intro hm;simp only[Bool.not_eq_false'] at hm;have hbE:=e0z _ _ _ _ hm hE;simp only at hbE;subst h;refine⟨?_,fun hg=>?_⟩
                  · rw[a3z hbE,a3z hm,b1n hbE,b1n hm]
                  · rw[a3z hbE] at hg;exact absurd (hbE.symm.trans hg) (by decide)
                · simp only[go_sem,a0v,a0u,a2d,a0f]
                · rintro⟨g,acc,acc',q,more⟩ ⟨hg,hq,hle,hm1,hm0⟩ hrun;simp only at hg hq hle hm1 hm0 hrun⊢;cases more
                  · obtain⟨m1,m2⟩:=hm0 rfl;have n4:=a2f full q 6 [125] hq hlen;refine⟨.mk 6 [] false zTy [e1] acc',?_,fun hg=>by rw[m2 hg,hgx hg]⟩;rw[m1];simp only[go_sem,n4,a0f,b8j,a0v,a0u,a0h,a8l,a8j,a8k,a8m]
                  · obtain⟨m1,m2,m3,m4⟩:=hm1 rfl;cases g with
                    | zero=>cases m3
                    | succ g=>
                    simp only[exR] at m3;split at m3
                    · cases m3
                    · rename_i b r4 h4;have tx:=b6t full q hq;have n4:=a2f full q 2 [] hq hlen;have q1:=(a0b q 2 []).trans hq;have nm:=c7m full (a0o q 2 []) q1 hlen;have q2:=(a4k (a0o q 2 [])).trans q1;have n5:=a2f full (a2q (a0o q 2 [])) 6 [45,62] q2 hlen;have q3:=(a0b (a2q (a0o q 2 [])) 6 [45,62]).trans q2;have d4:=ih g (by omega) .expr _ _ q3 h4;simp only[RX] at d4;obtain⟨b',d4,hb4⟩:=d4;simp only at hb4;have q4:=(a3j _ _ _ _ _ h4).trans q3;have a5:=a3u full r4 6 [59] q4;have hql:r4.l.length≤q.l.length:=((a3j _ _ _ _ _ h4).trans ((a0b _ 6 [45,62]).trans ((a4k _).trans (a0b q 2 [])))).length_le;have hal:r4.bad=false→Al.mk (a9o q) (a3p (a0o q 2 [])) b'=.mk (a7b q 2 []) (a3p (a0o q 2 [])) b:=fun hg=>by
                       have g1:(a2q (a0o q 2 [])).bad=false:=a2k (a1s (a4h h4 hg));have g2:(a0o q 2 []).bad=false:=g1;rw[b1a (a1s g2),hb4 hg]
                      have hap:(b4r acc').length+1≤a0s:=by rw[b2i];unfold a0s;omega
                      have hmap:b4r acc'++[.agg (.str (a9o q):: .slice ((a3p (a0o q 2 [])).map .str)::exC b')]=b4r (acc'++[.mk (a9o q) (a3p (a0o q 2 [])) b']):=by
                       rw[b4i,b4i,List.map_append,List.map_cons,List.map_nil];simp[alV]
                      rw[a0f] at d4 hmap;cases b5:a1n r4 6 [59]
                      · rw[b5] at m3 a5;simp only[Bool.false_eq_true,if_false] at m3;injection m3 with m3;injection m3 with m3a m3b;simp only[go_sem,tx,n4,nm,n5,d4,hap,hmap,a5];refine hrun (g,acc++[.mk (a7b q 2 []) (a3p (a0o q 2 [])) b],acc'++[.mk (a9o q) (a3p (a0o q 2 [])) b'],r4,false) _ ⟨by omega,q4,?_,(fun h=>by cases h),fun _=>?_⟩ (by simp only;omega) ?_
                        · simp only[List.length_append,List.length_singleton];omega
                        · subst h;subst m3a;subst m3b;refine⟨rfl,fun hg=>?_⟩;simp only[Ex.alts];rw[m4 hg,hal (a2k (a1s hg))]
                        · simp only[go_sem,a0v,a0u,a0f]
                      · rw[b5] at m3 a5;simp only[if_true] at m3;have w5:=a5f q4 hlen b5;obtain⟨hb5,t5,l5,hl5⟩:=a3o b5;have hk:(a0r r4 6 [59]).l.length+1=r4.l.length:=by rw[a7q b5,hl5];simp
                        simp only[go_sem,tx,n4,nm,n5,d4,hap,hmap,a5,w5];refine hrun (g,acc++[.mk (a7b q 2 []) (a3p (a0o q 2 [])) b],acc'++[.mk (a9o q) (a3p (a0o q 2 [])) b'],a0r r4 6 [59],true) _ ⟨by omega,(a0l _ _ _).trans q4,?_,fun _=>⟨?_,?_,m3,fun hg=>?_⟩,fun h=>by cases h⟩ (by simp only;omega) ?_
                        · simp only[List.length_append,List.length_singleton];omega
                        · rw[a7q b5]
                        · simp only[List.length_append,List.length_singleton];omega
                        · rw[m4 hg,hal hb5]
                        · simp only[go_sem,a0v,a0u,a0f]
            · rw[b4] at h a4;simp only[if_true] at h;injection h with h;subst h;have w4:=a5f s4 hlen b4;refine⟨.mk 6 [] false zTy [e1] [],?_,fun hg=>by rw[hgq (a2k b4)]⟩;rw[a0d b3q,b4d];simp only[go_sem,Tryz.f200,a1,a2,a3,w1,d1,n1,n2,a4,w4,a0f,b8j,a0v,a0u,a2d,a0h,a8l,a8j,a8k,a8m]
      · rw[b2] at h a2;simp only[if_true] at h;have w1:=a5f hs hlen b2;have s1:=(a0l r 3 [108,101,116]).trans hs;generalize a0r r 3 [108,101,116]=r1 at *;cases f with
        | zero=>cases h
        | succ f=>
        simp only[exR] at h;have tx:=b6t full _ s1;have n1:=a2f full r1 1 [] s1 hlen;have s2:=(a0b r1 1 []).trans s1;have a4:=a3u full (a0o r1 1 []) 6 [58] s2;have name:(a0o r1 1 []).bad=false→a9o r1=a7b r1 1 []:=fun hg=>b1a (a1s hg);generalize a0o r1 1 []=r2 at *;cases b4:a1n r2 6 [58]
        · rw[b4] at h a4;simp only[Bool.false_eq_true,if_false] at h;split at h
          · cases h
          · rename_i x1 r3 h3;have s3:=(a0b r2 6 [61]).trans s2;have n2:=a2f full r2 6 [61] s2 hlen;have d3:=ih f (by omega) .expr _ _ s3 h3;simp only[RX] at d3;obtain⟨e3,d3,he3⟩:=d3;have s4:=(a3j _ _ _ _ _ h3).trans s3;have n3:=a2f full r3 3 [105,110] s4 hlen;have s5:=(a0b r3 3 [105,110]).trans s4;split at h
            · cases h
            · rename_i y r4 h4;injection h with h;subst h;have d4:=ih f (by omega) .expr _ _ s5 h4;simp only[RX] at d4;obtain⟨e4,d4,he4⟩:=d4;rw[a0f] at d3 d4;refine⟨.mk 5 (a9o r1) false zTy [e3,e4] [],?_,fun hg=>?_⟩
              · rw[a0d b3q,b4d];simp only[go_sem,Tryz.f200,a1,a2,w1,tx,n1,a4,n2,d3,n3,d4,a0f,b8j,a0v,a0u,a2d,a0h,a8l,a8j,a8k,a8m]
              · have g3:=a2k (a1s (a4h h4 hg));have g2:=a2k (a1s (a4h h3 g3));rw[name g2,he4 hg,he3 g3]
        · rw[b4] at h a4;simp only[if_true] at h;split at h
          · cases h
          · rename_i t rt ht;have w2:=a5f s2 hlen b4;have s2':=(a0l r2 6 [58]).trans s2;obtain⟨t',dt,htt⟩:=b9s full hok hlen _ _ _ s2' ht;have st:=(b0n ht).trans s2';split at h
            · cases h
            · rename_i x1 r3 h3;have s3:=(a0b rt 6 [61]).trans st;have n2:=a2f full rt 6 [61] st hlen;have d3:=ih f (by omega) .expr _ _ s3 h3;simp only[RX] at d3;obtain⟨e3,d3,he3⟩:=d3;have s4:=(a3j _ _ _ _ _ h3).trans s3;have n3:=a2f full r3 3 [105,110] s4 hlen;have s5:=(a0b r3 3 [105,110]).trans s4;split at h
              · cases h
              · rename_i y r4 h4;injection h with h;subst h;have d4:=ih f (by omega) .expr _ _ s5 h4;simp only[RX] at d4;obtain⟨e4,d4,he4⟩:=d4;rw[a0f] at d3 d4;rw[a0a] at dt;refine⟨.mk 5 (a9o r1) true t' [e3,e4] [],?_,fun hg=>?_⟩
                · rw[a0d b3q,b4d];simp only[go_sem,Tryz.f200,a1,a2,w1,tx,n1,a4,w2,dt,n2,d3,n3,d4,a0f,b8j,a0v,a0u,a2d]
                · have g3:=a2k (a1s (a4h h4 hg));have gt:=a2k (a1s (a4h h3 g3));rw[name (a2k b4),he4 hg,he3 g3,htt gt]
    · rw[b1] at h a1;simp only[if_true] at h;split at h
      · cases h
      · rename_i x1 r4 h4;injection h with h;subst h;have w1:=a5f hs hlen b1;have s1:=(a0l r 6 [92]).trans hs;have s2:=(a0b (a0r r 6 [92]) 1 []).trans s1;have s3:=(a0b (a0o (a0r r 6 [92]) 1 []) 6 [45,62]).trans s2;have n1:=a2f full (a0r r 6 [92]) 1 [] s1 hlen;have n2:=a2f full _ 6 [45,62] s2 hlen;have tx:=b6t full _ s1;have d4:=ih f (by omega) .expr _ _ s3 h4;simp only[RX] at d4;obtain⟨e',d4,he⟩:=d4;rw[a0f] at d4;refine⟨.mk 3 (a9o (a0r r 6 [92])) false zTy [e'] [],?_,fun hg=>?_⟩
        · rw[a0d b3q,b4d];simp only[go_sem,Tryz.f200,a1,w1,n1,n2,tx,d4,a0f,b8j,a0v,a0u,a2d,a0h,a8l,a8j,a8k,a8m]
        · have g1:=a2k (a1s (a4h h4 hg));rw[b1a (a1s g1),he hg]
  · rw[hb] at h;simp only[if_true] at h;injection h with h;subst h;rw[b1n hb];exact⟨zEx,by rw[b1n hb];exact g2t full,fun _=>rfl⟩
def ROD(full:List Tok)(x:De×Rd)(o:Option (AVal×a3e)):Prop:=∃x',o=some (.tup [.agg (deC x'),.int .i64 (idx full x.2)],[])∧(x.2.bad=false→x'=x.1)
theorem d4z{f:Nat}{q:Rd}{c:Co}{r:Rd}(h:coR f q=some (c,r))(hg:r.bad=false):(a0o (a0o q 2 []) 6 [58]).bad=false:=by
 unfold coR at h;split at h
 · cases h
 · rename_i t r1 h1;injection h with h;injection h with _ h;subst h;exact d5w h1 hg
theorem c8r{f:Nat}:∀ {g:Nat} {acc:List Co} {q:Rd} {cs:List Co} {r:Rd},d8s f g acc q=some (cs,r)→r.bad=false→q.bad=false:=by
 intro g
 induction g with
 | zero=>intro acc q cs r h;cases h
 | succ g ih=>
  intro acc q cs r h hg;simp only[d8s] at h;split at h
  · cases h
  · rename_i c r1 h1;have fin:r1.bad=false→q.bad=false:=fun h2=>a2k (a1s (a2k (a1s (d4z h1 h2))));split at h
    · rename_i h5;exact fin (a2k h5)
    · injection h with h;injection h with _ h;subst h;exact fin hg
theorem i6p(full:List Tok)(hok:∀t∈full,b9t t)(hlen:full.length<1000000)(f:Nat)(r:Rd)(x:De×Rd)(hs:r.l<:+full)(h:deR f r=some x):
 ROD full x (den E 137 [.slice (a2j full),.int .i64 (idx full r)] []):=by
 unfold deR at h;have a1:=a3u full r 3 [100,97,116,97] hs;cases b1:a1n r 3 [100,97,116,97]
 · rw[b1] at h a1;simp only[Bool.false_eq_true,if_false] at h;have n1:=a2f full r 1 [] hs hlen;have s2:=(a0b r 1 []).trans hs;have a4:=a3u full (a0o r 1 []) 6 [58] s2;have tx:=b6t full r hs;have name:(a0o r 1 []).bad=false→a9o r=a7b r 1 []:=fun hg=>b1a (a1s hg);generalize a0o r 1 []=r2 at *;cases b4:a1n r2 6 [58]
   · rw[b4] at h a4;simp only[Bool.false_eq_true,if_false] at h;split at h
     · cases h
     · rename_i e r3 h3;injection h with h;subst h;have s3:=(a0b r2 6 [61]).trans s2;have n2:=a2f full r2 6 [61] s2 hlen;have d3:=i6g full hok hlen f .expr _ _ s3 h3;simp only[RX] at d3;obtain⟨e3,d3,he3⟩:=d3;rw[a0f] at d3;refine⟨⟨3,a9o r,[],[],zTy,e3⟩,?_,fun hg=>?_⟩
       · rw[a0d c5g,c5u];simp only[go_sem,Tryz.f137,a1,n1,a4,n2,d3,tx,deC,a0h,a8l,a8j,a8k,a8m,List.map_nil]
       · rw[name (a2k (a1s (a4h h3 hg))),he3 hg]
   · rw[b4] at h a4;simp only[if_true] at h;split at h
     · cases h
     · rename_i t rt ht;injection h with h;subst h;have w2:=a5f s2 hlen b4;have s2':=(a0l r2 6 [58]).trans s2;obtain⟨t',dt,htt⟩:=b9s full hok hlen _ _ _ s2' ht;rw[a0a] at dt;refine⟨⟨2,a9o r,[],[],t',zEx⟩,?_,fun hg=>?_⟩
       · rw[a0d c5g,c5u];simp only[go_sem,Tryz.f137,a1,n1,a4,w2,dt,tx,deC,a0u,a2d,a0h,a8l,a8j,a8k,a8m,exz,List.map_nil]
       · rw[name (a2k b4),htt hg]
 · rw[b1] at h a1;simp only[if_true] at h;have w1:=a5f hs hlen b1;have s1:=(a0l r 3 [100,97,116,97]).trans hs;generalize a0r r 3 [100,97,116,97]=r1 at *;have tx:=b6t full r1 s1;have n1:=a2f full r1 2 [] s1 hlen;have s2:=(a0b r1 2 []).trans s1;have nm:=c7m full _ s2 hlen;have s3:=(a4k (a0o r1 2 [])).trans s2;have n2:=a2f full _ 6 [123] s3 hlen;have s4:=(a0b (a2q (a0o r1 2 [])) 6 [123]).trans s3;have name:(a0o (a2q (a0o r1 2 [])) 6 [123]).bad=false→a9o r1=a7b r1 2 []:=fun hg=>by
    have g1:(a2q (a0o r1 2 [])).bad=false:=a2k (a1s hg);have g2:(a0o r1 2 []).bad=false:=g1;exact b1a (a1s g2)
   generalize a3p (a0o r1 2 [])=vs at *;generalize a0o (a2q (a0o r1 2 [])) 6 [123]=q0 at *;have a4:=a3u full q0 6 [125] s4;cases b4:a1n q0 6 [125]
   · rw[b4] at h a4;simp only[Bool.false_eq_true,if_false] at h;split at h
     · cases h
     · rename_i cs rE hE;injection h with h;have hq0:=f7c full q0;have hgx:x.2.bad=false→a9o r1=a7b r1 2 []:=fun hg=>by
        subst h;exact name (c8r hE (a2k (a1s hg)))
       rw[a0d c5g,c5u];simp only[go_sem,Tryz.f137,a1,w1,tx,n1,nm,n2,a4,hq0];refine f3i (ROD full x) (fun z:Nat×List Co×List Co×Rd×Bool=>z.1≤f∧z.2.2.2.1.l<:+full∧z.2.2.1.length+z.2.2.2.1.l.length≤full.length+1∧
        (z.2.2.2.2=true→z.2.2.2.1.bad=false∧z.2.2.1.length+z.2.2.2.1.l.length≤full.length∧d8s f z.1 z.2.1 z.2.2.2.1=some (cs,rE)∧(x.2.bad=false→z.2.2.1=z.2.1))∧
        (z.2.2.2.2=false→idx full x.2=idx full (a0o z.2.2.2.1 6 [125])∧(x.2.bad=false→x.1=⟨1,a9o r1,vs,z.2.2.1,zTy,zEx⟩)))
        (fun z=>⟨[(0,.slice (a2j full)),(4,.ptr (.loc 4) 0),(7,.ptr (.loc 7) 0),(9,.int .i64 (idx full z.2.2.2.1)),(11,.bool z.2.2.2.2)],[],
          [(4,[.int .i64 0,.str [],.own 9 0 [],.own 172 0 [],.int .i64 0,.str [],.int .i64 0,.own 38 0 [],.int .i64 0,.str [],.bool false,.int .i64 0,.str [],.int .i64 0,.own 38 0 [],.own 168 0 [],.own 312 0 []]),
           (7,[.int .i64 1,.str (a9o r1),.slice (vs.map .str),.own 172 0 (z.2.2.1.map coV),.int .i64 0,.str [],.int .i64 0,.own 38 0 [],.int .i64 0,.str [],.bool false,.int .i64 0,.str [],.int .i64 0,.own 38 0 [],.own 168 0 [],.own 312 0 []])],1⟩)
        (fun z=>z.1) (f,[],[],q0,!q0.bad) ⟨Nat.le_refl _,s4,by have:=s4.length_le;simp only[List.length_nil];omega,?_,?_⟩ ?_ ?_
       · intro hm;simp only[Bool.not_eq_true'] at hm;exact⟨hm,by have:=s4.length_le;simp only[List.length_nil];omega,hE,fun _=>rfl⟩
       · intro hm;simp only[Bool.not_eq_false'] at hm;have hbE:rE.bad=true:=by
          cases hbb:rE.bad
          · exact absurd (hm.symm.trans (c8r hE hbb)) (by decide)
          · rfl
         subst h;refine⟨?_,fun hg=>?_⟩
         · rw[a3z hbE,a3z hm,b1n hbE,b1n hm]
         · rw[a3z hbE] at hg;exact absurd (hbE.symm.trans hg) (by decide)
       · simp only[go_sem,List.map_nil]
       · rintro⟨g,acc,acc',q,more⟩ ⟨hg,hq,hle,hm1,hm0⟩ hrun;simp only at hg hq hle hm1 hm0 hrun⊢;cases more
         · obtain⟨m1,m2⟩:=hm0 rfl;have n4:=a2f full q 6 [125] hq hlen;refine⟨⟨1,a9o r1,vs,acc',zTy,zEx⟩,?_,fun hg=>by rw[m2 hg]⟩;rw[m1];simp only[go_sem,n4,deC,a0u,a2d,a0h,a8l,a8j,a8k,a8m,exz]
         · obtain⟨m1,m2,m3,m4⟩:=hm1 rfl;cases g with
           | zero=>cases m3
           | succ g=>
           simp only[d8s] at m3;split at m3
           · cases m3
           · rename_i c r4 h4;have hsf:=c3e h4;have hgood:=fun hg=>d4z h4 hg;unfold coR at h4;split at h4
             · cases h4
             · rename_i t rt ht;injection h4 with h4;injection h4 with h4c h4r;subst h4r;have tq:=b6t full q hq;have n4:=a2f full q 2 [] hq hlen;have q1:=(a0b q 2 []).trans hq;have n5:=a2f full (a0o q 2 []) 6 [58] q1 hlen;have q2:=(a0b (a0o q 2 []) 6 [58]).trans q1;obtain⟨t',dt,htt⟩:=b9s full hok hlen _ _ _ q2 ht;simp only at htt dt;have q4:=hsf.trans hq;have a5:=a3u full rt 6 [59] q4;have hql:=hsf.length_le;have hal:rt.bad=false→Co.mk (a9o q) t'=c:=fun hg=>by
                rw[b1a (a1s (a2k (a1s (hgood hg)))),htt hg];exact h4c
               have hap:(acc'.map coV).length+1≤a0s:=by rw[List.length_map];unfold a0s;omega
               have hmap:acc'.map coV++[.agg [.str (a9o q),.int .i64 t'.kind,.str t'.name,.int .i64 t'.n,.slice (a3a t'.args)]]=(acc'++[Co.mk (a9o q) t']).map coV:=by
                rw[List.map_append];rfl
               rw[a0a] at dt;cases b5:a1n rt 6 [59]
               · rw[b5] at m3 a5;simp only[Bool.false_eq_true,if_false] at m3;injection m3 with m3;injection m3 with m3a m3b;simp only[go_sem,tq,n4,n5,dt,hap,hmap,a5];refine hrun (g,acc++[c],acc'++[⟨a9o q,t'⟩],rt,false) _ ⟨by omega,q4,?_,(fun h=>by cases h),fun _=>?_⟩ (by simp only;omega) ?_
                 · simp only[List.length_append,List.length_singleton];omega
                 · subst h;subst m3a;subst m3b;refine⟨rfl,fun hg=>?_⟩;simp only;rw[m4 hg,hal (a2k (a1s hg)),hgx hg]
                 · simp only[go_sem]
               · rw[b5] at m3 a5;simp only[if_true] at m3;have w5:=a5f q4 hlen b5;obtain⟨hb5,t5,l5,hl5⟩:=a3o b5;have hk:(a0r rt 6 [59]).l.length+1=rt.l.length:=by rw[a7q b5,hl5];simp
                 simp only[go_sem,tq,n4,n5,dt,hap,hmap,a5,w5];refine hrun (g,acc++[c],acc'++[⟨a9o q,t'⟩],a0r rt 6 [59],true) _ ⟨by omega,(a0l _ _ _).trans q4,?_,fun _=>⟨?_,?_,m3,fun hg=>?_⟩,fun h=>by cases h⟩ (by simp only;omega) ?_
                 · simp only[List.length_append,List.length_singleton];omega
                 · rw[a7q b5]
                 · simp only[List.length_append,List.length_singleton];omega
                 · rw[m4 hg,hal hb5]
                 · simp only[go_sem]
   · rw[b4] at h a4;simp only[if_true] at h;injection h with h;subst h;have w4:=a5f s4 hlen b4;refine⟨⟨1,a9o r1,vs,[],zTy,zEx⟩,?_,fun hg=>by rw[name (a2k b4)]⟩;rw[a0d c5g,c5u];simp only[go_sem,Tryz.f137,a1,w1,tx,n1,nm,n2,a4,w4,deC,a0u,a2d,a0h,a8l,a8j,a8k,a8m,exz,List.map_nil]
theorem j4h{full:List Tok}{r:Rd}(hs:r.l<:+full):(idx full r !=((full.length:Nat):Int))=(r.bad||decide (0<r.l.length)):=by
 have:=hs.length_le;unfold idx;cases r.bad
 · simp only[Bool.false_eq_true,if_false,Bool.false_or];rw[b6n,Bool.eq_iff_iff];simp only[Bool.not_eq_true',beq_eq_false_iff_ne,ne_eq,decide_eq_true_eq];omega
 · simp only[if_true,Bool.true_or];rw[b6n,Bool.not_eq_true',beq_eq_false_iff_ne];omega
theorem idx0(full:List Tok):idx full ⟨full,false⟩=0:=by unfold idx;simp
theorem e6z(f:Nat)(s:List UInt8)(p:List De×Int)(hok:∀t∈(b1t s).1,b9t t)(hlen:(b1t s).1.length<1000000)
 (htot:∀ds r,f9p f (b1t s).1=some (ds,r)→r.bad=false→ds.length<1000000∧∀d∈ds,d.tot<1000000) (h:b5s f s=some p):den E 79 [.str s] []=some (d3v p,[]):=by
 rw[a0d i3x,i7g];obtain⟨pos,hT⟩:=f3f s;have hsc:=d6i s;rw[hT] at hsc;unfold b5s at h;generalize (b1t s).1=l at *;generalize (b1t s).2=e at *;cases he:e==0
 · have he':(e !=0)=true:=by rw[b6n,he];rfl
   rw[he',if_pos rfl] at h;injection h with h;subst h;simp only[go_sem,Tryz.f79,hsc,he',d3v,List.map_nil]
 · have he':(e !=0)=false:=by rw[b6n,he];rfl
   rw[he'] at h;simp only[Bool.false_eq_true,if_false] at h;split at h
   · cases h
   · rename_i ds r hds;injection h with h;subst h;have hl0:decide ((l.length:Int)>0)=decide (0<l.length):=by simp
     simp only[go_sem,Tryz.f79,hsc,he',a0y,hl0];refine a0p (fun z:Nat×List De×List De×Rd×Bool=>z.1≤f∧z.2.2.2.1.l<:+l∧
      (z.2.2.2.2=true→z.2.2.2.1.bad=false∧z.2.2.1.length+z.2.2.2.1.l.length≤l.length∧f1o f z.1 z.2.1 z.2.2.2.1=some (ds,r)∧(r.bad=false→z.2.2.1=z.2.1))∧
      (z.2.2.2.2=false→z.2.2.2.1=r∧(r.bad=false→z.2.2.1=ds)))
      (fun z=>⟨[(4,.slice (a2j l)),(7,.own 170 0 (z.2.2.1.map deV)),(8,.int .i64 (idx l z.2.2.2.1)),(9,.bool z.2.2.2.2)],[],[],1⟩)
      (fun _=>some (d3v (i6i ds r),[])) (fun z=>z.1) (f,[],[],⟨l,false⟩,decide (0<l.length)) ⟨Nat.le_refl _,List.suffix_refl _,?_,?_⟩ ?_ ?_
     · intro hm;refine⟨rfl,by simp,?_,fun _=>rfl⟩;cases l with
       | nil=>simp at hm
       | cons t q=>exact hds
     · intro hm;cases l with
       | nil=>
        simp only[f9p,Option.some.injEq,Prod.mk.injEq] at hds;obtain⟨rfl,rfl⟩:=hds;exact⟨rfl,fun _=>rfl⟩
       | cons t q=>simp at hm
     · simp only[go_sem,idx0,List.map_nil]
     · rintro⟨g,acc,acc',q,more⟩ ⟨hg,hq,hm1,hm0⟩ hrun;simp only at hg hq hm1 hm0 hrun⊢;cases more
       · obtain⟨m1,m2⟩:=hm0 rfl;subst m1;have hne:=j4h hq;unfold i6i;rw[←hne];cases hc:(idx l q !=((l.length:Nat):Int))
         · rw[hc] at hne;have hb:q.bad=false:=by revert hne;cases q.bad<;>simp
           obtain⟨hdl,hdt⟩:=htot _ _ hds hb;have:=m2 hb;subst this;simp only[go_sem,a0y,hc];refine a0p (fun i:Nat=>i≤acc'.length∧(acc'.take i).any b3z=false) (fun i=>⟨[(7,.own 170 0 (acc'.map deV)),(12,.int .i64 i)],[],[],1⟩)
            (fun _=>some (d3v (if acc'.any b3z then ([],3) else (acc',0)),[])) (fun i=>acc'.length - i) 0 ⟨Nat.zero_le _,by simp⟩ ?_ ?_
           · simp only[go_sem]
           · rintro i ⟨hi,h0⟩ h
             by_cases hlt:i<acc'.length
             · obtain⟨x,hx⟩:∃x,acc'[i]? =some x:=⟨acc'[i],List.getElem?_eq_getElem hlt⟩
               have hd:=e6s x (hdt x (List.mem_of_getElem? hx));have w1:IntKind.i64.wrap ((i:Int)+1)=((i+1:Nat):Int):=a1e (i+1) (by omega);obtain⟨ya,yb⟩:=b4g hx h0;rw[deC] at hd;cases hdx:b3z x
               · rw[hdx] at hd;simp only[go_sem,a0g,List.length_map,decide_eq_true hlt,a0c,a0j,d4x,hx,deV,deC,hd];refine h (i+1) _ ⟨hlt,yb hdx⟩ (by omega) ?_;simp only[go_sem,w1]
               · rw[hdx] at hd;simp only[go_sem,a0g,List.length_map,decide_eq_true hlt,a0c,a0j,d4x,hx,deV,deC,hd,ya hdx,d3v,List.map_nil]
             · have hie:i=acc'.length:=by omega
               subst hie;rw[List.take_length] at h0;simp only[go_sem,a0g,List.length_map,Nat.lt_irrefl,h0,d3v]
         · simp only[go_sem,a0y,hc,d3v,List.map_nil]
       · obtain⟨m1,m2,m3,m4⟩:=hm1 rfl;cases g with
         | zero=>cases m3
         | succ g=>
         simp only[f1o] at m3;split at m3
         · cases m3
         · rename_i d r4 h4;have d4:=i6p l hok hlen f q _ hq h4;obtain⟨d',d4,hd4⟩:=d4;simp only at d4 hd4;have hsf:=c8p h4;have q4:=hsf.trans hq;have hql:=hsf.length_le;have a5:=a3u l r4 6 [59] q4;have hqle:=hq.length_le;have hap:(acc'.map deV).length+1≤a0s:=by rw[List.length_map];unfold a0s;omega
           have hmap:acc'.map deV++[.agg (deC d')]=(acc'++[d']).map deV:=by rw[List.map_append];rfl
           rw[deC] at d4 hmap;cases b5:a1n r4 6 [59]
           · rw[b5] at m3 a5;simp only[Bool.false_eq_true,if_false] at m3;injection m3 with m3;injection m3 with m3a m3b;simp only[go_sem,d4,hap,hmap,a5];refine hrun (g,acc++[d],acc'++[d'],r4,false) _ ⟨by omega,q4,(fun h=>by cases h),fun _=>⟨m3b,fun hg=>?_⟩⟩ (by simp only;omega) ?_
             · simp only;rw[←m3a,m4 hg,hd4 (by rw[m3b];exact hg)]
             · simp only[go_sem]
           · rw[b5] at m3 a5;simp only[if_true] at m3;have w5:=a5f q4 hlen b5;obtain⟨hb5,t5,l5,hl5⟩:=a3o b5;have hk:(a0r r4 6 [59]).l.length+1=r4.l.length:=by rw[a7q b5,hl5];simp
             simp only[go_sem,d4,hap,hmap,a5,w5];refine hrun (g,acc++[d],acc'++[d'],a0r r4 6 [59],true) _ ⟨by omega,(a0l _ _ _).trans q4,fun _=>⟨?_,?_,m3,fun hg=>?_⟩,fun h=>by cases h⟩ (by simp only;omega) ?_
             · rw[a7q b5]
             · simp only[List.length_append,List.length_singleton];omega
             · rw[m4 hg,hd4 hb5]
             · simp only[go_sem]
def par(b:Bool)(s:List UInt8):List UInt8:=if b then [40]++s++[41] else s
theorem a5s{e:Ex}{x:Ex}(h:x∈e.kids):x.tot+1≤e.tot:=by
 have h1:=b0o h;have h2:=b0k e;have h3:=a3g e.ty;omega
theorem c5x{e:Ex}{a:Al}(h:a∈e.alts):a.vars.length+a.body.tot+1≤e.tot:=by
 have h1:=i8a h;have h2:=b0k e;omega
theorem d5j(e:Ex):e.alts.length≤e.tot:=by
 have:=g0y e.alts;have:=b0k e;omega
end Go.Proofs
