/- Types: well formed, renamed, with canonical names, put in the place of names, peeled. -/
import Derived.Test.YtjfghnkmladbkaaGreatDoorAvK
namespace Go.Proofs
open Go.Av
set_option maxHeartbeats 16000000
set_option maxRecDepth 100000
mutual
def b1k:Ty→Bool
 | .mk k _ _ l=>k==5||a9i l
def a9i:List Ty→Bool
 | []=>false
 | t::l=>b1k t||a9i l
end
theorem c5j(k:Int)(s:List UInt8)(n:Int)(l:List Ty):b1k (.mk k s n l)=(k==5||a9i l):=rfl
theorem a8g(t:Ty)(l:List Ty):a9i (t::l)=(b1k t||a9i l):=rfl
def f0v(p:Ty→Bool):List Ty→Nat→Int
 | [],_=> -1
 | x::r,i=>if p x then (i:Int) else f0v p r (i+1)
theorem e1l(p:Ty→Bool):∀(l:List Ty) (i:Nat),decide (0≤f0v p l i)=l.any p
 | [],i=>rfl
 | x::r,i=>by
  unfold f0v;cases h:p x
  · simp only[Bool.false_eq_true,if_false,List.any_cons,h,Bool.false_or];exact e1l p r (i+1)
  · simp[h]
theorem d7q:∀l:List Ty,a9i l=l.any b1k
 | []=>rfl
 | t::l=>by rw[a8g,List.any_cons,d7q l]
theorem i8f(l:List Ty)(hl:l.length<1000000)(hc:∀x∈l,den E 145 [tyV x] []=some (.bool (b1k x),[])):den E 212 [.slice (a2o l),.func 145 [] []] []=some (.int .i64 (f0v b1k l 0),[]):=by
 rw[a0d e4c,e6m];have rl:=a1k l;simp only[go_sem,Tryz.f212,rl];refine a0p (fun i:Nat=>i≤l.length) (fun i=>⟨[(0,.slice (a2o l)),(1,.func 145 [] []),(7,.int .i64 l.length),(8,.int .i64 i)],[],[],1⟩) (fun i=>some (.int .i64 (f0v b1k (l.drop i) i),[])) (fun i=>l.length - i) 0 (Nat.zero_le _) ?_ ?_
 · simp only[go_sem]
 · intro i hi h
   by_cases hlt:i<l.length
   · obtain⟨x,hx⟩:=a6u hlt;rw[a1z hx];have w1:IntKind.i64.wrap ((i:Int)+1)=((i+1:Nat):Int):=a1c (i+1) (by omega);have d:=hc x (List.mem_of_getElem? hx);rw[a0a] at d;cases hq:b1k x
     · rw[hq] at d;simp only[go_sem,a0f,decide_eq_true hlt,a0c,a0i,a4r,hx,hq,d,a0a,f0v];refine h (i+1) _ (by omega) (by omega) ?_;simp only[go_sem,w1]
     · rw[hq] at d;simp only[go_sem,a0f,decide_eq_true hlt,a0c,a0i,a4r,hx,hq,d,a0a,f0v]
   · have hie:i=l.length:=by omega
     subst hie;rw[List.drop_length];simp only[go_sem,a0f,Nat.lt_irrefl,f0v]
theorem d6f(l:List Ty)(hl:l.length<1000000)(hc:∀x∈l,den E 145 [tyV x] []=some (.bool (b1k x),[])):den E 144 [.slice (a2o l),.func 145 [] []] []=some (.bool (a9i l),[]):=by
 rw[a0d e4h,e6q];have d:=i8f l hl hc;have e:=e1l b1k l 0;rw[d7q];simp only[go_sem,Tryz.f144,d,e,ge_iff_le]
theorem c5i:∀(n:Nat) (t:Ty),t.sz≤n→t.sz<1000000→den E 145 [tyV t] []=some (.bool (b1k t),[]):=by
 intro n
 induction n with
 | zero=>intro t h;have:=a2f t;omega
 | succ n ih=>
  intro t hn hb;have hsz:=a2f t;have hal:=a4v t;have d:=d6f t.args (by omega) fun x hx=>by
   have:=a2i hx;exact ih x (by omega) (by omega)
  rw[a0d g8s,h5s];have e:b1k t=(t.kind==5||a9i t.args):=by cases t;rfl
  rw[e,a0a];cases hk:t.kind==5
  · simp only[go_sem,Tryz.f145,hk,d,Bool.false_or]
  · simp only[go_sem,Tryz.f145,hk,Bool.true_or]
def b3e{α:Type}(f:α→AVal)(l:List (List UInt8×α)):List AVal:=l.map fun p=>.tup [.str p.1,f p.2]
theorem h0r{α:Type}(f:α→AVal)(l:List (List UInt8×α)):isL (b3e f l)=none:=by
 cases l with
 | nil=>rfl
 | cons a r=>cases r<;>rfl
attribute [go_sem ↓] h0r
def a2a{α:Type}(k:List UInt8):List (List UInt8×α)→Option α
 | []=>none
 | p::r=>if k==p.1 then some p.2 else a2a k r
def b4i{α:Type}(k:List UInt8)(v:α):List (List UInt8×α)→List (List UInt8×α)
 | []=>[(k,v)]
 | p::r=>if k==p.1 then (k,v)::r else p::b4i k v r
theorem b1n{α:Type}(f:α→AVal)(k:List UInt8):∀l:List (List UInt8×α),d0a (.str k) (b3e f l)=some ((a2a k l).map f)
 | []=>rfl
 | p::r=>by
  have ih:=b1n f k r;unfold b3e at ih⊢;rw[List.map_cons];simp only[d0a,c4h,Option.bind_some,a2a];cases h:k==p.1
  · simp only[Bool.false_eq_true,if_false];exact ih
  · simp
theorem b9r{α:Type}(f:α→AVal)(k:List UInt8)(v:α):∀l:List (List UInt8×α),f2y (.str k) (f v) (b3e f l)=some (b3e f (b4i k v l))
 | []=>rfl
 | p::r=>by
  have ih:=b9r f k v r;unfold b3e at ih⊢;rw[List.map_cons];simp only[f2y,c4h,Option.bind_some,b4i];cases h:k==p.1
  · simp only[Bool.false_eq_true,if_false,ih,Option.map_some,List.map_cons]
  · simp
def j1p(n:Int):AVal:=.int .i64 n
def j8r(ar:List (List UInt8×Int))(s:List UInt8)(n:Nat):Bool:=match a2a s ar with
 | none=>true
 | some m=>m !=(n:Int)
mutual
def b3v(ar:List (List UInt8×Int)):Ty→Bool
 | .mk k s _ l=> !(k==2||(k==3&&j8r ar s l.length))&&d5k ar l
def d5k(ar:List (List UInt8×Int)):List Ty→Bool
 | []=>true
 | t::l=>b3v ar t&&d5k ar l
end
theorem c2v(ar:List (List UInt8×Int))(t:Ty)(l:List Ty):d5k ar (t::l)=(b3v ar t&&d5k ar l):=rfl
theorem b7j(ar:List (List UInt8×Int))(t:Ty):b3v ar t=(!(t.kind==2||(t.kind==3&&j8r ar t.name t.args.length))&&d5k ar t.args):=by cases t;rfl
theorem d9d(ar:List (List UInt8×Int)):∀l:List Ty,(l.any fun t=> !b3v ar t)= !d5k ar l
 | []=>rfl
 | t::l=>by rw[List.any_cons,d9d ar l,c2v];cases b3v ar t<;>rfl
def b2o(ar:List (List UInt8×Int))(cs co:List AVal):List AVal:=[.own 1099511627777 0 (b3e j1p ar),.own 1099511627777 0 cs,.own 1099511627777 0 co]
attribute [go_sem] b2o
theorem i8g(ar:List (List UInt8×Int))(cs co:List AVal)(l:List Ty)(hl:l.length<1000000)
 (hc:∀x∈l,den E 154 [tyV x,.ptr (.par 0) 0] [[.ptr (.par 1) 0],b2o ar cs co]=some (.bool (!b3v ar x),[[.ptr (.par 1) 0],b2o ar cs co])):
 den E 212 [.slice (a2o l),.func 154 [] [.ptr (.par 0) 0]] [[.ptr (.par 1) 0],b2o ar cs co]=some (.int .i64 (f0v (fun x=> !b3v ar x) l 0),[[.ptr (.par 1) 0],b2o ar cs co]):=by
 rw[a0d e4c,e6m];have rl:=a1k l;simp only[go_sem,Tryz.f212,rl];refine a0p (fun i:Nat=>i≤l.length) (fun i=>⟨[(0,.slice (a2o l)),(1,.func 154 [] [.ptr (.par 0) 0]),(7,.int .i64 l.length),(8,.int .i64 i)],[[.ptr (.par 1) 0],b2o ar cs co],[],1⟩) (fun i=>some (.int .i64 (f0v (fun x=> !b3v ar x) (l.drop i) i),[[.ptr (.par 1) 0],b2o ar cs co])) (fun i=>l.length - i) 0 (Nat.zero_le _) ?_ ?_
 · simp only[go_sem]
 · intro i hi h
   by_cases hlt:i<l.length
   · obtain⟨x,hx⟩:=a6u hlt;rw[a1z hx];have w1:IntKind.i64.wrap ((i:Int)+1)=((i+1:Nat):Int):=a1c (i+1) (by omega);have d:=hc x (List.mem_of_getElem? hx);rw[a0a] at d;unfold b2o at d;cases hq:b3v ar x
     · rw[hq] at d;simp only[go_sem,a0f,decide_eq_true hlt,a0c,a0i,a4r,hx,hq,d,a0a,f0v]
     · rw[hq] at d;simp only[go_sem,a0f,decide_eq_true hlt,a0c,a0i,a4r,hx,hq,d,a0a,f0v];refine h (i+1) _ (by omega) (by omega) ?_;simp only[go_sem,w1]
   · have hie:i=l.length:=by omega
     subst hie;rw[List.drop_length];simp only[go_sem,a0f,Nat.lt_irrefl,f0v]
theorem h6r(ar:List (List UInt8×Int))(cs co:List AVal)(l:List Ty)(hl:l.length<1000000)
 (hc:∀x∈l,den E 154 [tyV x,.ptr (.par 0) 0] [[.ptr (.par 1) 0],b2o ar cs co]=some (.bool (!b3v ar x),[[.ptr (.par 1) 0],b2o ar cs co])):
 den E 144 [.slice (a2o l),.func 154 [] [.ptr (.par 0) 0]] [[.ptr (.par 1) 0],b2o ar cs co]=some (.bool (!d5k ar l),[[.ptr (.par 1) 0],b2o ar cs co]):=by
 rw[a0d e4h,e6q];have d:=i8g ar cs co l hl hc;have e:=e1l (fun x=> !b3v ar x) l 0;rw[d9d] at e;unfold b2o at d;simp only[go_sem,Tryz.f144,d,e,ge_iff_le]
theorem g0p(ar:List (List UInt8×Int))(cs co:List AVal)(x:Ty)(h:den E 89 [.ptr (.par 0) 0,tyV x] [b2o ar cs co]=some (.bool (b3v ar x),[b2o ar cs co])):
 den E 154 [tyV x,.ptr (.par 0) 0] [[.ptr (.par 1) 0],b2o ar cs co]=some (.bool (!b3v ar x),[[.ptr (.par 1) 0],b2o ar cs co]):=by
 rw[a0d g8l,h5l];rw[a0a] at h⊢;unfold b2o at h;simp only[go_sem,Tryz.f154,h]
theorem f1f(ar:List (List UInt8×Int))(cs co:List AVal):∀(n:Nat) (t:Ty),t.sz≤n→t.sz<1000000→den E 89 [.ptr (.par 0) 0,tyV t] [b2o ar cs co]=some (.bool (b3v ar t),[b2o ar cs co]):=by
 intro n
 induction n with
 | zero=>intro t h;have:=a2f t;omega
 | succ n ih=>
  intro t hn hb;have hsz:=a2f t;have hal:=a4v t;have d:=h6r ar cs co t.args (by omega) fun x hx=>by
   have:=a2i hx;exact g0p ar cs co x (ih x (by omega) (by omega))
  have hf:=b1n j1p t.name ar;have rl:=a1k t.args;rw[a0d i6e,i9x];rw[b7j,a0a];unfold j8r;unfold b2o at d;cases hk:a2a t.name ar with
  | none=>
   rw[hk] at hf;simp only[Option.map_none] at hf;cases h2:t.kind==2<;>cases h3:t.kind==3<;>simp only[go_sem,Tryz.f89,hf,h2,h3,d,Bool.not_not]
  | some m=>
   rw[hk] at hf;simp only[Option.map_some,j1p] at hf;cases h2:t.kind==2<;>cases h3:t.kind==3<;>cases h4:m !=(t.args.length:Int)<;>simp only[go_sem,Tryz.f89,hf,h2,h3,h4,rl,d,Bool.not_not]
def b3b(ar:List (List UInt8×Int))(t:Ty):Int:=if b3v ar t then (if a0n t [] []=[] then 0 else 111) else 110
theorem d5g(ar:List (List UInt8×Int))(cs co:List AVal)(t:Ty)(hb:t.sz<1000000):den E 31 [.ptr (.par 0) 0,tyV t] [b2o ar cs co]=some (.int .i64 (b3b ar t),[b2o ar cs co]):=by
 have d:=f1f ar cs co _ t (Nat.le_refl _) hb;have df:=a7j t hb;rw[a0d i7a,j0r];unfold b3b;rw[a0a] at d df⊢;unfold b2o at d;cases hf:b3v ar t
 · rw[hf] at d;simp only[go_sem,Tryz.f31,d]
 · rw[hf] at d;cases hl:a0n t [] [] with
   | nil=>
    rw[hl] at df;have h0:decide ((0:Int)>0)=false:=rfl;simp only[go_sem,Tryz.f31,d,df,h0]
   | cons a r=>
    rw[hl] at df;have h0:decide (((r.length+1:Nat):Int)>0)=true:=by simp
    simp only[go_sem,Tryz.f31,d,df,h0,List.length_map]
def f2z(f:Nat→List UInt8)(l:List (List UInt8)):Nat→Nat→Nat
 | 0,i=>i
 | n+1,i=>if l.contains (f i) then f2z f l n (i+1) else i
theorem f4x{f:Nat→List UInt8}{l:List (List UInt8)}{i0:Nat}(h0:l.contains (f i0)=false)(h:∀j,j<i0→l.contains (f j)=true):∀(n i:Nat),i≤i0→i0≤i+n→f2z f l n i=i0
 | 0,i,h1,h2=>by simp only[f2z];omega
 | n+1,i,h1,h2=>by
  rw[f2z]
  by_cases e:i=i0
  · subst e;rw[h0];rfl
  · rw[h i (by omega),if_pos rfl];exact f4x h0 h n (i+1) (by omega) (by omega)
theorem b5h(f:Nat→List UInt8)(hinj:∀i j,f i=f j→i=j)(l:List (List UInt8)):
 f2z f l (l.length+1) 0≤l.length∧l.contains (f (f2z f l (l.length+1) 0))=false∧∀j,j<f2z f l (l.length+1) 0→l.contains (f j)=true:=by
 obtain⟨i0,h1,h2,h3⟩:=d1z f hinj l;have e:=f4x h2 h3 (l.length+1) 0 (Nat.zero_le _) (by omega);rw[e];exact⟨h1,h2,h3⟩
def a5z(s:List UInt8)(but:List (List UInt8)):List UInt8:=b8b s (f2z (b8b s) but (but.length+1) 0)
theorem h1f(s:List UInt8)(but:List (List UInt8)):but.contains (a5z s but)=false:=(b5h (b8b s) (d5w s) but).2.1
theorem b7i(s:List UInt8)(but:List (List UInt8))(h:but.length<999999):a5z s but≠[]∧(a5z s but).length≤16:=h2u s _ (by have:=(b5h (b8b s) (d5w s) but).1;omega)
theorem c2u(s:List UInt8)(but:List (List UInt8))(hs:s≠[])(hl:s.length≤1000)(hb:but.length<1000000):den E 98 [.str s,.slice (but.map .str)] []=some (.str (a5z s but),[]):=by
 obtain⟨h1,h2,h3⟩:=b5h (b8b s) (d5w s) but;unfold a5z;generalize f2z (b8b s) but (but.length+1) 0=i0 at h1 h2 h3⊢;rw[a0d i5z,i9s];have hl1:1≤s.length:=List.length_pos_iff.2 hs;have l1:(s.take 1).length+1≤a0q:=by rw[List.length_take];unfold a0q;omega
 simp only[go_sem,Tryz.f98];refine a0p (fun i:Nat=>i≤i0) (fun i=>⟨[(0,.str s),(1,.slice (but.map .str)),(5,.int .i64 i)],[],[],1⟩) (fun _=>some (.str (b8b s i0),[])) (fun i=>i0 - i) 0 (Nat.zero_le _) ?_ ?_
 · simp only[go_sem]
 · intro i hi h;have w1:IntKind.i64.wrap ((i:Int)+1)=((i+1:Nat):Int):=a1c (i+1) (by omega);have d1:=a9z i (by omega);have dc:=a4a but (b8b s i) hb;have l2:(s.take 1++[95]).length+(Lib.itoa (i:Int)).length≤a0q:=by
    have:=a9p 8 i (by
     have e:(10:Nat) ^ (8+1)=1000000000:=by decide
     omega)
    rw[List.length_append,List.length_take];unfold a0q;simp;omega
   by_cases hlt:i<i0
   · rw[h3 i hlt] at dc;unfold b8b at dc;simp only[go_sem,hl1,Nat.zero_le,l1,l2,d1,dc,Int.toNat_one,Int.zero_le_ofNat];refine h (i+1) _ (by omega) (by omega) ?_;simp only[go_sem,w1]
   · have hie:i=i0:=by omega
     subst hie;rw[h2] at dc;unfold b8b at dc⊢;simp only[go_sem,hl1,Nat.zero_le,l1,l2,d1,dc,Int.toNat_one,Int.zero_le_ofNat]
def a9n:Nat→Ty→List UInt8→List UInt8→Ty
 | 0,t,_,_=>t
 | n+1,.mk k s m l,a,b=>
  if k==1&&s==a then .mk k b m l
  else if k==5&&s==a then .mk k s m l
  else if k==5&&s==b then (match l with
   | [x]=>.mk 5 (a5z b (a0n x [] []++[a,b])) 0 [a9n n (a9n n x b (a5z b (a0n x [] []++[a,b]))) a b]
   | _=>.mk k s m l)
  else .mk k s m (l.map fun x=>a9n n x a b)
theorem d3t(n:Nat)(s:List UInt8)(a b:List UInt8):a9n (n+1) (.mk 1 s 0 []) a b=if s==a then .mk 1 b 0 [] else .mk 1 s 0 []:=by
 unfold a9n;cases h:s==a<;>simp
theorem d3u(n:Nat)(s:List UInt8)(x:Ty)(a b:List UInt8):a9n (n+1) (.mk 5 s 0 [x]) a b=if s==a then .mk 5 s 0 [x] else if s==b then .mk 5 (a5z b (a0n x [] []++[a,b])) 0 [a9n n (a9n n x b (a5z b (a0n x [] []++[a,b]))) a b] else .mk 5 s 0 [a9n n x a b]:=by
 rw[a9n];cases h:s==a<;>cases h2:s==b<;>simp
theorem c5b:∀(n:Nat) (t:Ty),t.sz≤n→GT t→t.sz<300000→∀(a b:List UInt8),b≠[]→b.length≤16→den E 100 [tyV t,.str a,.str b] []=some (tyV (a9n n t a b),[])∧GT (a9n n t a b)∧(a9n n t a b).sz=t.sz:=by
 intro n
 induction n with
 | zero=>intro t h;have:=a2f t;omega
 | succ n ih=>
  intro t hn hg hb a b hb0 hb1;have hsz:=a2f t;cases hg with
  | var s hs=>
   rw[d3t];cases h:s==a
   · exact⟨b2x (.mk 1 s 0 []) [] a b rfl (by omega) (fun i x y hx=>by simp[Ty.args] at hx) (by simpa [Ty.kind,Ty.name] using h) rfl rfl,.var s hs,rfl⟩
   · exact⟨i5u (.mk 1 s 0 []) a b rfl h,.var b hb1,rfl⟩
  | unk m h1 h2=>exact⟨b2x (.mk 2 [] m []) [] a b rfl (by omega) (fun i x y hx=>by simp[Ty.args] at hx) rfl rfl rfl,.unk m h1 h2,rfl⟩
  | con s l hs hl=>
   rw[a0t] at hn hb;have e:a9n (n+1) (.mk 3 s 0 l) a b=.mk 3 s 0 (l.map fun x=>a9n n x a b):=rfl;rw[e];have h2:∀(i:Nat) (x y:Ty),l[i]? =some x→(l.map fun x=>a9n n x a b)[i]? =some y→den E 100 [tyV x,.str a,.str b] []=some (tyV y,[])∧GT y∧y.sz=x.sz:=by
    intro i x y hx hy;simp[hx] at hy;subst hy;have:=a2i (List.mem_of_getElem? hx);exact ih x (by omega) (hl x (List.mem_of_getElem? hx)) (by omega) a b hb0 hb1
   refine⟨b2x (.mk 3 s 0 l) _ a b (by simp[Ty.args]) (by rw[a0t];omega) (fun i x y hx hy=>(h2 i x y hx hy).1) rfl rfl rfl,.con s _ hs fun y hy=>?_,?_⟩
   · obtain⟨x,hx,rfl⟩:=List.mem_map.1 hy;obtain⟨i,hi⟩:=b9f hx;exact (h2 i x _ hi (by simp[hi])).2.1
   · rw[a0t,a0t];exact congrArg (· +1) (d0i (by simp) fun i x y hx hy=>(h2 i x y hx hy).2.2)
  | fn u v hu hv=>
   rw[a0t,a1g] at hn hb;have e:a9n (n+1) (.mk 4 [] 0 [u,v]) a b=.mk 4 [] 0 [a9n n u a b,a9n n v a b]:=rfl;rw[e];obtain⟨d1,g1,s1⟩:=ih u (by omega) hu (by omega) a b hb0 hb1;obtain⟨d2,g2,s2⟩:=ih v (by omega) hv (by omega) a b hb0 hb1;refine⟨b2x (.mk 4 [] 0 [u,v]) [_,_] a b rfl (by rw[a0t,a1g];omega) (fun i x y hx hy=>?_) rfl rfl rfl,.fn _ _ g1 g2,by simp only[a0t,a1g,s1,s2]⟩
   match i with
   | 0=>simp[Ty.args] at hx hy;subst hx hy;exact d1
   | 1=>simp[Ty.args] at hx hy;subst hx hy;exact d2
   | i+2=>simp[Ty.args] at hx
  | all s x hs hx=>
   rw[a0t,a1e] at hn hb;rw[d3u];cases ha:s==a
   · cases hq:s==b
     · obtain⟨d1,g1,s1⟩:=ih x (by omega) hx (by omega) a b hb0 hb1;refine⟨b2x (.mk 5 s 0 [x]) [_] a b rfl (by rw[a0t,a1e];omega) (fun i u v hu hv=>?_) rfl (by simpa [Ty.kind,Ty.name] using ha) (by simpa [Ty.kind,Ty.name] using hq),.all s _ hs g1,by simp only[Bool.false_eq_true,if_false,a0t,a1e,s1]⟩
       match i with
       | 0=>simp[Ty.args] at hu hv;subst hu hv;exact d1
       | i+1=>simp[Ty.args] at hu
     · have hle:=a2v _ x (Nat.le_refl _) [] [];simp only[List.length_nil,Nat.zero_add] at hle;have hd:=c2u b (a0n x [] []++[a,b]) hb0 (by omega) (by simp;omega);obtain⟨c0,c1⟩:=b7i b (a0n x [] []++[a,b]) (by simp;omega);obtain⟨r1,g1,s1⟩:=ih x (by omega) hx (by omega) b (a5z b (a0n x [] []++[a,b])) c0 c1;obtain⟨r2,g2,s2⟩:=ih (a9n n x b (a5z b (a0n x [] []++[a,b]))) (by omega) g1 (by omega) a b hb0 hb1;simp only[Bool.false_eq_true,if_false,if_true];exact⟨f5i (.mk 5 s 0 [x]) x _ _ a b _ rfl rfl rfl ha hq (by rw[a0t,a1e];omega) s1 hd r1 r2,.all _ _ c1 g2,by rw[a0t,a0t,a1e,a1e,s2,s1]⟩
   · exact⟨g5w (.mk 5 s 0 [x]) a b rfl rfl ha,.all s x hs hx,rfl⟩
def a7g(g:Ty→Nat→Ty×Nat):List Ty→Nat→List Ty×Nat
 | [],k=>([],k)
 | t::l,k=>((g t k).1::(a7g g l (g t k).2).1,(a7g g l (g t k).2).2)
def c4g(fr:List (List UInt8))(k:Nat):Nat:=k+f2z (fun i=>a9a (k+i)) fr (fr.length+1) 0
def b0v(fr:List (List UInt8)):Nat→Ty→Nat→Ty×Nat
 | 0,t,k=>(t,k)
 | n+1,.mk q s m l,k=>
  if q==5 then (match l with
   | [x]=>(.mk 5 (a9a (c4g fr k)) 0 [(b0v fr n (a9n n x s (a9a (c4g fr k))) (c4g fr k+1)).1],(b0v fr n (a9n n x s (a9a (c4g fr k))) (c4g fr k+1)).2)
   | _=>(.mk q s m l,k))
  else (.mk q s m (a7g (b0v fr n) l k).1,(a7g (b0v fr n) l k).2)
theorem e4r(fr:List (List UInt8))(n:Nat)(s:List UInt8)(x:Ty)(k:Nat):b0v fr (n+1) (.mk 5 s 0 [x]) k=(.mk 5 (a9a (c4g fr k)) 0 [(b0v fr n (a9n n x s (a9a (c4g fr k))) (c4g fr k+1)).1],(b0v fr n (a9n n x s (a9a (c4g fr k))) (c4g fr k+1)).2):=rfl
def c7j(g:Ty→Nat→Ty×Nat):List Ty→Nat→List Nat
 | [],k=>[k]
 | t::l,k=>k::c7j g l (g t k).2
theorem b5u(g:Ty→Nat→Ty×Nat)(l:List Ty)(k:Nat):(c7j g l k).getD 0 0=k:=by cases l<;>rfl
theorem c0m(g:Ty→Nat→Ty×Nat):∀(l:List Ty) (k:Nat),(c7j g l k).getD l.length 0=(a7g g l k).2
 | [],k=>rfl
 | t::l,k=>by rw[c7j,List.length_cons,List.getD_cons_succ,c0m g l];rfl
theorem b0u(g:Ty→Nat→Ty×Nat):∀(l:List Ty) (k:Nat),(a7g g l k).1.length=l.length
 | [],k=>rfl
 | t::l,k=>by rw[a7g,List.length_cons,b0u g l];rfl
theorem d4k(g:Ty→Nat→Ty×Nat):∀(l:List Ty) (k i:Nat) (x y:Ty),l[i]? =some x→(a7g g l k).1[i]? =some y→y=(g x ((c7j g l k).getD i 0)).1∧(c7j g l k).getD (i+1) 0=(g x ((c7j g l k).getD i 0)).2
 | [],k,i,x,y,h,_=>by simp at h
 | t::l,k,0,x,y,h,h2=>by
  simp[a7g] at h h2;subst h;rw[←h2,c7j,List.getD_cons_zero,List.getD_cons_succ,b5u];exact⟨rfl,rfl⟩
 | t::l,k,i+1,x,y,h,h2=>by
  rw[c7j,List.getD_cons_succ,List.getD_cons_succ];exact d4k g l (g t k).2 i x y (by simpa using h) (by simpa [a7g] using h2)
theorem d4l(fr:List (List UInt8))(hf:fr.length<1000000):∀(n:Nat) (t:Ty),t.sz≤n→GT t→t.sz<300000→∀k:Nat,k+t.sz*(fr.length+1)≤900000000→
 den E 151 [tyV t,.slice (fr.map .str),.int .i64 k] []=some (.tup [tyV (b0v fr n t k).1,.int .i64 (b0v fr n t k).2],[])∧GT (b0v fr n t k).1∧(b0v fr n t k).1.sz=t.sz∧(b0v fr n t k).2≤k+t.sz*(fr.length+1):=by
 intro n
 induction n with
 | zero=>intro t h;have:=a2f t;omega
 | succ n ih=>
  intro t hn hg hb k hk;have bound:∀(l:List Ty),(∀x,x∈l→GT x)→Ty.szs l≤n→Ty.szs l<300000→∀k:Nat,k+Ty.szs l*(fr.length+1)≤900000000→
   (∀(i:Nat) (x:Ty),l[i]? =some x→(c7j (b0v fr n) l k).getD i 0+x.sz*(fr.length+1)≤900000000)∧(a7g (b0v fr n) l k).2≤k+Ty.szs l*(fr.length+1):=by
   intro l
   induction l with
   | nil=>intro _ _ _ k _;exact⟨fun i x h=>by simp at h,by simp[a7g]⟩
   | cons t l ihl=>
    intro hl h1 h2 k hk;rw[a3b,Nat.add_mul] at hk;rw[a3b] at h1 h2;obtain⟨_,_,_,q4⟩:=ih t (by omega) (hl t (List.mem_cons_self ..)) (by omega) k (by omega);obtain⟨b1,b2⟩:=ihl (fun x hx=>hl x (List.mem_cons_of_mem _ hx)) (by omega) (by omega) (b0v fr n t k).2 (by omega);refine⟨fun i x hx=>?_,?_⟩
    · cases i with
      | zero=>simp at hx;subst hx;rw[c7j,List.getD_cons_zero];omega
      | succ i=>rw[c7j,List.getD_cons_succ];exact b1 i x (by simpa using hx)
    · rw[a7g,a3b,Nat.add_mul];simp only;omega
  have kids:∀l:List Ty,(∀x,x∈l→GT x)→Ty.szs l≤n→Ty.szs l<300000→k+Ty.szs l*(fr.length+1)≤900000000→
   ∀(i:Nat) (x y:Ty),l[i]? =some x→(a7g (b0v fr n) l k).1[i]? =some y→den E 151 [tyV x,.slice (fr.map .str),.int .i64 ((c7j (b0v fr n) l k).getD i 0:Nat)] []=some (.tup [tyV y,.int .i64 ((c7j (b0v fr n) l k).getD (i+1) 0:Nat)],[])∧GT y∧y.sz=x.sz:=by
   intro l hl h1 h2 h3 i x y hx hy;obtain⟨e1,e2⟩:=d4k _ l k i x y hx hy;have hm:=List.mem_of_getElem? hx;have:=a2i hm;obtain⟨q1,q2,q3,_⟩:=ih x (by omega) (hl x hm) (by omega) _ ((bound l hl h1 h2 k h3).1 i x hx);rw[e1,e2];exact⟨q1,q2,q3⟩
  have mono:∀a b:Nat,a≤b→a*(fr.length+1)≤b*(fr.length+1):=fun a b h=>Nat.mul_le_mul_right _ h;cases hg with
  | var s hs=>
   exact⟨c0l (.mk 1 s 0 []) [] _ [k] rfl (by omega) rfl (fun i x y hx=>by simp[Ty.args] at hx),.var s hs,rfl,by show k≤_;omega⟩
  | unk m h1 h2=>
   exact⟨c0l (.mk 2 [] m []) [] _ [k] rfl (by omega) rfl (fun i x y hx=>by simp[Ty.args] at hx),.unk m h1 h2,rfl,by show k≤_;omega⟩
  | con s l hs hl=>
   rw[a0t] at hn hb hk⊢;have:=mono (Ty.szs l) (Ty.szs l+1) (by omega);have e:b0v fr (n+1) (.mk 3 s 0 l) k=(.mk 3 s 0 (a7g (b0v fr n) l k).1,(a7g (b0v fr n) l k).2):=rfl;have e3:=kids l hl (by omega) (by omega) (by omega);have e2:=(bound l hl (by omega) (by omega) k (by omega)).2;have d:=c0l (.mk 3 s 0 l) (a7g (b0v fr n) l k).1 (fr.map .str) (c7j (b0v fr n) l k) (b0u _ l k) (by rw[a0t];omega) rfl (fun i x y hx hy=>(e3 i x y hx hy).1);rw[b5u] at d;have e4:(Ty.mk 3 s 0 l).args.length=l.length:=rfl;rw[e4,c0m] at d;rw[e];refine⟨d,.con s _ hs fun y hy=>?_,?_,by show (a7g (b0v fr n) l k).2≤_;omega⟩
   · obtain⟨i,hi⟩:=b9f hy;have:i<l.length:=by have:=(List.getElem?_eq_some_iff.1 hi).1;rw[b0u] at this;exact this
     obtain⟨x,hx⟩:=a6u this;exact (e3 i x y hx hi).2.1
   · show (Ty.mk 3 s 0 (a7g (b0v fr n) l k).1).sz=_
     rw[a0t];exact congrArg (· +1) (d0i (b0u _ l k) fun i x y hx hy=>(e3 i x y hx hy).2.2)
  | fn u v hu hv=>
   rw[a0t,a1g] at hn hb hk⊢;have:=mono (u.sz+v.sz) (u.sz+v.sz+1) (by omega);have hl:∀x,x∈[u,v]→GT x:=fun x hx=>by simp at hx;rcases hx with rfl|rfl;exact hu;exact hv
   have e:b0v fr (n+1) (.mk 4 [] 0 [u,v]) k=(.mk 4 [] 0 (a7g (b0v fr n) [u,v] k).1,(a7g (b0v fr n) [u,v] k).2):=rfl;have e3:=kids [u,v] hl (by rw[a1g];omega) (by rw[a1g];omega) (by rw[a1g];omega);have e2:=(bound [u,v] hl (by rw[a1g];omega) (by rw[a1g];omega) k (by rw[a1g];omega)).2;rw[a1g] at e2;have d:=c0l (.mk 4 [] 0 [u,v]) (a7g (b0v fr n) [u,v] k).1 (fr.map .str) (c7j (b0v fr n) [u,v] k) (b0u _ [u,v] k) (by rw[a0t,a1g];omega) rfl (fun i x y hx hy=>(e3 i x y hx hy).1);rw[b5u] at d;have e4:(Ty.mk 4 [] 0 [u,v]).args.length=[u,v].length:=rfl;rw[e4,c0m] at d;rw[e];have f1:=e3 0 u _ rfl rfl;have f2:=e3 1 v _ rfl rfl;refine⟨d,.fn _ _ f1.2.1 f2.2.1,?_,by show (a7g (b0v fr n) [u,v] k).2≤_;omega⟩;show (Ty.mk 4 [] 0 [_,_]).sz=_
   rw[a0t,a1g,f1.2.2,f2.2.2]
  | all s x hs hx=>
   rw[a0t,a1e] at hn hb hk⊢;have e:(x.sz+1)*(fr.length+1)=x.sz*(fr.length+1)+(fr.length+1):=by rw[Nat.add_mul];omega
   obtain⟨h1,h2,h3⟩:=b5h (fun i=>a9a (k+i)) (fun i j h=>by have:=g3p _ _ h;omega) fr;rw[e4r];unfold c4g;generalize f2z (fun i=>a9a (k+i)) fr (fr.length+1) 0=i at h1 h2 h3⊢;obtain⟨c1,c2,_⟩:=c9c (k+i) (by omega);obtain⟨r1,g1,s1⟩:=c5b n x (by omega) hx (by omega) s (a9a (k+i)) c2 c1;obtain⟨r2,g2,s2,b2⟩:=ih (a9n n x s (a9a (k+i))) (by omega) g1 (by omega) (k+i+1) (by rw[s1];omega);rw[s1] at b2;refine⟨i7q (.mk 5 s 0 [x]) x _ _ fr k (k+i) _ rfl rfl hf (by omega) (by omega) h2 (fun j hj1 hj2=>by
    have:=h3 (j - k) (by omega)
    rwa[show k+(j - k)=j by omega] at this) (by omega) r1 r2,.all _ _ c1 g2,by rw[a0t,a1e,s2,s1],by show (b0v fr n _ _).2≤_;omega⟩
def c1e(t:Ty):Ty:=(b0v (a0n t [] []) t.sz t 0).1
theorem f2i(t:Ty)(hg:GT t)(hb:t.sz<20000):∃s,(∀f,3*(c1e t).sz≤f→prR f .pr (c1e t)=some s)∧den E 85 [tyV t] []=some (.str s,[]):=by
 have df:=a7j t (by omega);have hle:=a2v _ t (Nat.le_refl _) [] [];simp only[List.length_nil,Nat.zero_add] at hle;have hp:t.sz*((a0n t [] []).length+1)≤20000*20001:=Nat.mul_le_mul (by omega) (by omega);obtain⟨d,g,hs,_⟩:=d4l (a0n t [] []) (by omega) _ t (Nat.le_refl _) hg (by omega) 0 (by omega);obtain⟨s,_,hp⟩:=f5w g (by omega);refine⟨s,hp,?_⟩;have dp:=e7a _ _ s (by omega) (hp _ (Nat.le_refl _));generalize (b0v (a0n t [] []) t.sz t 0).1=y at d dp;generalize (b0v (a0n t [] []) t.sz t 0).2=k' at d;rw[a0d i6i,j0b];rw[a0a] at d df dp⊢;rw[a0a,show ((0:Nat):Int)=0 from rfl] at d;simp only[go_sem,Tryz.f85,df,d,dp]
theorem d6o(t:Ty)(ys:List Ty)(a:List UInt8)(u:Ty)(hl:ys.length=t.args.length)(hb:t.sz<1000000)
 (hc:∀(i:Nat) (x y:Ty),t.args[i]? =some x→ys[i]? =some y→den E 102 [tyV x,.ptr (.par 0) 0,.ptr (.par 1) 0] [[.str a],[.int .i64 u.kind,.str u.name,.int .i64 u.n,.slice (a2o u.args)]]=some (tyV y,[[.str a],[.int .i64 u.kind,.str u.name,.int .i64 u.n,.slice (a2o u.args)]])):
 den E 101 [tyV t,.func 102 [] [.ptr (.par 0) 0,.ptr (.par 1) 0]] [[.str a],[.int .i64 u.kind,.str u.name,.int .i64 u.n,.slice (a2o u.args)]]=some (tyV (.mk t.kind t.name t.n ys),[[.str a],[.int .i64 u.kind,.str u.name,.int .i64 u.n,.slice (a2o u.args)]]):=by
 rw[a0d c5g,c5z];have hal:=a4v t;have rl:=a1k t.args;have n0:=b5v t.args.length
 by_cases h0:t.args=[]
 · have hy:ys=[]:=List.eq_nil_of_length_eq_zero (by rw[hl,h0];rfl);subst hy;rw[a4c,a0a];rw[h0] at n0;simp only[go_sem,Tryz.f101,h0,a0e]
 · have h0':¬t.args.length=0:=fun e=>h0 (List.eq_nil_of_length_eq_zero e);rw[decide_eq_false h0'] at n0;rw[a4c,a0a];obtain⟨n,hn⟩:∃n,n=t.args.length:=⟨_,rfl⟩
   rw[←hn] at hl n0 rl;have l1:((n:Int)≤1073741824)=True:=by simp;omega
   have hz:∀m,List.map a2y (List.map (a4m m) (c5a n [.int .i64 0,.str [],.int .i64 0,.own 25 0 []]))=a5e ys n 0:=fun m=>b7o ys n m;obtain⟨fin,hfin⟩:∃fin,fin=(some (.agg [.int .i64 t.kind,.str t.name,.int .i64 t.n,.slice (a2o ys)],[[.str a],[.int .i64 u.kind,.str u.name,.int .i64 u.n,.slice (a2o u.args)]]):Option (AVal×a2z)):=⟨_,rfl⟩
   try rw[←hn] at hfin
   try rw[←hn]
   rw[←hfin];simp only[go_sem,Tryz.f101,rl,n0,a0c,a0i,l1];refine a3u (fun i=>⟨[(1,.func 102 [] [.ptr (.par 0) 0,.ptr (.par 1) 0]),(2,.ptr (.loc 2) 0),(4,.ptr (.loc 4) 0),(5,.ptr (.loc 16) (a2d+n)),(18,.slice (a2o t.args)),(19,.int .i64 n),(20,.int .i64 i)],[[.str a],[.int .i64 u.kind,.str u.name,.int .i64 u.n,.slice (a2o u.args)]],[(2,tyC t),(4,zC),(16,a5e ys n i)],1⟩) n ?_ ?_ ?_
   · simp only[go_sem,hz,a6g,tyC,zC]
   · intro i hi h;have hia:i<t.args.length:=by omega
     have hiy:i<ys.length:=by omega
     obtain⟨x,hx⟩:=a6u hia;obtain⟨y,hy⟩:=a6u hiy;have d:=hc i x y hx hy;have hxs:=a2i (List.mem_of_getElem? hx);have hsz:=a2f t;have w1:IntKind.i64.wrap ((i:Int)+1)=((i+1:Nat):Int):=a1c (i+1) (by omega);have i1:((i:Int)<(n:Int))=True:=by simp;omega
     have i2:(i*4<a2d)=True:=by rw[a7q];simp;omega
     have cl:(a5e ys n i).length=n*4:=a8j hl (by omega);have i3:(i*4+4≤n*4)=True:=by simp;omega
     have hput:=b7n hl hy;rw[a0a,a0a] at d;simp only[go_sem,a0c,a0i,a4r,hx,a0a,tyC,zC,d,i1,i2,cl,i3];refine h _ ?_;simp only[go_sem,w1,hput,b4a,a6g,tyC,zC]
   · have cl:(a5e ys n n).length=n*4:=a8j hl (Nat.le_refl _);have ce:=b7p hl;have ch:=b1m ys;rw[hl] at ch;rw[ce] at cl;simp only[go_sem,a0f,Nat.lt_irrefl,true_or,tyC,zC,ce,cl,b3c,b5z,ch,hfin]
theorem d6n(t:Ty)(ys:List Ty)(u:Ty)(fr:List (List UInt8))(m:Int)(hl:ys.length=t.args.length)(hb:t.sz<1000000)
 (hc:∀(i:Nat) (x y:Ty),t.args[i]? =some x→ys[i]? =some y→den E 261 [tyV x,.ptr (.par 0) 0,.ptr (.par 1) 0,.ptr (.par 2) 0] [[.int .i64 u.kind,.str u.name,.int .i64 u.n,.slice (a2o u.args)],[.slice (fr.map .str)],[.func 245 [] [.ptr (.par 3) 0]],[.int .i64 m]]=some (tyV y,[[.int .i64 u.kind,.str u.name,.int .i64 u.n,.slice (a2o u.args)],[.slice (fr.map .str)],[.func 245 [] [.ptr (.par 3) 0]],[.int .i64 m]])):
 den E 101 [tyV t,.func 261 [] [.ptr (.par 0) 0,.ptr (.par 1) 0,.ptr (.par 2) 0]] [[.int .i64 u.kind,.str u.name,.int .i64 u.n,.slice (a2o u.args)],[.slice (fr.map .str)],[.func 245 [] [.ptr (.par 3) 0]],[.int .i64 m]]=some (tyV (.mk t.kind t.name t.n ys),[[.int .i64 u.kind,.str u.name,.int .i64 u.n,.slice (a2o u.args)],[.slice (fr.map .str)],[.func 245 [] [.ptr (.par 3) 0]],[.int .i64 m]]):=by
 rw[a0d c5g,c5z];have hal:=a4v t;have rl:=a1k t.args;have n0:=b5v t.args.length
 by_cases h0:t.args=[]
 · have hy:ys=[]:=List.eq_nil_of_length_eq_zero (by rw[hl,h0];rfl);subst hy;rw[a4c,a0a];rw[h0] at n0;simp only[go_sem,Tryz.f101,h0,a0e]
 · have h0':¬t.args.length=0:=fun e=>h0 (List.eq_nil_of_length_eq_zero e);rw[decide_eq_false h0'] at n0;rw[a4c,a0a];obtain⟨n,hn⟩:∃n,n=t.args.length:=⟨_,rfl⟩
   rw[←hn] at hl n0 rl;have l1:((n:Int)≤1073741824)=True:=by simp;omega
   have hz:∀m,List.map a2y (List.map (a4m m) (c5a n [.int .i64 0,.str [],.int .i64 0,.own 25 0 []]))=a5e ys n 0:=fun m=>b7o ys n m;obtain⟨fin,hfin⟩:∃fin,fin=(some (.agg [.int .i64 t.kind,.str t.name,.int .i64 t.n,.slice (a2o ys)],[[.int .i64 u.kind,.str u.name,.int .i64 u.n,.slice (a2o u.args)],[.slice (fr.map .str)],[.func 245 [] [.ptr (.par 3) 0]],[.int .i64 m]]):Option (AVal×a2z)):=⟨_,rfl⟩
   try rw[←hn] at hfin
   try rw[←hn]
   rw[←hfin];simp only[go_sem,Tryz.f101,rl,n0,a0c,a0i,l1];refine a3u (fun i=>⟨[(1,.func 261 [] [.ptr (.par 0) 0,.ptr (.par 1) 0,.ptr (.par 2) 0]),(2,.ptr (.loc 2) 0),(4,.ptr (.loc 4) 0),(5,.ptr (.loc 16) (a2d+n)),(18,.slice (a2o t.args)),(19,.int .i64 n),(20,.int .i64 i)],[[.int .i64 u.kind,.str u.name,.int .i64 u.n,.slice (a2o u.args)],[.slice (fr.map .str)],[.func 245 [] [.ptr (.par 3) 0]],[.int .i64 m]],[(2,tyC t),(4,zC),(16,a5e ys n i)],1⟩) n ?_ ?_ ?_
   · simp only[go_sem,hz,a6g,tyC,zC]
   · intro i hi h;have hia:i<t.args.length:=by omega
     have hiy:i<ys.length:=by omega
     obtain⟨x,hx⟩:=a6u hia;obtain⟨y,hy⟩:=a6u hiy;have d:=hc i x y hx hy;have hxs:=a2i (List.mem_of_getElem? hx);have hsz:=a2f t;have w1:IntKind.i64.wrap ((i:Int)+1)=((i+1:Nat):Int):=a1c (i+1) (by omega);have i1:((i:Int)<(n:Int))=True:=by simp;omega
     have i2:(i*4<a2d)=True:=by rw[a7q];simp;omega
     have cl:(a5e ys n i).length=n*4:=a8j hl (by omega);have i3:(i*4+4≤n*4)=True:=by simp;omega
     have hput:=b7n hl hy;rw[a0a,a0a] at d;simp only[go_sem,a0c,a0i,a4r,hx,a0a,tyC,zC,d,i1,i2,cl,i3];refine h _ ?_;simp only[go_sem,w1,hput,b4a,a6g,tyC,zC]
   · have cl:(a5e ys n n).length=n*4:=a8j hl (Nat.le_refl _);have ce:=b7p hl;have ch:=b1m ys;rw[hl] at ch;rw[ce] at cl;simp only[go_sem,a0f,Nat.lt_irrefl,true_or,tyC,zC,ce,cl,b3c,b5z,ch,hfin]
theorem b2i(k:Int)(s:List UInt8)(n:Int)(a:List Ty):(Ty.mk k s n a).kind=k:=rfl
theorem b2g(k:Int)(s:List UInt8)(n:Int)(a:List Ty):(Ty.mk k s n a).name=s:=rfl
theorem g4n(k:Int)(s:List UInt8)(n:Int)(a:List Ty):(Ty.mk k s n a).n=n:=rfl
theorem c9a(a b c:List (List UInt8))(h:a.length+b.length+c.length≤1000000):den E 99 [.slice [.slice (a.map .str),.slice (b.map .str),.slice (c.map .str)]] []=some (.slice ((a++(b++c)).map .str),[]):=by
 have hs:∀l:List (List UInt8),d3g (l.map .str)=some (l.map ba):=by
  intro l
  induction l with
  | nil=>rfl
  | cons x l ih=>rw[List.map_cons,d3g,ih];rfl
 have hb:∀l:List (List UInt8),(l.map ba).map e7d=l.map .str:=by
  intro l
  induction l with
  | nil=>rfl
  | cons x l ih=>rw[List.map_cons,List.map_cons,List.map_cons,ih];rfl
 rw[b0y i5y];unfold b3z;simp only[c0p,hs,Option.bind_some,Option.map_some];rw[if_pos (by simp;omega)];simp only[List.flatten_cons,List.flatten_nil,List.append_nil,List.map_append,hb]
def b0t:Nat→Ty→List UInt8→Ty→Ty
 | 0,t,_,_=>t
 | n+1,.mk k s m l,a,u=>
  if k==5&&s==a then .mk k s m l
  else if k==1&&s==a then u
  else if k==5&&(a0n u [] []).contains s then (match l with
   | [x]=>.mk 5 (a5z s (a0n u [] []++(a0n x [] []++[s,a]))) 0 [b0t n (a9n n x s (a5z s (a0n u [] []++(a0n x [] []++[s,a])))) a u]
   | _=>.mk k s m l)
  else .mk k s m (l.map fun x=>b0t n x a u)
theorem e3w{x y u:Ty}{a:List UInt8}(h:den E 40 [tyV x,.str a,tyV u] []=some (tyV y,[])):
 den E 102 [tyV x,.ptr (.par 0) 0,.ptr (.par 1) 0] [[.str a],[.int .i64 u.kind,.str u.name,.int .i64 u.n,.slice (a2o u.args)]]=some (tyV y,[[.str a],[.int .i64 u.kind,.str u.name,.int .i64 u.n,.slice (a2o u.args)]]):=by
 rw[a0d g9m,h6m];rw[a0a,a0a,a0a] at h;rw[a0a,a0a];simp only[go_sem,Tryz.f102,h]
theorem b5q(t:Ty)(ys:List Ty)(a:List UInt8)(u:Ty)(hl:ys.length=t.args.length)(hb:t.sz<1000000)(hu:u.sz<1000000)
 (hc:∀(i:Nat) (x y:Ty),t.args[i]? =some x→ys[i]? =some y→den E 40 [tyV x,.str a,tyV u] []=some (tyV y,[]))
 (h1:(t.kind==5&&t.name==a)=false) (h2:(t.kind==1&&t.name==a)=false) (h3:(t.kind==5&&(a0n u [] []).contains t.name)=false):
 den E 40 [tyV t,.str a,tyV u] []=some (tyV (.mk t.kind t.name t.n ys),[]):=by
 have d:=d6o t ys a u hl hb fun i x y hx hy=>e3w (hc i x y hx hy);have df:=a7j u hu;have hle:=a2v _ u (Nat.le_refl _) [] [];simp only[List.length_nil,Nat.zero_add] at hle;have dc:=a4a (a0n u [] []) t.name (by omega);rw[a0d d4a,d5y];rw[a0a] at df;rw[a4c,a0a] at d⊢;rw[a0a u];cases k5:t.kind==5<;>cases na:t.name==a<;>cases k1:t.kind==1<;>simp only[k1,k5,na,Bool.and_true,Bool.and_false,Bool.true_and,Bool.false_and,Bool.true_eq_false] at h1 h2 h3<;>
 (try rw[h3] at dc)<;>
 simp only[go_sem,Tryz.f40,k1,k5,na,df,dc,d]
theorem g6b(t:Ty)(a:List UInt8)(u:Ty)(h1:(t.kind==5)=true)(h2:(t.name==a)=true):den E 40 [tyV t,.str a,tyV u] []=some (tyV t,[]):=by
 rw[a0d d4a,d5y,a0a,a0a u];simp only[go_sem,Tryz.f40,h1,h2]
theorem i5w(t:Ty)(a:List UInt8)(u:Ty)(h0:(t.kind==5)=false)(h1:(t.kind==1)=true)(h2:(t.name==a)=true):den E 40 [tyV t,.str a,tyV u] []=some (tyV u,[]):=by
 rw[a0d d4a,d5y,a0a,a0a u];simp only[go_sem,Tryz.f40,h0,h1,h2]
theorem f5q(t x x' y:Ty)(a c:List UInt8)(u:Ty)(hx:t.args=[x])(h0:(t.kind==1)=false)(h1:(t.kind==5)=true)(h2:(t.name==a)=false)(h3:(a0n u [] []).contains t.name=true)(hb:t.sz<300000)(hu:u.sz<300000)(hs:x'.sz=x.sz)
 (hd:den E 98 [.str t.name,.slice ((a0n u [] []++(a0n x [] []++[t.name,a])).map .str)] []=some (.str c,[])) (r1:den E 100 [tyV x,.str t.name,.str c] []=some (tyV x',[])) (r2:den E 40 [tyV x',.str a,tyV u] []=some (tyV y,[])):
 den E 40 [tyV t,.str a,tyV u] []=some (tyV (.mk 5 c 0 [y]),[]):=by
 have hsz:=a2f t;rw[hx,a1e] at hsz;have d:=d6o (.mk 5 c 0 [x']) [y] a u rfl (by rw[a0t,a1e];omega) fun i u v hu hv=>e3w (by
  cases i with
  | zero=>simp[Ty.args] at hu hv;subst hu hv;exact r2
  | succ i=>simp[Ty.args] at hu)
 have df:=a7j x (by omega);have dfu:=a7j u (by omega);have hle:=a2v _ x (Nat.le_refl _) [] [];have hle2:=a2v _ u (Nat.le_refl _) [] [];simp only[List.length_nil,Nat.zero_add] at hle hle2;have dc:=a4a (a0n u [] []) t.name (by omega);rw[h3] at dc;have dk:=c9a (a0n u [] []) (a0n x [] []) [t.name,a] (by simp;omega);rw[a0d d4a,d5y];simp only[a4c,a1a,a0e,b2i,b2g,g4n] at d;simp only[List.map_cons,List.map_nil] at dk;rw[a4c,a1a,a0e];rw[a0a] at r1 r2 d df⊢;rw[a0a] at dfu;rw[a0a u,a0a y] at r2;rw[a0a y] at d⊢;rw[a0a x'] at r1;rw[hx,a1a,a0e,a0a x,a0a u];simp only[go_sem,Tryz.f40,h0,h1,h2,Int.le_refl,Int.toNat_zero,df,dfu,dc,dk,hd,r1,d]
theorem f4d{c:Nat}:∀ {l m:List Ty},m.length=l.length→(∀(i:Nat) (x y:Ty),l[i]? =some x→m[i]? =some y→y.sz≤x.sz*c)→Ty.szs m≤Ty.szs l*c
 | [],[],_,_=>Nat.zero_le _
 | a::l,b::m,h,hs=>by
  rw[a3b,a3b,Nat.add_mul];exact Nat.add_le_add (hs 0 a b rfl rfl) (f4d (by simpa using h) fun i x y hx hy=>hs (i+1) x y (by simpa using hx) (by simpa using hy))
 | [],b::m,h,_=>by simp at h
 | a::l,[],h,_=>by simp at h
theorem e3y(n:Nat)(s a:List UInt8)(u:Ty):b0t (n+1) (.mk 1 s 0 []) a u=if s==a then u else .mk 1 s 0 []:=by
 unfold b0t;cases h:s==a<;>simp
theorem e4a(n:Nat)(s:List UInt8)(x:Ty)(a:List UInt8)(u:Ty):b0t (n+1) (.mk 5 s 0 [x]) a u=if s==a then .mk 5 s 0 [x] else if (a0n u [] []).contains s then .mk 5 (a5z s (a0n u [] []++(a0n x [] []++[s,a]))) 0 [b0t n (a9n n x s (a5z s (a0n u [] []++(a0n x [] []++[s,a])))) a u] else .mk 5 s 0 [b0t n x a u]:=by
 rw[b0t];cases h:s==a<;>cases h2:(a0n u [] []).contains s<;>simp
theorem e3z(u:Ty)(hu:GT u)(hub:u.sz<300000)(hun:∀s,(a0n u [] []).contains s=true→s≠[])(a:List UInt8):∀(n:Nat) (t:Ty),t.sz≤n→GT t→t.sz<300000→den E 40 [tyV t,.str a,tyV u] []=some (tyV (b0t n t a u),[])∧GT (b0t n t a u)∧(b0t n t a u).sz≤t.sz*u.sz:=by
 intro n;have hu1:1≤u.sz:=by have:=a2f u;omega
 have lift:∀k:Nat,k≤k*u.sz:=fun k=>Nat.le_mul_of_pos_right k hu1
 induction n with
 | zero=>intro t h;have:=a2f t;omega
 | succ n ih=>
  intro t hn hg hb;have hsz:=a2f t;cases hg with
  | var s hs=>
   rw[e3y];cases h:s==a
   · exact⟨b5q (.mk 1 s 0 []) [] a u rfl (by omega) (by omega) (fun i x y hx=>by simp[Ty.args] at hx) rfl (by simpa [Ty.kind,Ty.name] using h) rfl,.var s hs,lift _⟩
   · refine⟨i5w (.mk 1 s 0 []) a u rfl rfl h,hu,?_⟩;show u.sz≤(Ty.mk 1 s 0 []).sz*u.sz
     rw[a0t];simp[Ty.szs]
  | unk m h1 h2=>exact⟨b5q (.mk 2 [] m []) [] a u rfl (by omega) (by omega) (fun i x y hx=>by simp[Ty.args] at hx) rfl rfl rfl,.unk m h1 h2,lift _⟩
  | con s l hs hl=>
   rw[a0t] at hn hb;have e:b0t (n+1) (.mk 3 s 0 l) a u=.mk 3 s 0 (l.map fun x=>b0t n x a u):=rfl;rw[e];have h2:∀(i:Nat) (x y:Ty),l[i]? =some x→(l.map fun x=>b0t n x a u)[i]? =some y→den E 40 [tyV x,.str a,tyV u] []=some (tyV y,[])∧GT y∧y.sz≤x.sz*u.sz:=by
    intro i x y hx hy;simp[hx] at hy;subst hy;have:=a2i (List.mem_of_getElem? hx);exact ih x (by omega) (hl x (List.mem_of_getElem? hx)) (by omega)
   refine⟨b5q (.mk 3 s 0 l) _ a u (by simp[Ty.args]) (by rw[a0t];omega) (by omega) (fun i x y hx hy=>(h2 i x y hx hy).1) rfl rfl rfl,.con s _ hs fun y hy=>?_,?_⟩
   · obtain⟨x,hx,rfl⟩:=List.mem_map.1 hy;obtain⟨i,hi⟩:=b9f hx;exact (h2 i x _ hi (by simp[hi])).2.1
   · rw[a0t,a0t,Nat.add_mul,Nat.one_mul];have:=f4d (c:=u.sz) (m:=l.map fun x=>b0t n x a u) (l:=l) (by simp) fun i x y hx hy=>(h2 i x y hx hy).2.2;omega
  | fn v w hv hw=>
   rw[a0t,a1g] at hn hb;have e:b0t (n+1) (.mk 4 [] 0 [v,w]) a u=.mk 4 [] 0 [b0t n v a u,b0t n w a u]:=rfl;rw[e];obtain⟨d1,g1,s1⟩:=ih v (by omega) hv (by omega);obtain⟨d2,g2,s2⟩:=ih w (by omega) hw (by omega);refine⟨b5q (.mk 4 [] 0 [v,w]) [_,_] a u rfl (by rw[a0t,a1g];omega) (by omega) (fun i x y hx hy=>?_) rfl rfl rfl,.fn _ _ g1 g2,?_⟩
   · match i with
     | 0=>simp[Ty.args] at hx hy;subst hx hy;exact d1
     | 1=>simp[Ty.args] at hx hy;subst hx hy;exact d2
     | i+2=>simp[Ty.args] at hx
   · rw[a0t,a0t,a1g,a1g,Nat.add_mul,Nat.add_mul,Nat.one_mul];omega
  | all s x hs hx=>
   rw[a0t,a1e] at hn hb;rw[e4a];cases ha:s==a
   · cases hq:(a0n u [] []).contains s
     · obtain⟨d1,g1,s1⟩:=ih x (by omega) hx (by omega);refine⟨b5q (.mk 5 s 0 [x]) [_] a u rfl (by rw[a0t,a1e];omega) (by omega) (fun i p q hp hq=>?_) (by simpa [Ty.kind,Ty.name] using ha) rfl (by simpa [Ty.kind,Ty.name] using hq),.all s _ hs g1,?_⟩
       · match i with
         | 0=>simp[Ty.args] at hp hq;subst hp hq;exact d1
         | i+1=>simp[Ty.args] at hp
       · simp only[Bool.false_eq_true,if_false];rw[a0t,a0t,a1e,a1e,Nat.add_mul,Nat.one_mul];omega
     · have hle:=a2v _ x (Nat.le_refl _) [] [];have hle2:=a2v _ u (Nat.le_refl _) [] [];simp only[List.length_nil,Nat.zero_add] at hle hle2;have hsne:s≠[]:=hun s hq;have hsl:s.length≤1000:=by omega
       have hd:=c2u s (a0n u [] []++(a0n x [] []++[s,a])) hsne hsl (by simp;omega);obtain⟨c0,c1⟩:=b7i s (a0n u [] []++(a0n x [] []++[s,a])) (by simp;omega);obtain⟨r1,g1,s1⟩:=c5b n x (by omega) hx (by omega) s (a5z s (a0n u [] []++(a0n x [] []++[s,a]))) c0 c1;obtain⟨r2,g2,s2⟩:=ih (a9n n x s (a5z s (a0n u [] []++(a0n x [] []++[s,a])))) (by omega) g1 (by omega);simp only[Bool.false_eq_true,if_false,if_true];refine⟨f5q (.mk 5 s 0 [x]) x _ _ a _ u rfl rfl rfl ha hq (by rw[a0t,a1e];omega) hub s1 hd r1 r2,.all _ _ c1 g2,?_⟩;rw[s1] at s2;rw[a0t,a0t,a1e,a1e,Nat.add_mul,Nat.one_mul];omega
   · refine⟨g6b (.mk 5 s 0 [x]) a u rfl ha,.all s x hs hx,?_⟩;simp only[if_true];exact lift _
def a0y(c:UInt8)(i:Nat):List UInt8:=c::Lib.itoa (i:Int)
theorem b6h(c:UInt8)(i j:Nat)(h:a0y c i=a0y c j):i=j:=c5n i j (by unfold a0y at h;injection h)
theorem a4o(i:Nat)(c:UInt8)(h:i<1000000000):(a0y c i).length≤16∧a0y c i≠[]∧1+(Lib.itoa (i:Int)).length≤a0q:=by
 have:=a9p 8 i (by
  have e:(10:Nat) ^ (8+1)=1000000000:=by decide
  omega)
 unfold a0y a0q;exact⟨by simp;omega,by simp,by omega⟩
def a3j(c:UInt8)(but:List (List UInt8))(k:Nat):Nat:=k+f2z (fun i=>a0y c (k+i)) but (but.length+1) 0
def a7y(c:UInt8)(but:List (List UInt8)):Nat→Ty→Nat→List (List UInt8)×Ty
 | 0,t,_=>([],t)
 | n+1,.mk k s m l,i=>
  if k==5 then (match l with
   | [x]=>(a0y c (a3j c but i)::(a7y c but n (b0t x.sz x s (.mk 1 (a0y c (a3j c but i)) 0 [])) (a3j c but i+1)).1,(a7y c but n (b0t x.sz x s (.mk 1 (a0y c (a3j c but i)) 0 [])) (a3j c but i+1)).2)
   | _=>([],.mk k s m l))
  else ([],.mk k s m l)
theorem c0h(c:UInt8)(but:List (List UInt8))(n:Nat)(s:List UInt8)(x:Ty)(i:Nat):a7y c but (n+1) (.mk 5 s 0 [x]) i=(a0y c (a3j c but i)::(a7y c but n (b0t x.sz x s (.mk 1 (a0y c (a3j c but i)) 0 [])) (a3j c but i+1)).1,(a7y c but n (b0t x.sz x s (.mk 1 (a0y c (a3j c but i)) 0 [])) (a3j c but i+1)).2):=rfl
theorem c4m(s:List UInt8):a0n (.mk 1 s 0 []) [] []=[s]:=rfl
theorem b8d(s:List UInt8):(Ty.mk 1 s 0 []).sz=1:=rfl
theorem c5d{x:Ty}(hx:GT x)(hb:x.sz<300000)(a s:List UInt8)(hs:s≠[])(hl:s.length≤16):den E 40 [tyV x,.str a,tyV (.mk 1 s 0 [])] []=some (tyV (b0t x.sz x a (.mk 1 s 0 [])),[])∧GT (b0t x.sz x a (.mk 1 s 0 []))∧(b0t x.sz x a (.mk 1 s 0 [])).sz≤x.sz:=by
 have:=e3z (.mk 1 s 0 []) (.var s hl) (by rw[b8d];omega) (fun s' h=>by
  rw[c4m] at h;have:s'=s:=by simpa using h
  rw[this];exact hs) a x.sz x (Nat.le_refl _) hx hb
 rw[b8d,Nat.mul_one] at this;exact this
theorem b5r(c:UInt8)(but:List (List UInt8))(n:Nat)(t:Ty)(i:Nat)(h:(t.kind==5)=false):a7y c but n t i=([],t):=by
 cases n with
 | zero=>rfl
 | succ n=>cases t;simp only[Ty.kind] at h;simp only[a7y,h];rfl
theorem GT.all_inv{t:Ty}(h:GT t)(hk:(t.kind==5)=true):∃s x,t=.mk 5 s 0 [x]∧s.length≤16∧GT x:=by
 cases h with
 | all s x hs hx=>exact⟨s,x,rfl,hs,hx⟩
 | _=>simp[Ty.kind] at hk
theorem a8h(c:UInt8)(but:List (List UInt8))(k:Nat):k≤a3j c but k∧a3j c but k≤k+but.length∧but.contains (a0y c (a3j c but k))=false∧∀j,k≤j→j<a3j c but k→but.contains (a0y c j)=true:=by
 obtain⟨h1,h2,h3⟩:=b5h (fun i=>a0y c (k+i)) (fun i j h=>by have:=b6h c _ _ h;omega) but;unfold a3j;exact⟨by omega,by omega,h2,fun j hj1 hj2=>by
  have:=h3 (j - k) (by omega)
  rwa[show k+(j - k)=j by omega] at this⟩
structure PeelS where
 ns:List (List UInt8)
 n:Nat
 t:Ty
 i:Nat
theorem c7e(c:UInt8)(but:List (List UInt8)):∀(n:Nat) (t:Ty) (i:Nat),t.sz≤n→GT t→t.sz<300000→i+n*(but.length+1)≤900000000→GT (a7y c but n t i).2∧(a7y c but n t i).2.sz≤t.sz∧(a7y c but n t i).1.length≤t.sz∧∀s∈(a7y c but n t i).1,s≠[]∧s.length≤16:=by
 intro n
 induction n with
 | zero=>intro t i h;have:=a2f t;omega
 | succ n ih=>
  intro t i hn hg hb hi;cases hk:t.kind==5
  · rw[b5r c but _ t i hk];exact⟨hg,Nat.le_refl _,Nat.zero_le _,fun s hs=>by simp at hs⟩
  · obtain⟨s,x,rfl,hs,hx⟩:=hg.all_inv hk;rw[a0t,a1e] at hn hb;rw[c0h];obtain⟨q1,q2,_,_⟩:=a8h c but i;have e:(n+1)*(but.length+1)=n*(but.length+1)+(but.length+1):=by rw[Nat.add_mul];omega
    obtain⟨c1,c2,_⟩:=a4o (a3j c but i) c (by omega);obtain⟨_,g,hsz⟩:=c5d hx (by omega) s (a0y c (a3j c but i)) c2 c1;obtain⟨r1,r2,r3,r4⟩:=ih _ (a3j c but i+1) (by omega) g (by omega) (by omega);refine⟨r1,?_,?_,fun s' hs'=>?_⟩
    · rw[a0t,a1e];simp only;omega
    · rw[a0t,a1e];simp only[List.length_cons];omega
    · rcases List.mem_cons.1 hs' with rfl|hs'
      · exact⟨c2,c1⟩
      · exact r4 s' hs'
theorem d0x(c:UInt8)(but:List (List UInt8))(hbut:but.length<1000000)(t0:Ty)(hg0:GT t0)(hb0:t0.sz<300000)(hi0:t0.sz*(but.length+1)≤900000000):
 den E 103 [tyV t0,.str [c],.slice (but.map .str)] []=some (.tup [.slice ((a7y c but t0.sz t0 0).1.map .str),tyV (a7y c but t0.sz t0 0).2],[]):=by
 rw[a0d g9l,h6l,a0a t0];simp only[go_sem,Tryz.f103];refine a0p (fun a:PeelS=>a.t.sz≤a.n∧GT a.t∧a.t.sz<300000∧a.i+a.n*(but.length+1)≤900000000∧a.ns.length+a.n≤t0.sz)
  (fun a=>⟨[(1,.str [c]),(2,.slice (but.map .str)),(3,.ptr (.loc 3) 0),(6,.own 9 0 (a.ns.map .str)),(7,.ptr (.loc 7) 0),(8,.int .i64 a.i)],[],[(3,[.int .i64 a.t.kind,.str a.t.name,.int .i64 a.t.n,.slice (a2o a.t.args)]),(7,[.int .i64 0,.str [],.int .i64 0,.own 25 0 []])],1⟩)
  (fun a=>some (.tup [.slice ((a.ns++(a7y c but a.n a.t a.i).1).map .str),tyV (a7y c but a.n a.t a.i).2],[])) (fun a=>a.n) ⟨[],t0.sz,t0,0⟩ ⟨Nat.le_refl _,hg0,hb0,by show 0+t0.sz*(but.length+1)≤900000000;omega,by simp⟩ ?_ ?_
 · simp only[go_sem]
 · rintro⟨ns,n,t,i⟩ ⟨hn,hg,hb,hi,hl⟩ h;simp only at hn hg hb hi hl⊢;cases hk:t.kind==5
   · rw[b5r c but n t i hk,List.append_nil,a0a t];simp only[go_sem,hk]
   · obtain⟨s,x,rfl,hs,hx⟩:=hg.all_inv hk;rw[a0t,a1e] at hn hb;obtain⟨m,rfl⟩:∃m,n=m+1:=⟨n - 1,by omega⟩
     rw[c0h];obtain⟨q1,q2,q3,q4⟩:=a8h c but i;have e:(m+1)*(but.length+1)=m*(but.length+1)+(but.length+1):=by rw[Nat.add_mul];omega
     obtain⟨c1,c2,_⟩:=a4o (a3j c but i) c (by omega);obtain⟨dp,g,hsz⟩:=c5d hx (by omega) s (a0y c (a3j c but i)) c2 c1;generalize hN:a3j c but i=N at *;have m0:=(a4o i c (by omega)).2.2;have d0:=a9z i (by omega);have w0:IntKind.i64.wrap ((i:Int)+1)=((i+1:Nat):Int):=a1c (i+1) (by omega);simp only[Ty.kind,Ty.name,Ty.n,Ty.args,a1a,a0e];rw[a4c,a0e] at dp;rw[a0a x] at dp⊢;rw[a0a (b0t _ _ _ _)] at dp;obtain⟨fin,hfin⟩:∃fin,fin=(some (.tup [.slice ((ns++(a0y c N::(a7y c but m (b0t x.sz x s (.mk 1 (a0y c N) 0 [])) (N+1)).1)).map .str),tyV (a7y c but m (b0t x.sz x s (.mk 1 (a0y c N) 0 [])) (N+1)).2],[]):Option (AVal×a2z)):=⟨_,rfl⟩
     rw[←hfin];simp only[go_sem,d0,m0,w0];refine a0p (fun j:Nat=>i≤j∧j≤N) (fun j=>⟨[(1,.str [c]),(2,.slice (but.map .str)),(3,.ptr (.loc 3) 0),(6,.own 9 0 (ns.map .str)),(7,.ptr (.loc 7) 0),(8,.int .i64 ((j+1:Nat):Int)),(9,.str (a0y c j))],[],
      [(3,[.int .i64 5,.str s,.int .i64 0,.slice [.agg [.int .i64 x.kind,.str x.name,.int .i64 x.n,.slice (a2o x.args)]]]),(7,[.int .i64 0,.str [],.int .i64 0,.own 25 0 []])],1⟩) (fun _=>fin) (fun j=>N - j) i ⟨Nat.le_refl _,q1⟩ ?_ ?_
     · simp only[go_sem,a0y]
     · intro j hj hh;have dc:=a4a but (a0y c j) hbut;obtain⟨p,hp⟩:∃p:Nat,p=j+1:=⟨_,rfl⟩
       simp only[←hp];have w1:IntKind.i64.wrap ((p:Int)+1)=((p+1:Nat):Int):=a1c (p+1) (by omega)
       by_cases hlt:j<N
       · rw[q4 j hj.1 hlt] at dc;have d1:=a9z p (by omega);have m1:=(a4o p c (by omega)).2.2;simp only[go_sem,dc,w1,d1,m1];refine hh p _ ⟨by omega,by omega⟩ (by omega) ?_;simp only[go_sem,a0y]
       · have hje:j=N:=by omega
         subst hje;rw[q3] at dc;have a1:ns.length+1≤a0l:=by unfold a0l;omega
         simp only[go_sem,dc,List.length_map,a1,Int.le_refl,Int.toNat_zero,dp];rw[hfin];have:=h ⟨ns++[a0y c j],m,b0t x.sz x s (.mk 1 (a0y c j) 0 []),p⟩;rw[←hp];simp only[List.append_assoc,List.cons_append,List.nil_append] at this;refine this _ ⟨by omega,g,by omega,by omega,by simp;omega⟩ (by omega) ?_;simp only[go_sem,List.map_append]
def b4r:Nat→Ty→Int→Ty→Ty
 | 0,t,_,_=>t
 | n+1,.mk k s q l,m,u=>
  if k==2&&q==m then u
  else if k==5&&(a0n u [] []).contains s then (match l with
   | [x]=>.mk 5 (a5z s (a0n u [] []++(a0n x [] []++[s]))) 0 [b4r n (a9n n x s (a5z s (a0n u [] []++(a0n x [] []++[s])))) m u]
   | _=>.mk k s q l)
  else .mk k s q (l.map fun x=>b4r n x m u)
theorem c8j(x:Ty)(m:Int):den E 245 [tyV x,.ptr (.par 0) 0] [[.int .i64 m]]=some (.bool (x.kind==2&&x.n==m),[[.int .i64 m]]):=by
 rw[a0d g6i,h3i,a0a];cases h:x.kind==2<;>simp only[go_sem,Tryz.f245,h]
theorem f5s{x y u:Ty}{fr:List (List UInt8)}{m:Int}(h:den E 244 [tyV x,tyV u,.slice (fr.map .str),.func 245 [] [.ptr (.par 0) 0]] [[.int .i64 m]]=some (tyV y,[[.int .i64 m]])):
 den E 261 [tyV x,.ptr (.par 0) 0,.ptr (.par 1) 0,.ptr (.par 2) 0] [[.int .i64 u.kind,.str u.name,.int .i64 u.n,.slice (a2o u.args)],[.slice (fr.map .str)],[.func 245 [] [.ptr (.par 3) 0]],[.int .i64 m]]=some (tyV y,[[.int .i64 u.kind,.str u.name,.int .i64 u.n,.slice (a2o u.args)],[.slice (fr.map .str)],[.func 245 [] [.ptr (.par 3) 0]],[.int .i64 m]]):=by
 rw[a0d g6e,h3e];rw[a0a x,a0a u,a0a y] at h;rw[a0a x,a0a y];simp only[go_sem,Tryz.f261,h]
theorem c0g(t:Ty)(ys:List Ty)(u:Ty)(fr:List (List UInt8))(m:Int)(hl:ys.length=t.args.length)(hb:t.sz<1000000)(hf:fr.length<1000000)
 (hc:∀(i:Nat) (x y:Ty),t.args[i]? =some x→ys[i]? =some y→den E 244 [tyV x,tyV u,.slice (fr.map .str),.func 245 [] [.ptr (.par 0) 0]] [[.int .i64 m]]=some (tyV y,[[.int .i64 m]]))
 (h1:(t.kind==2&&t.n==m)=false) (h3:(t.kind==5&&fr.contains t.name)=false):
 den E 244 [tyV t,tyV u,.slice (fr.map .str),.func 245 [] [.ptr (.par 0) 0]] [[.int .i64 m]]=some (tyV (.mk t.kind t.name t.n ys),[[.int .i64 m]]):=by
 have d:=d6n t ys u fr m hl hb fun i x y hx hy=>f5s (hc i x y hx hy);have dl:=c8j t m;rw[h1] at dl;have dc:=a4a fr t.name hf;rw[a0d d4b,d5z];rw[a4c,a0a t] at d⊢;rw[a0a t] at dl;rw[a0a u];cases k5:t.kind==5<;>simp only[k5,Bool.true_and,Bool.false_and] at h3<;>
 (try rw[h3] at dc)<;>
 simp only[go_sem,Tryz.f244,k5,dl,dc,d]
theorem j7l(t:Ty)(u:Ty)(fr:List (List UInt8))(m:Int)(h1:(t.kind==2&&t.n==m)=true):
 den E 244 [tyV t,tyV u,.slice (fr.map .str),.func 245 [] [.ptr (.par 0) 0]] [[.int .i64 m]]=some (tyV u,[[.int .i64 m]]):=by
 have dl:=c8j t m;rw[h1] at dl;rw[a0d d4b,d5z];rw[a0a t] at dl⊢;rw[a0a u];simp only[go_sem,Tryz.f244,dl]
theorem g6d(t x x' y:Ty)(c:List UInt8)(u:Ty)(fr:List (List UInt8))(m:Int)(hx:t.args=[x])(h0:(t.kind==2)=false)(h1:(t.kind==5)=true)(h3:fr.contains t.name=true)(hb:t.sz<300000)(hf:fr.length<300000)(hs:x'.sz=x.sz)
 (hd:den E 98 [.str t.name,.slice ((fr++(a0n x [] []++[t.name])).map .str)] []=some (.str c,[])) (r1:den E 100 [tyV x,.str t.name,.str c] []=some (tyV x',[]))
 (r2:den E 244 [tyV x',tyV u,.slice (fr.map .str),.func 245 [] [.ptr (.par 0) 0]] [[.int .i64 m]]=some (tyV y,[[.int .i64 m]])):
 den E 244 [tyV t,tyV u,.slice (fr.map .str),.func 245 [] [.ptr (.par 0) 0]] [[.int .i64 m]]=some (tyV (.mk 5 c 0 [y]),[[.int .i64 m]]):=by
 have hsz:=a2f t;rw[hx,a1e] at hsz;have d:=d6n (.mk 5 c 0 [x']) [y] u fr m rfl (by rw[a0t,a1e];omega) fun i p q hp hq=>f5s (by
  cases i with
  | zero=>simp[Ty.args] at hp hq;subst hp hq;exact r2
  | succ i=>simp[Ty.args] at hp)
 have df:=a7j x (by omega);have hle:=a2v _ x (Nat.le_refl _) [] [];simp only[List.length_nil,Nat.zero_add] at hle;have dl:=c8j t m;rw[h0,Bool.false_and] at dl;have dc:=a4a fr t.name (by omega);rw[h3] at dc;have dk:=c9a fr (a0n x [] []) [t.name] (by simp;omega);rw[a0d d4b,d5z];simp only[a4c,a1a,a0e,b2i,b2g,g4n] at d;simp only[List.map_cons,List.map_nil] at dk;rw[a4c,a1a,a0e];rw[a0a t] at dl⊢;rw[a0a x] at r1 df;rw[a0a x'] at r1 d;rw[a0a y] at d⊢;rw[hx,a1a,a0e,a0a x] at dl⊢;rw[a0a u];simp only[go_sem,Tryz.f244,h1,dl,Int.le_refl,Int.toNat_zero,df,dc,dk,hd,r1,d]
theorem h1j(n:Nat)(q m:Int)(u:Ty):b4r (n+1) (.mk 2 [] q []) m u=if q==m then u else .mk 2 [] q []:=by
 unfold b4r;cases h:q==m<;>simp
theorem e5x(n:Nat)(s:List UInt8)(x:Ty)(m:Int)(u:Ty):b4r (n+1) (.mk 5 s 0 [x]) m u=if (a0n u [] []).contains s then .mk 5 (a5z s (a0n u [] []++(a0n x [] []++[s]))) 0 [b4r n (a9n n x s (a5z s (a0n u [] []++(a0n x [] []++[s])))) m u] else .mk 5 s 0 [b4r n x m u]:=by
 rw[b4r];cases h2:(a0n u [] []).contains s<;>simp
theorem e5w(u:Ty)(hu:GT u)(hub:u.sz<300000)(hun:∀s,(a0n u [] []).contains s=true→s≠[])(m:Int):∀(n:Nat) (t:Ty),t.sz≤n→GT t→t.sz<300000→
 den E 244 [tyV t,tyV u,.slice ((a0n u [] []).map .str),.func 245 [] [.ptr (.par 0) 0]] [[.int .i64 m]]=some (tyV (b4r n t m u),[[.int .i64 m]])∧GT (b4r n t m u)∧(b4r n t m u).sz≤t.sz*u.sz:=by
 intro n;have hu1:1≤u.sz:=by have:=a2f u;omega
 have lift:∀k:Nat,k≤k*u.sz:=fun k=>Nat.le_mul_of_pos_right k hu1;have hle2:=a2v _ u (Nat.le_refl _) [] [];simp only[List.length_nil,Nat.zero_add] at hle2
 induction n with
 | zero=>intro t h;have:=a2f t;omega
 | succ n ih=>
  intro t hn hg hb;have hsz:=a2f t;cases hg with
  | var s hs=>exact⟨c0g (.mk 1 s 0 []) [] u _ m rfl (by omega) (by omega) (fun i x y hx=>by simp[Ty.args] at hx) rfl rfl,.var s hs,lift _⟩
  | unk q h1 h2=>
   rw[h1j];cases h:q==m
   · exact⟨c0g (.mk 2 [] q []) [] u _ m rfl (by omega) (by omega) (fun i x y hx=>by simp[Ty.args] at hx) (by simpa [Ty.kind,Ty.n] using h) rfl,.unk q h1 h2,lift _⟩
   · refine⟨j7l (.mk 2 [] q []) u _ m (by simpa [Ty.kind,Ty.n] using h),hu,?_⟩;show u.sz≤(Ty.mk 2 [] q []).sz*u.sz
     rw[a0t];simp[Ty.szs]
  | con s l hs hl=>
   rw[a0t] at hn hb;have e:b4r (n+1) (.mk 3 s 0 l) m u=.mk 3 s 0 (l.map fun x=>b4r n x m u):=rfl;rw[e];have h2:∀(i:Nat) (x y:Ty),l[i]? =some x→(l.map fun x=>b4r n x m u)[i]? =some y→den E 244 [tyV x,tyV u,.slice ((a0n u [] []).map .str),.func 245 [] [.ptr (.par 0) 0]] [[.int .i64 m]]=some (tyV y,[[.int .i64 m]])∧GT y∧y.sz≤x.sz*u.sz:=by
    intro i x y hx hy;simp[hx] at hy;subst hy;have:=a2i (List.mem_of_getElem? hx);exact ih x (by omega) (hl x (List.mem_of_getElem? hx)) (by omega)
   refine⟨c0g (.mk 3 s 0 l) _ u _ m (by simp[Ty.args]) (by rw[a0t];omega) (by omega) (fun i x y hx hy=>(h2 i x y hx hy).1) rfl rfl,.con s _ hs fun y hy=>?_,?_⟩
   · obtain⟨x,hx,rfl⟩:=List.mem_map.1 hy;obtain⟨i,hi⟩:=b9f hx;exact (h2 i x _ hi (by simp[hi])).2.1
   · rw[a0t,a0t,Nat.add_mul,Nat.one_mul];have:=f4d (c:=u.sz) (m:=l.map fun x=>b4r n x m u) (l:=l) (by simp) fun i x y hx hy=>(h2 i x y hx hy).2.2;omega
  | fn v w hv hw=>
   rw[a0t,a1g] at hn hb;have e:b4r (n+1) (.mk 4 [] 0 [v,w]) m u=.mk 4 [] 0 [b4r n v m u,b4r n w m u]:=rfl;rw[e];obtain⟨d1,g1,s1⟩:=ih v (by omega) hv (by omega);obtain⟨d2,g2,s2⟩:=ih w (by omega) hw (by omega);refine⟨c0g (.mk 4 [] 0 [v,w]) [_,_] u _ m rfl (by rw[a0t,a1g];omega) (by omega) (fun i x y hx hy=>?_) rfl rfl,.fn _ _ g1 g2,?_⟩
   · match i with
     | 0=>simp[Ty.args] at hx hy;subst hx hy;exact d1
     | 1=>simp[Ty.args] at hx hy;subst hx hy;exact d2
     | i+2=>simp[Ty.args] at hx
   · rw[a0t,a0t,a1g,a1g,Nat.add_mul,Nat.add_mul,Nat.one_mul];omega
  | all s x hs hx=>
   rw[a0t,a1e] at hn hb;rw[e5x];cases hq:(a0n u [] []).contains s
   · obtain⟨d1,g1,s1⟩:=ih x (by omega) hx (by omega);refine⟨c0g (.mk 5 s 0 [x]) [_] u _ m rfl (by rw[a0t,a1e];omega) (by omega) (fun i p q hp hq=>?_) rfl (by simpa [Ty.kind,Ty.name] using hq),.all s _ hs g1,?_⟩
     · match i with
       | 0=>simp[Ty.args] at hp hq;subst hp hq;exact d1
       | i+1=>simp[Ty.args] at hp
     · simp only[Bool.false_eq_true,if_false];rw[a0t,a0t,a1e,a1e,Nat.add_mul,Nat.one_mul];omega
   · have hle:=a2v _ x (Nat.le_refl _) [] [];simp only[List.length_nil,Nat.zero_add] at hle;have hd:=c2u s (a0n u [] []++(a0n x [] []++[s])) (hun s hq) (by omega) (by simp;omega);obtain⟨c0,c1⟩:=b7i s (a0n u [] []++(a0n x [] []++[s])) (by simp;omega);obtain⟨r1,g1,s1⟩:=c5b n x (by omega) hx (by omega) s (a5z s (a0n u [] []++(a0n x [] []++[s]))) c0 c1;obtain⟨r2,g2,s2⟩:=ih (a9n n x s (a5z s (a0n u [] []++(a0n x [] []++[s])))) (by omega) g1 (by omega);simp only[if_true];refine⟨g6d (.mk 5 s 0 [x]) x _ _ _ u _ m rfl rfl rfl hq (by rw[a0t,a1e];omega) (by omega) s1 hd r1 r2,.all _ _ c1 g2,?_⟩;rw[s1] at s2;rw[a0t,a0t,a1e,a1e,Nat.add_mul,Nat.one_mul];omega
theorem h1i(u:Ty)(hu:GT u)(hub:u.sz<300000)(hun:∀s,(a0n u [] []).contains s=true→s≠[])(m:Int)(t:Ty)(hg:GT t)(hb:t.sz<300000):
 den E 213 [tyV t,.int .i64 m,tyV u] []=some (tyV (b4r t.sz t m u),[]):=by
 obtain⟨d,_,_⟩:=e5w u hu hub hun m _ t (Nat.le_refl _) hg hb;have df:=a7j u (by omega);rw[a0d g7c,h4b];rw[a0a t,a0a u] at d;rw[a0a (b4r _ _ _ _)] at d⊢;rw[a0a u] at df;rw[a0a t,a0a u];simp only[go_sem,Tryz.f213,df,d]
def d3h(s:List UInt8):AVal:=.str s
def b9e(i:Nat):Ty:=.mk 2 [] ((900000+i:Nat):Int) []
def g6c:List (List UInt8)→Nat→Ty→Ty
 | [],_,t=>t
 | n::r,i,t=>g6c r (i+1) (b0t t.sz t n (b9e i))
def f3b(called:List (List UInt8×List UInt8)):List (List UInt8)→Nat→Ty→Ty
 | [],_,t=>t
 | n::r,i,t=>f3b called r (i+1) (b4r t.sz t ((900000+i:Nat):Int) (.mk 1 ((a2a n called).getD []) 0 []))
def b0k(called:List (List UInt8×List UInt8))(names:List (List UInt8))(t:Ty):Ty:=f3b called names 0 (g6c names 0 t)
theorem f7k(i:Nat):a0n (b9e i) [] []=[]:=rfl
theorem f7j(i:Nat):(b9e i).sz=1:=rfl
theorem d3y{x:Ty}(hx:GT x)(hb:x.sz<300000)(a:List UInt8)(i:Nat)(hi:i<100000):den E 40 [tyV x,.str a,tyV (b9e i)] []=some (tyV (b0t x.sz x a (b9e i)),[])∧GT (b0t x.sz x a (b9e i))∧(b0t x.sz x a (b9e i)).sz≤x.sz:=by
 have:=e3z (b9e i) (.unk _ (by omega) (by omega)) (by rw[f7j];omega) (fun s' h=>by
  rw[f7k] at h;simp at h) a x.sz x (Nat.le_refl _) hx hb
 rw[f7j,Nat.mul_one] at this;exact this
theorem d5n{x:Ty}(hx:GT x)(hb:x.sz<300000)(m:Int)(s:List UInt8)(hs:s≠[])(hl:s.length≤16):den E 213 [tyV x,.int .i64 m,tyV (.mk 1 s 0 [])] []=some (tyV (b4r x.sz x m (.mk 1 s 0 [])),[])∧GT (b4r x.sz x m (.mk 1 s 0 []))∧(b4r x.sz x m (.mk 1 s 0 [])).sz≤x.sz:=by
 have hun:∀s',(a0n (.mk 1 s 0 []) [] []).contains s'=true→s'≠[]:=fun s' h=>by
  rw[c4m] at h;have:s'=s:=by simpa using h
  rw[this];exact hs
 have h1:=e5w (.mk 1 s 0 []) (.var s hl) (by rw[b8d];omega) hun m x.sz x (Nat.le_refl _) hx hb;rw[b8d,Nat.mul_one] at h1;exact⟨h1i _ (.var s hl) (by rw[b8d];omega) hun m x hx hb,h1.2⟩
theorem e1d:∀(l:List (List UInt8)) (i:Nat) (t:Ty),GT t→t.sz<300000→i+l.length≤100000→GT (g6c l i t)∧(g6c l i t).sz≤t.sz
 | [],i,t,h,_,_=>⟨h,Nat.le_refl _⟩
 | n::r,i,t,h,hb,hi=>by
  simp only[List.length_cons] at hi;obtain⟨_,g,hs⟩:=d3y h hb n i (by omega);obtain⟨g2,hs2⟩:=e1d r (i+1) _ g (by omega) (by omega);exact⟨g2,by rw[g6c];omega⟩
theorem g0u(called:List (List UInt8×List UInt8)):∀(l:List (List UInt8)) (i:Nat) (t:Ty),(∀n∈l,(a2a n called).getD []≠[]∧((a2a n called).getD []).length≤16)→GT t→t.sz<300000→GT (f3b called l i t)∧(f3b called l i t).sz≤t.sz
 | [],i,t,_,h,_=>⟨h,Nat.le_refl _⟩
 | n::r,i,t,hc,h,hb=>by
  obtain⟨c1,c2⟩:=hc n (by simp);obtain⟨_,g,hs⟩:=d5n h hb ((900000+i:Nat):Int) _ c1 c2;obtain⟨g2,hs2⟩:=g0u called r (i+1) _ (fun m hm=>hc m (by simp[hm])) g (by omega);exact⟨g2,by rw[f3b];omega⟩
structure RenS where
 i:Nat
 t:Ty
theorem c5s(called:List (List UInt8×List UInt8))(names:List (List UInt8))(t0:Ty)(hn:names.length≤99999)(hc:∀n∈names,(a2a n called).getD []≠[]∧((a2a n called).getD []).length≤16)(hg0:GT t0)(hb0:t0.sz<300000):
 den E 146 [tyV t0,.slice (names.map .str),.pmap (b3e d3h called)] []=some (tyV (b0k called names t0),[])∧GT (b0k called names t0)∧(b0k called names t0).sz≤t0.sz:=by
 obtain⟨g1,s1⟩:=e1d names 0 t0 hg0 hb0 (by omega);refine⟨?_,?_⟩
 rotate_left
 · obtain⟨g2,s2⟩:=g0u called names 0 _ hc g1 (by omega);exact⟨g2,by unfold b0k;omega⟩
 rw[a0d g8r,h5r,a0a t0];unfold b0k;obtain⟨T1,hT1⟩:∃T1,T1=g6c names 0 t0:=⟨_,rfl⟩
 rw[←hT1] at g1 s1⊢;obtain⟨fin,hfin⟩:∃fin,fin=(some (tyV (f3b called names 0 T1),[]):Option (AVal×a2z)):=⟨_,rfl⟩
 rw[←hfin];simp only[go_sem,Tryz.f146,List.length_map];refine a0p (fun a:RenS=>a.i≤names.length∧GT a.t∧a.t.sz<300000∧g6c (names.drop a.i) a.i a.t=T1)
  (fun a=>⟨[(1,.slice (names.map .str)),(2,.pmap (b3e d3h called)),(3,.ptr (.loc 3) 0),(6,.ptr (.loc 6) 0),(11,.slice (names.map .str)),(12,.int .i64 names.length),(13,.int .i64 a.i)],[],[(3,[.int .i64 a.t.kind,.str a.t.name,.int .i64 a.t.n,.slice (a2o a.t.args)]),(6,[.int .i64 0,.str [],.int .i64 0,.own 25 0 []])],1⟩)
  (fun _=>fin) (fun a=>names.length - a.i) ⟨0,t0⟩ ⟨Nat.zero_le _,hg0,hb0,by rw[hT1];rfl⟩ ?_ ?_
 · simp only[go_sem]
 · rintro⟨i,t⟩ ⟨hi,hg,hb,hp⟩ h;simp only at hi hg hb hp⊢
   by_cases hlt:i<names.length
   · obtain⟨x,hx⟩:=a6u hlt;rw[a1z hx] at hp;have w1:IntKind.i64.wrap ((i:Int)+1)=((i+1:Nat):Int):=a1c (i+1) (by omega);have w2:IntKind.i64.wrap ((900000:Int)+(i:Int))=((900000+i:Nat):Int):=a1c (900000+i) (by omega);obtain⟨d,g,hs⟩:=d3y hg hb x i (by omega);rw[b9e,a4c,a0e] at d;rw[a0a t,a0a (b0t _ _ _ _)] at d;simp only[go_sem,a0f,decide_eq_true hlt,a0c,a0i,a4t,hx,w2,d];refine h ⟨i+1,b0t t.sz t x (b9e i)⟩ _ ⟨show i+1≤names.length by omega,g,show (b0t t.sz t x (b9e i)).sz<300000 by omega,hp⟩ (show names.length - (i+1)<names.length - i by omega) ?_;simp only[go_sem,w1,b9e]
   · have hie:i=names.length:=by omega
     subst hie;rw[List.drop_length] at hp;have hp:t=T1:=hp;subst hp;simp only[go_sem,a0f,Nat.lt_irrefl];refine a0p (fun a:RenS=>a.i≤names.length∧GT a.t∧a.t.sz<300000∧f3b called (names.drop a.i) a.i a.t=f3b called names 0 t)
      (fun a=>⟨[(2,.pmap (b3e d3h called)),(3,.ptr (.loc 3) 0),(6,.ptr (.loc 6) 0),(25,.slice (names.map .str)),(26,.int .i64 names.length),(27,.int .i64 a.i)],[],[(3,[.int .i64 a.t.kind,.str a.t.name,.int .i64 a.t.n,.slice (a2o a.t.args)]),(6,[.int .i64 0,.str [],.int .i64 0,.own 25 0 []])],1⟩)
      (fun _=>fin) (fun a=>names.length - a.i) ⟨0,t⟩ ⟨Nat.zero_le _,hg,hb,rfl⟩ ?_ ?_
     · simp only[go_sem,List.length_map]
     · rintro⟨i,t2⟩ ⟨hi,hg,hb,hp⟩ hh;simp only at hi hg hb hp⊢
       by_cases hlt:i<names.length
       · obtain⟨x,hx⟩:=a6u hlt;rw[a1z hx] at hp;have hxm:=List.mem_of_getElem? hx;obtain⟨c1,c2⟩:=hc x hxm;have w1:IntKind.i64.wrap ((i:Int)+1)=((i+1:Nat):Int):=a1c (i+1) (by omega);have w2:IntKind.i64.wrap ((900000:Int)+(i:Int))=((900000+i:Nat):Int):=a1c (900000+i) (by omega);obtain⟨d,g,hs⟩:=d5n hg hb ((900000+i:Nat):Int) _ c1 c2;have hf:=b1n d3h x called;cases hk:a2a x called with
         | none=>rw[hk] at c1;exact absurd rfl c1
         | some y=>
          rw[hk] at hf d g hs;simp only[Option.map_some,d3h,Option.getD_some] at hf d g hs;rw[a4c,a0e] at d;rw[a0a t2,a0a (b4r _ _ _ _)] at d;simp only[go_sem,a0f,decide_eq_true hlt,a0c,a0i,a4t,hx,w2,hf,d];refine hh ⟨i+1,b4r t2.sz t2 ((900000+i:Nat):Int) (.mk 1 y 0 [])⟩ _ ⟨show i+1≤names.length by omega,g,show (b4r t2.sz t2 ((900000+i:Nat):Int) (.mk 1 y 0 [])).sz<300000 by omega,?_⟩ (show names.length - (i+1)<names.length - i by omega) ?_
          · rw[f3b,hk] at hp;exact hp
          · simp only[go_sem,w1]
       · have hie:i=names.length:=by omega
         subst hie;rw[List.drop_length] at hp;have hp:t2=f3b called names 0 t:=hp;rw[hfin,←hp,a0a];simp only[go_sem,a0f,Nat.lt_irrefl]
end Go.Proofs
