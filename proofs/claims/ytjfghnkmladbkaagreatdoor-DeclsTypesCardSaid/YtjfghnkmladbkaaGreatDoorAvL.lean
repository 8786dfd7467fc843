/- Types: well formed, renamed, with canonical names, put in the place of names, peeled. -/
import Derived.Test.YtjfghnkmladbkaaGreatDoorAvK
namespace Go.Proofs
open Go.Av
set_option maxHeartbeats 16000000
set_option maxRecDepth 100000
mutual
def b0o:Ty→Bool
 | .mk k _ _ l=>k==5||b0p l
def b0p:List Ty→Bool
 | []=>false
 | t::l=>b0o t||b0p l
end
theorem c3n(k:Int)(s:List UInt8)(n:Int)(l:List Ty):b0o (.mk k s n l)=(k==5||b0p l):=rfl
theorem a8q(t:Ty)(l:List Ty):b0p (t::l)=(b0o t||b0p l):=rfl
def e7o(p:Ty→Bool):List Ty→Nat→Int
 | [],_=> -1
 | x::r,i=>if p x then (i:Int) else e7o p r (i+1)
theorem d8m(p:Ty→Bool):∀(l:List Ty) (i:Nat),decide (0≤e7o p l i)=l.any p
 | [],i=>rfl
 | x::r,i=>by
  unfold e7o;cases h:p x
  · simp only[Bool.false_eq_true,if_false,List.any_cons,h,Bool.false_or];exact d8m p r (i+1)
  · simp[h]
theorem d5b:∀l:List Ty,b0p l=l.any b0o
 | []=>rfl
 | t::l=>by rw[a8q,List.any_cons,d5b l]
theorem i2x(l:List Ty)(hl:l.length<1000000)(hc:∀x∈l,den E 145 [tyV x] []=some (.bool (b0o x),[])):den E 212 [.slice (a2i l),.func 145 [] []] []=some (.int .i64 (e7o b0o l 0),[]):=by
 rw[a0d e0v,e3f];have rl:=a1q l;simp only[go_sem,Tryz.f212,rl];refine a0o (fun i:Nat=>i≤l.length) (fun i=>⟨[(0,.slice (a2i l)),(1,.func 145 [] []),(7,.int .i64 l.length),(8,.int .i64 i)],[],[],1⟩) (fun i=>some (.int .i64 (e7o b0o (l.drop i) i),[])) (fun i=>l.length - i) 0 (Nat.zero_le _) ?_ ?_
 · simp only[go_sem]
 · intro i hi h
   by_cases hlt:i<l.length
   · obtain⟨x,hx⟩:=a6v hlt;rw[a2a hx];have w1:IntKind.i64.wrap ((i:Int)+1)=((i+1:Nat):Int):=a0z (i+1) (by omega);have d:=hc x (List.mem_of_getElem? hx);rw[a0a] at d;cases hq:b0o x
     · rw[hq] at d;simp only[go_sem,a0e,decide_eq_true hlt,a0c,a0i,a4g,hx,hq,d,a0a,e7o];refine h (i+1) _ (by omega) (by omega) ?_;simp only[go_sem,w1]
     · rw[hq] at d;simp only[go_sem,a0e,decide_eq_true hlt,a0c,a0i,a4g,hx,hq,d,a0a,e7o]
   · have hie:i=l.length:=by omega
     subst hie;rw[List.drop_length];simp only[go_sem,a0e,Nat.lt_irrefl,e7o]
theorem d3t(l:List Ty)(hl:l.length<1000000)(hc:∀x∈l,den E 145 [tyV x] []=some (.bool (b0o x),[])):den E 144 [.slice (a2i l),.func 145 [] []] []=some (.bool (b0p l),[]):=by
 rw[a0d e1a,e3j];have d:=i2x l hl hc;have e:=d8m b0o l 0;rw[d5b];simp only[go_sem,Tryz.f144,d,e,ge_iff_le]
theorem c3m:∀(n:Nat) (t:Ty),t.sz≤n→t.sz<1000000→den E 145 [tyV t] []=some (.bool (b0o t),[]):=by
 intro n
 induction n with
 | zero=>intro t h;have:=a2s t;omega
 | succ n ih=>
  intro t hn hb;have hsz:=a2s t;have hal:=a4n t;have d:=d3t t.args (by omega) fun x hx=>by
   have:=a2w hx;exact ih x (by omega) (by omega)
  rw[a0d g4h,h1e];have e:b0o t=(t.kind==5||b0p t.args):=by cases t;rfl
  rw[e,a0a];cases hk:t.kind==5
  · simp only[go_sem,Tryz.f145,hk,d,Bool.false_or]
  · simp only[go_sem,Tryz.f145,hk,Bool.true_or]
def a8w{α:Type}(f:α→AVal)(l:List (List UInt8×α)):List AVal:=l.map fun p=>.tup [.str p.1,f p.2]
theorem g6j{α:Type}(f:α→AVal)(l:List (List UInt8×α)):isL (a8w f l)=none:=by
 cases l with
 | nil=>rfl
 | cons a r=>cases r<;>rfl
attribute [go_sem ↓] g6j
def a2o{α:Type}(k:List UInt8):List (List UInt8×α)→Option α
 | []=>none
 | p::r=>if k==p.1 then some p.2 else a2o k r
def b6s{α:Type}(k:List UInt8)(v:α):List (List UInt8×α)→List (List UInt8×α)
 | []=>[(k,v)]
 | p::r=>if k==p.1 then (k,v)::r else p::b6s k v r
theorem a8e{α:Type}(f:α→AVal)(k:List UInt8):∀l:List (List UInt8×α),c8i (.str k) (a8w f l)=some ((a2o k l).map f)
 | []=>rfl
 | p::r=>by
  have ih:=a8e f k r;unfold a8w at ih⊢;rw[List.map_cons];simp only[c8i,c2o,Option.bind_some,a2o];cases h:k==p.1
  · simp only[Bool.false_eq_true,if_false];exact ih
  · simp
theorem b8h{α:Type}(f:α→AVal)(k:List UInt8)(v:α):∀l:List (List UInt8×α),e9u (.str k) (f v) (a8w f l)=some (a8w f (b6s k v l))
 | []=>rfl
 | p::r=>by
  have ih:=b8h f k v r;unfold a8w at ih⊢;rw[List.map_cons];simp only[e9u,c2o,Option.bind_some,b6s];cases h:k==p.1
  · simp only[Bool.false_eq_true,if_false,ih,Option.map_some,List.map_cons]
  · simp
def g0f(n:Int):AVal:=.int .i64 n
def j3f(ar:List (List UInt8×Int))(s:List UInt8)(n:Nat):Bool:=match a2o s ar with
 | none=>true
 | some m=>m !=(n:Int)
mutual
def b4z(ar:List (List UInt8×Int)):Ty→Bool
 | .mk k s _ l=> !(k==2||(k==3&&j3f ar s l.length))&&d6h ar l
def d6h(ar:List (List UInt8×Int)):List Ty→Bool
 | []=>true
 | t::l=>b4z ar t&&d6h ar l
end
theorem d0f(ar:List (List UInt8×Int))(t:Ty)(l:List Ty):d6h ar (t::l)=(b4z ar t&&d6h ar l):=rfl
theorem e2g(ar:List (List UInt8×Int))(t:Ty):b4z ar t=(!(t.kind==2||(t.kind==3&&j3f ar t.name t.args.length))&&d6h ar t.args):=by cases t;rfl
theorem d6g(ar:List (List UInt8×Int)):∀l:List Ty,(l.any fun t=> !b4z ar t)= !d6h ar l
 | []=>rfl
 | t::l=>by rw[List.any_cons,d6g ar l,d0f];cases b4z ar t<;>rfl
def b1v(ar:List (List UInt8×Int))(cs co:List AVal):List AVal:=[.own 1099511627777 0 (a8w g0f ar),.own 1099511627777 0 cs,.own 1099511627777 0 co]
attribute [go_sem] b1v
theorem i2y(ar:List (List UInt8×Int))(cs co:List AVal)(l:List Ty)(hl:l.length<1000000)
 (hc:∀x∈l,den E 154 [tyV x,.ptr (.par 0) 0] [[.ptr (.par 1) 0],b1v ar cs co]=some (.bool (!b4z ar x),[[.ptr (.par 1) 0],b1v ar cs co])):
 den E 212 [.slice (a2i l),.func 154 [] [.ptr (.par 0) 0]] [[.ptr (.par 1) 0],b1v ar cs co]=some (.int .i64 (e7o (fun x=> !b4z ar x) l 0),[[.ptr (.par 1) 0],b1v ar cs co]):=by
 rw[a0d e0v,e3f];have rl:=a1q l;simp only[go_sem,Tryz.f212,rl];refine a0o (fun i:Nat=>i≤l.length) (fun i=>⟨[(0,.slice (a2i l)),(1,.func 154 [] [.ptr (.par 0) 0]),(7,.int .i64 l.length),(8,.int .i64 i)],[[.ptr (.par 1) 0],b1v ar cs co],[],1⟩) (fun i=>some (.int .i64 (e7o (fun x=> !b4z ar x) (l.drop i) i),[[.ptr (.par 1) 0],b1v ar cs co])) (fun i=>l.length - i) 0 (Nat.zero_le _) ?_ ?_
 · simp only[go_sem]
 · intro i hi h
   by_cases hlt:i<l.length
   · obtain⟨x,hx⟩:=a6v hlt;rw[a2a hx];have w1:IntKind.i64.wrap ((i:Int)+1)=((i+1:Nat):Int):=a0z (i+1) (by omega);have d:=hc x (List.mem_of_getElem? hx);rw[a0a] at d;unfold b1v at d;cases hq:b4z ar x
     · rw[hq] at d;simp only[go_sem,a0e,decide_eq_true hlt,a0c,a0i,a4g,hx,hq,d,a0a,e7o]
     · rw[hq] at d;simp only[go_sem,a0e,decide_eq_true hlt,a0c,a0i,a4g,hx,hq,d,a0a,e7o];refine h (i+1) _ (by omega) (by omega) ?_;simp only[go_sem,w1]
   · have hie:i=l.length:=by omega
     subst hie;rw[List.drop_length];simp only[go_sem,a0e,Nat.lt_irrefl,e7o]
theorem h2b(ar:List (List UInt8×Int))(cs co:List AVal)(l:List Ty)(hl:l.length<1000000)
 (hc:∀x∈l,den E 154 [tyV x,.ptr (.par 0) 0] [[.ptr (.par 1) 0],b1v ar cs co]=some (.bool (!b4z ar x),[[.ptr (.par 1) 0],b1v ar cs co])):
 den E 144 [.slice (a2i l),.func 154 [] [.ptr (.par 0) 0]] [[.ptr (.par 1) 0],b1v ar cs co]=some (.bool (!d6h ar l),[[.ptr (.par 1) 0],b1v ar cs co]):=by
 rw[a0d e1a,e3j];have d:=i2y ar cs co l hl hc;have e:=d8m (fun x=> !b4z ar x) l 0;rw[d6g] at e;unfold b1v at d;simp only[go_sem,Tryz.f144,d,e,ge_iff_le]
theorem f6i(ar:List (List UInt8×Int))(cs co:List AVal)(x:Ty)(h:den E 89 [.ptr (.par 0) 0,tyV x] [b1v ar cs co]=some (.bool (b4z ar x),[b1v ar cs co])):
 den E 154 [tyV x,.ptr (.par 0) 0] [[.ptr (.par 1) 0],b1v ar cs co]=some (.bool (!b4z ar x),[[.ptr (.par 1) 0],b1v ar cs co]):=by
 rw[a0d g4a,h0v];rw[a0a] at h⊢;unfold b1v at h;simp only[go_sem,Tryz.f154,h]
theorem e7y(ar:List (List UInt8×Int))(cs co:List AVal):∀(n:Nat) (t:Ty),t.sz≤n→t.sz<1000000→den E 89 [.ptr (.par 0) 0,tyV t] [b1v ar cs co]=some (.bool (b4z ar t),[b1v ar cs co]):=by
 intro n
 induction n with
 | zero=>intro t h;have:=a2s t;omega
 | succ n ih=>
  intro t hn hb;have hsz:=a2s t;have hal:=a4n t;have d:=h2b ar cs co t.args (by omega) fun x hx=>by
   have:=a2w hx;exact f6i ar cs co x (ih x (by omega) (by omega))
  have hf:=a8e g0f t.name ar;have rl:=a1q t.args;rw[a0d i0z,i4p];rw[e2g,a0a];unfold j3f;unfold b1v at d;cases hk:a2o t.name ar with
  | none=>
   rw[hk] at hf;simp only[Option.map_none] at hf;cases h2:t.kind==2<;>cases h3:t.kind==3<;>simp only[go_sem,Tryz.f89,hf,h2,h3,d,Bool.not_not]
  | some m=>
   rw[hk] at hf;simp only[Option.map_some,g0f] at hf;cases h2:t.kind==2<;>cases h3:t.kind==3<;>cases h4:m !=(t.args.length:Int)<;>simp only[go_sem,Tryz.f89,hf,h2,h3,h4,rl,d,Bool.not_not]
def b6v(ar:List (List UInt8×Int))(t:Ty):Int:=if b4z ar t then (if a0r t [] []=[] then 0 else 111) else 110
theorem c3r(ar:List (List UInt8×Int))(cs co:List AVal)(t:Ty)(hb:t.sz<1000000):den E 31 [.ptr (.par 0) 0,tyV t] [b1v ar cs co]=some (.int .i64 (b6v ar t),[b1v ar cs co]):=by
 have d:=e7y ar cs co _ t (Nat.le_refl _) hb;have df:=a6w t hb;rw[a0d i1w,i5k];unfold b6v;rw[a0a] at d df⊢;unfold b1v at d;cases hf:b4z ar t
 · rw[hf] at d;simp only[go_sem,Tryz.f31,d]
 · rw[hf] at d;cases hl:a0r t [] [] with
   | nil=>
    rw[hl] at df;have h0:decide ((0:Int)>0)=false:=rfl;simp only[go_sem,Tryz.f31,d,df,h0]
   | cons a r=>
    rw[hl] at df;have h0:decide (((r.length+1:Nat):Int)>0)=true:=by simp
    simp only[go_sem,Tryz.f31,d,df,h0,List.length_map]
def e9w(f:Nat→List UInt8)(l:List (List UInt8)):Nat→Nat→Nat
 | 0,i=>i
 | n+1,i=>if l.contains (f i) then e9w f l n (i+1) else i
theorem f1t{f:Nat→List UInt8}{l:List (List UInt8)}{i0:Nat}(h0:l.contains (f i0)=false)(h:∀j,j<i0→l.contains (f j)=true):∀(n i:Nat),i≤i0→i0≤i+n→e9w f l n i=i0
 | 0,i,h1,h2=>by simp only[e9w];omega
 | n+1,i,h1,h2=>by
  rw[e9w]
  by_cases e:i=i0
  · subst e;rw[h0];rfl
  · rw[h i (by omega),if_pos rfl];exact f1t h0 h n (i+1) (by omega) (by omega)
theorem b8p(f:Nat→List UInt8)(hinj:∀i j,f i=f j→i=j)(l:List (List UInt8)):
 e9w f l (l.length+1) 0≤l.length∧l.contains (f (e9w f l (l.length+1) 0))=false∧∀j,j<e9w f l (l.length+1) 0→l.contains (f j)=true:=by
 obtain⟨i0,h1,h2,h3⟩:=e8a f hinj l;have e:=f1t h2 h3 (l.length+1) 0 (Nat.zero_le _) (by omega);rw[e];exact⟨h1,h2,h3⟩
def a6s(s:List UInt8)(but:List (List UInt8)):List UInt8:=b8c s (e9w (b8c s) but (but.length+1) 0)
theorem d3b(s:List UInt8)(but:List (List UInt8))(h:but.length<999999):a6s s but≠[]∧(a6s s but).length≤16:=g8h s _ (by have:=(b8p (b8c s) (e3a s) but).1;omega)
theorem c1a(s:List UInt8)(but:List (List UInt8))(hs:s≠[])(hl:s.length≤1000)(hb:but.length<1000000):den E 98 [.str s,.slice (but.map .str)] []=some (.str (a6s s but),[]):=by
 obtain⟨h1,h2,h3⟩:=b8p (b8c s) (e3a s) but;unfold a6s;generalize e9w (b8c s) but (but.length+1) 0=i0 at h1 h2 h3⊢;rw[a0d i0t,i4k];have hl1:1≤s.length:=List.length_pos_iff.2 hs;have l1:(s.take 1).length+1≤a1t:=by rw[List.length_take];unfold a1t;omega
 simp only[go_sem,Tryz.f98];refine a0o (fun i:Nat=>i≤i0) (fun i=>⟨[(0,.str s),(1,.slice (but.map .str)),(5,.int .i64 i)],[],[],1⟩) (fun _=>some (.str (b8c s i0),[])) (fun i=>i0 - i) 0 (Nat.zero_le _) ?_ ?_
 · simp only[go_sem]
 · intro i hi h;have w1:IntKind.i64.wrap ((i:Int)+1)=((i+1:Nat):Int):=a0z (i+1) (by omega);have d1:=a9h i (by omega);have dc:=a3l but (b8c s i) hb;have l2:(s.take 1++[95]).length+(Lib.itoa (i:Int)).length≤a1t:=by
    have:=b0a 8 i (by
     have e:(10:Nat) ^ (8+1)=1000000000:=by decide
     omega)
    rw[List.length_append,List.length_take];unfold a1t;simp;omega
   by_cases hlt:i<i0
   · rw[h3 i hlt] at dc;unfold b8c at dc;simp only[go_sem,hl1,Nat.zero_le,l1,l2,d1,dc,Int.toNat_one,Int.zero_le_ofNat];refine h (i+1) _ (by omega) (by omega) ?_;simp only[go_sem,w1]
   · have hie:i=i0:=by omega
     subst hie;rw[h2] at dc;unfold b8c at dc⊢;simp only[go_sem,hl1,Nat.zero_le,l1,l2,d1,dc,Int.toNat_one,Int.zero_le_ofNat]
def b6u:Nat→Ty→List UInt8→List UInt8→Ty
 | 0,t,_,_=>t
 | n+1,.mk k s m l,a,b=>
  if k==1&&s==a then .mk k b m l
  else if k==5&&s==a then .mk k s m l
  else if k==5&&s==b then (match l with
   | [x]=>.mk 5 (a6s b (a0r x [] []++[a,b])) 0 [b6u n (b6u n x b (a6s b (a0r x [] []++[a,b]))) a b]
   | _=>.mk k s m l)
  else .mk k s m (l.map fun x=>b6u n x a b)
theorem g1j(n:Nat)(s:List UInt8)(a b:List UInt8):b6u (n+1) (.mk 1 s 0 []) a b=if s==a then .mk 1 b 0 [] else .mk 1 s 0 []:=by
 unfold b6u;cases h:s==a<;>simp
theorem g1k(n:Nat)(s:List UInt8)(x:Ty)(a b:List UInt8):b6u (n+1) (.mk 5 s 0 [x]) a b=if s==a then .mk 5 s 0 [x] else if s==b then .mk 5 (a6s b (a0r x [] []++[a,b])) 0 [b6u n (b6u n x b (a6s b (a0r x [] []++[a,b]))) a b] else .mk 5 s 0 [b6u n x a b]:=by
 rw[b6u];cases h:s==a<;>cases h2:s==b<;>simp
theorem d2a:∀(n:Nat) (t:Ty),t.sz≤n→GT t→t.sz<300000→∀(a b:List UInt8),b≠[]→b.length≤16→den E 100 [tyV t,.str a,.str b] []=some (tyV (b6u n t a b),[])∧GT (b6u n t a b)∧(b6u n t a b).sz=t.sz:=by
 intro n
 induction n with
 | zero=>intro t h;have:=a2s t;omega
 | succ n ih=>
  intro t hn hg hb a b hb0 hb1;have hsz:=a2s t;cases hg with
  | var s hs=>
   rw[g1j];cases h:s==a
   · exact⟨b2c (.mk 1 s 0 []) [] a b rfl (by omega) (fun i x y hx=>by simp[Ty.args] at hx) (by simpa [Ty.kind,Ty.name] using h) rfl rfl,.var s hs,rfl⟩
   · exact⟨i0n (.mk 1 s 0 []) a b rfl h,.var b hb1,rfl⟩
  | unk m h1 h2=>exact⟨b2c (.mk 2 [] m []) [] a b rfl (by omega) (fun i x y hx=>by simp[Ty.args] at hx) rfl rfl rfl,.unk m h1 h2,rfl⟩
  | con s l hs hl=>
   rw[a0y] at hn hb;have e:b6u (n+1) (.mk 3 s 0 l) a b=.mk 3 s 0 (l.map fun x=>b6u n x a b):=rfl;rw[e];have h2:∀(i:Nat) (x y:Ty),l[i]? =some x→(l.map fun x=>b6u n x a b)[i]? =some y→den E 100 [tyV x,.str a,.str b] []=some (tyV y,[])∧GT y∧y.sz=x.sz:=by
    intro i x y hx hy;simp[hx] at hy;subst hy;have:=a2w (List.mem_of_getElem? hx);exact ih x (by omega) (hl x (List.mem_of_getElem? hx)) (by omega) a b hb0 hb1
   refine⟨b2c (.mk 3 s 0 l) _ a b (by simp[Ty.args]) (by rw[a0y];omega) (fun i x y hx hy=>(h2 i x y hx hy).1) rfl rfl rfl,.con s _ hs fun y hy=>?_,?_⟩
   · obtain⟨x,hx,rfl⟩:=List.mem_map.1 hy;obtain⟨i,hi⟩:=c5z hx;exact (h2 i x _ hi (by simp[hi])).2.1
   · rw[a0y,a0y];exact congrArg (· +1) (c8s (by simp) fun i x y hx hy=>(h2 i x y hx hy).2.2)
  | fn u v hu hv=>
   rw[a0y,a1h] at hn hb;have e:b6u (n+1) (.mk 4 [] 0 [u,v]) a b=.mk 4 [] 0 [b6u n u a b,b6u n v a b]:=rfl;rw[e];obtain⟨d1,g1,s1⟩:=ih u (by omega) hu (by omega) a b hb0 hb1;obtain⟨d2,g2,s2⟩:=ih v (by omega) hv (by omega) a b hb0 hb1;refine⟨b2c (.mk 4 [] 0 [u,v]) [_,_] a b rfl (by rw[a0y,a1h];omega) (fun i x y hx hy=>?_) rfl rfl rfl,.fn _ _ g1 g2,by simp only[a0y,a1h,s1,s2]⟩
   match i with
   | 0=>simp[Ty.args] at hx hy;subst hx hy;exact d1
   | 1=>simp[Ty.args] at hx hy;subst hx hy;exact d2
   | i+2=>simp[Ty.args] at hx
  | all s x hs hx=>
   rw[a0y,a1l] at hn hb;rw[g1k];cases ha:s==a
   · cases hq:s==b
     · obtain⟨d1,g1,s1⟩:=ih x (by omega) hx (by omega) a b hb0 hb1;refine⟨b2c (.mk 5 s 0 [x]) [_] a b rfl (by rw[a0y,a1l];omega) (fun i u v hu hv=>?_) rfl (by simpa [Ty.kind,Ty.name] using ha) (by simpa [Ty.kind,Ty.name] using hq),.all s _ hs g1,by simp only[Bool.false_eq_true,if_false,a0y,a1l,s1]⟩
       match i with
       | 0=>simp[Ty.args] at hu hv;subst hu hv;exact d1
       | i+1=>simp[Ty.args] at hu
     · have hle:=a3p _ x (Nat.le_refl _) [] [];simp only[List.length_nil,Nat.zero_add] at hle;have hd:=c1a b (a0r x [] []++[a,b]) hb0 (by omega) (by simp;omega);obtain⟨c0,c1⟩:=d3b b (a0r x [] []++[a,b]) (by simp;omega);obtain⟨r1,g1,s1⟩:=ih x (by omega) hx (by omega) b (a6s b (a0r x [] []++[a,b])) c0 c1;obtain⟨r2,g2,s2⟩:=ih (b6u n x b (a6s b (a0r x [] []++[a,b]))) (by omega) g1 (by omega) a b hb0 hb1;simp only[Bool.false_eq_true,if_false,if_true];exact⟨f2c (.mk 5 s 0 [x]) x _ _ a b _ rfl rfl rfl ha hq (by rw[a0y,a1l];omega) s1 hd r1 r2,.all _ _ c1 g2,by rw[a0y,a0y,a1l,a1l,s2,s1]⟩
   · exact⟨g1i (.mk 5 s 0 [x]) a b rfl rfl ha,.all s x hs hx,rfl⟩
def b1q(g:Ty→Nat→Ty×Nat):List Ty→Nat→List Ty×Nat
 | [],k=>([],k)
 | t::l,k=>((g t k).1::(b1q g l (g t k).2).1,(b1q g l (g t k).2).2)
def c5q(fr:List (List UInt8))(k:Nat):Nat:=k+e9w (fun i=>a8j (k+i)) fr (fr.length+1) 0
def b4u(fr:List (List UInt8)):Nat→Ty→Nat→Ty×Nat
 | 0,t,k=>(t,k)
 | n+1,.mk q s m l,k=>
  if q==5 then (match l with
   | [x]=>(.mk 5 (a8j (c5q fr k)) 0 [(b4u fr n (b6u n x s (a8j (c5q fr k))) (c5q fr k+1)).1],(b4u fr n (b6u n x s (a8j (c5q fr k))) (c5q fr k+1)).2)
   | _=>(.mk q s m l,k))
  else (.mk q s m (b1q (b4u fr n) l k).1,(b1q (b4u fr n) l k).2)
theorem g5j(fr:List (List UInt8))(n:Nat)(s:List UInt8)(x:Ty)(k:Nat):b4u fr (n+1) (.mk 5 s 0 [x]) k=(.mk 5 (a8j (c5q fr k)) 0 [(b4u fr n (b6u n x s (a8j (c5q fr k))) (c5q fr k+1)).1],(b4u fr n (b6u n x s (a8j (c5q fr k))) (c5q fr k+1)).2):=rfl
def c5n(g:Ty→Nat→Ty×Nat):List Ty→Nat→List Nat
 | [],k=>[k]
 | t::l,k=>k::c5n g l (g t k).2
theorem b4t(g:Ty→Nat→Ty×Nat)(l:List Ty)(k:Nat):(c5n g l k).getD 0 0=k:=by cases l<;>rfl
theorem b8x(g:Ty→Nat→Ty×Nat):∀(l:List Ty) (k:Nat),(c5n g l k).getD l.length 0=(b1q g l k).2
 | [],k=>rfl
 | t::l,k=>by rw[c5n,List.length_cons,List.getD_cons_succ,b8x g l];rfl
theorem a9z(g:Ty→Nat→Ty×Nat):∀(l:List Ty) (k:Nat),(b1q g l k).1.length=l.length
 | [],k=>rfl
 | t::l,k=>by rw[b1q,List.length_cons,a9z g l];rfl
theorem d2n(g:Ty→Nat→Ty×Nat):∀(l:List Ty) (k i:Nat) (x y:Ty),l[i]? =some x→(b1q g l k).1[i]? =some y→y=(g x ((c5n g l k).getD i 0)).1∧(c5n g l k).getD (i+1) 0=(g x ((c5n g l k).getD i 0)).2
 | [],k,i,x,y,h,_=>by simp at h
 | t::l,k,0,x,y,h,h2=>by
  simp[b1q] at h h2;subst h;rw[←h2,c5n,List.getD_cons_zero,List.getD_cons_succ,b4t];exact⟨rfl,rfl⟩
 | t::l,k,i+1,x,y,h,h2=>by
  rw[c5n,List.getD_cons_succ,List.getD_cons_succ];exact d2n g l (g t k).2 i x y (by simpa using h) (by simpa [b1q] using h2)
theorem e1j(fr:List (List UInt8))(hf:fr.length<1000000):∀(n:Nat) (t:Ty),t.sz≤n→GT t→t.sz<300000→∀k:Nat,k+t.sz*(fr.length+1)≤900000000→
 den E 151 [tyV t,.slice (fr.map .str),.int .i64 k] []=some (.tup [tyV (b4u fr n t k).1,.int .i64 (b4u fr n t k).2],[])∧GT (b4u fr n t k).1∧(b4u fr n t k).1.sz=t.sz∧(b4u fr n t k).2≤k+t.sz*(fr.length+1):=by
 intro n
 induction n with
 | zero=>intro t h;have:=a2s t;omega
 | succ n ih=>
  intro t hn hg hb k hk;have bound:∀(l:List Ty),(∀x,x∈l→GT x)→Ty.szs l≤n→Ty.szs l<300000→∀k:Nat,k+Ty.szs l*(fr.length+1)≤900000000→
   (∀(i:Nat) (x:Ty),l[i]? =some x→(c5n (b4u fr n) l k).getD i 0+x.sz*(fr.length+1)≤900000000)∧(b1q (b4u fr n) l k).2≤k+Ty.szs l*(fr.length+1):=by
   intro l
   induction l with
   | nil=>intro _ _ _ k _;exact⟨fun i x h=>by simp at h,by simp[b1q]⟩
   | cons t l ihl=>
    intro hl h1 h2 k hk;rw[a3o,Nat.add_mul] at hk;rw[a3o] at h1 h2;obtain⟨_,_,_,q4⟩:=ih t (by omega) (hl t (List.mem_cons_self ..)) (by omega) k (by omega);obtain⟨b1,b2⟩:=ihl (fun x hx=>hl x (List.mem_cons_of_mem _ hx)) (by omega) (by omega) (b4u fr n t k).2 (by omega);refine⟨fun i x hx=>?_,?_⟩
    · cases i with
      | zero=>simp at hx;subst hx;rw[c5n,List.getD_cons_zero];omega
      | succ i=>rw[c5n,List.getD_cons_succ];exact b1 i x (by simpa using hx)
    · rw[b1q,a3o,Nat.add_mul];simp only;omega
  have kids:∀l:List Ty,(∀x,x∈l→GT x)→Ty.szs l≤n→Ty.szs l<300000→k+Ty.szs l*(fr.length+1)≤900000000→
   ∀(i:Nat) (x y:Ty),l[i]? =some x→(b1q (b4u fr n) l k).1[i]? =some y→den E 151 [tyV x,.slice (fr.map .str),.int .i64 ((c5n (b4u fr n) l k).getD i 0:Nat)] []=some (.tup [tyV y,.int .i64 ((c5n (b4u fr n) l k).getD (i+1) 0:Nat)],[])∧GT y∧y.sz=x.sz:=by
   intro l hl h1 h2 h3 i x y hx hy;obtain⟨e1,e2⟩:=d2n _ l k i x y hx hy;have hm:=List.mem_of_getElem? hx;have:=a2w hm;obtain⟨q1,q2,q3,_⟩:=ih x (by omega) (hl x hm) (by omega) _ ((bound l hl h1 h2 k h3).1 i x hx);rw[e1,e2];exact⟨q1,q2,q3⟩
  have mono:∀a b:Nat,a≤b→a*(fr.length+1)≤b*(fr.length+1):=fun a b h=>Nat.mul_le_mul_right _ h;cases hg with
  | var s hs=>
   exact⟨b8w (.mk 1 s 0 []) [] _ [k] rfl (by omega) rfl (fun i x y hx=>by simp[Ty.args] at hx),.var s hs,rfl,by show k≤_;omega⟩
  | unk m h1 h2=>
   exact⟨b8w (.mk 2 [] m []) [] _ [k] rfl (by omega) rfl (fun i x y hx=>by simp[Ty.args] at hx),.unk m h1 h2,rfl,by show k≤_;omega⟩
  | con s l hs hl=>
   rw[a0y] at hn hb hk⊢;have:=mono (Ty.szs l) (Ty.szs l+1) (by omega);have e:b4u fr (n+1) (.mk 3 s 0 l) k=(.mk 3 s 0 (b1q (b4u fr n) l k).1,(b1q (b4u fr n) l k).2):=rfl;have e3:=kids l hl (by omega) (by omega) (by omega);have e2:=(bound l hl (by omega) (by omega) k (by omega)).2;have d:=b8w (.mk 3 s 0 l) (b1q (b4u fr n) l k).1 (fr.map .str) (c5n (b4u fr n) l k) (a9z _ l k) (by rw[a0y];omega) rfl (fun i x y hx hy=>(e3 i x y hx hy).1);rw[b4t] at d;have e4:(Ty.mk 3 s 0 l).args.length=l.length:=rfl;rw[e4,b8x] at d;rw[e];refine⟨d,.con s _ hs fun y hy=>?_,?_,by show (b1q (b4u fr n) l k).2≤_;omega⟩
   · obtain⟨i,hi⟩:=c5z hy;have:i<l.length:=by have:=(List.getElem?_eq_some_iff.1 hi).1;rw[a9z] at this;exact this
     obtain⟨x,hx⟩:=a6v this;exact (e3 i x y hx hi).2.1
   · show (Ty.mk 3 s 0 (b1q (b4u fr n) l k).1).sz=_
     rw[a0y];exact congrArg (· +1) (c8s (a9z _ l k) fun i x y hx hy=>(e3 i x y hx hy).2.2)
  | fn u v hu hv=>
   rw[a0y,a1h] at hn hb hk⊢;have:=mono (u.sz+v.sz) (u.sz+v.sz+1) (by omega);have hl:∀x,x∈[u,v]→GT x:=fun x hx=>by simp at hx;rcases hx with rfl|rfl;exact hu;exact hv
   have e:b4u fr (n+1) (.mk 4 [] 0 [u,v]) k=(.mk 4 [] 0 (b1q (b4u fr n) [u,v] k).1,(b1q (b4u fr n) [u,v] k).2):=rfl;have e3:=kids [u,v] hl (by rw[a1h];omega) (by rw[a1h];omega) (by rw[a1h];omega);have e2:=(bound [u,v] hl (by rw[a1h];omega) (by rw[a1h];omega) k (by rw[a1h];omega)).2;rw[a1h] at e2;have d:=b8w (.mk 4 [] 0 [u,v]) (b1q (b4u fr n) [u,v] k).1 (fr.map .str) (c5n (b4u fr n) [u,v] k) (a9z _ [u,v] k) (by rw[a0y,a1h];omega) rfl (fun i x y hx hy=>(e3 i x y hx hy).1);rw[b4t] at d;have e4:(Ty.mk 4 [] 0 [u,v]).args.length=[u,v].length:=rfl;rw[e4,b8x] at d;rw[e];have f1:=e3 0 u _ rfl rfl;have f2:=e3 1 v _ rfl rfl;refine⟨d,.fn _ _ f1.2.1 f2.2.1,?_,by show (b1q (b4u fr n) [u,v] k).2≤_;omega⟩;show (Ty.mk 4 [] 0 [_,_]).sz=_
   rw[a0y,a1h,f1.2.2,f2.2.2]
  | all s x hs hx=>
   rw[a0y,a1l] at hn hb hk⊢;have e:(x.sz+1)*(fr.length+1)=x.sz*(fr.length+1)+(fr.length+1):=by rw[Nat.add_mul];omega
   obtain⟨h1,h2,h3⟩:=b8p (fun i=>a8j (k+i)) (fun i j h=>by have:=f9h _ _ h;omega) fr;rw[g5j];unfold c5q;generalize e9w (fun i=>a8j (k+i)) fr (fr.length+1) 0=i at h1 h2 h3⊢;obtain⟨c1,c2,_⟩:=c7h (k+i) (by omega);obtain⟨r1,g1,s1⟩:=d2a n x (by omega) hx (by omega) s (a8j (k+i)) c2 c1;obtain⟨r2,g2,s2,b2⟩:=ih (b6u n x s (a8j (k+i))) (by omega) g1 (by omega) (k+i+1) (by rw[s1];omega);rw[s1] at b2;refine⟨i2l (.mk 5 s 0 [x]) x _ _ fr k (k+i) _ rfl rfl hf (by omega) (by omega) h2 (fun j hj1 hj2=>by
    have:=h3 (j - k) (by omega)
    rwa[show k+(j - k)=j by omega] at this) (by omega) r1 r2,.all _ _ c1 g2,by rw[a0y,a1l,s2,s1],by show (b4u fr n _ _).2≤_;omega⟩
def d1a(t:Ty):Ty:=(b4u (a0r t [] []) t.sz t 0).1
theorem e9e(t:Ty)(hg:GT t)(hb:t.sz<20000):∃s,(∀f,3*(d1a t).sz≤f→prR f .pr (d1a t)=some s)∧den E 85 [tyV t] []=some (.str s,[]):=by
 have df:=a6w t (by omega);have hle:=a3p _ t (Nat.le_refl _) [] [];simp only[List.length_nil,Nat.zero_add] at hle;have hp:t.sz*((a0r t [] []).length+1)≤20000*20001:=Nat.mul_le_mul (by omega) (by omega);obtain⟨d,g,hs,_⟩:=e1j (a0r t [] []) (by omega) _ t (Nat.le_refl _) hg (by omega) 0 (by omega);obtain⟨s,_,hp⟩:=h2n g (by omega);refine⟨s,hp,?_⟩;have dp:=e3r _ _ s (by omega) (hp _ (Nat.le_refl _));generalize (b4u (a0r t [] []) t.sz t 0).1=y at d dp;generalize (b4u (a0r t [] []) t.sz t 0).2=k' at d;rw[a0d i1c,i4s];rw[a0a] at d df dp⊢;rw[a0a,show ((0:Nat):Int)=0 from rfl] at d;simp only[go_sem,Tryz.f85,df,d,dp]
theorem d4c(t:Ty)(ys:List Ty)(a:List UInt8)(u:Ty)(hl:ys.length=t.args.length)(hb:t.sz<1000000)
 (hc:∀(i:Nat) (x y:Ty),t.args[i]? =some x→ys[i]? =some y→den E 102 [tyV x,.ptr (.par 0) 0,.ptr (.par 1) 0] [[.str a],[.int .i64 u.kind,.str u.name,.int .i64 u.n,.slice (a2i u.args)]]=some (tyV y,[[.str a],[.int .i64 u.kind,.str u.name,.int .i64 u.n,.slice (a2i u.args)]])):
 den E 101 [tyV t,.func 102 [] [.ptr (.par 0) 0,.ptr (.par 1) 0]] [[.str a],[.int .i64 u.kind,.str u.name,.int .i64 u.n,.slice (a2i u.args)]]=some (tyV (.mk t.kind t.name t.n ys),[[.str a],[.int .i64 u.kind,.str u.name,.int .i64 u.n,.slice (a2i u.args)]]):=by
 rw[a0d c3k,c4c];have hal:=a4n t;have rl:=a1q t.args;have n0:=b4v t.args.length
 by_cases h0:t.args=[]
 · have hy:ys=[]:=List.eq_nil_of_length_eq_zero (by rw[hl,h0];rfl);subst hy;rw[a3q,a0a];rw[h0] at n0;simp only[go_sem,Tryz.f101,h0,a0f]
 · have h0':¬t.args.length=0:=fun e=>h0 (List.eq_nil_of_length_eq_zero e);rw[decide_eq_false h0'] at n0;rw[a3q,a0a];obtain⟨n,hn⟩:∃n,n=t.args.length:=⟨_,rfl⟩
   rw[←hn] at hl n0 rl;have l1:((n:Int)≤1073741824)=True:=by simp;omega
   have hz:∀m,List.map a2q (List.map (a3x m) (c3g n [.int .i64 0,.str [],.int .i64 0,.own 25 0 []]))=a4q ys n 0:=fun m=>b6j ys n m;obtain⟨fin,hfin⟩:∃fin,fin=(some (.agg [.int .i64 t.kind,.str t.name,.int .i64 t.n,.slice (a2i ys)],[[.str a],[.int .i64 u.kind,.str u.name,.int .i64 u.n,.slice (a2i u.args)]]):Option (AVal×a2p)):=⟨_,rfl⟩
   try rw[←hn] at hfin
   try rw[←hn]
   rw[←hfin];simp only[go_sem,Tryz.f101,rl,n0,a0c,a0i,l1];refine a3m (fun i=>⟨[(1,.func 102 [] [.ptr (.par 0) 0,.ptr (.par 1) 0]),(2,.ptr (.loc 2) 0),(4,.ptr (.loc 4) 0),(5,.ptr (.loc 16) (a1w+n)),(18,.slice (a2i t.args)),(19,.int .i64 n),(20,.int .i64 i)],[[.str a],[.int .i64 u.kind,.str u.name,.int .i64 u.n,.slice (a2i u.args)]],[(2,tyC t),(4,zC),(16,a4q ys n i)],1⟩) n ?_ ?_ ?_
   · simp only[go_sem,hz,a5t,tyC,zC]
   · intro i hi h;have hia:i<t.args.length:=by omega
     have hiy:i<ys.length:=by omega
     obtain⟨x,hx⟩:=a6v hia;obtain⟨y,hy⟩:=a6v hiy;have d:=hc i x y hx hy;have hxs:=a2w (List.mem_of_getElem? hx);have hsz:=a2s t;have w1:IntKind.i64.wrap ((i:Int)+1)=((i+1:Nat):Int):=a0z (i+1) (by omega);have i1:((i:Int)<(n:Int))=True:=by simp;omega
     have i2:(i*4<a1w)=True:=by rw[a7d];simp;omega
     have cl:(a4q ys n i).length=n*4:=a7s hl (by omega);have i3:(i*4+4≤n*4)=True:=by simp;omega
     have hput:=b6i hl hy;rw[a0a,a0a] at d;simp only[go_sem,a0c,a0i,a4g,hx,a0a,tyC,zC,d,i1,i2,cl,i3];refine h _ ?_;simp only[go_sem,w1,hput,b3e,a5t,tyC,zC]
   · have cl:(a4q ys n n).length=n*4:=a7s hl (Nat.le_refl _);have ce:=b6k hl;have ch:=b0t ys;rw[hl] at ch;rw[ce] at cl;simp only[go_sem,a0e,Nat.lt_irrefl,true_or,tyC,zC,ce,cl,b2e,b5a,ch,hfin]
theorem d4b(t:Ty)(ys:List Ty)(u:Ty)(fr:List (List UInt8))(m:Int)(hl:ys.length=t.args.length)(hb:t.sz<1000000)
 (hc:∀(i:Nat) (x y:Ty),t.args[i]? =some x→ys[i]? =some y→den E 261 [tyV x,.ptr (.par 0) 0,.ptr (.par 1) 0,.ptr (.par 2) 0] [[.int .i64 u.kind,.str u.name,.int .i64 u.n,.slice (a2i u.args)],[.slice (fr.map .str)],[.func 245 [] [.ptr (.par 3) 0]],[.int .i64 m]]=some (tyV y,[[.int .i64 u.kind,.str u.name,.int .i64 u.n,.slice (a2i u.args)],[.slice (fr.map .str)],[.func 245 [] [.ptr (.par 3) 0]],[.int .i64 m]])):
 den E 101 [tyV t,.func 261 [] [.ptr (.par 0) 0,.ptr (.par 1) 0,.ptr (.par 2) 0]] [[.int .i64 u.kind,.str u.name,.int .i64 u.n,.slice (a2i u.args)],[.slice (fr.map .str)],[.func 245 [] [.ptr (.par 3) 0]],[.int .i64 m]]=some (tyV (.mk t.kind t.name t.n ys),[[.int .i64 u.kind,.str u.name,.int .i64 u.n,.slice (a2i u.args)],[.slice (fr.map .str)],[.func 245 [] [.ptr (.par 3) 0]],[.int .i64 m]]):=by
 rw[a0d c3k,c4c];have hal:=a4n t;have rl:=a1q t.args;have n0:=b4v t.args.length
 by_cases h0:t.args=[]
 · have hy:ys=[]:=List.eq_nil_of_length_eq_zero (by rw[hl,h0];rfl);subst hy;rw[a3q,a0a];rw[h0] at n0;simp only[go_sem,Tryz.f101,h0,a0f]
 · have h0':¬t.args.length=0:=fun e=>h0 (List.eq_nil_of_length_eq_zero e);rw[decide_eq_false h0'] at n0;rw[a3q,a0a];obtain⟨n,hn⟩:∃n,n=t.args.length:=⟨_,rfl⟩
   rw[←hn] at hl n0 rl;have l1:((n:Int)≤1073741824)=True:=by simp;omega
   have hz:∀m,List.map a2q (List.map (a3x m) (c3g n [.int .i64 0,.str [],.int .i64 0,.own 25 0 []]))=a4q ys n 0:=fun m=>b6j ys n m;obtain⟨fin,hfin⟩:∃fin,fin=(some (.agg [.int .i64 t.kind,.str t.name,.int .i64 t.n,.slice (a2i ys)],[[.int .i64 u.kind,.str u.name,.int .i64 u.n,.slice (a2i u.args)],[.slice (fr.map .str)],[.func 245 [] [.ptr (.par 3) 0]],[.int .i64 m]]):Option (AVal×a2p)):=⟨_,rfl⟩
   try rw[←hn] at hfin
   try rw[←hn]
   rw[←hfin];simp only[go_sem,Tryz.f101,rl,n0,a0c,a0i,l1];refine a3m (fun i=>⟨[(1,.func 261 [] [.ptr (.par 0) 0,.ptr (.par 1) 0,.ptr (.par 2) 0]),(2,.ptr (.loc 2) 0),(4,.ptr (.loc 4) 0),(5,.ptr (.loc 16) (a1w+n)),(18,.slice (a2i t.args)),(19,.int .i64 n),(20,.int .i64 i)],[[.int .i64 u.kind,.str u.name,.int .i64 u.n,.slice (a2i u.args)],[.slice (fr.map .str)],[.func 245 [] [.ptr (.par 3) 0]],[.int .i64 m]],[(2,tyC t),(4,zC),(16,a4q ys n i)],1⟩) n ?_ ?_ ?_
   · simp only[go_sem,hz,a5t,tyC,zC]
   · intro i hi h;have hia:i<t.args.length:=by omega
     have hiy:i<ys.length:=by omega
     obtain⟨x,hx⟩:=a6v hia;obtain⟨y,hy⟩:=a6v hiy;have d:=hc i x y hx hy;have hxs:=a2w (List.mem_of_getElem? hx);have hsz:=a2s t;have w1:IntKind.i64.wrap ((i:Int)+1)=((i+1:Nat):Int):=a0z (i+1) (by omega);have i1:((i:Int)<(n:Int))=True:=by simp;omega
     have i2:(i*4<a1w)=True:=by rw[a7d];simp;omega
     have cl:(a4q ys n i).length=n*4:=a7s hl (by omega);have i3:(i*4+4≤n*4)=True:=by simp;omega
     have hput:=b6i hl hy;rw[a0a,a0a] at d;simp only[go_sem,a0c,a0i,a4g,hx,a0a,tyC,zC,d,i1,i2,cl,i3];refine h _ ?_;simp only[go_sem,w1,hput,b3e,a5t,tyC,zC]
   · have cl:(a4q ys n n).length=n*4:=a7s hl (Nat.le_refl _);have ce:=b6k hl;have ch:=b0t ys;rw[hl] at ch;rw[ce] at cl;simp only[go_sem,a0e,Nat.lt_irrefl,true_or,tyC,zC,ce,cl,b2e,b5a,ch,hfin]
theorem b0r(k:Int)(s:List UInt8)(n:Int)(a:List Ty):(Ty.mk k s n a).kind=k:=rfl
theorem b0q(k:Int)(s:List UInt8)(n:Int)(a:List Ty):(Ty.mk k s n a).name=s:=rfl
theorem f3i(k:Int)(s:List UInt8)(n:Int)(a:List Ty):(Ty.mk k s n a).n=n:=rfl
theorem c7f(a b c:List (List UInt8))(h:a.length+b.length+c.length≤1000000):den E 99 [.slice [.slice (a.map .str),.slice (b.map .str),.slice (c.map .str)]] []=some (.slice ((a++(b++c)).map .str),[]):=by
 have hs:∀l:List (List UInt8),c2l (l.map .str)=some (l.map ba):=by
  intro l
  induction l with
  | nil=>rfl
  | cons x l ih=>rw[List.map_cons,c2l,ih];rfl
 have hb:∀l:List (List UInt8),(l.map ba).map d3x=l.map .str:=by
  intro l
  induction l with
  | nil=>rfl
  | cons x l ih=>rw[List.map_cons,List.map_cons,List.map_cons,ih];rfl
 rw[a8x i0s];unfold b3c;simp only[b8z,hs,Option.bind_some,Option.map_some];rw[if_pos (by simp;omega)];simp only[List.flatten_cons,List.flatten_nil,List.append_nil,List.map_append,hb]
def b2u:Nat→Ty→List UInt8→Ty→Ty
 | 0,t,_,_=>t
 | n+1,.mk k s m l,a,u=>
  if k==5&&s==a then .mk k s m l
  else if k==1&&s==a then u
  else if k==5&&(a0r u [] []).contains s then (match l with
   | [x]=>.mk 5 (a6s s (a0r u [] []++(a0r x [] []++[s,a]))) 0 [b2u n (b6u n x s (a6s s (a0r u [] []++(a0r x [] []++[s,a])))) a u]
   | _=>.mk k s m l)
  else .mk k s m (l.map fun x=>b2u n x a u)
theorem e0p{x y u:Ty}{a:List UInt8}(h:den E 40 [tyV x,.str a,tyV u] []=some (tyV y,[])):
 den E 102 [tyV x,.ptr (.par 0) 0,.ptr (.par 1) 0] [[.str a],[.int .i64 u.kind,.str u.name,.int .i64 u.n,.slice (a2i u.args)]]=some (tyV y,[[.str a],[.int .i64 u.kind,.str u.name,.int .i64 u.n,.slice (a2i u.args)]]):=by
 rw[a0d g5b,h1y];rw[a0a,a0a,a0a] at h;rw[a0a,a0a];simp only[go_sem,Tryz.f102,h]
theorem b4q(t:Ty)(ys:List Ty)(a:List UInt8)(u:Ty)(hl:ys.length=t.args.length)(hb:t.sz<1000000)(hu:u.sz<1000000)
 (hc:∀(i:Nat) (x y:Ty),t.args[i]? =some x→ys[i]? =some y→den E 40 [tyV x,.str a,tyV u] []=some (tyV y,[]))
 (h1:(t.kind==5&&t.name==a)=false) (h2:(t.kind==1&&t.name==a)=false) (h3:(t.kind==5&&(a0r u [] []).contains t.name)=false):
 den E 40 [tyV t,.str a,tyV u] []=some (tyV (.mk t.kind t.name t.n ys),[]):=by
 have d:=d4c t ys a u hl hb fun i x y hx hy=>e0p (hc i x y hx hy);have df:=a6w u hu;have hle:=a3p _ u (Nat.le_refl _) [] [];simp only[List.length_nil,Nat.zero_add] at hle;have dc:=a3l (a0r u [] []) t.name (by omega);rw[a0d d2f,d3l];rw[a0a] at df;rw[a3q,a0a] at d⊢;rw[a0a u];cases k5:t.kind==5<;>cases na:t.name==a<;>cases k1:t.kind==1<;>simp only[k1,k5,na,Bool.and_true,Bool.and_false,Bool.true_and,Bool.false_and,Bool.true_eq_false] at h1 h2 h3<;>
 (try rw[h3] at dc)<;>
 simp only[go_sem,Tryz.f40,k1,k5,na,df,dc,d]
theorem g1p(t:Ty)(a:List UInt8)(u:Ty)(h1:(t.kind==5)=true)(h2:(t.name==a)=true):den E 40 [tyV t,.str a,tyV u] []=some (tyV t,[]):=by
 rw[a0d d2f,d3l,a0a,a0a u];simp only[go_sem,Tryz.f40,h1,h2]
theorem i0p(t:Ty)(a:List UInt8)(u:Ty)(h0:(t.kind==5)=false)(h1:(t.kind==1)=true)(h2:(t.name==a)=true):den E 40 [tyV t,.str a,tyV u] []=some (tyV u,[]):=by
 rw[a0d d2f,d3l,a0a,a0a u];simp only[go_sem,Tryz.f40,h0,h1,h2]
theorem f2j(t x x' y:Ty)(a c:List UInt8)(u:Ty)(hx:t.args=[x])(h0:(t.kind==1)=false)(h1:(t.kind==5)=true)(h2:(t.name==a)=false)(h3:(a0r u [] []).contains t.name=true)(hb:t.sz<300000)(hu:u.sz<300000)(hs:x'.sz=x.sz)
 (hd:den E 98 [.str t.name,.slice ((a0r u [] []++(a0r x [] []++[t.name,a])).map .str)] []=some (.str c,[])) (r1:den E 100 [tyV x,.str t.name,.str c] []=some (tyV x',[])) (r2:den E 40 [tyV x',.str a,tyV u] []=some (tyV y,[])):
 den E 40 [tyV t,.str a,tyV u] []=some (tyV (.mk 5 c 0 [y]),[]):=by
 have hsz:=a2s t;rw[hx,a1l] at hsz;have d:=d4c (.mk 5 c 0 [x']) [y] a u rfl (by rw[a0y,a1l];omega) fun i u v hu hv=>e0p (by
  cases i with
  | zero=>simp[Ty.args] at hu hv;subst hu hv;exact r2
  | succ i=>simp[Ty.args] at hu)
 have df:=a6w x (by omega);have dfu:=a6w u (by omega);have hle:=a3p _ x (Nat.le_refl _) [] [];have hle2:=a3p _ u (Nat.le_refl _) [] [];simp only[List.length_nil,Nat.zero_add] at hle hle2;have dc:=a3l (a0r u [] []) t.name (by omega);rw[h3] at dc;have dk:=c7f (a0r u [] []) (a0r x [] []) [t.name,a] (by simp;omega);rw[a0d d2f,d3l];simp only[a3q,a1c,a0f,b0r,b0q,f3i] at d;simp only[List.map_cons,List.map_nil] at dk;rw[a3q,a1c,a0f];rw[a0a] at r1 r2 d df⊢;rw[a0a] at dfu;rw[a0a u,a0a y] at r2;rw[a0a y] at d⊢;rw[a0a x'] at r1;rw[hx,a1c,a0f,a0a x,a0a u];simp only[go_sem,Tryz.f40,h0,h1,h2,Int.le_refl,Int.toNat_zero,df,dfu,dc,dk,hd,r1,d]
theorem f0y{c:Nat}:∀ {l m:List Ty},m.length=l.length→(∀(i:Nat) (x y:Ty),l[i]? =some x→m[i]? =some y→y.sz≤x.sz*c)→Ty.szs m≤Ty.szs l*c
 | [],[],_,_=>Nat.zero_le _
 | a::l,b::m,h,hs=>by
  rw[a3o,a3o,Nat.add_mul];exact Nat.add_le_add (hs 0 a b rfl rfl) (f0y (by simpa using h) fun i x y hx hy=>hs (i+1) x y (by simpa using hx) (by simpa using hy))
 | [],b::m,h,_=>by simp at h
 | a::l,[],h,_=>by simp at h
theorem g1q(n:Nat)(s a:List UInt8)(u:Ty):b2u (n+1) (.mk 1 s 0 []) a u=if s==a then u else .mk 1 s 0 []:=by
 unfold b2u;cases h:s==a<;>simp
theorem g1r(n:Nat)(s:List UInt8)(x:Ty)(a:List UInt8)(u:Ty):b2u (n+1) (.mk 5 s 0 [x]) a u=if s==a then .mk 5 s 0 [x] else if (a0r u [] []).contains s then .mk 5 (a6s s (a0r u [] []++(a0r x [] []++[s,a]))) 0 [b2u n (b6u n x s (a6s s (a0r u [] []++(a0r x [] []++[s,a])))) a u] else .mk 5 s 0 [b2u n x a u]:=by
 rw[b2u];cases h:s==a<;>cases h2:(a0r u [] []).contains s<;>simp
theorem e0t(u:Ty)(hu:GT u)(hub:u.sz<300000)(hun:∀s,(a0r u [] []).contains s=true→s≠[])(a:List UInt8):∀(n:Nat) (t:Ty),t.sz≤n→GT t→t.sz<300000→den E 40 [tyV t,.str a,tyV u] []=some (tyV (b2u n t a u),[])∧GT (b2u n t a u)∧(b2u n t a u).sz≤t.sz*u.sz:=by
 intro n;have hu1:1≤u.sz:=by have:=a2s u;omega
 have lift:∀k:Nat,k≤k*u.sz:=fun k=>Nat.le_mul_of_pos_right k hu1
 induction n with
 | zero=>intro t h;have:=a2s t;omega
 | succ n ih=>
  intro t hn hg hb;have hsz:=a2s t;cases hg with
  | var s hs=>
   rw[g1q];cases h:s==a
   · exact⟨b4q (.mk 1 s 0 []) [] a u rfl (by omega) (by omega) (fun i x y hx=>by simp[Ty.args] at hx) rfl (by simpa [Ty.kind,Ty.name] using h) rfl,.var s hs,lift _⟩
   · refine⟨i0p (.mk 1 s 0 []) a u rfl rfl h,hu,?_⟩;show u.sz≤(Ty.mk 1 s 0 []).sz*u.sz
     rw[a0y];simp[Ty.szs]
  | unk m h1 h2=>exact⟨b4q (.mk 2 [] m []) [] a u rfl (by omega) (by omega) (fun i x y hx=>by simp[Ty.args] at hx) rfl rfl rfl,.unk m h1 h2,lift _⟩
  | con s l hs hl=>
   rw[a0y] at hn hb;have e:b2u (n+1) (.mk 3 s 0 l) a u=.mk 3 s 0 (l.map fun x=>b2u n x a u):=rfl;rw[e];have h2:∀(i:Nat) (x y:Ty),l[i]? =some x→(l.map fun x=>b2u n x a u)[i]? =some y→den E 40 [tyV x,.str a,tyV u] []=some (tyV y,[])∧GT y∧y.sz≤x.sz*u.sz:=by
    intro i x y hx hy;simp[hx] at hy;subst hy;have:=a2w (List.mem_of_getElem? hx);exact ih x (by omega) (hl x (List.mem_of_getElem? hx)) (by omega)
   refine⟨b4q (.mk 3 s 0 l) _ a u (by simp[Ty.args]) (by rw[a0y];omega) (by omega) (fun i x y hx hy=>(h2 i x y hx hy).1) rfl rfl rfl,.con s _ hs fun y hy=>?_,?_⟩
   · obtain⟨x,hx,rfl⟩:=List.mem_map.1 hy;obtain⟨i,hi⟩:=c5z hx;exact (h2 i x _ hi (by simp[hi])).2.1
   · rw[a0y,a0y,Nat.add_mul,Nat.one_mul];have:=f0y (c:=u.sz) (m:=l.map fun x=>b2u n x a u) (l:=l) (by simp) fun i x y hx hy=>(h2 i x y hx hy).2.2;omega
  | fn v w hv hw=>
   rw[a0y,a1h] at hn hb;have e:b2u (n+1) (.mk 4 [] 0 [v,w]) a u=.mk 4 [] 0 [b2u n v a u,b2u n w a u]:=rfl;rw[e];obtain⟨d1,g1,s1⟩:=ih v (by omega) hv (by omega);obtain⟨d2,g2,s2⟩:=ih w (by omega) hw (by omega);refine⟨b4q (.mk 4 [] 0 [v,w]) [_,_] a u rfl (by rw[a0y,a1h];omega) (by omega) (fun i x y hx hy=>?_) rfl rfl rfl,.fn _ _ g1 g2,?_⟩
   · match i with
     | 0=>simp[Ty.args] at hx hy;subst hx hy;exact d1
     | 1=>simp[Ty.args] at hx hy;subst hx hy;exact d2
     | i+2=>simp[Ty.args] at hx
   · rw[a0y,a0y,a1h,a1h,Nat.add_mul,Nat.add_mul,Nat.one_mul];omega
  | all s x hs hx=>
   rw[a0y,a1l] at hn hb;rw[g1r];cases ha:s==a
   · cases hq:(a0r u [] []).contains s
     · obtain⟨d1,g1,s1⟩:=ih x (by omega) hx (by omega);refine⟨b4q (.mk 5 s 0 [x]) [_] a u rfl (by rw[a0y,a1l];omega) (by omega) (fun i p q hp hq=>?_) (by simpa [Ty.kind,Ty.name] using ha) rfl (by simpa [Ty.kind,Ty.name] using hq),.all s _ hs g1,?_⟩
       · match i with
         | 0=>simp[Ty.args] at hp hq;subst hp hq;exact d1
         | i+1=>simp[Ty.args] at hp
       · simp only[Bool.false_eq_true,if_false];rw[a0y,a0y,a1l,a1l,Nat.add_mul,Nat.one_mul];omega
     · have hle:=a3p _ x (Nat.le_refl _) [] [];have hle2:=a3p _ u (Nat.le_refl _) [] [];simp only[List.length_nil,Nat.zero_add] at hle hle2;have hsne:s≠[]:=hun s hq;have hsl:s.length≤1000:=by omega
       have hd:=c1a s (a0r u [] []++(a0r x [] []++[s,a])) hsne hsl (by simp;omega);obtain⟨c0,c1⟩:=d3b s (a0r u [] []++(a0r x [] []++[s,a])) (by simp;omega);obtain⟨r1,g1,s1⟩:=d2a n x (by omega) hx (by omega) s (a6s s (a0r u [] []++(a0r x [] []++[s,a]))) c0 c1;obtain⟨r2,g2,s2⟩:=ih (b6u n x s (a6s s (a0r u [] []++(a0r x [] []++[s,a])))) (by omega) g1 (by omega);simp only[Bool.false_eq_true,if_false,if_true];refine⟨f2j (.mk 5 s 0 [x]) x _ _ a _ u rfl rfl rfl ha hq (by rw[a0y,a1l];omega) hub s1 hd r1 r2,.all _ _ c1 g2,?_⟩;rw[s1] at s2;rw[a0y,a0y,a1l,a1l,Nat.add_mul,Nat.one_mul];omega
   · refine⟨g1p (.mk 5 s 0 [x]) a u rfl ha,.all s x hs hx,?_⟩;simp only[if_true];exact lift _
def a2u(c:UInt8)(i:Nat):List UInt8:=c::Lib.itoa (i:Int)
theorem f9i(c:UInt8)(i j:Nat)(h:a2u c i=a2u c j):i=j:=c3p i j (by unfold a2u at h;injection h)
theorem a5b(i:Nat)(c:UInt8)(h:i<1000000000):(a2u c i).length≤16∧a2u c i≠[]∧1+(Lib.itoa (i:Int)).length≤a1t:=by
 have:=b0a 8 i (by
  have e:(10:Nat) ^ (8+1)=1000000000:=by decide
  omega)
 unfold a2u a1t;exact⟨by simp;omega,by simp,by omega⟩
def a4a(c:UInt8)(but:List (List UInt8))(k:Nat):Nat:=k+e9w (fun i=>a2u c (k+i)) but (but.length+1) 0
def a9y(c:UInt8)(but:List (List UInt8)):Nat→Ty→Nat→List (List UInt8)×Ty
 | 0,t,_=>([],t)
 | n+1,.mk k s m l,i=>
  if k==5 then (match l with
   | [x]=>(a2u c (a4a c but i)::(a9y c but n (b2u x.sz x s (.mk 1 (a2u c (a4a c but i)) 0 [])) (a4a c but i+1)).1,(a9y c but n (b2u x.sz x s (.mk 1 (a2u c (a4a c but i)) 0 [])) (a4a c but i+1)).2)
   | _=>([],.mk k s m l))
  else ([],.mk k s m l)
theorem d5e(c:UInt8)(but:List (List UInt8))(n:Nat)(s:List UInt8)(x:Ty)(i:Nat):a9y c but (n+1) (.mk 5 s 0 [x]) i=(a2u c (a4a c but i)::(a9y c but n (b2u x.sz x s (.mk 1 (a2u c (a4a c but i)) 0 [])) (a4a c but i+1)).1,(a9y c but n (b2u x.sz x s (.mk 1 (a2u c (a4a c but i)) 0 [])) (a4a c but i+1)).2):=rfl
theorem d9p(s:List UInt8):a0r (.mk 1 s 0 []) [] []=[s]:=rfl
theorem c1r(s:List UInt8):(Ty.mk 1 s 0 []).sz=1:=rfl
theorem e0r{x:Ty}(hx:GT x)(hb:x.sz<300000)(a s:List UInt8)(hs:s≠[])(hl:s.length≤16):den E 40 [tyV x,.str a,tyV (.mk 1 s 0 [])] []=some (tyV (b2u x.sz x a (.mk 1 s 0 [])),[])∧GT (b2u x.sz x a (.mk 1 s 0 []))∧(b2u x.sz x a (.mk 1 s 0 [])).sz≤x.sz:=by
 have:=e0t (.mk 1 s 0 []) (.var s hl) (by rw[c1r];omega) (fun s' h=>by
  rw[d9p] at h;have:s'=s:=by simpa using h
  rw[this];exact hs) a x.sz x (Nat.le_refl _) hx hb
 rw[c1r,Nat.mul_one] at this;exact this
theorem c5j(c:UInt8)(but:List (List UInt8))(n:Nat)(t:Ty)(i:Nat)(h:(t.kind==5)=false):a9y c but n t i=([],t):=by
 cases n with
 | zero=>rfl
 | succ n=>cases t;simp only[Ty.kind] at h;simp only[a9y,h];rfl
theorem GT.all_inv{t:Ty}(h:GT t)(hk:(t.kind==5)=true):∃s x,t=.mk 5 s 0 [x]∧s.length≤16∧GT x:=by
 cases h with
 | all s x hs hx=>exact⟨s,x,rfl,hs,hx⟩
 | _=>simp[Ty.kind] at hk
theorem b2d(c:UInt8)(but:List (List UInt8))(k:Nat):k≤a4a c but k∧a4a c but k≤k+but.length∧but.contains (a2u c (a4a c but k))=false∧∀j,k≤j→j<a4a c but k→but.contains (a2u c j)=true:=by
 obtain⟨h1,h2,h3⟩:=b8p (fun i=>a2u c (k+i)) (fun i j h=>by have:=f9i c _ _ h;omega) but;unfold a4a;exact⟨by omega,by omega,h2,fun j hj1 hj2=>by
  have:=h3 (j - k) (by omega)
  rwa[show k+(j - k)=j by omega] at this⟩
structure PeelS where
 ns:List (List UInt8)
 n:Nat
 t:Ty
 i:Nat
theorem d2k(c:UInt8)(but:List (List UInt8)):∀(n:Nat) (t:Ty) (i:Nat),t.sz≤n→GT t→t.sz<300000→i+n*(but.length+1)≤900000000→GT (a9y c but n t i).2∧(a9y c but n t i).2.sz≤t.sz∧(a9y c but n t i).1.length≤t.sz∧∀s∈(a9y c but n t i).1,s≠[]∧s.length≤16:=by
 intro n
 induction n with
 | zero=>intro t i h;have:=a2s t;omega
 | succ n ih=>
  intro t i hn hg hb hi;cases hk:t.kind==5
  · rw[c5j c but _ t i hk];exact⟨hg,Nat.le_refl _,Nat.zero_le _,fun s hs=>by simp at hs⟩
  · obtain⟨s,x,rfl,hs,hx⟩:=hg.all_inv hk;rw[a0y,a1l] at hn hb;rw[d5e];obtain⟨q1,q2,_,_⟩:=b2d c but i;have e:(n+1)*(but.length+1)=n*(but.length+1)+(but.length+1):=by rw[Nat.add_mul];omega
    obtain⟨c1,c2,_⟩:=a5b (a4a c but i) c (by omega);obtain⟨_,g,hsz⟩:=e0r hx (by omega) s (a2u c (a4a c but i)) c2 c1;obtain⟨r1,r2,r3,r4⟩:=ih _ (a4a c but i+1) (by omega) g (by omega) (by omega);refine⟨r1,?_,?_,fun s' hs'=>?_⟩
    · rw[a0y,a1l];simp only;omega
    · rw[a0y,a1l];simp only[List.length_cons];omega
    · rcases List.mem_cons.1 hs' with rfl|hs'
      · exact⟨c2,c1⟩
      · exact r4 s' hs'
theorem c9j(c:UInt8)(but:List (List UInt8))(hbut:but.length<1000000)(t0:Ty)(hg0:GT t0)(hb0:t0.sz<300000)(hi0:t0.sz*(but.length+1)≤900000000):
 den E 103 [tyV t0,.str [c],.slice (but.map .str)] []=some (.tup [.slice ((a9y c but t0.sz t0 0).1.map .str),tyV (a9y c but t0.sz t0 0).2],[]):=by
 rw[a0d g5a,h1x,a0a t0];simp only[go_sem,Tryz.f103];refine a0o (fun a:PeelS=>a.t.sz≤a.n∧GT a.t∧a.t.sz<300000∧a.i+a.n*(but.length+1)≤900000000∧a.ns.length+a.n≤t0.sz)
  (fun a=>⟨[(1,.str [c]),(2,.slice (but.map .str)),(3,.ptr (.loc 3) 0),(6,.own 9 0 (a.ns.map .str)),(7,.ptr (.loc 7) 0),(8,.int .i64 a.i)],[],[(3,[.int .i64 a.t.kind,.str a.t.name,.int .i64 a.t.n,.slice (a2i a.t.args)]),(7,[.int .i64 0,.str [],.int .i64 0,.own 25 0 []])],1⟩)
  (fun a=>some (.tup [.slice ((a.ns++(a9y c but a.n a.t a.i).1).map .str),tyV (a9y c but a.n a.t a.i).2],[])) (fun a=>a.n) ⟨[],t0.sz,t0,0⟩ ⟨Nat.le_refl _,hg0,hb0,by show 0+t0.sz*(but.length+1)≤900000000;omega,by simp⟩ ?_ ?_
 · simp only[go_sem]
 · rintro⟨ns,n,t,i⟩ ⟨hn,hg,hb,hi,hl⟩ h;simp only at hn hg hb hi hl⊢;cases hk:t.kind==5
   · rw[c5j c but n t i hk,List.append_nil,a0a t];simp only[go_sem,hk]
   · obtain⟨s,x,rfl,hs,hx⟩:=hg.all_inv hk;rw[a0y,a1l] at hn hb;obtain⟨m,rfl⟩:∃m,n=m+1:=⟨n - 1,by omega⟩
     rw[d5e];obtain⟨q1,q2,q3,q4⟩:=b2d c but i;have e:(m+1)*(but.length+1)=m*(but.length+1)+(but.length+1):=by rw[Nat.add_mul];omega
     obtain⟨c1,c2,_⟩:=a5b (a4a c but i) c (by omega);obtain⟨dp,g,hsz⟩:=e0r hx (by omega) s (a2u c (a4a c but i)) c2 c1;generalize hN:a4a c but i=N at *;have m0:=(a5b i c (by omega)).2.2;have d0:=a9h i (by omega);have w0:IntKind.i64.wrap ((i:Int)+1)=((i+1:Nat):Int):=a0z (i+1) (by omega);simp only[Ty.kind,Ty.name,Ty.n,Ty.args,a1c,a0f];rw[a3q,a0f] at dp;rw[a0a x] at dp⊢;rw[a0a (b2u _ _ _ _)] at dp;obtain⟨fin,hfin⟩:∃fin,fin=(some (.tup [.slice ((ns++(a2u c N::(a9y c but m (b2u x.sz x s (.mk 1 (a2u c N) 0 [])) (N+1)).1)).map .str),tyV (a9y c but m (b2u x.sz x s (.mk 1 (a2u c N) 0 [])) (N+1)).2],[]):Option (AVal×a2p)):=⟨_,rfl⟩
     rw[←hfin];simp only[go_sem,d0,m0,w0];refine a0o (fun j:Nat=>i≤j∧j≤N) (fun j=>⟨[(1,.str [c]),(2,.slice (but.map .str)),(3,.ptr (.loc 3) 0),(6,.own 9 0 (ns.map .str)),(7,.ptr (.loc 7) 0),(8,.int .i64 ((j+1:Nat):Int)),(9,.str (a2u c j))],[],
      [(3,[.int .i64 5,.str s,.int .i64 0,.slice [.agg [.int .i64 x.kind,.str x.name,.int .i64 x.n,.slice (a2i x.args)]]]),(7,[.int .i64 0,.str [],.int .i64 0,.own 25 0 []])],1⟩) (fun _=>fin) (fun j=>N - j) i ⟨Nat.le_refl _,q1⟩ ?_ ?_
     · simp only[go_sem,a2u]
     · intro j hj hh;have dc:=a3l but (a2u c j) hbut;obtain⟨p,hp⟩:∃p:Nat,p=j+1:=⟨_,rfl⟩
       simp only[←hp];have w1:IntKind.i64.wrap ((p:Int)+1)=((p+1:Nat):Int):=a0z (p+1) (by omega)
       by_cases hlt:j<N
       · rw[q4 j hj.1 hlt] at dc;have d1:=a9h p (by omega);have m1:=(a5b p c (by omega)).2.2;simp only[go_sem,dc,w1,d1,m1];refine hh p _ ⟨by omega,by omega⟩ (by omega) ?_;simp only[go_sem,a2u]
       · have hje:j=N:=by omega
         subst hje;rw[q3] at dc;have a1:ns.length+1≤a0l:=by unfold a0l;omega
         simp only[go_sem,dc,List.length_map,a1,Int.le_refl,Int.toNat_zero,dp];rw[hfin];have:=h ⟨ns++[a2u c j],m,b2u x.sz x s (.mk 1 (a2u c j) 0 []),p⟩;rw[←hp];simp only[List.append_assoc,List.cons_append,List.nil_append] at this;refine this _ ⟨by omega,g,by omega,by omega,by simp;omega⟩ (by omega) ?_;simp only[go_sem,List.map_append]
def c1c:Nat→Ty→Int→Ty→Ty
 | 0,t,_,_=>t
 | n+1,.mk k s q l,m,u=>
  if k==2&&q==m then u
  else if k==5&&(a0r u [] []).contains s then (match l with
   | [x]=>.mk 5 (a6s s (a0r u [] []++(a0r x [] []++[s]))) 0 [c1c n (b6u n x s (a6s s (a0r u [] []++(a0r x [] []++[s])))) m u]
   | _=>.mk k s q l)
  else .mk k s q (l.map fun x=>c1c n x m u)
theorem c6o(x:Ty)(m:Int):den E 245 [tyV x,.ptr (.par 0) 0] [[.int .i64 m]]=some (.bool (x.kind==2&&x.n==m),[[.int .i64 m]]):=by
 rw[a0d g1x,g8u,a0a];cases h:x.kind==2<;>simp only[go_sem,Tryz.f245,h]
theorem f2m{x y u:Ty}{fr:List (List UInt8)}{m:Int}(h:den E 244 [tyV x,tyV u,.slice (fr.map .str),.func 245 [] [.ptr (.par 0) 0]] [[.int .i64 m]]=some (tyV y,[[.int .i64 m]])):
 den E 261 [tyV x,.ptr (.par 0) 0,.ptr (.par 1) 0,.ptr (.par 2) 0] [[.int .i64 u.kind,.str u.name,.int .i64 u.n,.slice (a2i u.args)],[.slice (fr.map .str)],[.func 245 [] [.ptr (.par 3) 0]],[.int .i64 m]]=some (tyV y,[[.int .i64 u.kind,.str u.name,.int .i64 u.n,.slice (a2i u.args)],[.slice (fr.map .str)],[.func 245 [] [.ptr (.par 3) 0]],[.int .i64 m]]):=by
 rw[a0d g1t,g8q];rw[a0a x,a0a u,a0a y] at h;rw[a0a x,a0a y];simp only[go_sem,Tryz.f261,h]
theorem b8u(t:Ty)(ys:List Ty)(u:Ty)(fr:List (List UInt8))(m:Int)(hl:ys.length=t.args.length)(hb:t.sz<1000000)(hf:fr.length<1000000)
 (hc:∀(i:Nat) (x y:Ty),t.args[i]? =some x→ys[i]? =some y→den E 244 [tyV x,tyV u,.slice (fr.map .str),.func 245 [] [.ptr (.par 0) 0]] [[.int .i64 m]]=some (tyV y,[[.int .i64 m]]))
 (h1:(t.kind==2&&t.n==m)=false) (h3:(t.kind==5&&fr.contains t.name)=false):
 den E 244 [tyV t,tyV u,.slice (fr.map .str),.func 245 [] [.ptr (.par 0) 0]] [[.int .i64 m]]=some (tyV (.mk t.kind t.name t.n ys),[[.int .i64 m]]):=by
 have d:=d4b t ys u fr m hl hb fun i x y hx hy=>f2m (hc i x y hx hy);have dl:=c6o t m;rw[h1] at dl;have dc:=a3l fr t.name hf;rw[a0d d2h,d3n];rw[a3q,a0a t] at d⊢;rw[a0a t] at dl;rw[a0a u];cases k5:t.kind==5<;>simp only[k5,Bool.true_and,Bool.false_and] at h3<;>
 (try rw[h3] at dc)<;>
 simp only[go_sem,Tryz.f244,k5,dl,dc,d]
theorem j2c(t:Ty)(u:Ty)(fr:List (List UInt8))(m:Int)(h1:(t.kind==2&&t.n==m)=true):
 den E 244 [tyV t,tyV u,.slice (fr.map .str),.func 245 [] [.ptr (.par 0) 0]] [[.int .i64 m]]=some (tyV u,[[.int .i64 m]]):=by
 have dl:=c6o t m;rw[h1] at dl;rw[a0d d2h,d3n];rw[a0a t] at dl⊢;rw[a0a u];simp only[go_sem,Tryz.f244,dl]
theorem g1s(t x x' y:Ty)(c:List UInt8)(u:Ty)(fr:List (List UInt8))(m:Int)(hx:t.args=[x])(h0:(t.kind==2)=false)(h1:(t.kind==5)=true)(h3:fr.contains t.name=true)(hb:t.sz<300000)(hf:fr.length<300000)(hs:x'.sz=x.sz)
 (hd:den E 98 [.str t.name,.slice ((fr++(a0r x [] []++[t.name])).map .str)] []=some (.str c,[])) (r1:den E 100 [tyV x,.str t.name,.str c] []=some (tyV x',[]))
 (r2:den E 244 [tyV x',tyV u,.slice (fr.map .str),.func 245 [] [.ptr (.par 0) 0]] [[.int .i64 m]]=some (tyV y,[[.int .i64 m]])):
 den E 244 [tyV t,tyV u,.slice (fr.map .str),.func 245 [] [.ptr (.par 0) 0]] [[.int .i64 m]]=some (tyV (.mk 5 c 0 [y]),[[.int .i64 m]]):=by
 have hsz:=a2s t;rw[hx,a1l] at hsz;have d:=d4b (.mk 5 c 0 [x']) [y] u fr m rfl (by rw[a0y,a1l];omega) fun i p q hp hq=>f2m (by
  cases i with
  | zero=>simp[Ty.args] at hp hq;subst hp hq;exact r2
  | succ i=>simp[Ty.args] at hp)
 have df:=a6w x (by omega);have hle:=a3p _ x (Nat.le_refl _) [] [];simp only[List.length_nil,Nat.zero_add] at hle;have dl:=c6o t m;rw[h0,Bool.false_and] at dl;have dc:=a3l fr t.name (by omega);rw[h3] at dc;have dk:=c7f fr (a0r x [] []) [t.name] (by simp;omega);rw[a0d d2h,d3n];simp only[a3q,a1c,a0f,b0r,b0q,f3i] at d;simp only[List.map_cons,List.map_nil] at dk;rw[a3q,a1c,a0f];rw[a0a t] at dl⊢;rw[a0a x] at r1 df;rw[a0a x'] at r1 d;rw[a0a y] at d⊢;rw[hx,a1c,a0f,a0a x] at dl⊢;rw[a0a u];simp only[go_sem,Tryz.f244,h1,dl,Int.le_refl,Int.toNat_zero,df,dc,dk,hd,r1,d]
theorem g6y(n:Nat)(q m:Int)(u:Ty):c1c (n+1) (.mk 2 [] q []) m u=if q==m then u else .mk 2 [] q []:=by
 unfold c1c;cases h:q==m<;>simp
theorem g6z(n:Nat)(s:List UInt8)(x:Ty)(m:Int)(u:Ty):c1c (n+1) (.mk 5 s 0 [x]) m u=if (a0r u [] []).contains s then .mk 5 (a6s s (a0r u [] []++(a0r x [] []++[s]))) 0 [c1c n (b6u n x s (a6s s (a0r u [] []++(a0r x [] []++[s])))) m u] else .mk 5 s 0 [c1c n x m u]:=by
 rw[c1c];cases h2:(a0r u [] []).contains s<;>simp
theorem e2p(u:Ty)(hu:GT u)(hub:u.sz<300000)(hun:∀s,(a0r u [] []).contains s=true→s≠[])(m:Int):∀(n:Nat) (t:Ty),t.sz≤n→GT t→t.sz<300000→
 den E 244 [tyV t,tyV u,.slice ((a0r u [] []).map .str),.func 245 [] [.ptr (.par 0) 0]] [[.int .i64 m]]=some (tyV (c1c n t m u),[[.int .i64 m]])∧GT (c1c n t m u)∧(c1c n t m u).sz≤t.sz*u.sz:=by
 intro n;have hu1:1≤u.sz:=by have:=a2s u;omega
 have lift:∀k:Nat,k≤k*u.sz:=fun k=>Nat.le_mul_of_pos_right k hu1;have hle2:=a3p _ u (Nat.le_refl _) [] [];simp only[List.length_nil,Nat.zero_add] at hle2
 induction n with
 | zero=>intro t h;have:=a2s t;omega
 | succ n ih=>
  intro t hn hg hb;have hsz:=a2s t;cases hg with
  | var s hs=>exact⟨b8u (.mk 1 s 0 []) [] u _ m rfl (by omega) (by omega) (fun i x y hx=>by simp[Ty.args] at hx) rfl rfl,.var s hs,lift _⟩
  | unk q h1 h2=>
   rw[g6y];cases h:q==m
   · exact⟨b8u (.mk 2 [] q []) [] u _ m rfl (by omega) (by omega) (fun i x y hx=>by simp[Ty.args] at hx) (by simpa [Ty.kind,Ty.n] using h) rfl,.unk q h1 h2,lift _⟩
   · refine⟨j2c (.mk 2 [] q []) u _ m (by simpa [Ty.kind,Ty.n] using h),hu,?_⟩;show u.sz≤(Ty.mk 2 [] q []).sz*u.sz
     rw[a0y];simp[Ty.szs]
  | con s l hs hl=>
   rw[a0y] at hn hb;have e:c1c (n+1) (.mk 3 s 0 l) m u=.mk 3 s 0 (l.map fun x=>c1c n x m u):=rfl;rw[e];have h2:∀(i:Nat) (x y:Ty),l[i]? =some x→(l.map fun x=>c1c n x m u)[i]? =some y→den E 244 [tyV x,tyV u,.slice ((a0r u [] []).map .str),.func 245 [] [.ptr (.par 0) 0]] [[.int .i64 m]]=some (tyV y,[[.int .i64 m]])∧GT y∧y.sz≤x.sz*u.sz:=by
    intro i x y hx hy;simp[hx] at hy;subst hy;have:=a2w (List.mem_of_getElem? hx);exact ih x (by omega) (hl x (List.mem_of_getElem? hx)) (by omega)
   refine⟨b8u (.mk 3 s 0 l) _ u _ m (by simp[Ty.args]) (by rw[a0y];omega) (by omega) (fun i x y hx hy=>(h2 i x y hx hy).1) rfl rfl,.con s _ hs fun y hy=>?_,?_⟩
   · obtain⟨x,hx,rfl⟩:=List.mem_map.1 hy;obtain⟨i,hi⟩:=c5z hx;exact (h2 i x _ hi (by simp[hi])).2.1
   · rw[a0y,a0y,Nat.add_mul,Nat.one_mul];have:=f0y (c:=u.sz) (m:=l.map fun x=>c1c n x m u) (l:=l) (by simp) fun i x y hx hy=>(h2 i x y hx hy).2.2;omega
  | fn v w hv hw=>
   rw[a0y,a1h] at hn hb;have e:c1c (n+1) (.mk 4 [] 0 [v,w]) m u=.mk 4 [] 0 [c1c n v m u,c1c n w m u]:=rfl;rw[e];obtain⟨d1,g1,s1⟩:=ih v (by omega) hv (by omega);obtain⟨d2,g2,s2⟩:=ih w (by omega) hw (by omega);refine⟨b8u (.mk 4 [] 0 [v,w]) [_,_] u _ m rfl (by rw[a0y,a1h];omega) (by omega) (fun i x y hx hy=>?_) rfl rfl,.fn _ _ g1 g2,?_⟩
   · match i with
     | 0=>simp[Ty.args] at hx hy;subst hx hy;exact d1
     | 1=>simp[Ty.args] at hx hy;subst hx hy;exact d2
     | i+2=>simp[Ty.args] at hx
   · rw[a0y,a0y,a1h,a1h,Nat.add_mul,Nat.add_mul,Nat.one_mul];omega
  | all s x hs hx=>
   rw[a0y,a1l] at hn hb;rw[g6z];cases hq:(a0r u [] []).contains s
   · obtain⟨d1,g1,s1⟩:=ih x (by omega) hx (by omega);refine⟨b8u (.mk 5 s 0 [x]) [_] u _ m rfl (by rw[a0y,a1l];omega) (by omega) (fun i p q hp hq=>?_) rfl (by simpa [Ty.kind,Ty.name] using hq),.all s _ hs g1,?_⟩
     · match i with
       | 0=>simp[Ty.args] at hp hq;subst hp hq;exact d1
       | i+1=>simp[Ty.args] at hp
     · simp only[Bool.false_eq_true,if_false];rw[a0y,a0y,a1l,a1l,Nat.add_mul,Nat.one_mul];omega
   · have hle:=a3p _ x (Nat.le_refl _) [] [];simp only[List.length_nil,Nat.zero_add] at hle;have hd:=c1a s (a0r u [] []++(a0r x [] []++[s])) (hun s hq) (by omega) (by simp;omega);obtain⟨c0,c1⟩:=d3b s (a0r u [] []++(a0r x [] []++[s])) (by simp;omega);obtain⟨r1,g1,s1⟩:=d2a n x (by omega) hx (by omega) s (a6s s (a0r u [] []++(a0r x [] []++[s]))) c0 c1;obtain⟨r2,g2,s2⟩:=ih (b6u n x s (a6s s (a0r u [] []++(a0r x [] []++[s])))) (by omega) g1 (by omega);simp only[if_true];refine⟨g1s (.mk 5 s 0 [x]) x _ _ _ u _ m rfl rfl rfl hq (by rw[a0y,a1l];omega) (by omega) s1 hd r1 r2,.all _ _ c1 g2,?_⟩;rw[s1] at s2;rw[a0y,a0y,a1l,a1l,Nat.add_mul,Nat.one_mul];omega
theorem g6x(u:Ty)(hu:GT u)(hub:u.sz<300000)(hun:∀s,(a0r u [] []).contains s=true→s≠[])(m:Int)(t:Ty)(hg:GT t)(hb:t.sz<300000):
 den E 213 [tyV t,.int .i64 m,tyV u] []=some (tyV (c1c t.sz t m u),[]):=by
 obtain⟨d,_,_⟩:=e2p u hu hub hun m _ t (Nat.le_refl _) hg hb;have df:=a6w u (by omega);rw[a0d g2r,g9n];rw[a0a t,a0a u] at d;rw[a0a (c1c _ _ _ _)] at d⊢;rw[a0a u] at df;rw[a0a t,a0a u];simp only[go_sem,Tryz.f213,df,d]
def d1o(s:List UInt8):AVal:=.str s
def c2n(i:Nat):Ty:=.mk 2 [] ((900000+i:Nat):Int) []
def i0q:List (List UInt8)→Nat→Ty→Ty
 | [],_,t=>t
 | n::r,i,t=>i0q r (i+1) (b2u t.sz t n (c2n i))
def g0h(called:List (List UInt8×List UInt8)):List (List UInt8)→Nat→Ty→Ty
 | [],_,t=>t
 | n::r,i,t=>g0h called r (i+1) (c1c t.sz t ((900000+i:Nat):Int) (.mk 1 ((a2o n called).getD []) 0 []))
def b1s(called:List (List UInt8×List UInt8))(names:List (List UInt8))(t:Ty):Ty:=g0h called names 0 (i0q names 0 t)
theorem f3r(i:Nat):a0r (c2n i) [] []=[]:=rfl
theorem f3q(i:Nat):(c2n i).sz=1:=rfl
theorem e0s{x:Ty}(hx:GT x)(hb:x.sz<300000)(a:List UInt8)(i:Nat)(hi:i<100000):den E 40 [tyV x,.str a,tyV (c2n i)] []=some (tyV (b2u x.sz x a (c2n i)),[])∧GT (b2u x.sz x a (c2n i))∧(b2u x.sz x a (c2n i)).sz≤x.sz:=by
 have:=e0t (c2n i) (.unk _ (by omega) (by omega)) (by rw[f3q];omega) (fun s' h=>by
  rw[f3r] at h;simp at h) a x.sz x (Nat.le_refl _) hx hb
 rw[f3q,Nat.mul_one] at this;exact this
theorem e2o{x:Ty}(hx:GT x)(hb:x.sz<300000)(m:Int)(s:List UInt8)(hs:s≠[])(hl:s.length≤16):den E 213 [tyV x,.int .i64 m,tyV (.mk 1 s 0 [])] []=some (tyV (c1c x.sz x m (.mk 1 s 0 [])),[])∧GT (c1c x.sz x m (.mk 1 s 0 []))∧(c1c x.sz x m (.mk 1 s 0 [])).sz≤x.sz:=by
 have hun:∀s',(a0r (.mk 1 s 0 []) [] []).contains s'=true→s'≠[]:=fun s' h=>by
  rw[d9p] at h;have:s'=s:=by simpa using h
  rw[this];exact hs
 have h1:=e2p (.mk 1 s 0 []) (.var s hl) (by rw[c1r];omega) hun m x.sz x (Nat.le_refl _) hx hb;rw[c1r,Nat.mul_one] at h1;exact⟨g6x _ (.var s hl) (by rw[c1r];omega) hun m x hx hb,h1.2⟩
theorem f2k:∀(l:List (List UInt8)) (i:Nat) (t:Ty),GT t→t.sz<300000→i+l.length≤100000→GT (i0q l i t)∧(i0q l i t).sz≤t.sz
 | [],i,t,h,_,_=>⟨h,Nat.le_refl _⟩
 | n::r,i,t,h,hb,hi=>by
  simp only[List.length_cons] at hi;obtain⟨_,g,hs⟩:=e0s h hb n i (by omega);obtain⟨g2,hs2⟩:=f2k r (i+1) _ g (by omega) (by omega);exact⟨g2,by rw[i0q];omega⟩
theorem f6n(called:List (List UInt8×List UInt8)):∀(l:List (List UInt8)) (i:Nat) (t:Ty),(∀n∈l,(a2o n called).getD []≠[]∧((a2o n called).getD []).length≤16)→GT t→t.sz<300000→GT (g0h called l i t)∧(g0h called l i t).sz≤t.sz
 | [],i,t,_,h,_=>⟨h,Nat.le_refl _⟩
 | n::r,i,t,hc,h,hb=>by
  obtain⟨c1,c2⟩:=hc n (by simp);obtain⟨_,g,hs⟩:=e2o h hb ((900000+i:Nat):Int) _ c1 c2;obtain⟨g2,hs2⟩:=f6n called r (i+1) _ (fun m hm=>hc m (by simp[hm])) g (by omega);exact⟨g2,by rw[g0h];omega⟩
structure RenS where
 i:Nat
 t:Ty
theorem c3v(called:List (List UInt8×List UInt8))(names:List (List UInt8))(t0:Ty)(hn:names.length≤99999)(hc:∀n∈names,(a2o n called).getD []≠[]∧((a2o n called).getD []).length≤16)(hg0:GT t0)(hb0:t0.sz<300000):
 den E 146 [tyV t0,.slice (names.map .str),.pmap (a8w d1o called)] []=some (tyV (b1s called names t0),[])∧GT (b1s called names t0)∧(b1s called names t0).sz≤t0.sz:=by
 obtain⟨g1,s1⟩:=f2k names 0 t0 hg0 hb0 (by omega);refine⟨?_,?_⟩
 rotate_left
 · obtain⟨g2,s2⟩:=f6n called names 0 _ hc g1 (by omega);exact⟨g2,by unfold b1s;omega⟩
 rw[a0d g4g,h1d,a0a t0];unfold b1s;obtain⟨T1,hT1⟩:∃T1,T1=i0q names 0 t0:=⟨_,rfl⟩
 rw[←hT1] at g1 s1⊢;obtain⟨fin,hfin⟩:∃fin,fin=(some (tyV (g0h called names 0 T1),[]):Option (AVal×a2p)):=⟨_,rfl⟩
 rw[←hfin];simp only[go_sem,Tryz.f146,List.length_map];refine a0o (fun a:RenS=>a.i≤names.length∧GT a.t∧a.t.sz<300000∧i0q (names.drop a.i) a.i a.t=T1)
  (fun a=>⟨[(1,.slice (names.map .str)),(2,.pmap (a8w d1o called)),(3,.ptr (.loc 3) 0),(6,.ptr (.loc 6) 0),(11,.slice (names.map .str)),(12,.int .i64 names.length),(13,.int .i64 a.i)],[],[(3,[.int .i64 a.t.kind,.str a.t.name,.int .i64 a.t.n,.slice (a2i a.t.args)]),(6,[.int .i64 0,.str [],.int .i64 0,.own 25 0 []])],1⟩)
  (fun _=>fin) (fun a=>names.length - a.i) ⟨0,t0⟩ ⟨Nat.zero_le _,hg0,hb0,by rw[hT1];rfl⟩ ?_ ?_
 · simp only[go_sem]
 · rintro⟨i,t⟩ ⟨hi,hg,hb,hp⟩ h;simp only at hi hg hb hp⊢
   by_cases hlt:i<names.length
   · obtain⟨x,hx⟩:=a6v hlt;rw[a2a hx] at hp;have w1:IntKind.i64.wrap ((i:Int)+1)=((i+1:Nat):Int):=a0z (i+1) (by omega);have w2:IntKind.i64.wrap ((900000:Int)+(i:Int))=((900000+i:Nat):Int):=a0z (900000+i) (by omega);obtain⟨d,g,hs⟩:=e0s hg hb x i (by omega);rw[c2n,a3q,a0f] at d;rw[a0a t,a0a (b2u _ _ _ _)] at d;simp only[go_sem,a0e,decide_eq_true hlt,a0c,a0i,a4r,hx,w2,d];refine h ⟨i+1,b2u t.sz t x (c2n i)⟩ _ ⟨show i+1≤names.length by omega,g,show (b2u t.sz t x (c2n i)).sz<300000 by omega,hp⟩ (show names.length - (i+1)<names.length - i by omega) ?_;simp only[go_sem,w1,c2n]
   · have hie:i=names.length:=by omega
     subst hie;rw[List.drop_length] at hp;have hp:t=T1:=hp;subst hp;simp only[go_sem,a0e,Nat.lt_irrefl];refine a0o (fun a:RenS=>a.i≤names.length∧GT a.t∧a.t.sz<300000∧g0h called (names.drop a.i) a.i a.t=g0h called names 0 t)
      (fun a=>⟨[(2,.pmap (a8w d1o called)),(3,.ptr (.loc 3) 0),(6,.ptr (.loc 6) 0),(25,.slice (names.map .str)),(26,.int .i64 names.length),(27,.int .i64 a.i)],[],[(3,[.int .i64 a.t.kind,.str a.t.name,.int .i64 a.t.n,.slice (a2i a.t.args)]),(6,[.int .i64 0,.str [],.int .i64 0,.own 25 0 []])],1⟩)
      (fun _=>fin) (fun a=>names.length - a.i) ⟨0,t⟩ ⟨Nat.zero_le _,hg,hb,rfl⟩ ?_ ?_
     · simp only[go_sem,List.length_map]
     · rintro⟨i,t2⟩ ⟨hi,hg,hb,hp⟩ hh;simp only at hi hg hb hp⊢
       by_cases hlt:i<names.length
       · obtain⟨x,hx⟩:=a6v hlt;rw[a2a hx] at hp;have hxm:=List.mem_of_getElem? hx;obtain⟨c1,c2⟩:=hc x hxm;have w1:IntKind.i64.wrap ((i:Int)+1)=((i+1:Nat):Int):=a0z (i+1) (by omega);have w2:IntKind.i64.wrap ((900000:Int)+(i:Int))=((900000+i:Nat):Int):=a0z (900000+i) (by omega);obtain⟨d,g,hs⟩:=e2o hg hb ((900000+i:Nat):Int) _ c1 c2;have hf:=a8e d1o x called;cases hk:a2o x called with
         | none=>rw[hk] at c1;exact absurd rfl c1
         | some y=>
          rw[hk] at hf d g hs;simp only[Option.map_some,d1o,Option.getD_some] at hf d g hs;rw[a3q,a0f] at d;rw[a0a t2,a0a (c1c _ _ _ _)] at d;simp only[go_sem,a0e,decide_eq_true hlt,a0c,a0i,a4r,hx,w2,hf,d];refine hh ⟨i+1,c1c t2.sz t2 ((900000+i:Nat):Int) (.mk 1 y 0 [])⟩ _ ⟨show i+1≤names.length by omega,g,show (c1c t2.sz t2 ((900000+i:Nat):Int) (.mk 1 y 0 [])).sz<300000 by omega,?_⟩ (show names.length - (i+1)<names.length - i by omega) ?_
          · rw[g0h,hk] at hp;exact hp
          · simp only[go_sem,w1]
       · have hie:i=names.length:=by omega
         subst hie;rw[List.drop_length] at hp;have hp:t2=g0h called names 0 t:=hp;rw[hfin,←hp,a0a];simp only[go_sem,a0e,Nat.lt_irrefl]
end Go.Proofs
