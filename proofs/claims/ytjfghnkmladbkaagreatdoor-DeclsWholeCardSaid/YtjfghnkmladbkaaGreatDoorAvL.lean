/- Types: well formed, renamed, with canonical names, put in the place of names, peeled. -/
import Derived.Test.YtjfghnkmladbkaaGreatDoorAvK
namespace Go.Proofs
open Go.Av
set_option maxHeartbeats 16000000
set_option maxRecDepth 100000
mutual
def b1j:Ty→Bool
 | .mk k _ _ l=>k==5||b7y l
def b7y:List Ty→Bool
 | []=>false
 | t::l=>b1j t||b7y l
end
theorem d3s(k:Int)(s:List UInt8)(n:Int)(l:List Ty):b1j (.mk k s n l)=(k==5||b7y l):=rfl
theorem b7e(t:Ty)(l:List Ty):b7y (t::l)=(b1j t||b7y l):=rfl
def e9k(p:Ty→Bool):List Ty→Nat→Int
 | [],_=> -1
 | x::r,i=>if p x then (i:Int) else e9k p r (i+1)
theorem e0p(p:Ty→Bool):∀(l:List Ty) (i:Nat),decide (0≤e9k p l i)=l.any p
 | [],i=>rfl
 | x::r,i=>by
  unfold e9k;cases h:p x
  · simp only[Bool.false_eq_true,if_false,List.any_cons,h,Bool.false_or];exact e0p p r (i+1)
  · simp[h]
theorem c6y:∀l:List Ty,b7y l=l.any b1j
 | []=>rfl
 | t::l=>by rw[b7e,List.any_cons,c6y l]
theorem i5i(l:List Ty)(hl:l.length<1000000)(hc:∀x∈l,den E 145 [tyV x] []=some (.bool (b1j x),[])):den E 212 [.slice (a3a l),.func 145 [] []] []=some (.int .i64 (e9k b1j l 0),[]):=by
 rw[a0d e3e,e5n];have rl:=a2m l;simp only[go_sem,Tryz.f212,rl];refine a0p (fun i:Nat=>i≤l.length) (fun i=>⟨[(0,.slice (a3a l)),(1,.func 145 [] []),(7,.int .i64 l.length),(8,.int .i64 i)],[],[],1⟩) (fun i=>some (.int .i64 (e9k b1j (l.drop i) i),[])) (fun i=>l.length - i) 0 (Nat.zero_le _) ?_ ?_
 · simp only[go_sem]
 · intro i hi h
   by_cases hlt:i<l.length
   · obtain⟨x,hx⟩:=a7p hlt;rw[a2x hx];have w1:IntKind.i64.wrap ((i:Int)+1)=((i+1:Nat):Int):=a1e (i+1) (by omega);have d:=hc x (List.mem_of_getElem? hx);rw[a0a] at d;cases hq:b1j x
     · rw[hq] at d;simp only[go_sem,a0g,decide_eq_true hlt,a0c,a0j,a6v,hx,hq,d,a0a,e9k];refine h (i+1) _ (by omega) (by omega) ?_;simp only[go_sem,w1]
     · rw[hq] at d;simp only[go_sem,a0g,decide_eq_true hlt,a0c,a0j,a6v,hx,hq,d,a0a,e9k]
   · have hie:i=l.length:=by omega
     subst hie;rw[List.drop_length];simp only[go_sem,a0g,Nat.lt_irrefl,e9k]
theorem d5i(l:List Ty)(hl:l.length<1000000)(hc:∀x∈l,den E 145 [tyV x] []=some (.bool (b1j x),[])):den E 144 [.slice (a3a l),.func 145 [] []] []=some (.bool (b7y l),[]):=by
 rw[a0d e3k,e5s];have d:=i5i l hl hc;have e:=e0p b1j l 0;rw[c6y];simp only[go_sem,Tryz.f144,d,e,ge_iff_le]
theorem c0f:∀(n:Nat) (t:Ty),t.sz≤n→t.sz<1000000→den E 145 [tyV t] []=some (.bool (b1j t),[]):=by
 intro n
 induction n with
 | zero=>intro t h;have:=a3g t;omega
 | succ n ih=>
  intro t hn hb;have hsz:=a3g t;have hal:=a6h t;have d:=d5i t.args (by omega) fun x hx=>by
   have:=a2p hx;exact ih x (by omega) (by omega)
  rw[a0d g5s,h2y];have e:b1j t=(t.kind==5||b7y t.args):=by cases t;rfl
  rw[e,a0a];cases hk:t.kind==5
  · simp only[go_sem,Tryz.f145,hk,d,Bool.false_or]
  · simp only[go_sem,Tryz.f145,hk,Bool.true_or]
def a8q{α:Type}(f:α→AVal)(l:List (List UInt8×α)):List AVal:=l.map fun p=>.tup [.str p.1,f p.2]
theorem g7u{α:Type}(f:α→AVal)(l:List (List UInt8×α)):isL (a8q f l)=none:=by
 cases l with
 | nil=>rfl
 | cons a r=>cases r<;>rfl
attribute [go_sem ↓] g7u
def a1i{α:Type}(k:List UInt8):List (List UInt8×α)→Option α
 | []=>none
 | p::r=>if k==p.1 then some p.2 else a1i k r
def b2n{α:Type}(k:List UInt8)(v:α):List (List UInt8×α)→List (List UInt8×α)
 | []=>[(k,v)]
 | p::r=>if k==p.1 then (k,v)::r else p::b2n k v r
theorem a8v{α:Type}(f:α→AVal)(k:List UInt8):∀l:List (List UInt8×α),c9t (.str k) (a8q f l)=some ((a1i k l).map f)
 | []=>rfl
 | p::r=>by
  have ih:=a8v f k r;unfold a8q at ih⊢;rw[List.map_cons];simp only[c9t,c4l,Option.bind_some,a1i];cases h:k==p.1
  · simp only[Bool.false_eq_true,if_false];exact ih
  · simp
theorem b6r{α:Type}(f:α→AVal)(k:List UInt8)(v:α):∀l:List (List UInt8×α),f1j (.str k) (f v) (a8q f l)=some (a8q f (b2n k v l))
 | []=>rfl
 | p::r=>by
  have ih:=b6r f k v r;unfold a8q at ih⊢;rw[List.map_cons];simp only[f1j,c4l,Option.bind_some,b2n];cases h:k==p.1
  · simp only[Bool.false_eq_true,if_false,ih,Option.map_some,List.map_cons]
  · simp
def i8j(n:Int):AVal:=.int .i64 n
def j4x(ar:List (List UInt8×Int))(s:List UInt8)(n:Nat):Bool:=match a1i s ar with
 | none=>true
 | some m=>m !=(n:Int)
mutual
def b0j(ar:List (List UInt8×Int)):Ty→Bool
 | .mk k s _ l=> !(k==2||(k==3&&j4x ar s l.length))&&c4m ar l
def c4m(ar:List (List UInt8×Int)):List Ty→Bool
 | []=>true
 | t::l=>b0j ar t&&c4m ar l
end
theorem a7l(ar:List (List UInt8×Int))(t:Ty)(l:List Ty):c4m ar (t::l)=(b0j ar t&&c4m ar l):=rfl
theorem a6z(ar:List (List UInt8×Int))(t:Ty):b0j ar t=(!(t.kind==2||(t.kind==3&&j4x ar t.name t.args.length))&&c4m ar t.args):=by cases t;rfl
theorem d8f(ar:List (List UInt8×Int)):∀l:List Ty,(l.any fun t=> !b0j ar t)= !c4m ar l
 | []=>rfl
 | t::l=>by rw[List.any_cons,d8f ar l,a7l];cases b0j ar t<;>rfl
def a4t(ar:List (List UInt8×Int))(cs co:List AVal):List AVal:=[.own 1099511627777 0 (a8q i8j ar),.own 1099511627777 0 cs,.own 1099511627777 0 co]
attribute [go_sem] a4t
theorem i5j(ar:List (List UInt8×Int))(cs co:List AVal)(l:List Ty)(hl:l.length<1000000)
 (hc:∀x∈l,den E 154 [tyV x,.ptr (.par 0) 0] [[.ptr (.par 1) 0],a4t ar cs co]=some (.bool (!b0j ar x),[[.ptr (.par 1) 0],a4t ar cs co])):
 den E 212 [.slice (a3a l),.func 154 [] [.ptr (.par 0) 0]] [[.ptr (.par 1) 0],a4t ar cs co]=some (.int .i64 (e9k (fun x=> !b0j ar x) l 0),[[.ptr (.par 1) 0],a4t ar cs co]):=by
 rw[a0d e3e,e5n];have rl:=a2m l;simp only[go_sem,Tryz.f212,rl];refine a0p (fun i:Nat=>i≤l.length) (fun i=>⟨[(0,.slice (a3a l)),(1,.func 154 [] [.ptr (.par 0) 0]),(7,.int .i64 l.length),(8,.int .i64 i)],[[.ptr (.par 1) 0],a4t ar cs co],[],1⟩) (fun i=>some (.int .i64 (e9k (fun x=> !b0j ar x) (l.drop i) i),[[.ptr (.par 1) 0],a4t ar cs co])) (fun i=>l.length - i) 0 (Nat.zero_le _) ?_ ?_
 · simp only[go_sem]
 · intro i hi h
   by_cases hlt:i<l.length
   · obtain⟨x,hx⟩:=a7p hlt;rw[a2x hx];have w1:IntKind.i64.wrap ((i:Int)+1)=((i+1:Nat):Int):=a1e (i+1) (by omega);have d:=hc x (List.mem_of_getElem? hx);rw[a0a] at d;unfold a4t at d;cases hq:b0j ar x
     · rw[hq] at d;simp only[go_sem,a0g,decide_eq_true hlt,a0c,a0j,a6v,hx,hq,d,a0a,e9k]
     · rw[hq] at d;simp only[go_sem,a0g,decide_eq_true hlt,a0c,a0j,a6v,hx,hq,d,a0a,e9k];refine h (i+1) _ (by omega) (by omega) ?_;simp only[go_sem,w1]
   · have hie:i=l.length:=by omega
     subst hie;rw[List.drop_length];simp only[go_sem,a0g,Nat.lt_irrefl,e9k]
theorem h3y(ar:List (List UInt8×Int))(cs co:List AVal)(l:List Ty)(hl:l.length<1000000)
 (hc:∀x∈l,den E 154 [tyV x,.ptr (.par 0) 0] [[.ptr (.par 1) 0],a4t ar cs co]=some (.bool (!b0j ar x),[[.ptr (.par 1) 0],a4t ar cs co])):
 den E 144 [.slice (a3a l),.func 154 [] [.ptr (.par 0) 0]] [[.ptr (.par 1) 0],a4t ar cs co]=some (.bool (!c4m ar l),[[.ptr (.par 1) 0],a4t ar cs co]):=by
 rw[a0d e3k,e5s];have d:=i5j ar cs co l hl hc;have e:=e0p (fun x=> !b0j ar x) l 0;rw[d8f] at e;unfold a4t at d;simp only[go_sem,Tryz.f144,d,e,ge_iff_le]
theorem f7n(ar:List (List UInt8×Int))(cs co:List AVal)(x:Ty)(h:den E 89 [.ptr (.par 0) 0,tyV x] [a4t ar cs co]=some (.bool (b0j ar x),[a4t ar cs co])):
 den E 154 [tyV x,.ptr (.par 0) 0] [[.ptr (.par 1) 0],a4t ar cs co]=some (.bool (!b0j ar x),[[.ptr (.par 1) 0],a4t ar cs co]):=by
 rw[a0d g5p,h2v];rw[a0a] at h⊢;unfold a4t at h;simp only[go_sem,Tryz.f154,h]
theorem e9s(ar:List (List UInt8×Int))(cs co:List AVal):∀(n:Nat) (t:Ty),t.sz≤n→t.sz<1000000→den E 89 [.ptr (.par 0) 0,tyV t] [a4t ar cs co]=some (.bool (b0j ar t),[a4t ar cs co]):=by
 intro n
 induction n with
 | zero=>intro t h;have:=a3g t;omega
 | succ n ih=>
  intro t hn hb;have hsz:=a3g t;have hal:=a6h t;have d:=h3y ar cs co t.args (by omega) fun x hx=>by
   have:=a2p hx;exact f7n ar cs co x (ih x (by omega) (by omega))
  have hf:=a8v i8j t.name ar;have rl:=a2m t.args;rw[a0d i3q,i7a];rw[a6z,a0a];unfold j4x;unfold a4t at d;cases hk:a1i t.name ar with
  | none=>
   rw[hk] at hf;simp only[Option.map_none] at hf;cases h2:t.kind==2<;>cases h3:t.kind==3<;>simp only[go_sem,Tryz.f89,hf,h2,h3,d,Bool.not_not]
  | some m=>
   rw[hk] at hf;simp only[Option.map_some,i8j] at hf;cases h2:t.kind==2<;>cases h3:t.kind==3<;>cases h4:m !=(t.args.length:Int)<;>simp only[go_sem,Tryz.f89,hf,h2,h3,h4,rl,d,Bool.not_not]
def b3v(ar:List (List UInt8×Int))(t:Ty):Int:=if b0j ar t then (if a0m t [] []=[] then 0 else 111) else 110
theorem d4m(ar:List (List UInt8×Int))(cs co:List AVal)(t:Ty)(hb:t.sz<1000000):den E 31 [.ptr (.par 0) 0,tyV t] [a4t ar cs co]=some (.int .i64 (b3v ar t),[a4t ar cs co]):=by
 have d:=e9s ar cs co _ t (Nat.le_refl _) hb;have df:=a4l t hb;rw[a0d i4f,i7n];unfold b3v;rw[a0a] at d df⊢;unfold a4t at d;cases hf:b0j ar t
 · rw[hf] at d;simp only[go_sem,Tryz.f31,d]
 · rw[hf] at d;cases hl:a0m t [] [] with
   | nil=>
    rw[hl] at df;have h0:decide ((0:Int)>0)=false:=rfl;simp only[go_sem,Tryz.f31,d,df,h0]
   | cons a r=>
    rw[hl] at df;have h0:decide (((r.length+1:Nat):Int)>0)=true:=by simp
    simp only[go_sem,Tryz.f31,d,df,h0,List.length_map]
def f1l(f:Nat→List UInt8)(l:List (List UInt8)):Nat→Nat→Nat
 | 0,i=>i
 | n+1,i=>if l.contains (f i) then f1l f l n (i+1) else i
theorem f3e{f:Nat→List UInt8}{l:List (List UInt8)}{i0:Nat}(h0:l.contains (f i0)=false)(h:∀j,j<i0→l.contains (f j)=true):∀(n i:Nat),i≤i0→i0≤i+n→f1l f l n i=i0
 | 0,i,h1,h2=>by simp only[f1l];omega
 | n+1,i,h1,h2=>by
  rw[f1l]
  by_cases e:i=i0
  · subst e;rw[h0];rfl
  · rw[h i (by omega),if_pos rfl];exact f3e h0 h n (i+1) (by omega) (by omega)
theorem b5i(f:Nat→List UInt8)(hinj:∀i j,f i=f j→i=j)(l:List (List UInt8)):
 f1l f l (l.length+1) 0≤l.length∧l.contains (f (f1l f l (l.length+1) 0))=false∧∀j,j<f1l f l (l.length+1) 0→l.contains (f j)=true:=by
 obtain⟨i0,h1,h2,h3⟩:=e9u f hinj l;have e:=f3e h2 h3 (l.length+1) 0 (Nat.zero_le _) (by omega);rw[e];exact⟨h1,h2,h3⟩
def a5p(s:List UInt8)(but:List (List UInt8)):List UInt8:=b7z s (f1l (b7z s) but (but.length+1) 0)
theorem g8g(s:List UInt8)(but:List (List UInt8)):but.contains (a5p s but)=false:=(b5i (b7z s) (d5b s) but).2.1
theorem b3w(s:List UInt8)(but:List (List UInt8))(h:but.length<999999):a5p s but≠[]∧(a5p s but).length≤16:=g9x s _ (by have:=(b5i (b7z s) (d5b s) but).1;omega)
theorem c3b(s:List UInt8)(but:List (List UInt8))(hs:s≠[])(hl:s.length≤1000)(hb:but.length<1000000):den E 98 [.str s,.slice (but.map .str)] []=some (.str (a5p s but),[]):=by
 obtain⟨h1,h2,h3⟩:=b5i (b7z s) (d5b s) but;unfold a5p;generalize f1l (b7z s) but (but.length+1) 0=i0 at h1 h2 h3⊢;rw[a0d i3m,i6w];have hl1:1≤s.length:=List.length_pos_iff.2 hs;have l1:(s.take 1).length+1≤a1y:=by rw[List.length_take];unfold a1y;omega
 simp only[go_sem,Tryz.f98];refine a0p (fun i:Nat=>i≤i0) (fun i=>⟨[(0,.str s),(1,.slice (but.map .str)),(5,.int .i64 i)],[],[],1⟩) (fun _=>some (.str (b7z s i0),[])) (fun i=>i0 - i) 0 (Nat.zero_le _) ?_ ?_
 · simp only[go_sem]
 · intro i hi h;have w1:IntKind.i64.wrap ((i:Int)+1)=((i+1:Nat):Int):=a1e (i+1) (by omega);have d1:=b0a i (by omega);have dc:=a3q but (b7z s i) hb;have l2:(s.take 1++[95]).length+(Lib.itoa (i:Int)).length≤a1y:=by
    have:=b0t 8 i (by
     have e:(10:Nat) ^ (8+1)=1000000000:=by decide
     omega)
    rw[List.length_append,List.length_take];unfold a1y;simp;omega
   by_cases hlt:i<i0
   · rw[h3 i hlt] at dc;unfold b7z at dc;simp only[go_sem,hl1,Nat.zero_le,l1,l2,d1,dc,Int.toNat_one,Int.zero_le_ofNat];refine h (i+1) _ (by omega) (by omega) ?_;simp only[go_sem,w1]
   · have hie:i=i0:=by omega
     subst hie;rw[h2] at dc;unfold b7z at dc⊢;simp only[go_sem,hl1,Nat.zero_le,l1,l2,d1,dc,Int.toNat_one,Int.zero_le_ofNat]
def b1i:Nat→Ty→List UInt8→List UInt8→Ty
 | 0,t,_,_=>t
 | n+1,.mk k s m l,a,b=>
  if k==1&&s==a then .mk k b m l
  else if k==5&&s==a then .mk k s m l
  else if k==5&&s==b then (match l with
   | [x]=>.mk 5 (a5p b (a0m x [] []++[a,b])) 0 [b1i n (b1i n x b (a5p b (a0m x [] []++[a,b]))) a b]
   | _=>.mk k s m l)
  else .mk k s m (l.map fun x=>b1i n x a b)
theorem e2w(n:Nat)(s:List UInt8)(a b:List UInt8):b1i (n+1) (.mk 1 s 0 []) a b=if s==a then .mk 1 b 0 [] else .mk 1 s 0 []:=by
 unfold b1i;cases h:s==a<;>simp
theorem e2x(n:Nat)(s:List UInt8)(x:Ty)(a b:List UInt8):b1i (n+1) (.mk 5 s 0 [x]) a b=if s==a then .mk 5 s 0 [x] else if s==b then .mk 5 (a5p b (a0m x [] []++[a,b])) 0 [b1i n (b1i n x b (a5p b (a0m x [] []++[a,b]))) a b] else .mk 5 s 0 [b1i n x a b]:=by
 rw[b1i];cases h:s==a<;>cases h2:s==b<;>simp
theorem c5d:∀(n:Nat) (t:Ty),t.sz≤n→GT t→t.sz<300000→∀(a b:List UInt8),b≠[]→b.length≤16→den E 100 [tyV t,.str a,.str b] []=some (tyV (b1i n t a b),[])∧GT (b1i n t a b)∧(b1i n t a b).sz=t.sz:=by
 intro n
 induction n with
 | zero=>intro t h;have:=a3g t;omega
 | succ n ih=>
  intro t hn hg hb a b hb0 hb1;have hsz:=a3g t;cases hg with
  | var s hs=>
   rw[e2w];cases h:s==a
   · exact⟨b2y (.mk 1 s 0 []) [] a b rfl (by omega) (fun i x y hx=>by simp[Ty.args] at hx) (by simpa [Ty.kind,Ty.name] using h) rfl rfl,.var s hs,rfl⟩
   · exact⟨i3c (.mk 1 s 0 []) a b rfl h,.var b hb1,rfl⟩
  | unk m h1 h2=>exact⟨b2y (.mk 2 [] m []) [] a b rfl (by omega) (fun i x y hx=>by simp[Ty.args] at hx) rfl rfl rfl,.unk m h1 h2,rfl⟩
  | con s l hs hl=>
   rw[a0x] at hn hb;have e:b1i (n+1) (.mk 3 s 0 l) a b=.mk 3 s 0 (l.map fun x=>b1i n x a b):=rfl;rw[e];have h2:∀(i:Nat) (x y:Ty),l[i]? =some x→(l.map fun x=>b1i n x a b)[i]? =some y→den E 100 [tyV x,.str a,.str b] []=some (tyV y,[])∧GT y∧y.sz=x.sz:=by
    intro i x y hx hy;simp[hx] at hy;subst hy;have:=a2p (List.mem_of_getElem? hx);exact ih x (by omega) (hl x (List.mem_of_getElem? hx)) (by omega) a b hb0 hb1
   refine⟨b2y (.mk 3 s 0 l) _ a b (by simp[Ty.args]) (by rw[a0x];omega) (fun i x y hx hy=>(h2 i x y hx hy).1) rfl rfl rfl,.con s _ hs fun y hy=>?_,?_⟩
   · obtain⟨x,hx,rfl⟩:=List.mem_map.1 hy;obtain⟨i,hi⟩:=c7o hx;exact (h2 i x _ hi (by simp[hi])).2.1
   · rw[a0x,a0x];exact congrArg (· +1) (f2m (by simp) fun i x y hx hy=>(h2 i x y hx hy).2.2)
  | fn u v hu hv=>
   rw[a0x,a1u] at hn hb;have e:b1i (n+1) (.mk 4 [] 0 [u,v]) a b=.mk 4 [] 0 [b1i n u a b,b1i n v a b]:=rfl;rw[e];obtain⟨d1,g1,s1⟩:=ih u (by omega) hu (by omega) a b hb0 hb1;obtain⟨d2,g2,s2⟩:=ih v (by omega) hv (by omega) a b hb0 hb1;refine⟨b2y (.mk 4 [] 0 [u,v]) [_,_] a b rfl (by rw[a0x,a1u];omega) (fun i x y hx hy=>?_) rfl rfl rfl,.fn _ _ g1 g2,by simp only[a0x,a1u,s1,s2]⟩
   match i with
   | 0=>simp[Ty.args] at hx hy;subst hx hy;exact d1
   | 1=>simp[Ty.args] at hx hy;subst hx hy;exact d2
   | i+2=>simp[Ty.args] at hx
  | all s x hs hx=>
   rw[a0x,a1o] at hn hb;rw[e2x];cases ha:s==a
   · cases hq:s==b
     · obtain⟨d1,g1,s1⟩:=ih x (by omega) hx (by omega) a b hb0 hb1;refine⟨b2y (.mk 5 s 0 [x]) [_] a b rfl (by rw[a0x,a1o];omega) (fun i u v hu hv=>?_) rfl (by simpa [Ty.kind,Ty.name] using ha) (by simpa [Ty.kind,Ty.name] using hq),.all s _ hs g1,by simp only[Bool.false_eq_true,if_false,a0x,a1o,s1]⟩
       match i with
       | 0=>simp[Ty.args] at hu hv;subst hu hv;exact d1
       | i+1=>simp[Ty.args] at hu
     · have hle:=a2o _ x (Nat.le_refl _) [] [];simp only[List.length_nil,Nat.zero_add] at hle;have hd:=c3b b (a0m x [] []++[a,b]) hb0 (by omega) (by simp;omega);obtain⟨c0,c1⟩:=b3w b (a0m x [] []++[a,b]) (by simp;omega);obtain⟨r1,g1,s1⟩:=ih x (by omega) hx (by omega) b (a5p b (a0m x [] []++[a,b])) c0 c1;obtain⟨r2,g2,s2⟩:=ih (b1i n x b (a5p b (a0m x [] []++[a,b]))) (by omega) g1 (by omega) a b hb0 hb1;simp only[Bool.false_eq_true,if_false,if_true];exact⟨f3o (.mk 5 s 0 [x]) x _ _ a b _ rfl rfl rfl ha hq (by rw[a0x,a1o];omega) s1 hd r1 r2,.all _ _ c1 g2,by rw[a0x,a0x,a1o,a1o,s2,s1]⟩
   · exact⟨g2s (.mk 5 s 0 [x]) a b rfl rfl ha,.all s x hs hx,rfl⟩
def c2q(g:Ty→Nat→Ty×Nat):List Ty→Nat→List Ty×Nat
 | [],k=>([],k)
 | t::l,k=>((g t k).1::(c2q g l (g t k).2).1,(c2q g l (g t k).2).2)
def c7f(fr:List (List UInt8))(k:Nat):Nat:=k+f1l (fun i=>a9c (k+i)) fr (fr.length+1) 0
def b5u(fr:List (List UInt8)):Nat→Ty→Nat→Ty×Nat
 | 0,t,k=>(t,k)
 | n+1,.mk q s m l,k=>
  if q==5 then (match l with
   | [x]=>(.mk 5 (a9c (c7f fr k)) 0 [(b5u fr n (b1i n x s (a9c (c7f fr k))) (c7f fr k+1)).1],(b5u fr n (b1i n x s (a9c (c7f fr k))) (c7f fr k+1)).2)
   | _=>(.mk q s m l,k))
  else (.mk q s m (c2q (b5u fr n) l k).1,(c2q (b5u fr n) l k).2)
theorem g6u(fr:List (List UInt8))(n:Nat)(s:List UInt8)(x:Ty)(k:Nat):b5u fr (n+1) (.mk 5 s 0 [x]) k=(.mk 5 (a9c (c7f fr k)) 0 [(b5u fr n (b1i n x s (a9c (c7f fr k))) (c7f fr k+1)).1],(b5u fr n (b1i n x s (a9c (c7f fr k))) (c7f fr k+1)).2):=rfl
def d9h(g:Ty→Nat→Ty×Nat):List Ty→Nat→List Nat
 | [],k=>[k]
 | t::l,k=>k::d9h g l (g t k).2
theorem c7d(g:Ty→Nat→Ty×Nat)(l:List Ty)(k:Nat):(d9h g l k).getD 0 0=k:=by cases l<;>rfl
theorem d3z(g:Ty→Nat→Ty×Nat):∀(l:List Ty) (k:Nat),(d9h g l k).getD l.length 0=(c2q g l k).2
 | [],k=>rfl
 | t::l,k=>by rw[d9h,List.length_cons,List.getD_cons_succ,d3z g l];rfl
theorem c0o(g:Ty→Nat→Ty×Nat):∀(l:List Ty) (k:Nat),(c2q g l k).1.length=l.length
 | [],k=>rfl
 | t::l,k=>by rw[c2q,List.length_cons,c0o g l];rfl
theorem e3u(g:Ty→Nat→Ty×Nat):∀(l:List Ty) (k i:Nat) (x y:Ty),l[i]? =some x→(c2q g l k).1[i]? =some y→y=(g x ((d9h g l k).getD i 0)).1∧(d9h g l k).getD (i+1) 0=(g x ((d9h g l k).getD i 0)).2
 | [],k,i,x,y,h,_=>by simp at h
 | t::l,k,0,x,y,h,h2=>by
  simp[c2q] at h h2;subst h;rw[←h2,d9h,List.getD_cons_zero,List.getD_cons_succ,c7d];exact⟨rfl,rfl⟩
 | t::l,k,i+1,x,y,h,h2=>by
  rw[d9h,List.getD_cons_succ,List.getD_cons_succ];exact e3u g l (g t k).2 i x y (by simpa using h) (by simpa [c2q] using h2)
theorem e3v(fr:List (List UInt8))(hf:fr.length<1000000):∀(n:Nat) (t:Ty),t.sz≤n→GT t→t.sz<300000→∀k:Nat,k+t.sz*(fr.length+1)≤900000000→
 den E 151 [tyV t,.slice (fr.map .str),.int .i64 k] []=some (.tup [tyV (b5u fr n t k).1,.int .i64 (b5u fr n t k).2],[])∧GT (b5u fr n t k).1∧(b5u fr n t k).1.sz=t.sz∧(b5u fr n t k).2≤k+t.sz*(fr.length+1):=by
 intro n
 induction n with
 | zero=>intro t h;have:=a3g t;omega
 | succ n ih=>
  intro t hn hg hb k hk;have bound:∀(l:List Ty),(∀x,x∈l→GT x)→Ty.szs l≤n→Ty.szs l<300000→∀k:Nat,k+Ty.szs l*(fr.length+1)≤900000000→
   (∀(i:Nat) (x:Ty),l[i]? =some x→(d9h (b5u fr n) l k).getD i 0+x.sz*(fr.length+1)≤900000000)∧(c2q (b5u fr n) l k).2≤k+Ty.szs l*(fr.length+1):=by
   intro l
   induction l with
   | nil=>intro _ _ _ k _;exact⟨fun i x h=>by simp at h,by simp[c2q]⟩
   | cons t l ihl=>
    intro hl h1 h2 k hk;rw[a6w,Nat.add_mul] at hk;rw[a6w] at h1 h2;obtain⟨_,_,_,q4⟩:=ih t (by omega) (hl t (List.mem_cons_self ..)) (by omega) k (by omega);obtain⟨b1,b2⟩:=ihl (fun x hx=>hl x (List.mem_cons_of_mem _ hx)) (by omega) (by omega) (b5u fr n t k).2 (by omega);refine⟨fun i x hx=>?_,?_⟩
    · cases i with
      | zero=>simp at hx;subst hx;rw[d9h,List.getD_cons_zero];omega
      | succ i=>rw[d9h,List.getD_cons_succ];exact b1 i x (by simpa using hx)
    · rw[c2q,a6w,Nat.add_mul];simp only;omega
  have kids:∀l:List Ty,(∀x,x∈l→GT x)→Ty.szs l≤n→Ty.szs l<300000→k+Ty.szs l*(fr.length+1)≤900000000→
   ∀(i:Nat) (x y:Ty),l[i]? =some x→(c2q (b5u fr n) l k).1[i]? =some y→den E 151 [tyV x,.slice (fr.map .str),.int .i64 ((d9h (b5u fr n) l k).getD i 0:Nat)] []=some (.tup [tyV y,.int .i64 ((d9h (b5u fr n) l k).getD (i+1) 0:Nat)],[])∧GT y∧y.sz=x.sz:=by
   intro l hl h1 h2 h3 i x y hx hy;obtain⟨e1,e2⟩:=e3u _ l k i x y hx hy;have hm:=List.mem_of_getElem? hx;have:=a2p hm;obtain⟨q1,q2,q3,_⟩:=ih x (by omega) (hl x hm) (by omega) _ ((bound l hl h1 h2 k h3).1 i x hx);rw[e1,e2];exact⟨q1,q2,q3⟩
  have mono:∀a b:Nat,a≤b→a*(fr.length+1)≤b*(fr.length+1):=fun a b h=>Nat.mul_le_mul_right _ h;cases hg with
  | var s hs=>
   exact⟨c0n (.mk 1 s 0 []) [] _ [k] rfl (by omega) rfl (fun i x y hx=>by simp[Ty.args] at hx),.var s hs,rfl,by show k≤_;omega⟩
  | unk m h1 h2=>
   exact⟨c0n (.mk 2 [] m []) [] _ [k] rfl (by omega) rfl (fun i x y hx=>by simp[Ty.args] at hx),.unk m h1 h2,rfl,by show k≤_;omega⟩
  | con s l hs hl=>
   rw[a0x] at hn hb hk⊢;have:=mono (Ty.szs l) (Ty.szs l+1) (by omega);have e:b5u fr (n+1) (.mk 3 s 0 l) k=(.mk 3 s 0 (c2q (b5u fr n) l k).1,(c2q (b5u fr n) l k).2):=rfl;have e3:=kids l hl (by omega) (by omega) (by omega);have e2:=(bound l hl (by omega) (by omega) k (by omega)).2;have d:=c0n (.mk 3 s 0 l) (c2q (b5u fr n) l k).1 (fr.map .str) (d9h (b5u fr n) l k) (c0o _ l k) (by rw[a0x];omega) rfl (fun i x y hx hy=>(e3 i x y hx hy).1);rw[c7d] at d;have e4:(Ty.mk 3 s 0 l).args.length=l.length:=rfl;rw[e4,d3z] at d;rw[e];refine⟨d,.con s _ hs fun y hy=>?_,?_,by show (c2q (b5u fr n) l k).2≤_;omega⟩
   · obtain⟨i,hi⟩:=c7o hy;have:i<l.length:=by have:=(List.getElem?_eq_some_iff.1 hi).1;rw[c0o] at this;exact this
     obtain⟨x,hx⟩:=a7p this;exact (e3 i x y hx hi).2.1
   · show (Ty.mk 3 s 0 (c2q (b5u fr n) l k).1).sz=_
     rw[a0x];exact congrArg (· +1) (f2m (c0o _ l k) fun i x y hx hy=>(e3 i x y hx hy).2.2)
  | fn u v hu hv=>
   rw[a0x,a1u] at hn hb hk⊢;have:=mono (u.sz+v.sz) (u.sz+v.sz+1) (by omega);have hl:∀x,x∈[u,v]→GT x:=fun x hx=>by simp at hx;rcases hx with rfl|rfl;exact hu;exact hv
   have e:b5u fr (n+1) (.mk 4 [] 0 [u,v]) k=(.mk 4 [] 0 (c2q (b5u fr n) [u,v] k).1,(c2q (b5u fr n) [u,v] k).2):=rfl;have e3:=kids [u,v] hl (by rw[a1u];omega) (by rw[a1u];omega) (by rw[a1u];omega);have e2:=(bound [u,v] hl (by rw[a1u];omega) (by rw[a1u];omega) k (by rw[a1u];omega)).2;rw[a1u] at e2;have d:=c0n (.mk 4 [] 0 [u,v]) (c2q (b5u fr n) [u,v] k).1 (fr.map .str) (d9h (b5u fr n) [u,v] k) (c0o _ [u,v] k) (by rw[a0x,a1u];omega) rfl (fun i x y hx hy=>(e3 i x y hx hy).1);rw[c7d] at d;have e4:(Ty.mk 4 [] 0 [u,v]).args.length=[u,v].length:=rfl;rw[e4,d3z] at d;rw[e];have f1:=e3 0 u _ rfl rfl;have f2:=e3 1 v _ rfl rfl;refine⟨d,.fn _ _ f1.2.1 f2.2.1,?_,by show (c2q (b5u fr n) [u,v] k).2≤_;omega⟩;show (Ty.mk 4 [] 0 [_,_]).sz=_
   rw[a0x,a1u,f1.2.2,f2.2.2]
  | all s x hs hx=>
   rw[a0x,a1o] at hn hb hk⊢;have e:(x.sz+1)*(fr.length+1)=x.sz*(fr.length+1)+(fr.length+1):=by rw[Nat.add_mul];omega
   obtain⟨h1,h2,h3⟩:=b5i (fun i=>a9c (k+i)) (fun i j h=>by have:=g0f _ _ h;omega) fr;rw[g6u];unfold c7f;generalize f1l (fun i=>a9c (k+i)) fr (fr.length+1) 0=i at h1 h2 h3⊢;obtain⟨c1,c2,_⟩:=c8w (k+i) (by omega);obtain⟨r1,g1,s1⟩:=c5d n x (by omega) hx (by omega) s (a9c (k+i)) c2 c1;obtain⟨r2,g2,s2,b2⟩:=ih (b1i n x s (a9c (k+i))) (by omega) g1 (by omega) (k+i+1) (by rw[s1];omega);rw[s1] at b2;refine⟨i4v (.mk 5 s 0 [x]) x _ _ fr k (k+i) _ rfl rfl hf (by omega) (by omega) h2 (fun j hj1 hj2=>by
    have:=h3 (j - k) (by omega)
    rwa[show k+(j - k)=j by omega] at this) (by omega) r1 r2,.all _ _ c1 g2,by rw[a0x,a1o,s2,s1],by show (b5u fr n _ _).2≤_;omega⟩
def d2g(t:Ty):Ty:=(b5u (a0m t [] []) t.sz t 0).1
theorem f0t(t:Ty)(hg:GT t)(hb:t.sz<20000):∃s,(∀f,3*(d2g t).sz≤f→prR f .pr (d2g t)=some s)∧den E 85 [tyV t] []=some (.str s,[]):=by
 have df:=a4l t (by omega);have hle:=a2o _ t (Nat.le_refl _) [] [];simp only[List.length_nil,Nat.zero_add] at hle;have hp:t.sz*((a0m t [] []).length+1)≤20000*20001:=Nat.mul_le_mul (by omega) (by omega);obtain⟨d,g,hs,_⟩:=e3v (a0m t [] []) (by omega) _ t (Nat.le_refl _) hg (by omega) 0 (by omega);obtain⟨s,_,hp⟩:=h4m g (by omega);refine⟨s,hp,?_⟩;have dp:=e5z _ _ s (by omega) (hp _ (Nat.le_refl _));generalize (b5u (a0m t [] []) t.sz t 0).1=y at d dp;generalize (b5u (a0m t [] []) t.sz t 0).2=k' at d;rw[a0d i3t,i7d];rw[a0a] at d df dp⊢;rw[a0a,show ((0:Nat):Int)=0 from rfl] at d;simp only[go_sem,Tryz.f85,df,d,dp]
theorem d5r(t:Ty)(ys:List Ty)(a:List UInt8)(u:Ty)(hl:ys.length=t.args.length)(hb:t.sz<1000000)
 (hc:∀(i:Nat) (x y:Ty),t.args[i]? =some x→ys[i]? =some y→den E 102 [tyV x,.ptr (.par 0) 0,.ptr (.par 1) 0] [[.str a],[.int .i64 u.kind,.str u.name,.int .i64 u.n,.slice (a3a u.args)]]=some (tyV y,[[.str a],[.int .i64 u.kind,.str u.name,.int .i64 u.n,.slice (a3a u.args)]])):
 den E 101 [tyV t,.func 102 [] [.ptr (.par 0) 0,.ptr (.par 1) 0]] [[.str a],[.int .i64 u.kind,.str u.name,.int .i64 u.n,.slice (a3a u.args)]]=some (tyV (.mk t.kind t.name t.n ys),[[.str a],[.int .i64 u.kind,.str u.name,.int .i64 u.n,.slice (a3a u.args)]]):=by
 rw[a0d c5h,c5v];have hal:=a6h t;have rl:=a2m t.args;have n0:=b5v t.args.length
 by_cases h0:t.args=[]
 · have hy:ys=[]:=List.eq_nil_of_length_eq_zero (by rw[hl,h0];rfl);subst hy;rw[a4n,a0a];rw[h0] at n0;simp only[go_sem,Tryz.f101,h0,a0h]
 · have h0':¬t.args.length=0:=fun e=>h0 (List.eq_nil_of_length_eq_zero e);rw[decide_eq_false h0'] at n0;rw[a4n,a0a];obtain⟨n,hn⟩:∃n,n=t.args.length:=⟨_,rfl⟩
   rw[←hn] at hl n0 rl;have l1:((n:Int)≤1073741824)=True:=by simp;omega
   have hz:∀m,List.map a3n (List.map (a4g m) (c9i n [.int .i64 0,.str [],.int .i64 0,.own 25 0 []]))=a4w ys n 0:=fun m=>b7p ys n m;obtain⟨fin,hfin⟩:∃fin,fin=(some (.agg [.int .i64 t.kind,.str t.name,.int .i64 t.n,.slice (a3a ys)],[[.str a],[.int .i64 u.kind,.str u.name,.int .i64 u.n,.slice (a3a u.args)]]):Option (AVal×a3e)):=⟨_,rfl⟩
   try rw[←hn] at hfin
   try rw[←hn]
   rw[←hfin];simp only[go_sem,Tryz.f101,rl,n0,a0c,a0j,l1];refine a4j (fun i=>⟨[(1,.func 102 [] [.ptr (.par 0) 0,.ptr (.par 1) 0]),(2,.ptr (.loc 2) 0),(4,.ptr (.loc 4) 0),(5,.ptr (.loc 16) (a2s+n)),(18,.slice (a3a t.args)),(19,.int .i64 n),(20,.int .i64 i)],[[.str a],[.int .i64 u.kind,.str u.name,.int .i64 u.n,.slice (a3a u.args)]],[(2,tyC t),(4,zC),(16,a4w ys n i)],1⟩) n ?_ ?_ ?_
   · simp only[go_sem,hz,a6b,tyC,zC]
   · intro i hi h;have hia:i<t.args.length:=by omega
     have hiy:i<ys.length:=by omega
     obtain⟨x,hx⟩:=a7p hia;obtain⟨y,hy⟩:=a7p hiy;have d:=hc i x y hx hy;have hxs:=a2p (List.mem_of_getElem? hx);have hsz:=a3g t;have w1:IntKind.i64.wrap ((i:Int)+1)=((i+1:Nat):Int):=a1e (i+1) (by omega);have i1:((i:Int)<(n:Int))=True:=by simp;omega
     have i2:(i*4<a2s)=True:=by rw[a9a];simp;omega
     have cl:(a4w ys n i).length=n*4:=a8i hl (by omega);have i3:(i*4+4≤n*4)=True:=by simp;omega
     have hput:=b7o hl hy;rw[a0a,a0a] at d;simp only[go_sem,a0c,a0j,a6v,hx,a0a,tyC,zC,d,i1,i2,cl,i3];refine h _ ?_;simp only[go_sem,w1,hput,b4c,a6b,tyC,zC]
   · have cl:(a4w ys n n).length=n*4:=a8i hl (Nat.le_refl _);have ce:=b7q hl;have ch:=b1p ys;rw[hl] at ch;rw[ce] at cl;simp only[go_sem,a0g,Nat.lt_irrefl,true_or,tyC,zC,ce,cl,b3c,b6b,ch,hfin]
theorem d5q(t:Ty)(ys:List Ty)(u:Ty)(fr:List (List UInt8))(m:Int)(hl:ys.length=t.args.length)(hb:t.sz<1000000)
 (hc:∀(i:Nat) (x y:Ty),t.args[i]? =some x→ys[i]? =some y→den E 261 [tyV x,.ptr (.par 0) 0,.ptr (.par 1) 0,.ptr (.par 2) 0] [[.int .i64 u.kind,.str u.name,.int .i64 u.n,.slice (a3a u.args)],[.slice (fr.map .str)],[.func 245 [] [.ptr (.par 3) 0]],[.int .i64 m]]=some (tyV y,[[.int .i64 u.kind,.str u.name,.int .i64 u.n,.slice (a3a u.args)],[.slice (fr.map .str)],[.func 245 [] [.ptr (.par 3) 0]],[.int .i64 m]])):
 den E 101 [tyV t,.func 261 [] [.ptr (.par 0) 0,.ptr (.par 1) 0,.ptr (.par 2) 0]] [[.int .i64 u.kind,.str u.name,.int .i64 u.n,.slice (a3a u.args)],[.slice (fr.map .str)],[.func 245 [] [.ptr (.par 3) 0]],[.int .i64 m]]=some (tyV (.mk t.kind t.name t.n ys),[[.int .i64 u.kind,.str u.name,.int .i64 u.n,.slice (a3a u.args)],[.slice (fr.map .str)],[.func 245 [] [.ptr (.par 3) 0]],[.int .i64 m]]):=by
 rw[a0d c5h,c5v];have hal:=a6h t;have rl:=a2m t.args;have n0:=b5v t.args.length
 by_cases h0:t.args=[]
 · have hy:ys=[]:=List.eq_nil_of_length_eq_zero (by rw[hl,h0];rfl);subst hy;rw[a4n,a0a];rw[h0] at n0;simp only[go_sem,Tryz.f101,h0,a0h]
 · have h0':¬t.args.length=0:=fun e=>h0 (List.eq_nil_of_length_eq_zero e);rw[decide_eq_false h0'] at n0;rw[a4n,a0a];obtain⟨n,hn⟩:∃n,n=t.args.length:=⟨_,rfl⟩
   rw[←hn] at hl n0 rl;have l1:((n:Int)≤1073741824)=True:=by simp;omega
   have hz:∀m,List.map a3n (List.map (a4g m) (c9i n [.int .i64 0,.str [],.int .i64 0,.own 25 0 []]))=a4w ys n 0:=fun m=>b7p ys n m;obtain⟨fin,hfin⟩:∃fin,fin=(some (.agg [.int .i64 t.kind,.str t.name,.int .i64 t.n,.slice (a3a ys)],[[.int .i64 u.kind,.str u.name,.int .i64 u.n,.slice (a3a u.args)],[.slice (fr.map .str)],[.func 245 [] [.ptr (.par 3) 0]],[.int .i64 m]]):Option (AVal×a3e)):=⟨_,rfl⟩
   try rw[←hn] at hfin
   try rw[←hn]
   rw[←hfin];simp only[go_sem,Tryz.f101,rl,n0,a0c,a0j,l1];refine a4j (fun i=>⟨[(1,.func 261 [] [.ptr (.par 0) 0,.ptr (.par 1) 0,.ptr (.par 2) 0]),(2,.ptr (.loc 2) 0),(4,.ptr (.loc 4) 0),(5,.ptr (.loc 16) (a2s+n)),(18,.slice (a3a t.args)),(19,.int .i64 n),(20,.int .i64 i)],[[.int .i64 u.kind,.str u.name,.int .i64 u.n,.slice (a3a u.args)],[.slice (fr.map .str)],[.func 245 [] [.ptr (.par 3) 0]],[.int .i64 m]],[(2,tyC t),(4,zC),(16,a4w ys n i)],1⟩) n ?_ ?_ ?_
   · simp only[go_sem,hz,a6b,tyC,zC]
   · intro i hi h;have hia:i<t.args.length:=by omega
     have hiy:i<ys.length:=by omega
     obtain⟨x,hx⟩:=a7p hia;obtain⟨y,hy⟩:=a7p hiy;have d:=hc i x y hx hy;have hxs:=a2p (List.mem_of_getElem? hx);have hsz:=a3g t;have w1:IntKind.i64.wrap ((i:Int)+1)=((i+1:Nat):Int):=a1e (i+1) (by omega);have i1:((i:Int)<(n:Int))=True:=by simp;omega
     have i2:(i*4<a2s)=True:=by rw[a9a];simp;omega
     have cl:(a4w ys n i).length=n*4:=a8i hl (by omega);have i3:(i*4+4≤n*4)=True:=by simp;omega
     have hput:=b7o hl hy;rw[a0a,a0a] at d;simp only[go_sem,a0c,a0j,a6v,hx,a0a,tyC,zC,d,i1,i2,cl,i3];refine h _ ?_;simp only[go_sem,w1,hput,b4c,a6b,tyC,zC]
   · have cl:(a4w ys n n).length=n*4:=a8i hl (Nat.le_refl _);have ce:=b7q hl;have ch:=b1p ys;rw[hl] at ch;rw[ce] at cl;simp only[go_sem,a0g,Nat.lt_irrefl,true_or,tyC,zC,ce,cl,b3c,b6b,ch,hfin]
theorem b5y(k:Int)(s:List UInt8)(n:Int)(a:List Ty):(Ty.mk k s n a).kind=k:=rfl
theorem b5w(k:Int)(s:List UInt8)(n:Int)(a:List Ty):(Ty.mk k s n a).name=s:=rfl
theorem h4u(k:Int)(s:List UInt8)(n:Int)(a:List Ty):(Ty.mk k s n a).n=n:=rfl
theorem c8u(a b c:List (List UInt8))(h:a.length+b.length+c.length≤1000000):den E 99 [.slice [.slice (a.map .str),.slice (b.map .str),.slice (c.map .str)]] []=some (.slice ((a++(b++c)).map .str),[]):=by
 have hs:∀l:List (List UInt8),d2x (l.map .str)=some (l.map ba):=by
  intro l
  induction l with
  | nil=>rfl
  | cons x l ih=>rw[List.map_cons,d2x,ih];rfl
 have hb:∀l:List (List UInt8),(l.map ba).map e6c=l.map .str:=by
  intro l
  induction l with
  | nil=>rfl
  | cons x l ih=>rw[List.map_cons,List.map_cons,List.map_cons,ih];rfl
 rw[a9r i3l];unfold b4a;simp only[c0r,hs,Option.bind_some,Option.map_some];rw[if_pos (by simp;omega)];simp only[List.flatten_cons,List.flatten_nil,List.append_nil,List.map_append,hb]
def a8n:Nat→Ty→List UInt8→Ty→Ty
 | 0,t,_,_=>t
 | n+1,.mk k s m l,a,u=>
  if k==5&&s==a then .mk k s m l
  else if k==1&&s==a then u
  else if k==5&&(a0m u [] []).contains s then (match l with
   | [x]=>.mk 5 (a5p s (a0m u [] []++(a0m x [] []++[s,a]))) 0 [a8n n (b1i n x s (a5p s (a0m u [] []++(a0m x [] []++[s,a])))) a u]
   | _=>.mk k s m l)
  else .mk k s m (l.map fun x=>a8n n x a u)
theorem e3a{x y u:Ty}{a:List UInt8}(h:den E 40 [tyV x,.str a,tyV u] []=some (tyV y,[])):
 den E 102 [tyV x,.ptr (.par 0) 0,.ptr (.par 1) 0] [[.str a],[.int .i64 u.kind,.str u.name,.int .i64 u.n,.slice (a3a u.args)]]=some (tyV y,[[.str a],[.int .i64 u.kind,.str u.name,.int .i64 u.n,.slice (a3a u.args)]]):=by
 rw[a0d g6l,h3r];rw[a0a,a0a,a0a] at h;rw[a0a,a0a];simp only[go_sem,Tryz.f102,h]
theorem b5q(t:Ty)(ys:List Ty)(a:List UInt8)(u:Ty)(hl:ys.length=t.args.length)(hb:t.sz<1000000)(hu:u.sz<1000000)
 (hc:∀(i:Nat) (x y:Ty),t.args[i]? =some x→ys[i]? =some y→den E 40 [tyV x,.str a,tyV u] []=some (tyV y,[]))
 (h1:(t.kind==5&&t.name==a)=false) (h2:(t.kind==1&&t.name==a)=false) (h3:(t.kind==5&&(a0m u [] []).contains t.name)=false):
 den E 40 [tyV t,.str a,tyV u] []=some (tyV (.mk t.kind t.name t.n ys),[]):=by
 have d:=d5r t ys a u hl hb fun i x y hx hy=>e3a (hc i x y hx hy);have df:=a4l u hu;have hle:=a2o _ u (Nat.le_refl _) [] [];simp only[List.length_nil,Nat.zero_add] at hle;have dc:=a3q (a0m u [] []) t.name (by omega);rw[a0d d3p,d5c];rw[a0a] at df;rw[a4n,a0a] at d⊢;rw[a0a u];cases k5:t.kind==5<;>cases na:t.name==a<;>cases k1:t.kind==1<;>simp only[k1,k5,na,Bool.and_true,Bool.and_false,Bool.true_and,Bool.false_and,Bool.true_eq_false] at h1 h2 h3<;>
 (try rw[h3] at dc)<;>
 simp only[go_sem,Tryz.f40,k1,k5,na,df,dc,d]
theorem g2w(t:Ty)(a:List UInt8)(u:Ty)(h1:(t.kind==5)=true)(h2:(t.name==a)=true):den E 40 [tyV t,.str a,tyV u] []=some (tyV t,[]):=by
 rw[a0d d3p,d5c,a0a,a0a u];simp only[go_sem,Tryz.f40,h1,h2]
theorem i3i(t:Ty)(a:List UInt8)(u:Ty)(h0:(t.kind==5)=false)(h1:(t.kind==1)=true)(h2:(t.name==a)=true):den E 40 [tyV t,.str a,tyV u] []=some (tyV u,[]):=by
 rw[a0d d3p,d5c,a0a,a0a u];simp only[go_sem,Tryz.f40,h0,h1,h2]
theorem f3s(t x x' y:Ty)(a c:List UInt8)(u:Ty)(hx:t.args=[x])(h0:(t.kind==1)=false)(h1:(t.kind==5)=true)(h2:(t.name==a)=false)(h3:(a0m u [] []).contains t.name=true)(hb:t.sz<300000)(hu:u.sz<300000)(hs:x'.sz=x.sz)
 (hd:den E 98 [.str t.name,.slice ((a0m u [] []++(a0m x [] []++[t.name,a])).map .str)] []=some (.str c,[])) (r1:den E 100 [tyV x,.str t.name,.str c] []=some (tyV x',[])) (r2:den E 40 [tyV x',.str a,tyV u] []=some (tyV y,[])):
 den E 40 [tyV t,.str a,tyV u] []=some (tyV (.mk 5 c 0 [y]),[]):=by
 have hsz:=a3g t;rw[hx,a1o] at hsz;have d:=d5r (.mk 5 c 0 [x']) [y] a u rfl (by rw[a0x,a1o];omega) fun i u v hu hv=>e3a (by
  cases i with
  | zero=>simp[Ty.args] at hu hv;subst hu hv;exact r2
  | succ i=>simp[Ty.args] at hu)
 have df:=a4l x (by omega);have dfu:=a4l u (by omega);have hle:=a2o _ x (Nat.le_refl _) [] [];have hle2:=a2o _ u (Nat.le_refl _) [] [];simp only[List.length_nil,Nat.zero_add] at hle hle2;have dc:=a3q (a0m u [] []) t.name (by omega);rw[h3] at dc;have dk:=c8u (a0m u [] []) (a0m x [] []) [t.name,a] (by simp;omega);rw[a0d d3p,d5c];simp only[a4n,a1c,a0h,b5y,b5w,h4u] at d;simp only[List.map_cons,List.map_nil] at dk;rw[a4n,a1c,a0h];rw[a0a] at r1 r2 d df⊢;rw[a0a] at dfu;rw[a0a u,a0a y] at r2;rw[a0a y] at d⊢;rw[a0a x'] at r1;rw[hx,a1c,a0h,a0a x,a0a u];simp only[go_sem,Tryz.f40,h0,h1,h2,Int.le_refl,Int.toNat_zero,df,dfu,dc,dk,hd,r1,d]
theorem f2l{c:Nat}:∀ {l m:List Ty},m.length=l.length→(∀(i:Nat) (x y:Ty),l[i]? =some x→m[i]? =some y→y.sz≤x.sz*c)→Ty.szs m≤Ty.szs l*c
 | [],[],_,_=>Nat.zero_le _
 | a::l,b::m,h,hs=>by
  rw[a6w,a6w,Nat.add_mul];exact Nat.add_le_add (hs 0 a b rfl rfl) (f2l (by simpa using h) fun i x y hx hy=>hs (i+1) x y (by simpa using hx) (by simpa using hy))
 | [],b::m,h,_=>by simp at h
 | a::l,[],h,_=>by simp at h
theorem d3m(n:Nat)(s a:List UInt8)(u:Ty):a8n (n+1) (.mk 1 s 0 []) a u=if s==a then u else .mk 1 s 0 []:=by
 unfold a8n;cases h:s==a<;>simp
theorem d3n(n:Nat)(s:List UInt8)(x:Ty)(a:List UInt8)(u:Ty):a8n (n+1) (.mk 5 s 0 [x]) a u=if s==a then .mk 5 s 0 [x] else if (a0m u [] []).contains s then .mk 5 (a5p s (a0m u [] []++(a0m x [] []++[s,a]))) 0 [a8n n (b1i n x s (a5p s (a0m u [] []++(a0m x [] []++[s,a])))) a u] else .mk 5 s 0 [a8n n x a u]:=by
 rw[a8n];cases h:s==a<;>cases h2:(a0m u [] []).contains s<;>simp
theorem c0d(u:Ty)(hu:GT u)(hub:u.sz<300000)(hun:∀s,(a0m u [] []).contains s=true→s≠[])(a:List UInt8):∀(n:Nat) (t:Ty),t.sz≤n→GT t→t.sz<300000→den E 40 [tyV t,.str a,tyV u] []=some (tyV (a8n n t a u),[])∧GT (a8n n t a u)∧(a8n n t a u).sz≤t.sz*u.sz:=by
 intro n;have hu1:1≤u.sz:=by have:=a3g u;omega
 have lift:∀k:Nat,k≤k*u.sz:=fun k=>Nat.le_mul_of_pos_right k hu1
 induction n with
 | zero=>intro t h;have:=a3g t;omega
 | succ n ih=>
  intro t hn hg hb;have hsz:=a3g t;cases hg with
  | var s hs=>
   rw[d3m];cases h:s==a
   · exact⟨b5q (.mk 1 s 0 []) [] a u rfl (by omega) (by omega) (fun i x y hx=>by simp[Ty.args] at hx) rfl (by simpa [Ty.kind,Ty.name] using h) rfl,.var s hs,lift _⟩
   · refine⟨i3i (.mk 1 s 0 []) a u rfl rfl h,hu,?_⟩;show u.sz≤(Ty.mk 1 s 0 []).sz*u.sz
     rw[a0x];simp[Ty.szs]
  | unk m h1 h2=>exact⟨b5q (.mk 2 [] m []) [] a u rfl (by omega) (by omega) (fun i x y hx=>by simp[Ty.args] at hx) rfl rfl rfl,.unk m h1 h2,lift _⟩
  | con s l hs hl=>
   rw[a0x] at hn hb;have e:a8n (n+1) (.mk 3 s 0 l) a u=.mk 3 s 0 (l.map fun x=>a8n n x a u):=rfl;rw[e];have h2:∀(i:Nat) (x y:Ty),l[i]? =some x→(l.map fun x=>a8n n x a u)[i]? =some y→den E 40 [tyV x,.str a,tyV u] []=some (tyV y,[])∧GT y∧y.sz≤x.sz*u.sz:=by
    intro i x y hx hy;simp[hx] at hy;subst hy;have:=a2p (List.mem_of_getElem? hx);exact ih x (by omega) (hl x (List.mem_of_getElem? hx)) (by omega)
   refine⟨b5q (.mk 3 s 0 l) _ a u (by simp[Ty.args]) (by rw[a0x];omega) (by omega) (fun i x y hx hy=>(h2 i x y hx hy).1) rfl rfl rfl,.con s _ hs fun y hy=>?_,?_⟩
   · obtain⟨x,hx,rfl⟩:=List.mem_map.1 hy;obtain⟨i,hi⟩:=c7o hx;exact (h2 i x _ hi (by simp[hi])).2.1
   · rw[a0x,a0x,Nat.add_mul,Nat.one_mul];have:=f2l (c:=u.sz) (m:=l.map fun x=>a8n n x a u) (l:=l) (by simp) fun i x y hx hy=>(h2 i x y hx hy).2.2;omega
  | fn v w hv hw=>
   rw[a0x,a1u] at hn hb;have e:a8n (n+1) (.mk 4 [] 0 [v,w]) a u=.mk 4 [] 0 [a8n n v a u,a8n n w a u]:=rfl;rw[e];obtain⟨d1,g1,s1⟩:=ih v (by omega) hv (by omega);obtain⟨d2,g2,s2⟩:=ih w (by omega) hw (by omega);refine⟨b5q (.mk 4 [] 0 [v,w]) [_,_] a u rfl (by rw[a0x,a1u];omega) (by omega) (fun i x y hx hy=>?_) rfl rfl rfl,.fn _ _ g1 g2,?_⟩
   · match i with
     | 0=>simp[Ty.args] at hx hy;subst hx hy;exact d1
     | 1=>simp[Ty.args] at hx hy;subst hx hy;exact d2
     | i+2=>simp[Ty.args] at hx
   · rw[a0x,a0x,a1u,a1u,Nat.add_mul,Nat.add_mul,Nat.one_mul];omega
  | all s x hs hx=>
   rw[a0x,a1o] at hn hb;rw[d3n];cases ha:s==a
   · cases hq:(a0m u [] []).contains s
     · obtain⟨d1,g1,s1⟩:=ih x (by omega) hx (by omega);refine⟨b5q (.mk 5 s 0 [x]) [_] a u rfl (by rw[a0x,a1o];omega) (by omega) (fun i p q hp hq=>?_) (by simpa [Ty.kind,Ty.name] using ha) rfl (by simpa [Ty.kind,Ty.name] using hq),.all s _ hs g1,?_⟩
       · match i with
         | 0=>simp[Ty.args] at hp hq;subst hp hq;exact d1
         | i+1=>simp[Ty.args] at hp
       · simp only[Bool.false_eq_true,if_false];rw[a0x,a0x,a1o,a1o,Nat.add_mul,Nat.one_mul];omega
     · have hle:=a2o _ x (Nat.le_refl _) [] [];have hle2:=a2o _ u (Nat.le_refl _) [] [];simp only[List.length_nil,Nat.zero_add] at hle hle2;have hsne:s≠[]:=hun s hq;have hsl:s.length≤1000:=by omega
       have hd:=c3b s (a0m u [] []++(a0m x [] []++[s,a])) hsne hsl (by simp;omega);obtain⟨c0,c1⟩:=b3w s (a0m u [] []++(a0m x [] []++[s,a])) (by simp;omega);obtain⟨r1,g1,s1⟩:=c5d n x (by omega) hx (by omega) s (a5p s (a0m u [] []++(a0m x [] []++[s,a]))) c0 c1;obtain⟨r2,g2,s2⟩:=ih (b1i n x s (a5p s (a0m u [] []++(a0m x [] []++[s,a])))) (by omega) g1 (by omega);simp only[Bool.false_eq_true,if_false,if_true];refine⟨f3s (.mk 5 s 0 [x]) x _ _ a _ u rfl rfl rfl ha hq (by rw[a0x,a1o];omega) hub s1 hd r1 r2,.all _ _ c1 g2,?_⟩;rw[s1] at s2;rw[a0x,a0x,a1o,a1o,Nat.add_mul,Nat.one_mul];omega
   · refine⟨g2w (.mk 5 s 0 [x]) a u rfl ha,.all s x hs hx,?_⟩;simp only[if_true];exact lift _
def a5l(c:UInt8)(i:Nat):List UInt8:=c::Lib.itoa (i:Int)
theorem b6k(c:UInt8)(i j:Nat)(h:a5l c i=a5l c j):i=j:=c5l i j (by unfold a5l at h;injection h)
theorem a8z(i:Nat)(c:UInt8)(h:i<1000000000):(a5l c i).length≤16∧a5l c i≠[]∧1+(Lib.itoa (i:Int)).length≤a1y:=by
 have:=b0t 8 i (by
  have e:(10:Nat) ^ (8+1)=1000000000:=by decide
  omega)
 unfold a5l a1y;exact⟨by simp;omega,by simp,by omega⟩
def a5b(c:UInt8)(but:List (List UInt8))(k:Nat):Nat:=k+f1l (fun i=>a5l c (k+i)) but (but.length+1) 0
def a3h(c:UInt8)(but:List (List UInt8)):Nat→Ty→Nat→List (List UInt8)×Ty
 | 0,t,_=>([],t)
 | n+1,.mk k s m l,i=>
  if k==5 then (match l with
   | [x]=>(a5l c (a5b c but i)::(a3h c but n (a8n x.sz x s (.mk 1 (a5l c (a5b c but i)) 0 [])) (a5b c but i+1)).1,(a3h c but n (a8n x.sz x s (.mk 1 (a5l c (a5b c but i)) 0 [])) (a5b c but i+1)).2)
   | _=>([],.mk k s m l))
  else ([],.mk k s m l)
theorem b3a(c:UInt8)(but:List (List UInt8))(n:Nat)(s:List UInt8)(x:Ty)(i:Nat):a3h c but (n+1) (.mk 5 s 0 [x]) i=(a5l c (a5b c but i)::(a3h c but n (a8n x.sz x s (.mk 1 (a5l c (a5b c but i)) 0 [])) (a5b c but i+1)).1,(a3h c but n (a8n x.sz x s (.mk 1 (a5l c (a5b c but i)) 0 [])) (a5b c but i+1)).2):=rfl
theorem c4q(s:List UInt8):a0m (.mk 1 s 0 []) [] []=[s]:=rfl
theorem c5z(s:List UInt8):(Ty.mk 1 s 0 []).sz=1:=rfl
theorem b7b{x:Ty}(hx:GT x)(hb:x.sz<300000)(a s:List UInt8)(hs:s≠[])(hl:s.length≤16):den E 40 [tyV x,.str a,tyV (.mk 1 s 0 [])] []=some (tyV (a8n x.sz x a (.mk 1 s 0 [])),[])∧GT (a8n x.sz x a (.mk 1 s 0 []))∧(a8n x.sz x a (.mk 1 s 0 [])).sz≤x.sz:=by
 have:=c0d (.mk 1 s 0 []) (.var s hl) (by rw[c5z];omega) (fun s' h=>by
  rw[c4q] at h;have:s'=s:=by simpa using h
  rw[this];exact hs) a x.sz x (Nat.le_refl _) hx hb
 rw[c5z,Nat.mul_one] at this;exact this
theorem b2z(c:UInt8)(but:List (List UInt8))(n:Nat)(t:Ty)(i:Nat)(h:(t.kind==5)=false):a3h c but n t i=([],t):=by
 cases n with
 | zero=>rfl
 | succ n=>cases t;simp only[Ty.kind] at h;simp only[a3h,h];rfl
theorem GT.all_inv{t:Ty}(h:GT t)(hk:(t.kind==5)=true):∃s x,t=.mk 5 s 0 [x]∧s.length≤16∧GT x:=by
 cases h with
 | all s x hs hx=>exact⟨s,x,rfl,hs,hx⟩
 | _=>simp[Ty.kind] at hk
theorem b0x(c:UInt8)(but:List (List UInt8))(k:Nat):k≤a5b c but k∧a5b c but k≤k+but.length∧but.contains (a5l c (a5b c but k))=false∧∀j,k≤j→j<a5b c but k→but.contains (a5l c j)=true:=by
 obtain⟨h1,h2,h3⟩:=b5i (fun i=>a5l c (k+i)) (fun i j h=>by have:=b6k c _ _ h;omega) but;unfold a5b;exact⟨by omega,by omega,h2,fun j hj1 hj2=>by
  have:=h3 (j - k) (by omega)
  rwa[show k+(j - k)=j by omega] at this⟩
structure PeelS where
 ns:List (List UInt8)
 n:Nat
 t:Ty
 i:Nat
theorem a9l(c:UInt8)(but:List (List UInt8)):∀(n:Nat) (t:Ty) (i:Nat),t.sz≤n→GT t→t.sz<300000→i+n*(but.length+1)≤900000000→GT (a3h c but n t i).2∧(a3h c but n t i).2.sz≤t.sz∧(a3h c but n t i).1.length≤t.sz∧∀s∈(a3h c but n t i).1,s≠[]∧s.length≤16:=by
 intro n
 induction n with
 | zero=>intro t i h;have:=a3g t;omega
 | succ n ih=>
  intro t i hn hg hb hi;cases hk:t.kind==5
  · rw[b2z c but _ t i hk];exact⟨hg,Nat.le_refl _,Nat.zero_le _,fun s hs=>by simp at hs⟩
  · obtain⟨s,x,rfl,hs,hx⟩:=hg.all_inv hk;rw[a0x,a1o] at hn hb;rw[b3a];obtain⟨q1,q2,_,_⟩:=b0x c but i;have e:(n+1)*(but.length+1)=n*(but.length+1)+(but.length+1):=by rw[Nat.add_mul];omega
    obtain⟨c1,c2,_⟩:=a8z (a5b c but i) c (by omega);obtain⟨_,g,hsz⟩:=b7b hx (by omega) s (a5l c (a5b c but i)) c2 c1;obtain⟨r1,r2,r3,r4⟩:=ih _ (a5b c but i+1) (by omega) g (by omega) (by omega);refine⟨r1,?_,?_,fun s' hs'=>?_⟩
    · rw[a0x,a1o];simp only;omega
    · rw[a0x,a1o];simp only[List.length_cons];omega
    · rcases List.mem_cons.1 hs' with rfl|hs'
      · exact⟨c2,c1⟩
      · exact r4 s' hs'
theorem b7f(c:UInt8)(but:List (List UInt8))(hbut:but.length<1000000)(t0:Ty)(hg0:GT t0)(hb0:t0.sz<300000)(hi0:t0.sz*(but.length+1)≤900000000):
 den E 103 [tyV t0,.str [c],.slice (but.map .str)] []=some (.tup [.slice ((a3h c but t0.sz t0 0).1.map .str),tyV (a3h c but t0.sz t0 0).2],[]):=by
 rw[a0d g6k,h3q,a0a t0];simp only[go_sem,Tryz.f103];refine a0p (fun a:PeelS=>a.t.sz≤a.n∧GT a.t∧a.t.sz<300000∧a.i+a.n*(but.length+1)≤900000000∧a.ns.length+a.n≤t0.sz)
  (fun a=>⟨[(1,.str [c]),(2,.slice (but.map .str)),(3,.ptr (.loc 3) 0),(6,.own 9 0 (a.ns.map .str)),(7,.ptr (.loc 7) 0),(8,.int .i64 a.i)],[],[(3,[.int .i64 a.t.kind,.str a.t.name,.int .i64 a.t.n,.slice (a3a a.t.args)]),(7,[.int .i64 0,.str [],.int .i64 0,.own 25 0 []])],1⟩)
  (fun a=>some (.tup [.slice ((a.ns++(a3h c but a.n a.t a.i).1).map .str),tyV (a3h c but a.n a.t a.i).2],[])) (fun a=>a.n) ⟨[],t0.sz,t0,0⟩ ⟨Nat.le_refl _,hg0,hb0,by show 0+t0.sz*(but.length+1)≤900000000;omega,by simp⟩ ?_ ?_
 · simp only[go_sem]
 · rintro⟨ns,n,t,i⟩ ⟨hn,hg,hb,hi,hl⟩ h;simp only at hn hg hb hi hl⊢;cases hk:t.kind==5
   · rw[b2z c but n t i hk,List.append_nil,a0a t];simp only[go_sem,hk]
   · obtain⟨s,x,rfl,hs,hx⟩:=hg.all_inv hk;rw[a0x,a1o] at hn hb;obtain⟨m,rfl⟩:∃m,n=m+1:=⟨n - 1,by omega⟩
     rw[b3a];obtain⟨q1,q2,q3,q4⟩:=b0x c but i;have e:(m+1)*(but.length+1)=m*(but.length+1)+(but.length+1):=by rw[Nat.add_mul];omega
     obtain⟨c1,c2,_⟩:=a8z (a5b c but i) c (by omega);obtain⟨dp,g,hsz⟩:=b7b hx (by omega) s (a5l c (a5b c but i)) c2 c1;generalize hN:a5b c but i=N at *;have m0:=(a8z i c (by omega)).2.2;have d0:=b0a i (by omega);have w0:IntKind.i64.wrap ((i:Int)+1)=((i+1:Nat):Int):=a1e (i+1) (by omega);simp only[Ty.kind,Ty.name,Ty.n,Ty.args,a1c,a0h];rw[a4n,a0h] at dp;rw[a0a x] at dp⊢;rw[a0a (a8n _ _ _ _)] at dp;obtain⟨fin,hfin⟩:∃fin,fin=(some (.tup [.slice ((ns++(a5l c N::(a3h c but m (a8n x.sz x s (.mk 1 (a5l c N) 0 [])) (N+1)).1)).map .str),tyV (a3h c but m (a8n x.sz x s (.mk 1 (a5l c N) 0 [])) (N+1)).2],[]):Option (AVal×a3e)):=⟨_,rfl⟩
     rw[←hfin];simp only[go_sem,d0,m0,w0];refine a0p (fun j:Nat=>i≤j∧j≤N) (fun j=>⟨[(1,.str [c]),(2,.slice (but.map .str)),(3,.ptr (.loc 3) 0),(6,.own 9 0 (ns.map .str)),(7,.ptr (.loc 7) 0),(8,.int .i64 ((j+1:Nat):Int)),(9,.str (a5l c j))],[],
      [(3,[.int .i64 5,.str s,.int .i64 0,.slice [.agg [.int .i64 x.kind,.str x.name,.int .i64 x.n,.slice (a3a x.args)]]]),(7,[.int .i64 0,.str [],.int .i64 0,.own 25 0 []])],1⟩) (fun _=>fin) (fun j=>N - j) i ⟨Nat.le_refl _,q1⟩ ?_ ?_
     · simp only[go_sem,a5l]
     · intro j hj hh;have dc:=a3q but (a5l c j) hbut;obtain⟨p,hp⟩:∃p:Nat,p=j+1:=⟨_,rfl⟩
       simp only[←hp];have w1:IntKind.i64.wrap ((p:Int)+1)=((p+1:Nat):Int):=a1e (p+1) (by omega)
       by_cases hlt:j<N
       · rw[q4 j hj.1 hlt] at dc;have d1:=b0a p (by omega);have m1:=(a8z p c (by omega)).2.2;simp only[go_sem,dc,w1,d1,m1];refine hh p _ ⟨by omega,by omega⟩ (by omega) ?_;simp only[go_sem,a5l]
       · have hje:j=N:=by omega
         subst hje;rw[q3] at dc;have a1:ns.length+1≤a0s:=by unfold a0s;omega
         simp only[go_sem,dc,List.length_map,a1,Int.le_refl,Int.toNat_zero,dp];rw[hfin];have:=h ⟨ns++[a5l c j],m,a8n x.sz x s (.mk 1 (a5l c j) 0 []),p⟩;rw[←hp];simp only[List.append_assoc,List.cons_append,List.nil_append] at this;refine this _ ⟨by omega,g,by omega,by omega,by simp;omega⟩ (by omega) ?_;simp only[go_sem,List.map_append]
def b4u:Nat→Ty→Int→Ty→Ty
 | 0,t,_,_=>t
 | n+1,.mk k s q l,m,u=>
  if k==2&&q==m then u
  else if k==5&&(a0m u [] []).contains s then (match l with
   | [x]=>.mk 5 (a5p s (a0m u [] []++(a0m x [] []++[s]))) 0 [b4u n (b1i n x s (a5p s (a0m u [] []++(a0m x [] []++[s])))) m u]
   | _=>.mk k s q l)
  else .mk k s q (l.map fun x=>b4u n x m u)
theorem c8b(x:Ty)(m:Int):den E 245 [tyV x,.ptr (.par 0) 0] [[.int .i64 m]]=some (.bool (x.kind==2&&x.n==m),[[.int .i64 m]]):=by
 rw[a0d g3k,h0r,a0a];cases h:x.kind==2<;>simp only[go_sem,Tryz.f245,h]
theorem f3u{x y u:Ty}{fr:List (List UInt8)}{m:Int}(h:den E 244 [tyV x,tyV u,.slice (fr.map .str),.func 245 [] [.ptr (.par 0) 0]] [[.int .i64 m]]=some (tyV y,[[.int .i64 m]])):
 den E 261 [tyV x,.ptr (.par 0) 0,.ptr (.par 1) 0,.ptr (.par 2) 0] [[.int .i64 u.kind,.str u.name,.int .i64 u.n,.slice (a3a u.args)],[.slice (fr.map .str)],[.func 245 [] [.ptr (.par 3) 0]],[.int .i64 m]]=some (tyV y,[[.int .i64 u.kind,.str u.name,.int .i64 u.n,.slice (a3a u.args)],[.slice (fr.map .str)],[.func 245 [] [.ptr (.par 3) 0]],[.int .i64 m]]):=by
 rw[a0d g3c,h0j];rw[a0a x,a0a u,a0a y] at h;rw[a0a x,a0a y];simp only[go_sem,Tryz.f261,h]
theorem c0e(t:Ty)(ys:List Ty)(u:Ty)(fr:List (List UInt8))(m:Int)(hl:ys.length=t.args.length)(hb:t.sz<1000000)(hf:fr.length<1000000)
 (hc:∀(i:Nat) (x y:Ty),t.args[i]? =some x→ys[i]? =some y→den E 244 [tyV x,tyV u,.slice (fr.map .str),.func 245 [] [.ptr (.par 0) 0]] [[.int .i64 m]]=some (tyV y,[[.int .i64 m]]))
 (h1:(t.kind==2&&t.n==m)=false) (h3:(t.kind==5&&fr.contains t.name)=false):
 den E 244 [tyV t,tyV u,.slice (fr.map .str),.func 245 [] [.ptr (.par 0) 0]] [[.int .i64 m]]=some (tyV (.mk t.kind t.name t.n ys),[[.int .i64 m]]):=by
 have d:=d5q t ys u fr m hl hb fun i x y hx hy=>f3u (hc i x y hx hy);have dl:=c8b t m;rw[h1] at dl;have dc:=a3q fr t.name hf;rw[a0d d3q,d5d];rw[a4n,a0a t] at d⊢;rw[a0a t] at dl;rw[a0a u];cases k5:t.kind==5<;>simp only[k5,Bool.true_and,Bool.false_and] at h3<;>
 (try rw[h3] at dc)<;>
 simp only[go_sem,Tryz.f244,k5,dl,dc,d]
theorem j3r(t:Ty)(u:Ty)(fr:List (List UInt8))(m:Int)(h1:(t.kind==2&&t.n==m)=true):
 den E 244 [tyV t,tyV u,.slice (fr.map .str),.func 245 [] [.ptr (.par 0) 0]] [[.int .i64 m]]=some (tyV u,[[.int .i64 m]]):=by
 have dl:=c8b t m;rw[h1] at dl;rw[a0d d3q,d5d];rw[a0a t] at dl⊢;rw[a0a u];simp only[go_sem,Tryz.f244,dl]
theorem g2y(t x x' y:Ty)(c:List UInt8)(u:Ty)(fr:List (List UInt8))(m:Int)(hx:t.args=[x])(h0:(t.kind==2)=false)(h1:(t.kind==5)=true)(h3:fr.contains t.name=true)(hb:t.sz<300000)(hf:fr.length<300000)(hs:x'.sz=x.sz)
 (hd:den E 98 [.str t.name,.slice ((fr++(a0m x [] []++[t.name])).map .str)] []=some (.str c,[])) (r1:den E 100 [tyV x,.str t.name,.str c] []=some (tyV x',[]))
 (r2:den E 244 [tyV x',tyV u,.slice (fr.map .str),.func 245 [] [.ptr (.par 0) 0]] [[.int .i64 m]]=some (tyV y,[[.int .i64 m]])):
 den E 244 [tyV t,tyV u,.slice (fr.map .str),.func 245 [] [.ptr (.par 0) 0]] [[.int .i64 m]]=some (tyV (.mk 5 c 0 [y]),[[.int .i64 m]]):=by
 have hsz:=a3g t;rw[hx,a1o] at hsz;have d:=d5q (.mk 5 c 0 [x']) [y] u fr m rfl (by rw[a0x,a1o];omega) fun i p q hp hq=>f3u (by
  cases i with
  | zero=>simp[Ty.args] at hp hq;subst hp hq;exact r2
  | succ i=>simp[Ty.args] at hp)
 have df:=a4l x (by omega);have hle:=a2o _ x (Nat.le_refl _) [] [];simp only[List.length_nil,Nat.zero_add] at hle;have dl:=c8b t m;rw[h0,Bool.false_and] at dl;have dc:=a3q fr t.name (by omega);rw[h3] at dc;have dk:=c8u fr (a0m x [] []) [t.name] (by simp;omega);rw[a0d d3q,d5d];simp only[a4n,a1c,a0h,b5y,b5w,h4u] at d;simp only[List.map_cons,List.map_nil] at dk;rw[a4n,a1c,a0h];rw[a0a t] at dl⊢;rw[a0a x] at r1 df;rw[a0a x'] at r1 d;rw[a0a y] at d⊢;rw[hx,a1c,a0h,a0a x] at dl⊢;rw[a0a u];simp only[go_sem,Tryz.f244,h1,dl,Int.le_refl,Int.toNat_zero,df,dc,dk,hd,r1,d]
theorem g8l(n:Nat)(q m:Int)(u:Ty):b4u (n+1) (.mk 2 [] q []) m u=if q==m then u else .mk 2 [] q []:=by
 unfold b4u;cases h:q==m<;>simp
theorem e4y(n:Nat)(s:List UInt8)(x:Ty)(m:Int)(u:Ty):b4u (n+1) (.mk 5 s 0 [x]) m u=if (a0m u [] []).contains s then .mk 5 (a5p s (a0m u [] []++(a0m x [] []++[s]))) 0 [b4u n (b1i n x s (a5p s (a0m u [] []++(a0m x [] []++[s])))) m u] else .mk 5 s 0 [b4u n x m u]:=by
 rw[b4u];cases h2:(a0m u [] []).contains s<;>simp
theorem e4x(u:Ty)(hu:GT u)(hub:u.sz<300000)(hun:∀s,(a0m u [] []).contains s=true→s≠[])(m:Int):∀(n:Nat) (t:Ty),t.sz≤n→GT t→t.sz<300000→
 den E 244 [tyV t,tyV u,.slice ((a0m u [] []).map .str),.func 245 [] [.ptr (.par 0) 0]] [[.int .i64 m]]=some (tyV (b4u n t m u),[[.int .i64 m]])∧GT (b4u n t m u)∧(b4u n t m u).sz≤t.sz*u.sz:=by
 intro n;have hu1:1≤u.sz:=by have:=a3g u;omega
 have lift:∀k:Nat,k≤k*u.sz:=fun k=>Nat.le_mul_of_pos_right k hu1;have hle2:=a2o _ u (Nat.le_refl _) [] [];simp only[List.length_nil,Nat.zero_add] at hle2
 induction n with
 | zero=>intro t h;have:=a3g t;omega
 | succ n ih=>
  intro t hn hg hb;have hsz:=a3g t;cases hg with
  | var s hs=>exact⟨c0e (.mk 1 s 0 []) [] u _ m rfl (by omega) (by omega) (fun i x y hx=>by simp[Ty.args] at hx) rfl rfl,.var s hs,lift _⟩
  | unk q h1 h2=>
   rw[g8l];cases h:q==m
   · exact⟨c0e (.mk 2 [] q []) [] u _ m rfl (by omega) (by omega) (fun i x y hx=>by simp[Ty.args] at hx) (by simpa [Ty.kind,Ty.n] using h) rfl,.unk q h1 h2,lift _⟩
   · refine⟨j3r (.mk 2 [] q []) u _ m (by simpa [Ty.kind,Ty.n] using h),hu,?_⟩;show u.sz≤(Ty.mk 2 [] q []).sz*u.sz
     rw[a0x];simp[Ty.szs]
  | con s l hs hl=>
   rw[a0x] at hn hb;have e:b4u (n+1) (.mk 3 s 0 l) m u=.mk 3 s 0 (l.map fun x=>b4u n x m u):=rfl;rw[e];have h2:∀(i:Nat) (x y:Ty),l[i]? =some x→(l.map fun x=>b4u n x m u)[i]? =some y→den E 244 [tyV x,tyV u,.slice ((a0m u [] []).map .str),.func 245 [] [.ptr (.par 0) 0]] [[.int .i64 m]]=some (tyV y,[[.int .i64 m]])∧GT y∧y.sz≤x.sz*u.sz:=by
    intro i x y hx hy;simp[hx] at hy;subst hy;have:=a2p (List.mem_of_getElem? hx);exact ih x (by omega) (hl x (List.mem_of_getElem? hx)) (by omega)
   refine⟨c0e (.mk 3 s 0 l) _ u _ m (by simp[Ty.args]) (by rw[a0x];omega) (by omega) (fun i x y hx hy=>(h2 i x y hx hy).1) rfl rfl,.con s _ hs fun y hy=>?_,?_⟩
   · obtain⟨x,hx,rfl⟩:=List.mem_map.1 hy;obtain⟨i,hi⟩:=c7o hx;exact (h2 i x _ hi (by simp[hi])).2.1
   · rw[a0x,a0x,Nat.add_mul,Nat.one_mul];have:=f2l (c:=u.sz) (m:=l.map fun x=>b4u n x m u) (l:=l) (by simp) fun i x y hx hy=>(h2 i x y hx hy).2.2;omega
  | fn v w hv hw=>
   rw[a0x,a1u] at hn hb;have e:b4u (n+1) (.mk 4 [] 0 [v,w]) m u=.mk 4 [] 0 [b4u n v m u,b4u n w m u]:=rfl;rw[e];obtain⟨d1,g1,s1⟩:=ih v (by omega) hv (by omega);obtain⟨d2,g2,s2⟩:=ih w (by omega) hw (by omega);refine⟨c0e (.mk 4 [] 0 [v,w]) [_,_] u _ m rfl (by rw[a0x,a1u];omega) (by omega) (fun i x y hx hy=>?_) rfl rfl,.fn _ _ g1 g2,?_⟩
   · match i with
     | 0=>simp[Ty.args] at hx hy;subst hx hy;exact d1
     | 1=>simp[Ty.args] at hx hy;subst hx hy;exact d2
     | i+2=>simp[Ty.args] at hx
   · rw[a0x,a0x,a1u,a1u,Nat.add_mul,Nat.add_mul,Nat.one_mul];omega
  | all s x hs hx=>
   rw[a0x,a1o] at hn hb;rw[e4y];cases hq:(a0m u [] []).contains s
   · obtain⟨d1,g1,s1⟩:=ih x (by omega) hx (by omega);refine⟨c0e (.mk 5 s 0 [x]) [_] u _ m rfl (by rw[a0x,a1o];omega) (by omega) (fun i p q hp hq=>?_) rfl (by simpa [Ty.kind,Ty.name] using hq),.all s _ hs g1,?_⟩
     · match i with
       | 0=>simp[Ty.args] at hp hq;subst hp hq;exact d1
       | i+1=>simp[Ty.args] at hp
     · simp only[Bool.false_eq_true,if_false];rw[a0x,a0x,a1o,a1o,Nat.add_mul,Nat.one_mul];omega
   · have hle:=a2o _ x (Nat.le_refl _) [] [];simp only[List.length_nil,Nat.zero_add] at hle;have hd:=c3b s (a0m u [] []++(a0m x [] []++[s])) (hun s hq) (by omega) (by simp;omega);obtain⟨c0,c1⟩:=b3w s (a0m u [] []++(a0m x [] []++[s])) (by simp;omega);obtain⟨r1,g1,s1⟩:=c5d n x (by omega) hx (by omega) s (a5p s (a0m u [] []++(a0m x [] []++[s]))) c0 c1;obtain⟨r2,g2,s2⟩:=ih (b1i n x s (a5p s (a0m u [] []++(a0m x [] []++[s])))) (by omega) g1 (by omega);simp only[if_true];refine⟨g2y (.mk 5 s 0 [x]) x _ _ _ u _ m rfl rfl rfl hq (by rw[a0x,a1o];omega) (by omega) s1 hd r1 r2,.all _ _ c1 g2,?_⟩;rw[s1] at s2;rw[a0x,a0x,a1o,a1o,Nat.add_mul,Nat.one_mul];omega
theorem g8k(u:Ty)(hu:GT u)(hub:u.sz<300000)(hun:∀s,(a0m u [] []).contains s=true→s≠[])(m:Int)(t:Ty)(hg:GT t)(hb:t.sz<300000):
 den E 213 [tyV t,.int .i64 m,tyV u] []=some (tyV (b4u t.sz t m u),[]):=by
 obtain⟨d,_,_⟩:=e4x u hu hub hun m _ t (Nat.le_refl _) hg hb;have df:=a4l u (by omega);rw[a0d g4g,h1n];rw[a0a t,a0a u] at d;rw[a0a (b4u _ _ _ _)] at d⊢;rw[a0a u] at df;rw[a0a t,a0a u];simp only[go_sem,Tryz.f213,df,d]
def d2y(s:List UInt8):AVal:=.str s
def b9a(i:Nat):Ty:=.mk 2 [] ((900000+i:Nat):Int) []
def g2x:List (List UInt8)→Nat→Ty→Ty
 | [],_,t=>t
 | n::r,i,t=>g2x r (i+1) (a8n t.sz t n (b9a i))
def f1n(called:List (List UInt8×List UInt8)):List (List UInt8)→Nat→Ty→Ty
 | [],_,t=>t
 | n::r,i,t=>f1n called r (i+1) (b4u t.sz t ((900000+i:Nat):Int) (.mk 1 ((a1i n called).getD []) 0 []))
def a6o(called:List (List UInt8×List UInt8))(names:List (List UInt8))(t:Ty):Ty:=f1n called names 0 (g2x names 0 t)
theorem f4y(i:Nat):a0m (b9a i) [] []=[]:=rfl
theorem f4x(i:Nat):(b9a i).sz=1:=rfl
theorem d3l{x:Ty}(hx:GT x)(hb:x.sz<300000)(a:List UInt8)(i:Nat)(hi:i<100000):den E 40 [tyV x,.str a,tyV (b9a i)] []=some (tyV (a8n x.sz x a (b9a i)),[])∧GT (a8n x.sz x a (b9a i))∧(a8n x.sz x a (b9a i)).sz≤x.sz:=by
 have:=c0d (b9a i) (.unk _ (by omega) (by omega)) (by rw[f4x];omega) (fun s' h=>by
  rw[f4y] at h;simp at h) a x.sz x (Nat.le_refl _) hx hb
 rw[f4x,Nat.mul_one] at this;exact this
theorem d4q{x:Ty}(hx:GT x)(hb:x.sz<300000)(m:Int)(s:List UInt8)(hs:s≠[])(hl:s.length≤16):den E 213 [tyV x,.int .i64 m,tyV (.mk 1 s 0 [])] []=some (tyV (b4u x.sz x m (.mk 1 s 0 [])),[])∧GT (b4u x.sz x m (.mk 1 s 0 []))∧(b4u x.sz x m (.mk 1 s 0 [])).sz≤x.sz:=by
 have hun:∀s',(a0m (.mk 1 s 0 []) [] []).contains s'=true→s'≠[]:=fun s' h=>by
  rw[c4q] at h;have:s'=s:=by simpa using h
  rw[this];exact hs
 have h1:=e4x (.mk 1 s 0 []) (.var s hl) (by rw[c5z];omega) hun m x.sz x (Nat.le_refl _) hx hb;rw[c5z,Nat.mul_one] at h1;exact⟨g8k _ (.var s hl) (by rw[c5z];omega) hun m x hx hb,h1.2⟩
theorem e0d:∀(l:List (List UInt8)) (i:Nat) (t:Ty),GT t→t.sz<300000→i+l.length≤100000→GT (g2x l i t)∧(g2x l i t).sz≤t.sz
 | [],i,t,h,_,_=>⟨h,Nat.le_refl _⟩
 | n::r,i,t,h,hb,hi=>by
  simp only[List.length_cons] at hi;obtain⟨_,g,hs⟩:=d3l h hb n i (by omega);obtain⟨g2,hs2⟩:=e0d r (i+1) _ g (by omega) (by omega);exact⟨g2,by rw[g2x];omega⟩
theorem f7u(called:List (List UInt8×List UInt8)):∀(l:List (List UInt8)) (i:Nat) (t:Ty),(∀n∈l,(a1i n called).getD []≠[]∧((a1i n called).getD []).length≤16)→GT t→t.sz<300000→GT (f1n called l i t)∧(f1n called l i t).sz≤t.sz
 | [],i,t,_,h,_=>⟨h,Nat.le_refl _⟩
 | n::r,i,t,hc,h,hb=>by
  obtain⟨c1,c2⟩:=hc n (by simp);obtain⟨_,g,hs⟩:=d4q h hb ((900000+i:Nat):Int) _ c1 c2;obtain⟨g2,hs2⟩:=f7u called r (i+1) _ (fun m hm=>hc m (by simp[hm])) g (by omega);exact⟨g2,by rw[f1n];omega⟩
structure RenS where
 i:Nat
 t:Ty
theorem c1c(called:List (List UInt8×List UInt8))(names:List (List UInt8))(t0:Ty)(hn:names.length≤99999)(hc:∀n∈names,(a1i n called).getD []≠[]∧((a1i n called).getD []).length≤16)(hg0:GT t0)(hb0:t0.sz<300000):
 den E 146 [tyV t0,.slice (names.map .str),.pmap (a8q d2y called)] []=some (tyV (a6o called names t0),[])∧GT (a6o called names t0)∧(a6o called names t0).sz≤t0.sz:=by
 obtain⟨g1,s1⟩:=e0d names 0 t0 hg0 hb0 (by omega);refine⟨?_,?_⟩
 rotate_left
 · obtain⟨g2,s2⟩:=f7u called names 0 _ hc g1 (by omega);exact⟨g2,by unfold a6o;omega⟩
 rw[a0d g5r,h2x,a0a t0];unfold a6o;obtain⟨T1,hT1⟩:∃T1,T1=g2x names 0 t0:=⟨_,rfl⟩
 rw[←hT1] at g1 s1⊢;obtain⟨fin,hfin⟩:∃fin,fin=(some (tyV (f1n called names 0 T1),[]):Option (AVal×a3e)):=⟨_,rfl⟩
 rw[←hfin];simp only[go_sem,Tryz.f146,List.length_map];refine a0p (fun a:RenS=>a.i≤names.length∧GT a.t∧a.t.sz<300000∧g2x (names.drop a.i) a.i a.t=T1)
  (fun a=>⟨[(1,.slice (names.map .str)),(2,.pmap (a8q d2y called)),(3,.ptr (.loc 3) 0),(6,.ptr (.loc 6) 0),(11,.slice (names.map .str)),(12,.int .i64 names.length),(13,.int .i64 a.i)],[],[(3,[.int .i64 a.t.kind,.str a.t.name,.int .i64 a.t.n,.slice (a3a a.t.args)]),(6,[.int .i64 0,.str [],.int .i64 0,.own 25 0 []])],1⟩)
  (fun _=>fin) (fun a=>names.length - a.i) ⟨0,t0⟩ ⟨Nat.zero_le _,hg0,hb0,by rw[hT1];rfl⟩ ?_ ?_
 · simp only[go_sem]
 · rintro⟨i,t⟩ ⟨hi,hg,hb,hp⟩ h;simp only at hi hg hb hp⊢
   by_cases hlt:i<names.length
   · obtain⟨x,hx⟩:=a7p hlt;rw[a2x hx] at hp;have w1:IntKind.i64.wrap ((i:Int)+1)=((i+1:Nat):Int):=a1e (i+1) (by omega);have w2:IntKind.i64.wrap ((900000:Int)+(i:Int))=((900000+i:Nat):Int):=a1e (900000+i) (by omega);obtain⟨d,g,hs⟩:=d3l hg hb x i (by omega);rw[b9a,a4n,a0h] at d;rw[a0a t,a0a (a8n _ _ _ _)] at d;simp only[go_sem,a0g,decide_eq_true hlt,a0c,a0j,a4b,hx,w2,d];refine h ⟨i+1,a8n t.sz t x (b9a i)⟩ _ ⟨show i+1≤names.length by omega,g,show (a8n t.sz t x (b9a i)).sz<300000 by omega,hp⟩ (show names.length - (i+1)<names.length - i by omega) ?_;simp only[go_sem,w1,b9a]
   · have hie:i=names.length:=by omega
     subst hie;rw[List.drop_length] at hp;have hp:t=T1:=hp;subst hp;simp only[go_sem,a0g,Nat.lt_irrefl];refine a0p (fun a:RenS=>a.i≤names.length∧GT a.t∧a.t.sz<300000∧f1n called (names.drop a.i) a.i a.t=f1n called names 0 t)
      (fun a=>⟨[(2,.pmap (a8q d2y called)),(3,.ptr (.loc 3) 0),(6,.ptr (.loc 6) 0),(25,.slice (names.map .str)),(26,.int .i64 names.length),(27,.int .i64 a.i)],[],[(3,[.int .i64 a.t.kind,.str a.t.name,.int .i64 a.t.n,.slice (a3a a.t.args)]),(6,[.int .i64 0,.str [],.int .i64 0,.own 25 0 []])],1⟩)
      (fun _=>fin) (fun a=>names.length - a.i) ⟨0,t⟩ ⟨Nat.zero_le _,hg,hb,rfl⟩ ?_ ?_
     · simp only[go_sem,List.length_map]
     · rintro⟨i,t2⟩ ⟨hi,hg,hb,hp⟩ hh;simp only at hi hg hb hp⊢
       by_cases hlt:i<names.length
       · obtain⟨x,hx⟩:=a7p hlt;rw[a2x hx] at hp;have hxm:=List.mem_of_getElem? hx;obtain⟨c1,c2⟩:=hc x hxm;have w1:IntKind.i64.wrap ((i:Int)+1)=((i+1:Nat):Int):=a1e (i+1) (by omega);have w2:IntKind.i64.wrap ((900000:Int)+(i:Int))=((900000+i:Nat):Int):=a1e (900000+i) (by omega);obtain⟨d,g,hs⟩:=d4q hg hb ((900000+i:Nat):Int) _ c1 c2;have hf:=a8v d2y x called;cases hk:a1i x called with
         | none=>rw[hk] at c1;exact absurd rfl c1
         | some y=>
          rw[hk] at hf d g hs;simp only[Option.map_some,d2y,Option.getD_some] at hf d g hs;rw[a4n,a0h] at d;rw[a0a t2,a0a (b4u _ _ _ _)] at d;simp only[go_sem,a0g,decide_eq_true hlt,a0c,a0j,a4b,hx,w2,hf,d];refine hh ⟨i+1,b4u t2.sz t2 ((900000+i:Nat):Int) (.mk 1 y 0 [])⟩ _ ⟨show i+1≤names.length by omega,g,show (b4u t2.sz t2 ((900000+i:Nat):Int) (.mk 1 y 0 [])).sz<300000 by omega,?_⟩ (show names.length - (i+1)<names.length - i by omega) ?_
          · rw[f1n,hk] at hp;exact hp
          · simp only[go_sem,w1]
       · have hie:i=names.length:=by omega
         subst hie;rw[List.drop_length] at hp;have hp:t2=f1n called names 0 t:=hp;rw[hfin,←hp,a0a];simp only[go_sem,a0g,Nat.lt_irrefl]
end Go.Proofs
