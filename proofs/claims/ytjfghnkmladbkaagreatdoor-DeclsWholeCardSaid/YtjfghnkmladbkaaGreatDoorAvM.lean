/- What a constructor is; all constructors of a program. -/
import Derived.Test.YtjfghnkmladbkaaGreatDoorAvL
namespace Go.Proofs
open Go.Av
set_option maxHeartbeats 64000000
set_option maxRecDepth 100000
structure Gv where
 name:List UInt8
 l:Ty
 r:Ty
structure CX where
 name:List UInt8
 data:List UInt8
 tag:Int
 ty:Ty
 univ:List (List UInt8)
 exis:List (List UInt8)
 givens:List Gv
 args:List Ty
def gvV(g:Gv):AVal:=.agg [.str g.name,.int .i64 g.l.kind,.str g.l.name,.int .i64 g.l.n,.slice (a3a g.l.args),.int .i64 g.r.kind,.str g.r.name,.int .i64 g.r.n,.slice (a3a g.r.args)]
def xcC(c:CX):List AVal:=[.str c.name,.str c.data,.int .i64 c.tag,.int .i64 c.ty.kind,.str c.ty.name,.int .i64 c.ty.n,.slice (a3a c.ty.args),.slice (c.univ.map .str),.slice (c.exis.map .str),.slice (c.givens.map gvV),.slice (a3a c.args)]
def zCX:CX:=⟨[],[],0,zTy,[],[],[],[]⟩
def spF:Nat→Ty→List Ty→List Ty×Ty
 | 0,t,acc=>(acc,t)
 | n+1,.mk k s m l,acc=>if k==4 then (match l with
  | [u,v]=>spF n v (acc++[u])
  | _=>(acc,.mk k s m l)) else (acc,.mk k s m l)
def a4i(i:Nat):List UInt8:=117::Lib.itoa (i:Int)
def b4s(i:Nat):List UInt8:=101::Lib.itoa (i:Int)
def i8k(i:Nat):List UInt8:=103::Lib.itoa (i:Int)
abbrev Cal:=List (List UInt8×List UInt8)
def lp1:List Ty→Nat→Cal→List Nat→Cal×List Nat
 | [],_,c,ix=>(c,ix)
 | t::r,i,c,ix=>if t.kind==1&&(a1i t.name c).isNone then lp1 r (i+1) (b2n t.name (a4i i) c) ix else lp1 r (i+1) c (ix++[i])
def lp2:List (List UInt8)→Cal→List (List UInt8)→Cal×List (List UInt8)
 | [],c,ex=>(c,ex)
 | n::r,c,ex=>if (a1i n c).isNone then lp2 r (b2n n (b4s ex.length) c) (ex++[b4s ex.length]) else lp2 r c ex
def lp3(called:Cal)(names:List (List UInt8))(ts:List Ty):List Nat→List Gv→List Gv
 | [],acc=>acc
 | k::r,acc=>lp3 called names ts r (acc++[⟨i8k acc.length,.mk 1 (a4i k) 0 [],a6o called names (ts.getD k zTy)⟩])
def b3t(d:De)(c:Co):Option CX:=
 let p:=a3h 112 (a0m c.ty [] []) c.ty.sz c.ty 0
 let q:=spF p.2.sz p.2 []
 if q.2.kind==3&&(q.2.name==d.name&& !b7y q.2.args) then
  let a:=lp1 q.2.args 0 [] []
  let b:=lp2 p.1 a.1 []
  some ⟨c.name,d.name,0,c.ty,(List.range q.2.args.length).map a4i,b.2,lp3 b.1 p.1 q.2.args a.2 [],q.1.map (a6o b.1 p.1)⟩
 else none
theorem b0h(a:UInt8)(i:Nat)(h:i<1000000000):(a::Lib.itoa (i:Int)).length≤16∧(a::Lib.itoa (i:Int))≠[]∧1+(Lib.itoa (i:Int)).length≤a1y:=a8z i a h
def OkC(c:Cal):Prop:=∀p∈c,p.2≠[]∧p.2.length≤16
theorem OkC.upd{c:Cal}(h:OkC c){k v:List UInt8}(hv:v≠[]∧v.length≤16):OkC (b2n k v c):=by
 induction c with
 | nil=>intro p hp;simp[b2n] at hp;subst hp;exact hv
 | cons a r ih=>
  intro p hp;rw[b2n] at hp;split at hp
  · rcases List.mem_cons.1 hp with rfl|hp
    · exact hv
    · exact h p (by simp[hp])
  · rcases List.mem_cons.1 hp with rfl|hp
    · exact h _ (by simp)
    · exact ih (fun q hq=>h q (by simp[hq])) p hp
theorem OkC.look{c:Cal}(h:OkC c){k v:List UInt8}(hk:a1i k c=some v):v≠[]∧v.length≤16:=by
 induction c with
 | nil=>cases hk
 | cons a r ih=>
  rw[a1i] at hk;split at hk
  · injection hk with hk;subst hk;exact h a (by simp)
  · exact ih (fun q hq=>h q (by simp[hq])) hk
theorem d4i{α:Type}(k:List UInt8)(v:α):∀l:List (List UInt8×α),a1i k (b2n k v l)=some v
 | []=>by simp[b2n,a1i]
 | p::r=>by
  rw[b2n];cases h:k==p.1
  · simp only[Bool.false_eq_true,if_false,a1i,h];exact d4i k v r
  · simp[a1i]
theorem d7k{α:Type}(k n:List UInt8)(v:α):∀l:List (List UInt8×α),(a1i n l).isSome=true→(a1i n (b2n k v l)).isSome=true
 | [],h=>by cases h
 | p::r,h=>by
  rw[b2n];rw[a1i] at h;cases h2:k==p.1
  · simp only[Bool.false_eq_true,if_false,a1i];cases h3:n==p.1
    · rw[h3] at h;simp only[Bool.false_eq_true,if_false] at h⊢;exact d7k k n v r h
    · simp
  · simp only[if_true,a1i];cases h3:n==k
    · have:(n==p.1)=false:=by
       have e:k=p.1:=by simpa using h2
       rw[←e];exact h3
      rw[this] at h;simpa using h
    · simp
theorem d7i:∀(l:List Ty) (i:Nat) (c:Cal) (ix:List Nat),OkC c→i+l.length≤100000000→(∀k∈ix,k<i)→OkC (lp1 l i c ix).1∧(∀k∈(lp1 l i c ix).2,k<i+l.length)∧(lp1 l i c ix).2.length≤ix.length+l.length
 | [],i,c,ix,h,_,hx=>⟨h,fun k hk=>by have:=hx k hk;simp;omega,by simp[lp1]⟩
 | t::r,i,c,ix,h,hb,hx=>by
  rw[lp1,List.length_cons];simp only[List.length_cons] at hb;split
  · obtain⟨q1,q2,q3⟩:=d7i r (i+1) (b2n t.name (a4i i) c) ix (h.upd ⟨(b0h 117 i (by omega)).2.1,(b0h 117 i (by omega)).1⟩) (by omega) (fun k hk=>by have:=hx k hk;omega);exact⟨q1,fun k hk=>by have:=q2 k hk;omega,by omega⟩
  · obtain⟨q1,q2,q3⟩:=d7i r (i+1) c (ix++[i]) h (by omega) (fun k hk=>by
     rcases List.mem_append.1 hk with hk|hk
     · have:=hx k hk;omega
     · simp at hk;omega)
    exact⟨q1,fun k hk=>by have:=q2 k hk;omega,by simp at q3;omega⟩
theorem d7h:∀(l:List (List UInt8)) (c:Cal) (ex:List (List UInt8)),OkC c→ex.length+l.length≤100000000→OkC (lp2 l c ex).1∧(∀n∈l,(a1i n (lp2 l c ex).1).isSome=true)∧(∀n,(a1i n c).isSome=true→(a1i n (lp2 l c ex).1).isSome=true)∧(lp2 l c ex).2.length≤ex.length+l.length
 | [],c,ex,h,_=>⟨h,fun n hn=>(by cases hn),fun n hn=>hn,by simp[lp2]⟩
 | n::r,c,ex,h,hb=>by
  rw[lp2,List.length_cons];simp only[List.length_cons] at hb;split
  · obtain⟨q1,q2,q3,q4⟩:=d7h r (b2n n (b4s ex.length) c) (ex++[b4s ex.length]) (h.upd ⟨(b0h 101 ex.length (by omega)).2.1,(b0h 101 ex.length (by omega)).1⟩) (by simp;omega);refine⟨q1,fun m hm=>?_,fun m hm=>q3 m (d7k _ _ _ _ hm),by simp at q4;omega⟩;rcases List.mem_cons.1 hm with rfl|hm
    · exact q3 m (by rw[d4i];rfl)
    · exact q2 m hm
  · rename_i hs;obtain⟨q1,q2,q3,q4⟩:=d7h r c ex h (by omega);refine⟨q1,fun m hm=>?_,q3,by omega⟩;rcases List.mem_cons.1 hm with rfl|hm
    · exact q3 m (by cases hq:a1i m c<;>simp[hq] at hs⊢)
    · exact q2 m hm
theorem GT.fn_inv{t:Ty}(h:GT t)(hk:(t.kind==4)=true):∃u v,t=.mk 4 [] 0 [u,v]∧GT u∧GT v:=by
 cases h with
 | fn u v hu hv=>exact⟨u,v,rfl,hu,hv⟩
 | _=>simp[Ty.kind] at hk
theorem b1w(n:Nat)(t:Ty)(acc:List Ty)(h:(t.kind==4)=false):spF n t acc=(acc,t):=by
 cases n with
 | zero=>rfl
 | succ n=>cases t;simp only[Ty.kind] at h;simp only[spF,h];rfl
theorem c3s(n:Nat)(u v:Ty)(acc:List Ty):spF (n+1) (.mk 4 [] 0 [u,v]) acc=spF n v (acc++[u]):=rfl
theorem d6c:∀(n:Nat) (t:Ty) (acc:List Ty),t.sz≤n→GT t→(∀x∈acc,GT x∧x.sz<300000)→t.sz<300000→GT (spF n t acc).2∧(spF n t acc).2.sz≤t.sz∧(∀x∈(spF n t acc).1,GT x∧x.sz<300000)∧(spF n t acc).1.length≤acc.length+t.sz
 | 0,t,acc,h,_,_,_=>by have:=a3g t;omega
 | n+1,t,acc,hn,hg,ha,hb=>by
  cases hk:t.kind==4
  · rw[b1w _ t acc hk];exact⟨hg,Nat.le_refl _,ha,by show acc.length≤_;omega⟩
  · obtain⟨u,v,rfl,hu,hv⟩:=hg.fn_inv hk;rw[a0x,a1u] at hn hb;rw[c3s];obtain⟨q1,q2,q3,q4⟩:=d6c n v (acc++[u]) (by omega) hv (fun x hx=>by
     rcases List.mem_append.1 hx with hx|hx
     · exact ha x hx
     · simp at hx;subst hx;exact⟨hu,by omega⟩) (by omega)
    refine⟨q1,?_,q3,?_⟩
    · rw[a0x,a1u];omega
    · rw[a0x,a1u];simp at q4;omega
theorem GT.args{t:Ty}(h:GT t):∀x∈t.args,GT x:=by
 cases h with
 | var s hs=>intro x hx;simp[Ty.args] at hx
 | unk m h1 h2=>intro x hx;simp[Ty.args] at hx
 | con s l hs hl=>exact hl
 | fn u v hu hv=>intro x hx;simp[Ty.args] at hx;rcases hx with rfl|rfl;exact hu;exact hv
 | all s y hs hy=>intro x hx;simp[Ty.args] at hx;subst hx;exact hy
def xB(c:Co)(d:De)(univ exis:List (List UInt8))(gs:List Gv)(ts:List Ty):List AVal:=[.str c.name,.str d.name,.int .i64 0,.int .i64 c.ty.kind,.str c.ty.name,.int .i64 c.ty.n,.slice (a3a c.ty.args),.own 9 0 (univ.map .str),.own 9 0 (exis.map .str),.own 110 0 (gs.map gvV),.own 25 0 (a3a ts)]
def tB(t:Ty):List AVal:=[.int .i64 t.kind,.str t.name,.int .i64 t.n,.slice (a3a t.args)]
def zB:List AVal:=[.str [],.str [],.int .i64 0,.int .i64 0,.str [],.int .i64 0,.own 25 0 [],.own 9 0 [],.own 9 0 [],.own 110 0 [],.own 25 0 []]
attribute [go_sem] xB tB zB
theorem c6f(l:List Ty)(t:Ty):a3a (l++[t])=a3a l++[.agg [.int .i64 t.kind,.str t.name,.int .i64 t.n,.slice (a3a t.args)]]:=by
 induction l with
 | nil=>rw[List.nil_append,a1c,a0h,a0a];rfl
 | cons a l ih=>rw[List.cons_append,a1c,a1c,ih];rfl
theorem e6t(i:Nat):(List.range (i+1)).map a4i=(List.range i).map a4i++[a4i i]:=by rw[List.range_succ,List.map_append];rfl
theorem c3k(k:Int)(s:List UInt8)(n:Int)(a:List Ty):(Ty.mk k s n a).args=a:=rfl
structure SpS where
 n:Nat
 t:Ty
 acc:List Ty
structure L1S where
 i:Nat
 c:Cal
 ix:List Nat
structure L2S where
 i:Nat
 c:Cal
 ex:List (List UInt8)
def okV(o:Option CX):AVal:=match o with
 | some x=>.tup [.agg (xcC x),.bool true]
 | none=>.tup [.agg (xcC zCX),.bool false]
theorem f5e(d:De)(c:Co)(hg:GT c.ty)(hb:c.ty.sz<12000)(hm:b3t d c=none):den E 82 [.agg (deC d),coV c] []=some (okV (b3t d c),[]):=by
 rw[hm];have hfl:=a2o _ c.ty (Nat.le_refl _) [] [];simp only[List.length_nil,Nat.zero_add] at hfl;have hbd:c.ty.sz*((a0m c.ty [] []).length+1)≤900000000:=Nat.le_trans (Nat.mul_le_mul (show c.ty.sz≤12000 by omega) (show _≤12001 by omega)) (by omega);have df:=a4l c.ty (by omega);have dp:=b7f 112 (a0m c.ty [] []) (by omega) c.ty hg (by omega) hbd;obtain⟨g1,s1,n1,o1⟩:=a9l 112 (a0m c.ty [] []) c.ty.sz c.ty 0 (Nat.le_refl _) hg (by omega) (by omega);unfold b3t at hm;simp only at hm;generalize a3h 112 (a0m c.ty [] []) c.ty.sz c.ty 0=p at *;obtain⟨names,body⟩:=p;simp only at dp g1 s1 n1 o1 hm;obtain⟨g2,s2,a2,n2⟩:=d6c body.sz body [] (Nat.le_refl _) g1 (fun x hx=>by cases hx) (by omega);have dpl:=c0f _ (.mk 0 [] 0 (spF body.sz body []).2.args) (Nat.le_refl _) (by rw[a0x];have:=a3g (spF body.sz body []).2;omega);have dP:den E 143 [.agg [.int .i64 c.ty.kind,.str c.ty.name,.int .i64 c.ty.n,.slice (a3a c.ty.args)]] []=some (.tup [.slice (names.map .str),tyV body],[]):=by
  rw[a0d e3l,e5t];rw[a0a c.ty] at df dp;rw[a0a body] at dp⊢;simp only[go_sem,Tryz.f143,df,dp]
 rw[a0a body] at dP;have dA:=d5i (spF body.sz body []).2.args (by have:=a6h (spF body.sz body []).2;omega) (fun x hx=>c0f _ x (Nat.le_refl _) (by have:=a2p hx;have:=a3g (spF body.sz body []).2;omega));rw[a0d f3v,g0o];obtain⟨fin,hfin⟩:∃fin,fin=(some (okV none,[]):Option (AVal×a3e)):=⟨_,rfl⟩
 rw[←hfin];simp only[go_sem,Tryz.f82,deC,coV,dP];refine a0p (fun a:SpS=>a.t.sz≤a.n∧GT a.t∧a.t.sz<300000∧a.acc.length+a.n≤body.sz∧spF a.n a.t a.acc=spF body.sz body [])
  (fun a=>⟨[(2,.ptr (.loc 2) 0),(4,.ptr (.loc 4) 0),(6,.slice (names.map .str)),(7,.ptr (.loc 7) 0),(8,.ptr (.loc 8) 0),(9,.own 25 0 (a3a a.acc))],[],[(2,deC d),(4,zB),(7,tB a.t),(8,xB c d [] [] [] [])],1⟩)
  (fun _=>fin) (fun a=>a.n) ⟨body.sz,body,[]⟩ ⟨Nat.le_refl _,g1,by show body.sz<300000;omega,by simp,rfl⟩ ?_ ?_
 · simp only[go_sem,deC,a0h]
 · rintro⟨n,t,acc⟩ ⟨hn,hgt,hbt,hl,hsp⟩ h;simp only at hn hgt hbt hl hsp⊢;cases hk:t.kind==4
   · rw[b1w n t acc hk] at hsp;rw[←hsp] at hm dA;simp only at hm dA;cases k3:t.kind==3
     · simp only[go_sem,deC,hk,k3,bne];rw[hfin];rfl
     · rw[k3] at hm;cases kn:t.name==d.name
       · simp only[go_sem,deC,hk,k3,kn,bne];rw[hfin];rfl
       · rw[kn] at hm;cases kp:b7y t.args
         · rw[kp] at hm;simp at hm
         · rw[kp] at dA;simp only[go_sem,deC,hk,k3,kn,bne,dA];rw[hfin];rfl
   · obtain⟨u,v,rfl,hu,hv⟩:=hgt.fn_inv hk;rw[a0x,a1u] at hn hbt;obtain⟨m,rfl⟩:∃m,n=m+1:=⟨n - 1,by omega⟩
     rw[c3s] at hsp;have a1:acc.length+1≤a0s:=by unfold a0s;omega
     have rl:=a2m acc;have hts:=c6f acc u;simp only[tB,b5y,b5w,h4u,c3k,a1c,a0h];rw[a0a u,a0a v];simp only[go_sem,deC,Int.le_refl,Int.toNat_zero,Int.toNat_one,Int.zero_le_ofNat,rl,a1];refine h ⟨m,v,acc++[u]⟩ _ ⟨show v.sz≤m by omega,hv,show v.sz<300000 by omega,by simp;omega,hsp⟩ (show m<m+1 by omega) ?_;simp only[go_sem,hts,deC]
theorem e4p(g:Gv):gvV g=.agg [.str g.name,.int .i64 g.l.kind,.str g.l.name,.int .i64 g.l.n,.slice (a3a g.l.args),.int .i64 g.r.kind,.str g.r.name,.int .i64 g.r.n,.slice (a3a g.r.args)]:=rfl
def g6x(k:Nat):AVal:=.int .i64 (k:Int)
theorem g6w(l:List Nat)(i:Nat):(l.map g6x)[i]? =(l[i]?).map g6x:=by simp
theorem b7g(t:Ty)(r:List Ty)(i:Nat)(c:Cal)(ix:List Nat):lp1 (t::r) i c ix=if t.kind==1&&(a1i t.name c).isNone then lp1 r (i+1) (b2n t.name (a4i i) c) ix else lp1 r (i+1) c (ix++[i]):=rfl
theorem c5j(n:List UInt8)(r:List (List UInt8))(c:Cal)(ex:List (List UInt8)):lp2 (n::r) c ex=if (a1i n c).isNone then lp2 r (b2n n (b4s ex.length) c) (ex++[b4s ex.length]) else lp2 r c ex:=rfl
theorem d4f(called:Cal)(names:List (List UInt8))(ts:List Ty)(k:Nat)(r:List Nat)(acc:List Gv):lp3 called names ts (k::r) acc=lp3 called names ts r (acc++[⟨i8k acc.length,.mk 1 (a4i k) 0 [],a6o called names (ts.getD k zTy)⟩]):=rfl
theorem g9g{α β:Type}(f:α→β)(l:List α)(i:Nat)(x:α)(h:l[i]? =some x):(l.take (i+1)).map f=(l.take i).map f++[f x]:=by
 rw[List.take_add_one,h];simp
structure L3S where
 i:Nat
 gs:List Gv
theorem e4f(d:De)(c:Co)(hg:GT c.ty)(hb:c.ty.sz<12000)(X:CX)(hm:b3t d c=some X):den E 82 [.agg (deC d),coV c] []=some (okV (some X),[]):=by
 have hfl:=a2o _ c.ty (Nat.le_refl _) [] [];simp only[List.length_nil,Nat.zero_add] at hfl;have hbd:c.ty.sz*((a0m c.ty [] []).length+1)≤900000000:=Nat.le_trans (Nat.mul_le_mul (show c.ty.sz≤12000 by omega) (show _≤12001 by omega)) (by omega);have df:=a4l c.ty (by omega);have dp:=b7f 112 (a0m c.ty [] []) (by omega) c.ty hg (by omega) hbd;obtain⟨g1,s1,n1,o1⟩:=a9l 112 (a0m c.ty [] []) c.ty.sz c.ty 0 (Nat.le_refl _) hg (by omega) (by omega);unfold b3t at hm;simp only at hm;generalize a3h 112 (a0m c.ty [] []) c.ty.sz c.ty 0=p at *;obtain⟨names,body⟩:=p;simp only at dp g1 s1 n1 o1 hm;obtain⟨g2,s2,a2,n2⟩:=d6c body.sz body [] (Nat.le_refl _) g1 (fun x hx=>by cases hx) (by omega);have dpl:=c0f _ (.mk 0 [] 0 (spF body.sz body []).2.args) (Nat.le_refl _) (by rw[a0x];have:=a3g (spF body.sz body []).2;omega);have dP:den E 143 [.agg [.int .i64 c.ty.kind,.str c.ty.name,.int .i64 c.ty.n,.slice (a3a c.ty.args)]] []=some (.tup [.slice (names.map .str),tyV body],[]):=by
  rw[a0d e3l,e5t];rw[a0a c.ty] at df dp;rw[a0a body] at dp⊢;simp only[go_sem,Tryz.f143,df,dp]
 rw[a0a body] at dP;have dA:=d5i (spF body.sz body []).2.args (by have:=a6h (spF body.sz body []).2;omega) (fun x hx=>c0f _ x (Nat.le_refl _) (by have:=a2p hx;have:=a3g (spF body.sz body []).2;omega));rw[a0d f3v,g0o];obtain⟨fin,hfin⟩:∃fin,fin=(some (okV (some X),[]):Option (AVal×a3e)):=⟨_,rfl⟩
 rw[←hfin];simp only[go_sem,Tryz.f82,deC,coV,dP];refine a0p (fun a:SpS=>a.t.sz≤a.n∧GT a.t∧a.t.sz<300000∧a.acc.length+a.n≤body.sz∧spF a.n a.t a.acc=spF body.sz body [])
  (fun a=>⟨[(2,.ptr (.loc 2) 0),(4,.ptr (.loc 4) 0),(6,.slice (names.map .str)),(7,.ptr (.loc 7) 0),(8,.ptr (.loc 8) 0),(9,.own 25 0 (a3a a.acc))],[],[(2,deC d),(4,zB),(7,tB a.t),(8,xB c d [] [] [] [])],1⟩)
  (fun _=>fin) (fun a=>a.n) ⟨body.sz,body,[]⟩ ⟨Nat.le_refl _,g1,by show body.sz<300000;omega,by simp,rfl⟩ ?_ ?_
 · simp only[go_sem,deC,a0h]
 · rintro⟨n,t,acc⟩ ⟨hn,hgt,hbt,hl,hsp⟩ h;simp only at hn hgt hbt hl hsp⊢;cases hk:t.kind==4
   · rw[b1w n t acc hk] at hsp;rw[←hsp] at hm dA;simp only at hm dA;obtain⟨k3,kn,kp⟩:(t.kind==3)=true∧(t.name==d.name)=true∧b7y t.args=false:=by
      cases k3:t.kind==3<;>cases kn:t.name==d.name<;>cases kp:b7y t.args<;>simp[k3,kn,kp] at hm⊢
     rw[k3,kn,kp] at hm;rw[kp] at dA;simp only[Bool.not_false,Bool.and_self,if_true] at hm;injection hm with hm;rw[←hsp] at g2 s2 a2 n2;simp only at g2 s2 a2 n2;have hta:=g2.args;have hal:=a6h t;obtain⟨w1o,w1i,w1l⟩:=d7i t.args 0 [] [] (fun p hp=>by cases hp) (by omega) (fun k hk=>by cases hk);obtain⟨w2o,w2n,_,w2l⟩:=d7h names (lp1 t.args 0 [] []).1 [] w1o (by simp;omega);obtain⟨C1,IX,hC1⟩:∃C1 IX,lp1 t.args 0 [] []=(C1,IX):=⟨_,_,rfl⟩
     rw[hC1] at hm w1o w1i w1l w2o w2n w2l;simp only at hm w1o w1i w1l w2o w2n w2l;obtain⟨C2,EX,hC2⟩:∃C2 EX,lp2 names C1 []=(C2,EX):=⟨_,_,rfl⟩
     rw[hC2] at hm w2o w2n w2l;simp only at hm w2o w2n w2l;have hcal:∀n∈names,(a1i n C2).getD []≠[]∧((a1i n C2).getD []).length≤16:=fun n hn=>by
      have h1:=w2n n hn;cases h2:a1i n C2 with
      | none=>rw[h2] at h1;cases h1
      | some v=>exact w2o.look h2
     have rl:=a2m t.args;have rla:=a2m acc;simp only[go_sem,deC,hk,k3,kn,bne,dA,rl];clear h dA;refine a0p (fun a:L1S=>a.i≤t.args.length∧lp1 (t.args.drop a.i) a.i a.c a.ix=(C1,IX)∧a.ix.length≤a.i)
      (fun a=>⟨[(4,.ptr (.loc 4) 0),(6,.slice (names.map .str)),(7,.ptr (.loc 7) 0),(8,.ptr (.loc 8) 0),(9,.own 25 0 (a3a acc)),(10,.own 1099511627777 0 (a8q d2y a.c)),(11,.own 3 0 (a.ix.map g6x)),(69,.slice (a3a t.args)),(70,.int .i64 t.args.length),(71,.int .i64 a.i)],[],[(4,zB),(7,tB t),(8,xB c d ((List.range a.i).map a4i) [] [] [])],1⟩)
      (fun _=>fin) (fun a=>t.args.length - a.i) ⟨0,[],[]⟩ ⟨Nat.zero_le _,hC1,Nat.le_refl _⟩ ?_ ?_
     · simp only[go_sem,a8q,List.range_zero,a0h]
     · rintro⟨i,cl,ix⟩ ⟨hi,hlp,hix⟩ h;simp only at hi hlp hix⊢
       by_cases hlt:i<t.args.length
       · obtain⟨x,hx⟩:=a7p hlt;rw[a2x hx,b7g] at hlp;have w1:IntKind.i64.wrap ((i:Int)+1)=((i+1:Nat):Int):=a1e (i+1) (by omega);have d1:=b0a i (by omega);have m1:=(b0h 117 i (by omega)).2.2;have hf:=a8v d2y x.name cl;have hu:=b6r d2y x.name (a4i i) cl;have a1:i+1≤a0s:=by unfold a0s;omega
         have a2:ix.length+1≤a0s:=by unfold a0s;omega
         have hrg:((List.range i).map a4i).length=i:=by simp
         have hrs:=e6t i;have hgt2:(((List.range i).map a4i).map AVal.str++[.str (117::Lib.itoa (i:Int))])[i]? =some (.str (117::Lib.itoa (i:Int))):=by
          rw[List.getElem?_append_right (by simp)];simp
         unfold a4i at hu;simp only[d2y] at hu;cases kx:x.kind==1
         · rw[kx] at hlp;simp only[Bool.false_and,Bool.false_eq_true,if_false] at hlp;cases hk2:a1i x.name cl with
           | none=>
            rw[hk2] at hf;simp only[Option.map_none] at hf;simp only[go_sem,a0g,decide_eq_true hlt,a0c,a0j,a6v,hx,a0a,d1,m1,kx,hf,List.length_map,hrg,a1,a2];refine h ⟨i+1,cl,ix++[i]⟩ _ ⟨show i+1≤t.args.length by omega,hlp,by simp;omega⟩ (show t.args.length - (i+1)<t.args.length - i by omega) ?_;simp only[go_sem,w1,List.map_append,a4i,g6x]
           | some v=>
            rw[hk2] at hf;simp only[Option.map_some,d2y] at hf;simp only[go_sem,a0g,decide_eq_true hlt,a0c,a0j,a6v,hx,a0a,d1,m1,kx,hf,List.length_map,hrg,a1,a2];refine h ⟨i+1,cl,ix++[i]⟩ _ ⟨show i+1≤t.args.length by omega,hlp,by simp;omega⟩ (show t.args.length - (i+1)<t.args.length - i by omega) ?_;simp only[go_sem,w1,List.map_append,a4i,g6x]
         · rw[kx] at hlp;cases hk2:a1i x.name cl with
           | none=>
            rw[hk2] at hf hlp;simp only[Option.map_none,Option.isNone_none,Bool.and_self,if_true] at hf hlp;simp only[go_sem,a0g,decide_eq_true hlt,a0c,a0j,a6v,hx,a0a,d1,m1,kx,hf,List.length_map,hrg,a1,hgt2,hu];refine h ⟨i+1,b2n x.name (a4i i) cl,ix⟩ _ ⟨show i+1≤t.args.length by omega,hlp,show ix.length≤i+1 by omega⟩ (show t.args.length - (i+1)<t.args.length - i by omega) ?_;simp only[go_sem,w1,List.map_append,a4i]
           | some v=>
            rw[hk2] at hf hlp;simp only[Option.map_some,d2y,Option.isNone_some,Bool.and_false,Bool.false_eq_true,if_false] at hf hlp;simp only[go_sem,a0g,decide_eq_true hlt,a0c,a0j,a6v,hx,a0a,d1,m1,kx,hf,List.length_map,hrg,a1,a2];refine h ⟨i+1,cl,ix++[i]⟩ _ ⟨show i+1≤t.args.length by omega,hlp,by simp;omega⟩ (show t.args.length - (i+1)<t.args.length - i by omega) ?_;simp only[go_sem,w1,List.map_append,a4i,g6x]
       · have hie:i=t.args.length:=by omega
         subst hie;rw[List.drop_length] at hlp;have e1:cl=C1∧ix=IX:=by simpa [lp1] using hlp
         obtain⟨rfl,rfl⟩:=e1;simp only[go_sem,a0g,Nat.lt_irrefl,List.length_map];clear h;refine a0p (fun a:L2S=>a.i≤names.length∧lp2 (names.drop a.i) a.c a.ex=(C2,EX)∧a.ex.length≤a.i)
          (fun a=>⟨[(4,.ptr (.loc 4) 0),(6,.slice (names.map .str)),(7,.ptr (.loc 7) 0),(8,.ptr (.loc 8) 0),(9,.own 25 0 (a3a acc)),(10,.own 1099511627777 0 (a8q d2y a.c)),(11,.own 3 0 (ix.map g6x)),(111,.slice (names.map .str)),(112,.int .i64 names.length),(113,.int .i64 a.i)],[],[(4,zB),(7,tB t),(8,xB c d ((List.range t.args.length).map a4i) a.ex [] [])],1⟩)
          (fun _=>fin) (fun a=>names.length - a.i) ⟨0,cl,[]⟩ ⟨Nat.zero_le _,hC2,Nat.le_refl _⟩ ?_ ?_
         · simp only[go_sem,a0h]
         · rintro⟨i,cl2,ex⟩ ⟨hi,hlp,hex⟩ h;simp only at hi hlp hex⊢
           by_cases hlt:i<names.length
           · obtain⟨x,hx⟩:=a7p hlt;rw[a2x hx,c5j] at hlp;have w1:IntKind.i64.wrap ((i:Int)+1)=((i+1:Nat):Int):=a1e (i+1) (by omega);have d1:=b0a ex.length (by omega);have m1:=(b0h 101 ex.length (by omega)).2.2;have hf:=a8v d2y x cl2;have hu:=b6r d2y x (b4s ex.length) cl2;have hf2:=a8v d2y x (b2n x (b4s ex.length) cl2);rw[d4i] at hf2;simp only[Option.map_some] at hf2;unfold b4s at hu hf2;simp only[d2y] at hu hf2;have a1:ex.length+1≤a0s:=by unfold a0s;omega
             cases hk2:a1i x cl2 with
             | none=>
              rw[hk2] at hf hlp;simp only[Option.map_none,Option.isNone_none,if_true] at hf hlp;simp only[go_sem,a0g,decide_eq_true hlt,a0c,a0j,a4b,hx,d1,m1,hf,hf2,List.length_map,a1,hu];refine h ⟨i+1,b2n x (b4s ex.length) cl2,ex++[b4s ex.length]⟩ _ ⟨show i+1≤names.length by omega,hlp,by simp;omega⟩ (show names.length - (i+1)<names.length - i by omega) ?_;simp only[go_sem,w1,List.map_append,b4s]
             | some v=>
              rw[hk2] at hf hlp;simp only[Option.map_some,d2y,Option.isNone_some,Bool.false_eq_true,if_false] at hf hlp;simp only[go_sem,a0g,decide_eq_true hlt,a0c,a0j,a4b,hx,hf];refine h ⟨i+1,cl2,ex⟩ _ ⟨show i+1≤names.length by omega,hlp,show ex.length≤i+1 by omega⟩ (show names.length - (i+1)<names.length - i by omega) ?_;simp only[go_sem,w1]
           · have hie:i=names.length:=by omega
             subst hie;rw[List.drop_length] at hlp;have e1:cl2=C2∧ex=EX:=by simpa [lp2] using hlp
             obtain⟨rfl,rfl⟩:=e1;simp only[go_sem,a0g,Nat.lt_irrefl,List.length_map];clear h;refine a0p (fun a:L3S=>a.i≤ix.length∧lp3 cl2 names t.args (ix.drop a.i) a.gs=lp3 cl2 names t.args ix []∧a.gs.length≤a.i)
              (fun a=>⟨[(4,.ptr (.loc 4) 0),(6,.slice (names.map .str)),(7,.ptr (.loc 7) 0),(8,.ptr (.loc 8) 0),(9,.own 25 0 (a3a acc)),(10,.pmap (a8q d2y cl2)),(141,.slice (ix.map g6x)),(142,.int .i64 ix.length),(143,.int .i64 a.i)],[],[(4,zB),(7,tB t),(8,xB c d ((List.range t.args.length).map a4i) ex a.gs [])],1⟩)
              (fun _=>fin) (fun a=>ix.length - a.i) ⟨0,[]⟩ ⟨Nat.zero_le _,rfl,Nat.le_refl _⟩ ?_ ?_
             · simp only[go_sem,a0h]
             · rintro⟨i,gs⟩ ⟨hi,hlp,hgs⟩ h;simp only at hi hlp hgs⊢
               by_cases hlt:i<ix.length
               · obtain⟨k,hx⟩:=a7p hlt;rw[a2x hx,d4f] at hlp;have hkt:k<t.args.length:=by have:=w1i k (List.mem_of_getElem? hx);omega
                 obtain⟨y,hy⟩:=a7p hkt;have hyd:t.args.getD k zTy=y:=by rw[List.getD_eq_getElem?_getD,hy];rfl
                 rw[hyd] at hlp;have hym:=List.mem_of_getElem? hy;have hys:=a2p hym;have hts:=a3g t;obtain⟨dr,_,_⟩:=c1c cl2 names y (by omega) hcal (hta y hym) (by omega);have w1:IntKind.i64.wrap ((i:Int)+1)=((i+1:Nat):Int):=a1e (i+1) (by omega);have d1:=b0a gs.length (by omega);have m1:=(b0h 103 gs.length (by omega)).2.2;have a1:gs.length+1≤a0s:=by unfold a0s;omega
                 have hug:(((List.range t.args.length).map a4i).map AVal.str)[k]? =some (.str (a4i k)):=by simp[hkt]
                 rw[a0a y,a0a (a6o _ _ _)] at dr;have hnx:(ix.map g6x)[i]? =some (.int .i64 (k:Int)):=by rw[g6w,hx];rfl
                 simp only[go_sem,a0g,decide_eq_true hlt,a0c,a0j,hnx,hug,a6v,hy,a0a,d1,m1,dr,List.length_map,a1];refine h ⟨i+1,gs++[⟨i8k gs.length,.mk 1 (a4i k) 0 [],a6o cl2 names y⟩]⟩ _ ⟨show i+1≤ix.length by omega,hlp,by simp;omega⟩ (show ix.length - (i+1)<ix.length - i by omega) ?_;simp only[go_sem,w1,List.map_append,e4p,i8k,b5y,b5w,h4u,c3k,a0h]
               · have hie:i=ix.length:=by omega
                 subst hie;rw[List.drop_length] at hlp;have hlp:gs=lp3 cl2 names t.args ix []:=hlp;simp only[go_sem,a0g,Nat.lt_irrefl,rla];clear h;refine a0p (fun i:Nat=>i≤acc.length)
                  (fun i=>⟨[(4,.ptr (.loc 4) 0),(6,.slice (names.map .str)),(8,.ptr (.loc 8) 0),(10,.pmap (a8q d2y cl2)),(173,.slice (a3a acc)),(174,.int .i64 acc.length),(175,.int .i64 i)],[],[(4,zB),(8,xB c d ((List.range t.args.length).map a4i) ex gs ((acc.take i).map (a6o cl2 names)))],1⟩)
                  (fun _=>fin) (fun i=>acc.length - i) 0 (Nat.zero_le _) ?_ ?_
                 · simp only[go_sem,a0h,List.take_zero]
                 · intro i hi h
                   by_cases hlt:i<acc.length
                   · obtain⟨y,hy⟩:=a7p hlt;obtain⟨hgy,hby⟩:=a2 y (List.mem_of_getElem? hy);obtain⟨dr,_,_⟩:=c1c cl2 names y (by omega) hcal hgy hby
                     have w1:IntKind.i64.wrap ((i:Int)+1)=((i+1:Nat):Int):=a1e (i+1) (by omega);have hdm:=g9g (a6o cl2 names) acc i y hy;have htk:=a2m ((acc.take i).map (a6o cl2 names));have htl:((acc.take i).map (a6o cl2 names)).length≤i:=by simp;omega
                     have a1:((acc.take i).map (a6o cl2 names)).length+1≤a0s:=by unfold a0s;omega
                     have hts:=c6f ((acc.take i).map (a6o cl2 names)) (a6o cl2 names y);rw[a0a y,a0a (a6o _ _ _)] at dr;generalize hQ:(acc.take i).map (a6o cl2 names)=Q at *;simp only[go_sem,a0g,decide_eq_true hlt,a0c,a0j,a6v,hy,a0a,dr,htk,a1];refine h (i+1) _ (by omega) (by omega) ?_;simp only[go_sem,w1,hdm,hts]
                   · have hie:i=acc.length:=by omega
                     subst hie;rw[List.take_length];simp only[go_sem,a0g,Nat.lt_irrefl];rw[hfin,←hm,←hlp];rfl
   · obtain⟨u,v,rfl,hu,hv⟩:=hgt.fn_inv hk;rw[a0x,a1u] at hn hbt;obtain⟨m,rfl⟩:∃m,n=m+1:=⟨n - 1,by omega⟩
     rw[c3s] at hsp;have a1:acc.length+1≤a0s:=by unfold a0s;omega
     have rl:=a2m acc;have hts:=c6f acc u;simp only[tB,b5y,b5w,h4u,c3k,a1c,a0h];rw[a0a u,a0a v];simp only[go_sem,deC,Int.le_refl,Int.toNat_zero,Int.toNat_one,Int.zero_le_ofNat,rl,a1];refine h ⟨m,v,acc++[u]⟩ _ ⟨show v.sz≤m by omega,hv,show v.sz<300000 by omega,by simp;omega,hsp⟩ (show m<m+1 by omega) ?_;simp only[go_sem,hts,deC]
end Go.Proofs
namespace Go.Proofs
open Go.Av
open Go.Kn (Dc nmF arF csF)
set_option maxHeartbeats 64000000
set_option maxRecDepth 100000
def dcT(d:De):Dc:=⟨d.kind,ba d.name,d.vars.length,d.cons.map fun c=>ba c.name⟩
def arU(l:List De):List (List UInt8×Int):=(arF (l.map dcT)).map fun p=>(p.1.data.toList,p.2)
def csU(l:List De):List (List UInt8×List (List UInt8)):=(csF (l.map dcT)).map fun p=>(p.1.data.toList,p.2.map fun s=>s.data.toList)
def lsA(l:List (List UInt8)):AVal:=.slice (l.map .str)
def c1s(x:CX):AVal:=.agg (xcC x)
theorem d8u:∀l:List Co,b4o (l.map coV)=some (l.map fun c=>ba c.name)
 | []=>rfl
 | c::r=>by
  rw[List.map_cons,List.map_cons];show (if [AVal.int .i64 c.ty.kind,.str c.ty.name,.int .i64 c.ty.n,.slice (a3a c.ty.args)].length=4 then (b4o (r.map coV)).map (ba c.name:: ·) else none)=_
  simp only[List.length_cons,List.length_nil,Nat.reduceAdd,if_true,d8u r,Option.map_some]
theorem i6q(d:De)(h1:d.vars.length≤1073741824)(h2:d.cons.length≤1073741824):j4l (deV d)=some (dcT d):=by
 unfold deV deC j4l;simp only;rw[if_pos ⟨rfl,by rw[List.length_map];exact h1,by rw[List.length_map];exact h2⟩,d8u];simp only[Option.map_some,List.length_map];rfl
theorem d8q:∀l:List De,(∀d∈l,d.vars.length≤1073741824∧d.cons.length≤1073741824)→c8q (l.map deV)=some (l.map dcT)
 | [],_=>rfl
 | d::r,h=>by
  rw[List.map_cons,List.map_cons,c8q,i6q d (h d (by simp)).1 (h d (by simp)).2,Option.bind_some,d8q r fun x hx=>h x (by simp[hx])];rfl
theorem h4t:∀(l:List De) (n:Nat),(l.map dcT).foldl Go.Kn.nmS n≤n+De.sum l
 | [],n=>Nat.le_add_right _ _
 | d::r,n=>by
  rw[List.map_cons,List.foldl_cons];refine Nat.le_trans (h4t r _) ?_;have h1:Go.Kn.nmS n (dcT d)≤n+d.tot:=by
   have:d.cons.length≤d.tot:=by unfold De.tot;omega
   unfold Go.Kn.nmS dcT;split
   · simp;omega
   · omega
  have h2:De.sum (d::r)=d.tot+De.sum r:=by simp[De.sum]
  omega
theorem f6r(l:List De)(h:De.sum l≤12000):den E 81 [.slice (l.map deV)] []=some (.ptr (.par 0) 0,[[.own 1099511627777 0 (a8q i8j (arU l)),.own 1099511627777 0 (a8q lsA (csU l)),.own 1099511627777 0 (a8q c1s [])]]):=by
 have hl:=b6f l;rw[a9r i3v];unfold c7t;simp only;rw[d8q l fun d hd=>by
  have:=b0b hd;unfold De.tot at this;exact⟨by omega,by omega⟩]
 simp only[Option.bind_some,List.length_map];have hn:nmF (l.map dcT)≤1073741824:=by
  have:=h4t l 0;unfold nmF;omega
 rw[if_pos ⟨by omega,hn⟩];have e1:arA (arF (l.map dcT))=a8q i8j (arU l):=by unfold arA a8q arU i8j e6c;rw[List.map_map];rfl
 have e2:csA (csF (l.map dcT))=a8q lsA (csU l):=by
  unfold csA a8q csU lsA e6c;rw[List.map_map]
  congr 1
  funext p;simp
 rw[e1,e2];rfl
abbrev c3p:=List (List UInt8×CX)
def b9j(ar:List (List UInt8×Int))(d:De):List Co→Nat→c3p→(List UInt8×Int) ⊕ c3p
 | [],_,m=>.inr m
 | c::r,i,m=>if b3v ar c.ty==0 then (match b3t d c with
  | none=>.inl (c.name,112)
  | some x=>b9j ar d r (i+1) (b2n c.name {x with tag:=(i:Int)} m)) else .inl (c.name,b3v ar c.ty)
def g9k(ar:List (List UInt8×Int)):List De→c3p→(List UInt8×Int) ⊕ c3p
 | [],m=>.inr m
 | d::r,m=>if d.kind==2&&b3v ar d.ty !=0 then .inl (d.name,b3v ar d.ty) else (match b9j ar d d.cons 0 m with
  | .inl e=>.inl e
  | .inr m'=>g9k ar r m')
def d4c(l:List De):(List UInt8×Int) ⊕ c3p:=g9k (arU l) l []
def i4w(l:List De):(List UInt8×Int) ⊕ c3p→AVal×a3e
 | .inl e=>(.tup [.nilp,.str e.1,.int .i64 e.2],[])
 | .inr m=>(.tup [.ptr (.par 0) 0,.str [],.int .i64 0],[a4t (arU l) (a8q lsA (csU l)) (a8q c1s m)])
theorem b7n(ar:List (List UInt8×Int))(d:De)(c:Co)(r:List Co)(i:Nat)(m:c3p):b9j ar d (c::r) i m=if b3v ar c.ty==0 then (match b3t d c with
 | none=>.inl (c.name,112)
 | some x=>b9j ar d r (i+1) (b2n c.name {x with tag:=(i:Int)} m)) else .inl (c.name,b3v ar c.ty):=rfl
theorem c8i(ar:List (List UInt8×Int))(d:De)(r:List De)(m:c3p):g9k ar (d::r) m=if d.kind==2&&b3v ar d.ty !=0 then .inl (d.name,b3v ar d.ty) else (match b9j ar d d.cons 0 m with
 | .inl e=>.inl e
 | .inr m'=>g9k ar r m'):=rfl
theorem d8x(c:Co):coV c=.agg [.str c.name,.int .i64 c.ty.kind,.str c.ty.name,.int .i64 c.ty.n,.slice (a3a c.ty.args)]:=rfl
structure NewS where
 i:Nat
 m:c3p
theorem f4n(l:List De)(hg:∀d∈l,GD d)(hs:De.sum l≤12000):den E 25 [.slice (l.map deV)] []=some (i4w l (d4c l)):=by
 have hlen:=b6f l;have dk:=f6r l (by omega);obtain⟨ar,har⟩:∃ar,ar=arU l:=⟨_,rfl⟩
 obtain⟨cs,hcs⟩:∃cs,cs=a8q lsA (csU l):=⟨_,rfl⟩
 obtain⟨fin,hfin⟩:∃fin,fin=(some (i4w l (d4c l)):Option (AVal×a3e)):=⟨_,rfl⟩
 rw[←hfin];unfold i4w d4c at hfin;rw[←har,←hcs] at hfin dk;rw[a0d i4i,i7q];simp only[go_sem,Tryz.f25,dk,List.length_map];refine a0p (fun a:NewS=>a.i≤l.length∧g9k ar (l.drop a.i) a.m=g9k ar l []) (fun a=>⟨[(2,.ptr (.loc 14) 0),(15,.slice (l.map deV)),(16,.int .i64 l.length),(17,.int .i64 a.i)],[],[(14,a4t ar cs (a8q c1s a.m))],1⟩)
  (fun _=>fin) (fun a=>l.length - a.i) ⟨0,[]⟩ ⟨Nat.zero_le _,rfl⟩ ?_ ?_
 · simp only[go_sem]
 · rintro⟨i,m⟩ ⟨hi,hdf⟩ h;simp only at hi hdf⊢
   by_cases hlt:i<l.length
   · obtain⟨d,hx⟩:=a7p hlt;have hmem:=List.mem_of_getElem? hx;have hm:=b0b hmem;have hgd:=hg d hmem;rw[a2x hx,c8i] at hdf;have w1:IntKind.i64.wrap ((i:Int)+1)=((i+1:Nat):Int):=a1e (i+1) (by omega);have hdl:(l.map deV)[i]? =some (deV d):=by simp[hx]
     have dg:=d4m ar cs (a8q c1s m) d.ty (by unfold De.tot at hm;omega);rw[a0a] at dg;unfold a4t at dg;have hcons:∀c∈d.cons,GT c.ty∧c.ty.sz<12000:=fun c hc=>by
      have h1:c.ty.sz≤Ty.szs (d.cons.map Co.ty):=c8s hc;have h2:=b1f d.val;unfold De.tot at hm;refine⟨?_,by omega⟩;cases hgd with
      | data s vs cs _ _ h3=>exact (h3 c hc).2
      | sig _ _ _ _=>cases hc
      | bind _ _ _ _=>cases hc
     have hclen:d.cons.length≤12000:=by unfold De.tot at hm;omega
     cases k2:d.kind==2
     · rw[k2] at hdf;simp only[Bool.false_and,Bool.false_eq_true,if_false] at hdf;simp only[go_sem,a0g,decide_eq_true hlt,a0c,a0j,hdl,deV,deC,k2,List.length_map];refine a0p (fun a:NewS=>a.i≤d.cons.length∧b9j ar d (d.cons.drop a.i) a.i a.m=b9j ar d d.cons 0 m) (fun a=>⟨[(2,.ptr (.loc 14) 0),(6,.ptr (.loc 6) 0),(15,.slice (l.map deV)),(16,.int .i64 l.length),(17,.int .i64 i),(34,.slice (d.cons.map coV)),(35,.int .i64 d.cons.length),(36,.int .i64 a.i)],[],[(6,deC d),(14,a4t ar cs (a8q c1s a.m))],1⟩)
        (fun _=>fin) (fun a=>d.cons.length - a.i) ⟨0,m⟩ ⟨Nat.zero_le _,rfl⟩ ?_ ?_
       · simp only[go_sem,deC]
       · rintro⟨k,m2⟩ ⟨hk,hcf⟩ hh;simp only at hk hcf⊢
         by_cases hltk:k<d.cons.length
         · obtain⟨c,hc⟩:=a7p hltk;have hcm:=List.mem_of_getElem? hc;obtain⟨gc,sc⟩:=hcons c hcm;rw[a2x hc,b7n] at hcf;have w2:IntKind.i64.wrap ((k:Int)+1)=((k+1:Nat):Int):=a1e (k+1) (by omega);have hcl:(d.cons.map coV)[k]? =some (coV c):=by simp[hc]
           have dgc:=d4m ar cs (a8q c1s m2) c.ty (by omega);rw[a0a] at dgc;unfold a4t at dgc;cases hz:b3v ar c.ty==0
           · rw[hz] at hcf;simp only[Bool.false_eq_true,if_false] at hcf;rw[←hcf] at hdf;simp only at hdf;rw[←hdf] at hfin;simp only at hfin;simp only[go_sem,a0g,decide_eq_true hltk,a0c,a0j,hcl,coV,deC,dgc,hz,bne];rw[hfin]
           · rw[hz] at hcf;simp only[if_true] at hcf;cases hmd:b3t d c with
             | none=>
              rw[hmd] at hcf;simp only at hcf;rw[←hcf] at hdf;simp only at hdf;rw[←hdf] at hfin;simp only at hfin;have dm:=f5e d c gc sc hmd;rw[hmd] at dm;unfold deC okV xcC zCX zTy at dm;rw[d8x c] at dm;simp only[List.map_nil,b5y,b5w,h4u,c3k,a0h] at dm;simp only[go_sem,a0g,decide_eq_true hltk,a0c,a0j,hcl,coV,deC,dgc,hz,bne,dm];rw[hfin]
             | some x=>
              rw[hmd] at hcf;simp only at hcf;have dm:=e4f d c gc sc x hmd;unfold deC okV xcC at dm;rw[d8x c] at dm;simp only at dm;have hu:f1j (.str c.name) (.agg [.str x.name,.str x.data,.int .i64 (k:Int),.int .i64 x.ty.kind,.str x.ty.name,.int .i64 x.ty.n,.slice (a3a x.ty.args),.slice (x.univ.map .str),.slice (x.exis.map .str),.slice (x.givens.map gvV),.slice (a3a x.args)]) (a8q c1s m2)=some (a8q c1s (b2n c.name {x with tag:=(k:Int)} m2)):=b6r c1s c.name {x with tag:=(k:Int)} m2;simp only[go_sem,a0g,decide_eq_true hltk,a0c,a0j,hcl,coV,deC,dgc,hz,bne,dm,hu];refine hh ⟨k+1,b2n c.name {x with tag:=(k:Int)} m2⟩ _ ⟨show k+1≤d.cons.length by omega,hcf⟩ (show d.cons.length - (k+1)<d.cons.length - k by omega) ?_;simp only[go_sem,w2,deC]
         · have hke:k=d.cons.length:=by omega
           subst hke;rw[List.drop_length] at hcf;have hcf:(.inr m2:(List UInt8×Int) ⊕ c3p)=b9j ar d d.cons 0 m:=hcf;rw[←hcf] at hdf;simp only at hdf;simp only[go_sem,a0g,Nat.lt_irrefl];refine h ⟨i+1,m2⟩ _ ⟨show i+1≤l.length by omega,hdf⟩ (show l.length - (i+1)<l.length - i by omega) ?_;simp only[go_sem,w1]
     · cases hz:b3v ar d.ty==0
       · rw[k2] at hdf;simp only[bne,hz,Bool.not_false,Bool.and_self,if_true] at hdf;rw[←hdf] at hfin;simp only at hfin;simp only[go_sem,a0g,decide_eq_true hlt,a0c,a0j,hdl,deV,deC,k2,dg,hz,bne];rw[hfin]
       · rw[k2] at hdf;simp only[bne,hz,Bool.not_true,Bool.and_false,Bool.false_eq_true,if_false] at hdf;simp only[go_sem,a0g,decide_eq_true hlt,a0c,a0j,hdl,deV,deC,k2,dg,hz,bne,List.length_map];refine a0p (fun a:NewS=>a.i≤d.cons.length∧b9j ar d (d.cons.drop a.i) a.i a.m=b9j ar d d.cons 0 m) (fun a=>⟨[(2,.ptr (.loc 14) 0),(6,.ptr (.loc 6) 0),(15,.slice (l.map deV)),(16,.int .i64 l.length),(17,.int .i64 i),(34,.slice (d.cons.map coV)),(35,.int .i64 d.cons.length),(36,.int .i64 a.i)],[],[(6,deC d),(14,a4t ar cs (a8q c1s a.m))],1⟩)
          (fun _=>fin) (fun a=>d.cons.length - a.i) ⟨0,m⟩ ⟨Nat.zero_le _,rfl⟩ ?_ ?_
         · simp only[go_sem,deC]
         · rintro⟨k,m2⟩ ⟨hk,hcf⟩ hh;simp only at hk hcf⊢
           by_cases hltk:k<d.cons.length
           · obtain⟨c,hc⟩:=a7p hltk;have hcm:=List.mem_of_getElem? hc;obtain⟨gc,sc⟩:=hcons c hcm;rw[a2x hc,b7n] at hcf;have w2:IntKind.i64.wrap ((k:Int)+1)=((k+1:Nat):Int):=a1e (k+1) (by omega);have hcl:(d.cons.map coV)[k]? =some (coV c):=by simp[hc]
             have dgc:=d4m ar cs (a8q c1s m2) c.ty (by omega);rw[a0a] at dgc;unfold a4t at dgc;cases hz:b3v ar c.ty==0
             · rw[hz] at hcf;simp only[Bool.false_eq_true,if_false] at hcf;rw[←hcf] at hdf;simp only at hdf;rw[←hdf] at hfin;simp only at hfin;simp only[go_sem,a0g,decide_eq_true hltk,a0c,a0j,hcl,coV,deC,dgc,hz,bne];rw[hfin]
             · rw[hz] at hcf;simp only[if_true] at hcf;cases hmd:b3t d c with
               | none=>
                rw[hmd] at hcf;simp only at hcf;rw[←hcf] at hdf;simp only at hdf;rw[←hdf] at hfin;simp only at hfin;have dm:=f5e d c gc sc hmd;rw[hmd] at dm;unfold deC okV xcC zCX zTy at dm;rw[d8x c] at dm;simp only[List.map_nil,b5y,b5w,h4u,c3k,a0h] at dm;simp only[go_sem,a0g,decide_eq_true hltk,a0c,a0j,hcl,coV,deC,dgc,hz,bne,dm];rw[hfin]
               | some x=>
                rw[hmd] at hcf;simp only at hcf;have dm:=e4f d c gc sc x hmd;unfold deC okV xcC at dm;rw[d8x c] at dm;simp only at dm;have hu:f1j (.str c.name) (.agg [.str x.name,.str x.data,.int .i64 (k:Int),.int .i64 x.ty.kind,.str x.ty.name,.int .i64 x.ty.n,.slice (a3a x.ty.args),.slice (x.univ.map .str),.slice (x.exis.map .str),.slice (x.givens.map gvV),.slice (a3a x.args)]) (a8q c1s m2)=some (a8q c1s (b2n c.name {x with tag:=(k:Int)} m2)):=b6r c1s c.name {x with tag:=(k:Int)} m2;simp only[go_sem,a0g,decide_eq_true hltk,a0c,a0j,hcl,coV,deC,dgc,hz,bne,dm,hu];refine hh ⟨k+1,b2n c.name {x with tag:=(k:Int)} m2⟩ _ ⟨show k+1≤d.cons.length by omega,hcf⟩ (show d.cons.length - (k+1)<d.cons.length - k by omega) ?_;simp only[go_sem,w2,deC]
           · have hke:k=d.cons.length:=by omega
             subst hke;rw[List.drop_length] at hcf;have hcf:(.inr m2:(List UInt8×Int) ⊕ c3p)=b9j ar d d.cons 0 m:=hcf;rw[←hcf] at hdf;simp only at hdf;simp only[go_sem,a0g,Nat.lt_irrefl];refine h ⟨i+1,m2⟩ _ ⟨show i+1≤l.length by omega,hdf⟩ (show l.length - (i+1)<l.length - i by omega) ?_;simp only[go_sem,w1]
   · have hie:i=l.length:=by omega
     subst hie;rw[List.drop_length] at hdf;have hdf:(.inr m:(List UInt8×Int) ⊕ c3p)=g9k ar l []:=hdf;rw[←hdf] at hfin;simp only at hfin;simp only[go_sem,a0g,Nat.lt_irrefl];rw[hfin];rfl
end Go.Proofs
