/- The examples of the chapter; the law. -/
import Derived.Test.YtjfghnkmladbkaaGreatDoorAvM
import Derived.Test.YtjfghnkmladbkaaGreatDoorAvK
namespace Go.Proofs
open Go.Av
set_option maxHeartbeats 64000000
set_option maxRecDepth 100000
theorem gt0(n:Nat):decide ((n:Int)>0)=decide (0<n):=by simp
theorem f0n(s:List UInt8):(∃e:Int,(e !=0)=true∧den E 30 [.str s] []=some (.tup [tyV zTy,.int .i64 e],[]))∨
 ∃l t,a5d s=(l,0)∧tyR F0 .typ l=some (t,true,[])∧t.depth≤50∧GT t∧t.sz≤4000∧den E 30 [.str s] []=some (.tup [tyV t,.int .i64 0],[]):=by
 obtain⟨pos,hT⟩:=d1u s;have hsc:=c4z s;rw[hT] at hsc;obtain⟨h1,h2⟩:=b8q s;cases h0:(a5d s).2 !=0
 · have h00:(a5d s).2=0:=by rw[b0v] at h0;simpa using h0
   obtain⟨⟨t,ok,l'⟩,hr⟩:=d7q F0 .typ (a5d s).1 (by unfold F0;simp only[b2s];omega);have hd:=d4i (a5d s).1 F0 (t,ok,l') (k0p h2) (by omega) hr;cases ok with
   | false=>
    left
    refine⟨20,by decide,?_⟩;simp only[Bool.false_eq_true,if_false] at hd;rw[a0d c5h,c7m];rw[b9r] at hd⊢;simp only[go_sem,Tryz.f30,hsc,h0,hd]
   | true=>
    simp only[if_true] at hd;have g:=gt0 l'.length;have k:=a0w l';cases hl:decide (0<l'.length)
    · have hl0:l'=[]:=by
       cases l' with
       | nil=>rfl
       | cons a b=>simp at hl
      subst hl0;have ok:=f0k F0 .typ _ t [] h2 hr;have ok:GT t∧t.sz+([]:List Tok).length≤(a5d s).1.length:=ok;have hs:t.sz≤4000:=by have:=ok.2;simp at this;omega
      have dd:=b5q _ t (Nat.le_refl _) (by omega);have td:=c8p t;cases hdp:decide (t.depth>50)
      · right
        refine⟨(a5d s).1,t,by rw[←h00],hr,by simpa using hdp,ok.1,hs,?_⟩;rw[hdp] at td;rw[a0d c5h,c7m];rw[a0a] at hd dd⊢;simp only[go_sem,Tryz.f30,hsc,h0,hd,a9b,dd,td,gt_iff_lt,Int.lt_irrefl]
      · left
        refine⟨3,by decide,?_⟩;rw[hdp] at td;rw[a0d c5h,c7m];rw[a0a] at hd dd;rw[b9r];simp only[go_sem,Tryz.f30,hsc,h0,hd,a9b,dd,td,gt_iff_lt,Int.lt_irrefl]
    · left
      refine⟨20,by decide,?_⟩;rw[hl] at g;rw[a0d c5h,c7m];rw[a0a] at hd;rw[b9r];simp only[go_sem,Tryz.f30,hsc,h0,hd,k,g]
 · left
   refine⟨(a5d s).2,h0,?_⟩;rw[a0d c5h,c7m];rw[b9r];simp only[go_sem,Tryz.f30,hsc,h0]
def cS(t:Ty):List UInt8:=(prR (3*(d1a t).sz) .pr (d1a t)).getD []
theorem b6l(t:Ty)(hg:GT t)(hb:t.sz<20000):den E 85 [tyV t] []=some (.str (cS t),[]):=by
 obtain⟨s,h1,h2⟩:=e9e t hg hb;unfold cS;rw[h1 _ (Nat.le_refl _)];exact h2
theorem f9g(t:Ty)(hg:GT t)(hb:t.sz<20000):GT (d1a t)∧(d1a t).sz=t.sz:=by
 have hle:=a3p _ t (Nat.le_refl _) [] [];simp only[List.length_nil,Nat.zero_add] at hle;have hp:t.sz*((a0r t [] []).length+1)≤20000*20001:=Nat.mul_le_mul (by omega) (by omega);obtain⟨_,g,hs,_⟩:=e1j (a0r t [] []) (by omega) _ t (Nat.le_refl _) hg (by omega) 0 (by omega);exact⟨g,hs⟩
theorem e3e(t:Ty)(hg:GT t)(hb:t.sz<20000):(cS t).length≤800000:=by
 obtain⟨g,hs⟩:=f9g t hg hb;obtain⟨s,h1,h2⟩:=h2n g (by omega);unfold cS;rw[h2 _ (Nat.le_refl _)];simp only[Option.getD_some];omega
def tx1:List (List UInt8)→List UInt8→List UInt8
 | [],s=>s
 | u::r,s=>tx1 r (s++[32]++u)
def tx2:List Gv→List UInt8→List UInt8
 | [],s=>s
 | g::r,s=>tx2 r (s++[59,32]++g.name++[58,32]++cS g.l++[32,126,32]++cS g.r)
def tx3:List Ty→List UInt8→List UInt8
 | [],s=>s
 | t::r,s=>tx3 r (s++[59,32]++cS t)
def f0u(c:CX):List UInt8:=tx3 c.args (tx2 c.givens (tx1 c.exis (tx1 c.univ (c.name++[32]++c.data++[32]++Lib.itoa (max 0 c.tag)++[32]++cS c.ty)++[59])))
structure OkX (c:CX):Prop where
 nm:c.name.length≤16
 dt:c.data.length≤16
 tag:0≤c.tag∧c.tag<100000000
 ty:GT c.ty∧c.ty.sz<20000
 un:c.univ.length≤100000∧∀u∈c.univ,u.length≤16
 ex:c.exis.length≤100000∧∀u∈c.exis,u.length≤16
 gv:c.givens.length≤100000∧∀g∈c.givens,g.name.length≤16∧(GT g.l∧g.l.sz<20000)∧GT g.r∧g.r.sz<20000
 ar:c.args.length≤100000∧∀t∈c.args,GT t∧t.sz<20000
structure TxS where
 i:Nat
 s:List UInt8
theorem k0b(l:List Gv)(i:Nat):(l.map gvV)[i]? =(l[i]?).map gvV:=by simp
theorem sle{n:Nat}(h:n≤1000000000000):(n≤a1t)=True:=by unfold a1t;simp;omega
theorem f8x(c:CX)(h:OkX c):den E 28 [.agg (xcC c)] []=some (.str (f0u c),[]):=by
 obtain⟨k1,k2,⟨k3,k3'⟩,⟨k4,k4'⟩,⟨k5,k5'⟩,⟨k6,k6'⟩,⟨k7,k7'⟩,⟨k8,k8'⟩⟩:=h;obtain⟨tg,htg⟩:∃n:Nat,c.tag=n:=⟨c.tag.toNat,by omega⟩
 have d1:=a4m tg (by omega);have dc:=b6l c.ty k4 k4';have lc:=e3e c.ty k4 k4';have li:=b0a 8 tg (by
  have e:(10:Nat) ^ (8+1)=1000000000:=by decide
  omega)
 rw[a0a] at dc;rw[a0d i1x,i5l];obtain⟨fin,hfin⟩:∃fin,fin=(some (.str (f0u c),[]):Option (AVal×a2p)):=⟨_,rfl⟩
 rw[←hfin];unfold f0u at hfin;rw[htg] at hfin;have hmx:max (0:Int) (tg:Int)=(tg:Int):=by omega
 have hmx2:(if (tg:Int)>0 then (tg:Int) else 0)=(tg:Int):=by split<;>omega
 rw[hmx] at hfin;have l1:(c.name.length+1≤a1t)=True:=sle (by omega);have l2:((c.name++[32]).length+c.data.length≤a1t)=True:=sle (by simp;omega);have l3:((c.name++[32]++c.data).length+1≤a1t)=True:=sle (by simp;omega);have l4:((c.name++[32]++c.data++[32]).length+(Lib.itoa (tg:Int)).length≤a1t)=True:=sle (by simp;omega);have l5:((c.name++[32]++c.data++[32]++Lib.itoa (tg:Int)).length+1≤a1t)=True:=sle (by simp;omega);have l6:((c.name++[32]++c.data++[32]++Lib.itoa (tg:Int)++[32]).length+(cS c.ty).length≤a1t)=True:=sle (by simp;omega);have hb0:(c.name++[32]++c.data++[32]++Lib.itoa (tg:Int)++[32]++cS c.ty).length≤1000000:=by simp;omega
 simp only[go_sem,Tryz.f28,xcC,htg,hmx2,d1,dc,l1,l2,l3,l4,l5,l6];generalize (c.name++[32]++c.data++[32]++Lib.itoa (tg:Int)++[32]++cS c.ty)=S0 at hfin hb0⊢;obtain⟨T1,hT1⟩:∃T1,T1=tx1 c.univ S0:=⟨_,rfl⟩
 rw[←hT1] at hfin;clear l1 l2 l3 l4 l5 l6 d1 dc lc li;refine a0o (fun a:TxS=>a.i≤c.univ.length∧tx1 (c.univ.drop a.i) a.s=T1∧a.s.length≤1000000+17*a.i) (fun a=>⟨[(1,.ptr (.loc 1) 0),(3,.str a.s),(4,.int .i64 a.i)],[],[(1,xcC c)],1⟩) (fun _=>fin) (fun a=>c.univ.length - a.i) ⟨0,S0⟩ ⟨Nat.zero_le _,hT1.symm,by simp only;omega⟩ ?_ ?_
 · simp only[go_sem,xcC,htg]
 · rintro⟨i,s⟩ ⟨hi,hs,hl⟩ h;simp only at hi hs hl⊢
   by_cases hlt:i<c.univ.length
   · obtain⟨u,hu⟩:=a6v hlt;rw[a2a hu] at hs;have hs:tx1 (c.univ.drop (i+1)) (s++[32]++u)=T1:=hs;have lu:=k5' u (List.mem_of_getElem? hu);have w1:IntKind.i64.wrap ((i:Int)+1)=((i+1:Nat):Int):=a0z (i+1) (by omega);have l1:(s.length+1≤a1t)=True:=sle (by omega);have l2:((s++[32]).length+u.length≤a1t)=True:=sle (by simp;omega);simp only[go_sem,xcC,htg,List.length_map,a0e,decide_eq_true hlt,a0c,a0i,a4r,hu,l1,l2];refine h ⟨i+1,s++[32]++u⟩ _ ⟨show i+1≤c.univ.length by omega,hs,by simp;omega⟩ (show c.univ.length - (i+1)<c.univ.length - i by omega) ?_;simp only[go_sem,xcC,htg,w1]
   · have hie:i=c.univ.length:=by omega
     subst hie;rw[List.drop_length] at hs;have hs:s=T1:=hs;subst hs;have l1:(s.length+1≤a1t)=True:=sle (by omega);have hl1:(s++[59]).length≤3000000:=by simp;omega
     simp only[go_sem,xcC,htg,List.length_map,a0e,Nat.lt_irrefl,l1];clear h;generalize s++[59]=S1 at hfin hl1⊢;obtain⟨T2,hT2⟩:∃T2,T2=tx1 c.exis S1:=⟨_,rfl⟩
     rw[←hT2] at hfin;refine a0o (fun a:TxS=>a.i≤c.exis.length∧tx1 (c.exis.drop a.i) a.s=T2∧a.s.length≤3000000+17*a.i) (fun a=>⟨[(1,.ptr (.loc 1) 0),(3,.str a.s),(5,.int .i64 a.i)],[],[(1,xcC c)],1⟩) (fun _=>fin) (fun a=>c.exis.length - a.i) ⟨0,S1⟩ ⟨Nat.zero_le _,hT2.symm,by simp only;omega⟩ ?_ ?_
     · simp only[go_sem,xcC,htg]
     · rintro⟨i,s2⟩ ⟨hi2,hs2,hl2⟩ h;simp only at hi2 hs2 hl2⊢
       by_cases hlt:i<c.exis.length
       · obtain⟨u,hu⟩:=a6v hlt;rw[a2a hu] at hs2;have hs2:tx1 (c.exis.drop (i+1)) (s2++[32]++u)=T2:=hs2;have lu:=k6' u (List.mem_of_getElem? hu);have w1:IntKind.i64.wrap ((i:Int)+1)=((i+1:Nat):Int):=a0z (i+1) (by omega);have l1:(s2.length+1≤a1t)=True:=sle (by omega);have l2:((s2++[32]).length+u.length≤a1t)=True:=sle (by simp;omega);simp only[go_sem,xcC,htg,List.length_map,a0e,decide_eq_true hlt,a0c,a0i,a4r,hu,l1,l2];refine h ⟨i+1,s2++[32]++u⟩ _ ⟨show i+1≤c.exis.length by omega,hs2,by simp;omega⟩ (show c.exis.length - (i+1)<c.exis.length - i by omega) ?_;simp only[go_sem,xcC,htg,w1]
       · have hie:i=c.exis.length:=by omega
         subst hie;rw[List.drop_length] at hs2;have hs2:s2=T2:=hs2;subst hs2;have hl3:s2.length≤5000000:=by omega
         simp only[go_sem,xcC,htg,List.length_map,a0e,Nat.lt_irrefl];clear h hl2;obtain⟨T3,hT3⟩:∃T3,T3=tx2 c.givens s2:=⟨_,rfl⟩
         rw[←hT3] at hfin;refine a0o (fun a:TxS=>a.i≤c.givens.length∧tx2 (c.givens.drop a.i) a.s=T3∧a.s.length≤5000000+1700000*a.i) (fun a=>⟨[(1,.ptr (.loc 1) 0),(3,.str a.s),(6,.int .i64 a.i)],[],[(1,xcC c)],1⟩) (fun _=>fin) (fun a=>c.givens.length - a.i) ⟨0,s2⟩ ⟨Nat.zero_le _,hT3.symm,by simp only;omega⟩ ?_ ?_
         · simp only[go_sem,xcC,htg]
         · rintro⟨i,s3⟩ ⟨hi3,hs3,hl4⟩ h;simp only at hi3 hs3 hl4⊢
           by_cases hlt:i<c.givens.length
           · obtain⟨g,hu⟩:=a6v hlt;rw[a2a hu] at hs3;have hs3:tx2 (c.givens.drop (i+1)) (s3++[59,32]++g.name++[58,32]++cS g.l++[32,126,32]++cS g.r)=T3:=hs3;obtain⟨lu,⟨gl,gl'⟩,gr,gr'⟩:=k7' g (List.mem_of_getElem? hu);have dl:=b6l g.l gl gl';have ll:=e3e g.l gl gl';have dr:=b6l g.r gr gr';have lr:=e3e g.r gr gr';rw[a0a] at dl dr;have w1:IntKind.i64.wrap ((i:Int)+1)=((i+1:Nat):Int):=a0z (i+1) (by omega);have l1:(s3.length+2≤a1t)=True:=sle (by omega);have l2:((s3++[59,32]).length+g.name.length≤a1t)=True:=sle (by simp;omega);have l3:((s3++[59,32]++g.name).length+2≤a1t)=True:=sle (by simp;omega);have l4:((s3++[59,32]++g.name++[58,32]).length+(cS g.l).length≤a1t)=True:=sle (by simp;omega);have l5:((s3++[59,32]++g.name++[58,32]++cS g.l).length+3≤a1t)=True:=sle (by simp;omega);have l6:((s3++[59,32]++g.name++[58,32]++cS g.l++[32,126,32]).length+(cS g.r).length≤a1t)=True:=sle (by simp;omega);simp only[go_sem,xcC,htg,List.length_map,a0e,decide_eq_true hlt,a0c,a0i,k0b,hu,f6f,dl,dr,l1,l2,l3,l4,l5,l6];refine h ⟨i+1,s3++[59,32]++g.name++[58,32]++cS g.l++[32,126,32]++cS g.r⟩ _ ⟨show i+1≤c.givens.length by omega,hs3,by simp;omega⟩ (show c.givens.length - (i+1)<c.givens.length - i by omega) ?_;simp only[go_sem,xcC,htg,w1]
           · have hie:i=c.givens.length:=by omega
             subst hie;rw[List.drop_length] at hs3;have hs3:s3=T3:=hs3;subst hs3;have hl5:s3.length≤200000000000:=by omega
             simp only[go_sem,xcC,htg,List.length_map,a0e,Nat.lt_irrefl];clear h hl4;obtain⟨T4,hT4⟩:∃T4,T4=tx3 c.args s3:=⟨_,rfl⟩
             rw[←hT4] at hfin;have rl:=a1q c.args;refine a0o (fun a:TxS=>a.i≤c.args.length∧tx3 (c.args.drop a.i) a.s=T4∧a.s.length≤200000000000+900000*a.i) (fun a=>⟨[(1,.ptr (.loc 1) 0),(3,.str a.s),(7,.int .i64 a.i)],[],[(1,xcC c)],1⟩) (fun _=>fin) (fun a=>c.args.length - a.i) ⟨0,s3⟩ ⟨Nat.zero_le _,hT4.symm,by simp only;omega⟩ ?_ ?_
             · simp only[go_sem,xcC,htg]
             · rintro⟨i,s4⟩ ⟨hi4,hs4,hl6⟩ h;simp only at hi4 hs4 hl6⊢
               by_cases hlt:i<c.args.length
               · obtain⟨t,hu⟩:=a6v hlt;rw[a2a hu] at hs4;have hs4:tx3 (c.args.drop (i+1)) (s4++[59,32]++cS t)=T4:=hs4;obtain⟨gt,gt'⟩:=k8' t (List.mem_of_getElem? hu);have dl:=b6l t gt gt';have ll:=e3e t gt gt';rw[a0a] at dl;have w1:IntKind.i64.wrap ((i:Int)+1)=((i+1:Nat):Int):=a0z (i+1) (by omega);have l1:(s4.length+2≤a1t)=True:=sle (by omega);have l2:((s4++[59,32]).length+(cS t).length≤a1t)=True:=sle (by simp;omega);simp only[go_sem,xcC,htg,rl,a0e,decide_eq_true hlt,a0c,a0i,a4g,hu,a0a,dl,l1,l2];refine h ⟨i+1,s4++[59,32]++cS t⟩ _ ⟨show i+1≤c.args.length by omega,hs4,by simp;omega⟩ (show c.args.length - (i+1)<c.args.length - i by omega) ?_;simp only[go_sem,xcC,htg,w1]
               · have hie:i=c.args.length:=by omega
                 subst hie;rw[List.drop_length] at hs4;have hs4:s4=T4:=hs4;subst hs4;simp only[go_sem,xcC,htg,rl,a0e,Nat.lt_irrefl];rw[hfin]
theorem d8i:∀(l:List (List UInt8)) (c:Cal) (ex:List (List UInt8)),(∀u∈ex,u.length≤16)→ex.length+l.length≤100000000→∀u∈(lp2 l c ex).2,u.length≤16
 | [],c,ex,h,_=>h
 | n::r,c,ex,h,hb=>by
  simp only[List.length_cons] at hb;rw[e1x];split
  · exact d8i r _ _ (fun u hu=>by
     rcases List.mem_append.1 hu with hu|hu
     · exact h u hu
     · simp at hu;subst hu;exact (a6t 101 ex.length (by omega)).1) (by simp;omega)
  · exact d8i r c ex h (by omega)
theorem f3z(called:Cal)(names:List (List UInt8))(ts:List Ty)(Q:Gv→Prop):∀(l:List Nat) (acc:List Gv),(∀g∈acc,Q g)→(∀k∈l,∀i,i<acc.length+l.length→Q ⟨g0g i,.mk 1 (a4e k) 0 [],b1s called names (ts.getD k zTy)⟩)→(∀g∈lp3 called names ts l acc,Q g)∧(lp3 called names ts l acc).length=acc.length+l.length
 | [],acc,h,_=>⟨h,rfl⟩
 | k::r,acc,h,hq=>by
  rw[e1v];obtain⟨q1,q2⟩:=f3z called names ts Q r (acc++[⟨g0g acc.length,.mk 1 (a4e k) 0 [],b1s called names (ts.getD k zTy)⟩]) (fun g hg=>by
   rcases List.mem_append.1 hg with hg|hg
   · exact h g hg
   · simp at hg;subst hg;exact hq k (by simp) acc.length (by simp)) (fun k' hk' i hi=>hq k' (by simp[hk']) i (by simp at hi⊢;omega))
  exact⟨q1,by rw[q2];simp;omega⟩
theorem h2i:∀(n:Nat) (t:Ty) (acc:List Ty),t.sz≤n→GT t→∀x∈(spF n t acc).1,x∉acc→x.sz≤t.sz
 | 0,t,acc,h,_=>by have:=a2s t;omega
 | n+1,t,acc,hn,hg=>by
  cases hk:t.kind==4
  · rw[b1c _ t acc hk];exact fun x hx hx2=>absurd hx hx2
  · obtain⟨u,v,rfl,hu,hv⟩:=hg.fn_inv hk;rw[a0y,a1h] at hn;rw[c8x];intro x hx hx2
    by_cases hxu:x=u
    · subst hxu;rw[a0y,a1h];omega
    · have:=h2i n v (acc++[u]) (by omega) hv x hx (by simp[hx2,hxu]);rw[a0y,a1h];omega
theorem i2r(d:De)(c:Co)(hg:GT c.ty)(hb:c.ty.sz<12000)(hn:c.name.length≤16)(hd:d.name.length≤16)(X:CX)(hm:b7u d c=some X)(k:Nat)(hk:k<100000000):OkX {X with tag:=(k:Int)}:=by
 have hfl:=a3p _ c.ty (Nat.le_refl _) [] [];simp only[List.length_nil,Nat.zero_add] at hfl;have hbd:c.ty.sz*((a0r c.ty [] []).length+1)≤900000000:=Nat.le_trans (Nat.mul_le_mul (show c.ty.sz≤12000 by omega) (show _≤12001 by omega)) (by omega);obtain⟨g1,s1,n1,o1⟩:=d2k 112 (a0r c.ty [] []) c.ty.sz c.ty 0 (Nat.le_refl _) hg (by omega) (by omega);unfold b7u at hm;simp only at hm;generalize a9y 112 (a0r c.ty [] []) c.ty.sz c.ty 0=p at *;obtain⟨names,body⟩:=p;simp only at g1 s1 n1 o1 hm;obtain⟨g2,s2,a2,n2⟩:=c4t body.sz body [] (Nat.le_refl _) g1 (fun x hx=>by cases hx) (by omega);have a3:=h2i body.sz body [] (Nat.le_refl _) g1;generalize spF body.sz body []=q at *;obtain⟨acc,t⟩:=q;simp only at g2 s2 a2 n2 hm a3;split at hm
 case isFalse=>cases hm
 injection hm with hm;have hta:=g2.args;have hal:=a4n t;have hsz:=a2s t;obtain⟨w1o,w1i,w1l⟩:=e1y t.args 0 [] [] (fun p hp=>by cases hp) (by omega) (fun k hk=>by cases hk);obtain⟨w2o,w2n,_,w2l⟩:=e1w names (lp1 t.args 0 [] []).1 [] w1o (by simp;omega);have w2m:=d8i names (lp1 t.args 0 [] []).1 [] (fun u hu=>by cases hu) (by simp;omega);generalize lp1 t.args 0 [] []=a at *;obtain⟨C1,IX⟩:=a;simp only at hm w1o w1i w1l w2o w2n w2l w2m;generalize lp2 names C1 []=b at *;obtain⟨C2,EX⟩:=b;simp only at hm w2o w2n w2l w2m;have hcal:∀n∈names,(a2o n C2).getD []≠[]∧((a2o n C2).getD []).length≤16:=fun n hn=>by
  have h1:=w2n n hn;cases h2:a2o n C2 with
  | none=>rw[h2] at h1;cases h1
  | some v=>exact w2o.look h2
 have gvs:=f3z C2 names t.args (fun g=>g.name.length≤16∧(GT g.l∧g.l.sz<20000)∧GT g.r∧g.r.sz<20000) IX [] (fun g hg=>by cases hg) (fun k hk i hi=>by
  have hkt:=w1i k hk;obtain⟨y,hy⟩:=a6v (l:=t.args) (i:=k) (by omega);have hyd:t.args.getD k zTy=y:=by rw[List.getD_eq_getElem?_getD,hy];rfl
  have hym:=List.mem_of_getElem? hy;have hys:=a2w hym;obtain⟨_,gr,sr⟩:=c3v C2 names y (by omega) hcal (hta y hym) (by omega);simp only[List.length_nil] at hi w1l;refine⟨(a6t 103 i (by omega)).1,⟨.var _ (a6t 117 k (by omega)).1,by rw[c1r];omega⟩,by simp only[hyd];exact gr,by simp only[hyd];omega⟩)
 subst hm;simp only[List.length_nil] at w2l w1l n2 gvs;refine⟨hn,hd,⟨by simp only;omega,by simp only;omega⟩,⟨hg,by simp only;omega⟩,⟨by simp;omega,fun u hu=>?_⟩,⟨by simp only;omega,w2m⟩,⟨by rw[gvs.2];omega,gvs.1⟩,⟨by simp;omega,fun u hu=>?_⟩⟩
 · obtain⟨i,hi,rfl⟩:=List.mem_map.1 hu;have:=List.mem_range.1 hi;exact (a6t 117 i (by omega)).1
 · obtain⟨y,hy,rfl⟩:=List.mem_map.1 hu;have:=a3 y hy (by simp);obtain⟨_,gr,sr⟩:=c3v C2 names y (by omega) hcal (a2 y hy).1 (by omega);exact⟨gr,by omega⟩
def g0i(m:c1q):Prop:=∀p∈m,OkX p.2
theorem g0i.upd{m:c1q}(h:g0i m){k:List UInt8}{x:CX}(hx:OkX x):g0i (b6s k x m):=by
 induction m with
 | nil=>intro p hp;simp[b6s] at hp;subst hp;exact hx
 | cons a r ih=>
  intro p hp;rw[b6s] at hp;split at hp
  · rcases List.mem_cons.1 hp with rfl|hp
    · exact hx
    · exact h p (by simp[hp])
  · rcases List.mem_cons.1 hp with rfl|hp
    · exact h _ (by simp)
    · exact ih (fun q hq=>h q (by simp[hq])) p hp
theorem g0i.look{m:c1q}(h:g0i m){k:List UInt8}{x:CX}(hk:a2o k m=some x):OkX x:=by
 induction m with
 | nil=>cases hk
 | cons a r ih=>
  rw[a2o] at hk;split at hk
  · injection hk with hk;subst hk;exact h a (by simp)
  · exact ih (fun q hq=>h q (by simp[hq])) hk
theorem e2y(ar:List (List UInt8×Int))(d:De)(hd:d.name.length≤16):∀(l:List Co) (i:Nat) (m m':c1q),(∀c∈l,c.name.length≤16∧GT c.ty∧c.ty.sz<12000)→i+l.length≤1000000→g0i m→b8a ar d l i m=.inr m'→g0i m'
 | [],i,m,m',_,_,hm,h=>by
  have h:(.inr m:(List UInt8×Int) ⊕ c1q)=.inr m':=h;injection h with h;subst h;exact hm
 | c::r,i,m,m',hl,hi,hm,h=>by
  simp only[List.length_cons] at hi;obtain⟨c1,c2,c3⟩:=hl c (by simp);rw[b6h] at h;split at h
  · cases hmd:b7u d c with
    | none=>rw[hmd] at h;simp only at h;cases h
    | some x=>
     rw[hmd] at h;simp only at h;exact e2y ar d hd r (i+1) _ m' (fun c hc=>hl c (by simp[hc])) (by omega) (hm.upd (i2r d c c2 c3 c1 hd x hmd i (by omega))) h
  · cases h
theorem i3g{d:De}(h:GD d):d.name.length≤16∧∀c∈d.cons,c.name.length≤16∧GT c.ty:=by
 cases h with
 | data s vs cs h1 _ h3=>exact⟨h1,h3⟩
 | sig s t h1 _=>exact⟨h1,fun c hc=>by cases hc⟩
 | bind s x h1 _=>exact⟨h1,fun c hc=>by cases hc⟩
theorem f8r(ar:List (List UInt8×Int)):∀(l:List De) (m m':c1q),(∀d∈l,GD d∧d.tot≤12000)→g0i m→g7w ar l m=.inr m'→g0i m'
 | [],m,m',_,hm,h=>by
  have h:(.inr m:(List UInt8×Int) ⊕ c1q)=.inr m':=h;injection h with h;subst h;exact hm
 | d::r,m,m',hl,hm,h=>by
  obtain⟨hgd,ht⟩:=hl d (by simp);obtain⟨g1,g2⟩:=i3g hgd;have hp:=a9k d.val;unfold De.tot at ht;rw[c6v] at h;split at h
  · cases h
  · cases hc:b8a ar d d.cons 0 m with
    | inl e=>rw[hc] at h;simp only at h;cases h
    | inr m2=>
     rw[hc] at h;simp only at h;refine f8r ar r m2 m' (fun x hx=>hl x (by simp[hx])) ?_ h;refine e2y ar d g1 d.cons 0 m m2 (fun c hc=>?_) (by omega) hm hc;have:=c1f hc;exact⟨(g2 c hc).1,(g2 c hc).2,by omega⟩
theorem i2n(l:List De)(hg:∀d∈l,GD d)(hs:De.sum l≤12000)(m:c1q)(h:d2q l=.inr m):g0i m:=
 f8r _ l [] m (fun d hd=>⟨hg d hd,Nat.le_trans (a9i hd) hs⟩) (fun p hp=>by cases hp) h
theorem GX.sx{e:Ex}(h:GX e):SX e:=by
 induction h with
 | nam k s hk _=>exact .mk _ (fun _=>⟨rfl,rfl⟩) (fun h3=>by rcases hk with rfl|rfl<;>simp[Ex.kind] at h3) (fun h3=>by rcases hk with rfl|rfl<;>simp[Ex.kind] at h3) (by simp[Ex.kids]) (by simp[Ex.alts])
 | lam s x _ _ ih=>exact .mk _ (by simp[Ex.kind]) (fun _=>⟨⟨x,rfl⟩,rfl⟩) (by simp[Ex.kind]) (by simp[Ex.kids,ih]) (by simp[Ex.alts])
 | app x y _ _ ih1 ih2=>exact .mk _ (by simp[Ex.kind]) (by simp[Ex.kind]) (by simp[Ex.kind]) (by simp[Ex.kids,ih1,ih2]) (by simp[Ex.alts])
 | lett s t x y _ _ _ _ ih1 ih2=>exact .mk _ (by simp[Ex.kind]) (by simp[Ex.kind]) (fun _=>⟨⟨x,y,rfl⟩,rfl⟩) (by simp[Ex.kids,ih1,ih2]) (by simp[Ex.alts])
 | letu s x y _ _ _ ih1 ih2=>exact .mk _ (by simp[Ex.kind]) (by simp[Ex.kind]) (fun _=>⟨⟨x,y,rfl⟩,rfl⟩) (by simp[Ex.kids,ih1,ih2]) (by simp[Ex.alts])
 | cas x al _ _ _ ih1 ih2=>exact .mk _ (by simp[Ex.kind]) (by simp[Ex.kind]) (by simp[Ex.kind]) (by simp[Ex.kids,ih1]) (fun a ha=>ih2 a ha)
 | ann x t _ _ ih=>exact .mk _ (by simp[Ex.kind]) (by simp[Ex.kind]) (by simp[Ex.kind]) (by simp[Ex.kids,ih]) (by simp[Ex.alts])
theorem GD.sx{d:De}(h:GD d)(hk:d.kind=3):SX d.val:=by
 cases h with
 | data=>simp at hk
 | sig=>simp at hk
 | bind s x _ hx=>exact hx.sx
def g1m(p:List De×Int):AVal:=if p.2 !=0 then .tup [.slice [],.slice [],.bool false] else .tup [.slice (p.1.map deV),.slice (p.1.map deV),.bool ((h3b p.1).2==0)]
theorem e0o{f:Nat}{s:List UInt8}{p:List De×Int}(hp:b4r f s=some p):den E 24 [.str s] []=some (g1m p,[]):=by
 obtain⟨h1,h2⟩:=f2r hp;unfold d2l at h1 h2;rw[a0d i2b,i5p];unfold g1m;cases h0:(p.2 !=0)
 · have h00:p.2=0:=by rw[b0v] at h0;simpa using h0
   have key:=c0m hp h00;have h3:=f9e p.1 (fun d hd hk=>(key.1 d hd).sx hk) (by have:=key.2;omega);unfold seV at h3;simp only[go_sem,Tryz.f24,h1,h2,h0,h3]
 · simp only[go_sem,Tryz.f24,h1,h2,h0]
theorem d9s(ar:List (List UInt8×Int))(cs:List AVal)(m:c1q)(n:List UInt8):den E 27 [.ptr (.par 0) 0,.str n] [b1v ar cs (a8w b2h m)]=some (match a2o n m with
 | none=>.tup [.agg (xcC zCX),.bool false]
 | some x=>.tup [.agg (xcC x),.bool true],[b1v ar cs (a8w b2h m)]):=by
 have hf:=a8e b2h n m;rw[a0d i1y,i5m];cases hk:a2o n m with
 | none=>
  rw[hk] at hf;simp only[Option.map_none] at hf;simp only[go_sem,Tryz.f27,hf,xcC,zCX,zTy,List.map_nil,b0r,b0q,f3i,b3i,a0f]
 | some x=>
  rw[hk] at hf;simp only[Option.map_some,b2h,xcC] at hf;simp only[go_sem,Tryz.f27,hf,xcC]
def j2o(n:List UInt8)(t:List UInt8)(r:(List UInt8×Int) ⊕ c1q):Bool:=match r with
 | .inl e=>decide (0≤e.2)&&(decide (e.2<1000)&&(decide (e.1.length≤1000)&&t==e.1++[32]++Lib.itoa e.2))
 | .inr m=>match a2o n m with
  | none=>false
  | some x=>f0u x==t
def g8g(f:Nat)(s n t:List UInt8):Bool:=match b4r f s with
 | some p=>p.2==0&&((h3b p.1).2==0&&j2o n t (d2q p.1))
 | none=>false
theorem b8b{f:Nat}{s n t:List UInt8}(h:g8g f s n t=true):den E 77 [.str s,.str n] []=some (.str t,[]):=by
 unfold g8g at h;split at h
 case h_2=>cases h
 rename_i p hp;simp only[Bool.and_eq_true] at h;obtain⟨h0,h1,h2⟩:=h;have h00:p.2=0:=by simpa using h0
 have key:=c0m hp h00;have dr:=e0o hp;have dn:=f3g p.1 key.1 key.2;have ok:=i2n p.1 key.1 key.2;unfold g1m at dr;rw[h1] at dr;have hb:(p.2 !=0)=false:=by rw[h00];rfl
 rw[hb] at dr;simp only[Bool.false_eq_true,if_false] at dr;rw[a0d i1j,i4y];unfold j2o at h2;cases hn:d2q p.1 with
 | inl e=>
  rw[hn] at h2 dn;simp only[Bool.and_eq_true,decide_eq_true_eq] at h2;obtain⟨q1,q2,q3,q4⟩:=h2;unfold i2m at dn;simp only at dn;obtain⟨k,hk⟩:∃k:Nat,e.2=k:=⟨e.2.toNat,by omega⟩
  have hm:(if (k:Int)>0 then (k:Int) else 0)=(k:Int):=by split<;>omega
  have dd:=a4m k (by omega);have li:=b0a 8 k (by
   have e:(10:Nat) ^ (8+1)=1000000000:=by decide
   omega)
  have l1:(e.1.length+1≤a1t)=True:=sle (by omega);have l2:((e.1++[32]).length+(Lib.itoa (k:Int)).length≤a1t)=True:=sle (by simp;omega);have ht:t=e.1++[32]++Lib.itoa e.2:=by simpa using q4
  rw[ht];rw[hk] at dn⊢;simp only[go_sem,Tryz.f77,dr,dn,hm,dd,l1,l2]
 | inr m=>
  rw[hn] at h2 dn;simp only at h2;unfold i2m b1v at dn;simp only at dn;cases hl:a2o n m with
  | none=>rw[hl] at h2;simp at h2
  | some x=>
   rw[hl] at h2;have ht:f0u x=t:=by simpa using h2
   have dc:=d9s (arU p.1) (a8w lsA (csU p.1)) m n;rw[hl] at dc;simp only at dc;have dx:=f8x x ((ok m hn).look hl);unfold b1v at dc;unfold xcC at dc dx;rw[ht] at dx;simp only[go_sem,Tryz.f77,dr,dn,dc,dx]
theorem run0:g8g 1000 [100,97,116,97,32,73,110,116,32,123,73,32,58,32,73,110,116,125,59,32,100,97,116,97,32,69,32,97,32,123,76,32,58,32,73,110,116,32,45,62,32,69,32,73,110,116,59,32,80,32,58,32,102,111,114,97,108,108,32,98,32,99,46,32,69,32,98,32,45,62,32,69,32,99,32,45,62,32,69,32,40,81,32,98,32,99,41,59,32,85,32,58,32,102,111,114,97,108,108,32,100,46,32,100,32,45,62,32,69,32,100,125,59,32,100,97,116,97,32,81,32,120,32,121,32,123,77,32,58,32,102,111,114,97,108,108,32,120,32,121,46,32,120,32,45,62,32,121,32,45,62,32,81,32,120,32,121,59,32,68,32,58,32,102,111,114,97,108,108,32,122,46,32,122,32,45,62,32,81,32,122,32,122,125] [76] [76,32,69,32,48,32,73,110,116,32,45,62,32,69,32,73,110,116,32,117,48,59,59,32,103,48,58,32,117,48,32,126,32,73,110,116,59,32,73,110,116]=true:=by kernel_rfl
theorem i6c:g8g 1000 [100,97,116,97,32,73,110,116,32,123,73,32,58,32,73,110,116,125,59,32,100,97,116,97,32,69,32,97,32,123,76,32,58,32,73,110,116,32,45,62,32,69,32,73,110,116,59,32,80,32,58,32,102,111,114,97,108,108,32,98,32,99,46,32,69,32,98,32,45,62,32,69,32,99,32,45,62,32,69,32,40,81,32,98,32,99,41,59,32,85,32,58,32,102,111,114,97,108,108,32,100,46,32,100,32,45,62,32,69,32,100,125,59,32,100,97,116,97,32,81,32,120,32,121,32,123,77,32,58,32,102,111,114,97,108,108,32,120,32,121,46,32,120,32,45,62,32,121,32,45,62,32,81,32,120,32,121,59,32,68,32,58,32,102,111,114,97,108,108,32,122,46,32,122,32,45,62,32,81,32,122,32,122,125] [80] [80,32,69,32,49,32,102,111,114,97,108,108,32,120,48,32,120,49,46,32,69,32,120,48,32,45,62,32,69,32,120,49,32,45,62,32,69,32,40,81,32,120,48,32,120,49,41,32,117,48,59,32,101,48,32,101,49,59,32,103,48,58,32,117,48,32,126,32,81,32,101,48,32,101,49,59,32,69,32,101,48,59,32,69,32,101,49]=true:=by kernel_rfl
theorem j3i:g8g 1000 [100,97,116,97,32,73,110,116,32,123,73,32,58,32,73,110,116,125,59,32,100,97,116,97,32,69,32,97,32,123,76,32,58,32,73,110,116,32,45,62,32,69,32,73,110,116,59,32,80,32,58,32,102,111,114,97,108,108,32,98,32,99,46,32,69,32,98,32,45,62,32,69,32,99,32,45,62,32,69,32,40,81,32,98,32,99,41,59,32,85,32,58,32,102,111,114,97,108,108,32,100,46,32,100,32,45,62,32,69,32,100,125,59,32,100,97,116,97,32,81,32,120,32,121,32,123,77,32,58,32,102,111,114,97,108,108,32,120,32,121,46,32,120,32,45,62,32,121,32,45,62,32,81,32,120,32,121,59,32,68,32,58,32,102,111,114,97,108,108,32,122,46,32,122,32,45,62,32,81,32,122,32,122,125] [68] [68,32,81,32,49,32,102,111,114,97,108,108,32,120,48,46,32,120,48,32,45,62,32,81,32,120,48,32,120,48,32,117,48,32,117,49,59,59,32,103,48,58,32,117,49,32,126,32,117,48,59,32,117,48]=true:=by kernel_rfl
theorem run3:g8g 1000 [100,97,116,97,32,84,32,97,32,123,75,32,58,32,84,125] [75] [75,32,49,49,48]=true:=by kernel_rfl
theorem run4:g8g 1000 [100,97,116,97,32,84,32,123,75,32,58,32,97,32,45,62,32,84,125] [75] [75,32,49,49,49]=true:=by kernel_rfl
theorem run5:g8g 1000 [100,97,116,97,32,84,32,123,75,32,58,32,102,111,114,97,108,108,32,98,46,32,98,125] [75] [75,32,49,49,50]=true:=by kernel_rfl
theorem run6:g8g 1000 [100,97,116,97,32,84,32,97,32,123,75,32,58,32,102,111,114,97,108,108,32,98,46,32,84,32,40,102,111,114,97,108,108,32,99,46,32,99,41,125] [75] [75,32,49,49,50]=true:=by kernel_rfl
theorem f9v:den E 23 [] []=some (.bool true,[]):=by
 rw[a0d i2c,i5q];have t0:=b8b run0
 try dsimp only at t0
 have t1:=b8b i6c
 try dsimp only at t1
 have t2:=b8b j3i
 try dsimp only at t2
 have t3:=b8b run3
 try dsimp only at t3
 have t4:=b8b run4
 try dsimp only at t4
 have t5:=b8b run5
 try dsimp only at t5
 have t6:=b8b run6
 try dsimp only at t6
 simp only[go_sem,Tryz.f23,List.append_eq,t0,t1,t2,t3,t4,t5,t6]
end Go.Proofs
