/- The examples of the chapter; the law. -/
import Derived.Test.YtjfghnkmladbkaaGreatDoorAvM
import Derived.Test.YtjfghnkmladbkaaGreatDoorAvK
namespace Go.Proofs
open Go.Av
set_option maxHeartbeats 64000000
set_option maxRecDepth 100000
def cS(t:Ty):List UInt8:=(prR (3*(d2g t).sz) .pr (d2g t)).getD []
theorem b1b(t:Ty)(hg:GT t)(hb:t.sz<20000):den E 85 [tyV t] []=some (.str (cS t),[]):=by
 obtain⟨s,h1,h2⟩:=f0t t hg hb;unfold cS;rw[h1 _ (Nat.le_refl _)];exact h2
theorem g0e(t:Ty)(hg:GT t)(hb:t.sz<20000):GT (d2g t)∧(d2g t).sz=t.sz:=by
 have hle:=a2o _ t (Nat.le_refl _) [] [];simp only[List.length_nil,Nat.zero_add] at hle;have hp:t.sz*((a0m t [] []).length+1)≤20000*20001:=Nat.mul_le_mul (by omega) (by omega);obtain⟨_,g,hs,_⟩:=e3v (a0m t [] []) (by omega) _ t (Nat.le_refl _) hg (by omega) 0 (by omega);exact⟨g,hs⟩
theorem e5l(t:Ty)(hg:GT t)(hb:t.sz<20000):(cS t).length≤800000:=by
 obtain⟨g,hs⟩:=g0e t hg hb;obtain⟨s,h1,h2⟩:=h4m g (by omega);unfold cS;rw[h2 _ (Nat.le_refl _)];simp only[Option.getD_some];omega
def tx1:List (List UInt8)→List UInt8→List UInt8
 | [],s=>s
 | u::r,s=>tx1 r (s++[32]++u)
def tx2:List Gv→List UInt8→List UInt8
 | [],s=>s
 | g::r,s=>tx2 r (s++[59,32]++g.name++[58,32]++cS g.l++[32,126,32]++cS g.r)
def tx3:List Ty→List UInt8→List UInt8
 | [],s=>s
 | t::r,s=>tx3 r (s++[59,32]++cS t)
def f2h(c:CX):List UInt8:=tx3 c.args (tx2 c.givens (tx1 c.exis (tx1 c.univ (c.name++[32]++c.data++[32]++Lib.itoa (max 0 c.tag)++[32]++cS c.ty)++[59])))
structure OkX (c:CX):Prop where
 nm:c.name.length≤16
 dt:c.data.length≤16
 tag:0≤c.tag∧c.tag<100000000
 ty:GT c.ty∧c.ty.sz<20000
 un:c.univ.length≤100000∧∀u∈c.univ,u.length≤16
 ex:c.exis.length≤100000∧∀u∈c.exis,u.length≤16
 gv:c.givens.length≤100000∧∀g∈c.givens,g.name.length≤16∧(GT g.l∧g.l.sz<20000)∧GT g.r∧g.r.sz<20000
 ar:c.args.length≤100000∧∀t∈c.args,GT t∧t.sz<20000
structure TxS where
 i:Nat
 s:List UInt8
theorem i5n(l:List Gv)(i:Nat):(l.map gvV)[i]? =(l[i]?).map gvV:=by simp
theorem sle{n:Nat}(h:n≤1000000000000):(n≤a1y)=True:=by unfold a1y;simp;omega
theorem f9w(c:CX)(h:OkX c):den E 28 [.agg (xcC c)] []=some (.str (f2h c),[]):=by
 obtain⟨k1,k2,⟨k3,k3'⟩,⟨k4,k4'⟩,⟨k5,k5'⟩,⟨k6,k6'⟩,⟨k7,k7'⟩,⟨k8,k8'⟩⟩:=h;obtain⟨tg,htg⟩:∃n:Nat,c.tag=n:=⟨c.tag.toNat,by omega⟩
 have d1:=c8n tg (by omega);have dc:=b1b c.ty k4 k4';have lc:=e5l c.ty k4 k4';have li:=b0t 8 tg (by
  have e:(10:Nat) ^ (8+1)=1000000000:=by decide
  omega)
 rw[a0a] at dc;rw[a0d i4g,i7o];obtain⟨fin,hfin⟩:∃fin,fin=(some (.str (f2h c),[]):Option (AVal×a3e)):=⟨_,rfl⟩
 rw[←hfin];unfold f2h at hfin;rw[htg] at hfin;have hmx:max (0:Int) (tg:Int)=(tg:Int):=by omega
 have hmx2:(if (tg:Int)>0 then (tg:Int) else 0)=(tg:Int):=by split<;>omega
 rw[hmx] at hfin;have l1:(c.name.length+1≤a1y)=True:=sle (by omega);have l2:((c.name++[32]).length+c.data.length≤a1y)=True:=sle (by simp;omega);have l3:((c.name++[32]++c.data).length+1≤a1y)=True:=sle (by simp;omega);have l4:((c.name++[32]++c.data++[32]).length+(Lib.itoa (tg:Int)).length≤a1y)=True:=sle (by simp;omega);have l5:((c.name++[32]++c.data++[32]++Lib.itoa (tg:Int)).length+1≤a1y)=True:=sle (by simp;omega);have l6:((c.name++[32]++c.data++[32]++Lib.itoa (tg:Int)++[32]).length+(cS c.ty).length≤a1y)=True:=sle (by simp;omega);have hb0:(c.name++[32]++c.data++[32]++Lib.itoa (tg:Int)++[32]++cS c.ty).length≤1000000:=by simp;omega
 simp only[go_sem,Tryz.f28,xcC,htg,hmx2,d1,dc,l1,l2,l3,l4,l5,l6];generalize (c.name++[32]++c.data++[32]++Lib.itoa (tg:Int)++[32]++cS c.ty)=S0 at hfin hb0⊢;obtain⟨T1,hT1⟩:∃T1,T1=tx1 c.univ S0:=⟨_,rfl⟩
 rw[←hT1] at hfin;clear l1 l2 l3 l4 l5 l6 d1 dc lc li;refine a0p (fun a:TxS=>a.i≤c.univ.length∧tx1 (c.univ.drop a.i) a.s=T1∧a.s.length≤1000000+17*a.i) (fun a=>⟨[(1,.ptr (.loc 1) 0),(3,.str a.s),(4,.int .i64 a.i)],[],[(1,xcC c)],1⟩) (fun _=>fin) (fun a=>c.univ.length - a.i) ⟨0,S0⟩ ⟨Nat.zero_le _,hT1.symm,by simp only;omega⟩ ?_ ?_
 · simp only[go_sem,xcC,htg]
 · rintro⟨i,s⟩ ⟨hi,hs,hl⟩ h;simp only at hi hs hl⊢
   by_cases hlt:i<c.univ.length
   · obtain⟨u,hu⟩:=a7p hlt;rw[a2x hu] at hs;have hs:tx1 (c.univ.drop (i+1)) (s++[32]++u)=T1:=hs;have lu:=k5' u (List.mem_of_getElem? hu);have w1:IntKind.i64.wrap ((i:Int)+1)=((i+1:Nat):Int):=a1e (i+1) (by omega);have l1:(s.length+1≤a1y)=True:=sle (by omega);have l2:((s++[32]).length+u.length≤a1y)=True:=sle (by simp;omega);simp only[go_sem,xcC,htg,List.length_map,a0g,decide_eq_true hlt,a0c,a0j,a4b,hu,l1,l2];refine h ⟨i+1,s++[32]++u⟩ _ ⟨show i+1≤c.univ.length by omega,hs,by simp;omega⟩ (show c.univ.length - (i+1)<c.univ.length - i by omega) ?_;simp only[go_sem,xcC,htg,w1]
   · have hie:i=c.univ.length:=by omega
     subst hie;rw[List.drop_length] at hs;have hs:s=T1:=hs;subst hs;have l1:(s.length+1≤a1y)=True:=sle (by omega);have hl1:(s++[59]).length≤3000000:=by simp;omega
     simp only[go_sem,xcC,htg,List.length_map,a0g,Nat.lt_irrefl,l1];clear h;generalize s++[59]=S1 at hfin hl1⊢;obtain⟨T2,hT2⟩:∃T2,T2=tx1 c.exis S1:=⟨_,rfl⟩
     rw[←hT2] at hfin;refine a0p (fun a:TxS=>a.i≤c.exis.length∧tx1 (c.exis.drop a.i) a.s=T2∧a.s.length≤3000000+17*a.i) (fun a=>⟨[(1,.ptr (.loc 1) 0),(3,.str a.s),(5,.int .i64 a.i)],[],[(1,xcC c)],1⟩) (fun _=>fin) (fun a=>c.exis.length - a.i) ⟨0,S1⟩ ⟨Nat.zero_le _,hT2.symm,by simp only;omega⟩ ?_ ?_
     · simp only[go_sem,xcC,htg]
     · rintro⟨i,s2⟩ ⟨hi2,hs2,hl2⟩ h;simp only at hi2 hs2 hl2⊢
       by_cases hlt:i<c.exis.length
       · obtain⟨u,hu⟩:=a7p hlt;rw[a2x hu] at hs2;have hs2:tx1 (c.exis.drop (i+1)) (s2++[32]++u)=T2:=hs2;have lu:=k6' u (List.mem_of_getElem? hu);have w1:IntKind.i64.wrap ((i:Int)+1)=((i+1:Nat):Int):=a1e (i+1) (by omega);have l1:(s2.length+1≤a1y)=True:=sle (by omega);have l2:((s2++[32]).length+u.length≤a1y)=True:=sle (by simp;omega);simp only[go_sem,xcC,htg,List.length_map,a0g,decide_eq_true hlt,a0c,a0j,a4b,hu,l1,l2];refine h ⟨i+1,s2++[32]++u⟩ _ ⟨show i+1≤c.exis.length by omega,hs2,by simp;omega⟩ (show c.exis.length - (i+1)<c.exis.length - i by omega) ?_;simp only[go_sem,xcC,htg,w1]
       · have hie:i=c.exis.length:=by omega
         subst hie;rw[List.drop_length] at hs2;have hs2:s2=T2:=hs2;subst hs2;have hl3:s2.length≤5000000:=by omega
         simp only[go_sem,xcC,htg,List.length_map,a0g,Nat.lt_irrefl];clear h hl2;obtain⟨T3,hT3⟩:∃T3,T3=tx2 c.givens s2:=⟨_,rfl⟩
         rw[←hT3] at hfin;refine a0p (fun a:TxS=>a.i≤c.givens.length∧tx2 (c.givens.drop a.i) a.s=T3∧a.s.length≤5000000+1700000*a.i) (fun a=>⟨[(1,.ptr (.loc 1) 0),(3,.str a.s),(6,.int .i64 a.i)],[],[(1,xcC c)],1⟩) (fun _=>fin) (fun a=>c.givens.length - a.i) ⟨0,s2⟩ ⟨Nat.zero_le _,hT3.symm,by simp only;omega⟩ ?_ ?_
         · simp only[go_sem,xcC,htg]
         · rintro⟨i,s3⟩ ⟨hi3,hs3,hl4⟩ h;simp only at hi3 hs3 hl4⊢
           by_cases hlt:i<c.givens.length
           · obtain⟨g,hu⟩:=a7p hlt;rw[a2x hu] at hs3;have hs3:tx2 (c.givens.drop (i+1)) (s3++[59,32]++g.name++[58,32]++cS g.l++[32,126,32]++cS g.r)=T3:=hs3;obtain⟨lu,⟨gl,gl'⟩,gr,gr'⟩:=k7' g (List.mem_of_getElem? hu);have dl:=b1b g.l gl gl';have ll:=e5l g.l gl gl';have dr:=b1b g.r gr gr';have lr:=e5l g.r gr gr';rw[a0a] at dl dr;have w1:IntKind.i64.wrap ((i:Int)+1)=((i+1:Nat):Int):=a1e (i+1) (by omega);have l1:(s3.length+2≤a1y)=True:=sle (by omega);have l2:((s3++[59,32]).length+g.name.length≤a1y)=True:=sle (by simp;omega);have l3:((s3++[59,32]++g.name).length+2≤a1y)=True:=sle (by simp;omega);have l4:((s3++[59,32]++g.name++[58,32]).length+(cS g.l).length≤a1y)=True:=sle (by simp;omega);have l5:((s3++[59,32]++g.name++[58,32]++cS g.l).length+3≤a1y)=True:=sle (by simp;omega);have l6:((s3++[59,32]++g.name++[58,32]++cS g.l++[32,126,32]).length+(cS g.r).length≤a1y)=True:=sle (by simp;omega);simp only[go_sem,xcC,htg,List.length_map,a0g,decide_eq_true hlt,a0c,a0j,i5n,hu,e4p,dl,dr,l1,l2,l3,l4,l5,l6];refine h ⟨i+1,s3++[59,32]++g.name++[58,32]++cS g.l++[32,126,32]++cS g.r⟩ _ ⟨show i+1≤c.givens.length by omega,hs3,by simp;omega⟩ (show c.givens.length - (i+1)<c.givens.length - i by omega) ?_;simp only[go_sem,xcC,htg,w1]
           · have hie:i=c.givens.length:=by omega
             subst hie;rw[List.drop_length] at hs3;have hs3:s3=T3:=hs3;subst hs3;have hl5:s3.length≤200000000000:=by omega
             simp only[go_sem,xcC,htg,List.length_map,a0g,Nat.lt_irrefl];clear h hl4;obtain⟨T4,hT4⟩:∃T4,T4=tx3 c.args s3:=⟨_,rfl⟩
             rw[←hT4] at hfin;have rl:=a2m c.args;refine a0p (fun a:TxS=>a.i≤c.args.length∧tx3 (c.args.drop a.i) a.s=T4∧a.s.length≤200000000000+900000*a.i) (fun a=>⟨[(1,.ptr (.loc 1) 0),(3,.str a.s),(7,.int .i64 a.i)],[],[(1,xcC c)],1⟩) (fun _=>fin) (fun a=>c.args.length - a.i) ⟨0,s3⟩ ⟨Nat.zero_le _,hT4.symm,by simp only;omega⟩ ?_ ?_
             · simp only[go_sem,xcC,htg]
             · rintro⟨i,s4⟩ ⟨hi4,hs4,hl6⟩ h;simp only at hi4 hs4 hl6⊢
               by_cases hlt:i<c.args.length
               · obtain⟨t,hu⟩:=a7p hlt;rw[a2x hu] at hs4;have hs4:tx3 (c.args.drop (i+1)) (s4++[59,32]++cS t)=T4:=hs4;obtain⟨gt,gt'⟩:=k8' t (List.mem_of_getElem? hu);have dl:=b1b t gt gt';have ll:=e5l t gt gt';rw[a0a] at dl;have w1:IntKind.i64.wrap ((i:Int)+1)=((i+1:Nat):Int):=a1e (i+1) (by omega);have l1:(s4.length+2≤a1y)=True:=sle (by omega);have l2:((s4++[59,32]).length+(cS t).length≤a1y)=True:=sle (by simp;omega);simp only[go_sem,xcC,htg,rl,a0g,decide_eq_true hlt,a0c,a0j,a6v,hu,a0a,dl,l1,l2];refine h ⟨i+1,s4++[59,32]++cS t⟩ _ ⟨show i+1≤c.args.length by omega,hs4,by simp;omega⟩ (show c.args.length - (i+1)<c.args.length - i by omega) ?_;simp only[go_sem,xcC,htg,w1]
               · have hie:i=c.args.length:=by omega
                 subst hie;rw[List.drop_length] at hs4;have hs4:s4=T4:=hs4;subst hs4;simp only[go_sem,xcC,htg,rl,a0g,Nat.lt_irrefl];rw[hfin]
theorem e0i:∀(l:List (List UInt8)) (c:Cal) (ex:List (List UInt8)),(∀u∈ex,u.length≤16)→ex.length+l.length≤100000000→∀u∈(lp2 l c ex).2,u.length≤16
 | [],c,ex,h,_=>h
 | n::r,c,ex,h,hb=>by
  simp only[List.length_cons] at hb;rw[c5j];split
  · exact e0i r _ _ (fun u hu=>by
     rcases List.mem_append.1 hu with hu|hu
     · exact h u hu
     · simp at hu;subst hu;exact (b0h 101 ex.length (by omega)).1) (by simp;omega)
  · exact e0i r c ex h (by omega)
theorem f5g(called:Cal)(names:List (List UInt8))(ts:List Ty)(Q:Gv→Prop):∀(l:List Nat) (acc:List Gv),(∀g∈acc,Q g)→(∀k∈l,∀i,i<acc.length+l.length→Q ⟨i8k i,.mk 1 (a4i k) 0 [],a6o called names (ts.getD k zTy)⟩)→(∀g∈lp3 called names ts l acc,Q g)∧(lp3 called names ts l acc).length=acc.length+l.length
 | [],acc,h,_=>⟨h,rfl⟩
 | k::r,acc,h,hq=>by
  rw[d4f];obtain⟨q1,q2⟩:=f5g called names ts Q r (acc++[⟨i8k acc.length,.mk 1 (a4i k) 0 [],a6o called names (ts.getD k zTy)⟩]) (fun g hg=>by
   rcases List.mem_append.1 hg with hg|hg
   · exact h g hg
   · simp at hg;subst hg;exact hq k (by simp) acc.length (by simp)) (fun k' hk' i hi=>hq k' (by simp[hk']) i (by simp at hi⊢;omega))
  exact⟨q1,by rw[q2];simp;omega⟩
theorem h4i:∀(n:Nat) (t:Ty) (acc:List Ty),t.sz≤n→GT t→∀x∈(spF n t acc).1,x∉acc→x.sz≤t.sz
 | 0,t,acc,h,_=>by have:=a3g t;omega
 | n+1,t,acc,hn,hg=>by
  cases hk:t.kind==4
  · rw[b1w _ t acc hk];exact fun x hx hx2=>absurd hx hx2
  · obtain⟨u,v,rfl,hu,hv⟩:=hg.fn_inv hk;rw[a0x,a1u] at hn;rw[c3s];intro x hx hx2
    by_cases hxu:x=u
    · subst hxu;rw[a0x,a1u];omega
    · have:=h4i n v (acc++[u]) (by omega) hv x hx (by simp[hx2,hxu]);rw[a0x,a1u];omega
theorem i5c(d:De)(c:Co)(hg:GT c.ty)(hb:c.ty.sz<12000)(hn:c.name.length≤16)(hd:d.name.length≤16)(X:CX)(hm:b3t d c=some X)(k:Nat)(hk:k<100000000):OkX {X with tag:=(k:Int)}:=by
 have hfl:=a2o _ c.ty (Nat.le_refl _) [] [];simp only[List.length_nil,Nat.zero_add] at hfl;have hbd:c.ty.sz*((a0m c.ty [] []).length+1)≤900000000:=Nat.le_trans (Nat.mul_le_mul (show c.ty.sz≤12000 by omega) (show _≤12001 by omega)) (by omega);obtain⟨g1,s1,n1,o1⟩:=a9l 112 (a0m c.ty [] []) c.ty.sz c.ty 0 (Nat.le_refl _) hg (by omega) (by omega);unfold b3t at hm;simp only at hm;generalize a3h 112 (a0m c.ty [] []) c.ty.sz c.ty 0=p at *;obtain⟨names,body⟩:=p;simp only at g1 s1 n1 o1 hm;obtain⟨g2,s2,a2,n2⟩:=d6c body.sz body [] (Nat.le_refl _) g1 (fun x hx=>by cases hx) (by omega);have a3:=h4i body.sz body [] (Nat.le_refl _) g1;generalize spF body.sz body []=q at *;obtain⟨acc,t⟩:=q;simp only at g2 s2 a2 n2 hm a3;split at hm
 case isFalse=>cases hm
 injection hm with hm;have hta:=g2.args;have hal:=a6h t;have hsz:=a3g t;obtain⟨w1o,w1i,w1l⟩:=d7i t.args 0 [] [] (fun p hp=>by cases hp) (by omega) (fun k hk=>by cases hk);obtain⟨w2o,w2n,_,w2l⟩:=d7h names (lp1 t.args 0 [] []).1 [] w1o (by simp;omega);have w2m:=e0i names (lp1 t.args 0 [] []).1 [] (fun u hu=>by cases hu) (by simp;omega);generalize lp1 t.args 0 [] []=a at *;obtain⟨C1,IX⟩:=a;simp only at hm w1o w1i w1l w2o w2n w2l w2m;generalize lp2 names C1 []=b at *;obtain⟨C2,EX⟩:=b;simp only at hm w2o w2n w2l w2m;have hcal:∀n∈names,(a1i n C2).getD []≠[]∧((a1i n C2).getD []).length≤16:=fun n hn=>by
  have h1:=w2n n hn;cases h2:a1i n C2 with
  | none=>rw[h2] at h1;cases h1
  | some v=>exact w2o.look h2
 have gvs:=f5g C2 names t.args (fun g=>g.name.length≤16∧(GT g.l∧g.l.sz<20000)∧GT g.r∧g.r.sz<20000) IX [] (fun g hg=>by cases hg) (fun k hk i hi=>by
  have hkt:=w1i k hk;obtain⟨y,hy⟩:=a7p (l:=t.args) (i:=k) (by omega);have hyd:t.args.getD k zTy=y:=by rw[List.getD_eq_getElem?_getD,hy];rfl
  have hym:=List.mem_of_getElem? hy;have hys:=a2p hym;obtain⟨_,gr,sr⟩:=c1c C2 names y (by omega) hcal (hta y hym) (by omega);simp only[List.length_nil] at hi w1l;refine⟨(b0h 103 i (by omega)).1,⟨.var _ (b0h 117 k (by omega)).1,by rw[c5z];omega⟩,by simp only[hyd];exact gr,by simp only[hyd];omega⟩)
 subst hm;simp only[List.length_nil] at w2l w1l n2 gvs;refine⟨hn,hd,⟨by simp only;omega,by simp only;omega⟩,⟨hg,by simp only;omega⟩,⟨by simp;omega,fun u hu=>?_⟩,⟨by simp only;omega,w2m⟩,⟨by rw[gvs.2];omega,gvs.1⟩,⟨by simp;omega,fun u hu=>?_⟩⟩
 · obtain⟨i,hi,rfl⟩:=List.mem_map.1 hu;have:=List.mem_range.1 hi;exact (b0h 117 i (by omega)).1
 · obtain⟨y,hy,rfl⟩:=List.mem_map.1 hu;have:=a3 y hy (by simp);obtain⟨_,gr,sr⟩:=c1c C2 names y (by omega) hcal (a2 y hy).1 (by omega);exact⟨gr,by omega⟩
def g1i(m:c3p):Prop:=∀p∈m,OkX p.2
theorem g1i.upd{m:c3p}(h:g1i m){k:List UInt8}{x:CX}(hx:OkX x):g1i (b2n k x m):=by
 induction m with
 | nil=>intro p hp;simp[b2n] at hp;subst hp;exact hx
 | cons a r ih=>
  intro p hp;rw[b2n] at hp;split at hp
  · rcases List.mem_cons.1 hp with rfl|hp
    · exact hx
    · exact h p (by simp[hp])
  · rcases List.mem_cons.1 hp with rfl|hp
    · exact h _ (by simp)
    · exact ih (fun q hq=>h q (by simp[hq])) p hp
theorem g1i.look{m:c3p}(h:g1i m){k:List UInt8}{x:CX}(hk:a1i k m=some x):OkX x:=by
 induction m with
 | nil=>cases hk
 | cons a r ih=>
  rw[a1i] at hk;split at hk
  · injection hk with hk;subst hk;exact h a (by simp)
  · exact ih (fun q hq=>h q (by simp[hq])) hk
theorem e5g(ar:List (List UInt8×Int))(d:De)(hd:d.name.length≤16):∀(l:List Co) (i:Nat) (m m':c3p),(∀c∈l,c.name.length≤16∧GT c.ty∧c.ty.sz<12000)→i+l.length≤1000000→g1i m→b9j ar d l i m=.inr m'→g1i m'
 | [],i,m,m',_,_,hm,h=>by
  have h:(.inr m:(List UInt8×Int) ⊕ c3p)=.inr m':=h;injection h with h;subst h;exact hm
 | c::r,i,m,m',hl,hi,hm,h=>by
  simp only[List.length_cons] at hi;obtain⟨c1,c2,c3⟩:=hl c (by simp);rw[b7n] at h;split at h
  · cases hmd:b3t d c with
    | none=>rw[hmd] at h;simp only at h;cases h
    | some x=>
     rw[hmd] at h;simp only at h;exact e5g ar d hd r (i+1) _ m' (fun c hc=>hl c (by simp[hc])) (by omega) (hm.upd (i5c d c c2 c3 c1 hd x hmd i (by omega))) h
  · cases h
theorem f7h{d:De}(h:GD d):d.name.length≤16∧∀c∈d.cons,c.name.length≤16∧GT c.ty:=by
 cases h with
 | data s vs cs h1 _ h3=>exact⟨h1,h3⟩
 | sig s t h1 _=>exact⟨h1,fun c hc=>by cases hc⟩
 | bind s x h1 _=>exact⟨h1,fun c hc=>by cases hc⟩
theorem f9q(ar:List (List UInt8×Int)):∀(l:List De) (m m':c3p),(∀d∈l,GD d∧d.tot≤12000)→g1i m→g9k ar l m=.inr m'→g1i m'
 | [],m,m',_,hm,h=>by
  have h:(.inr m:(List UInt8×Int) ⊕ c3p)=.inr m':=h;injection h with h;subst h;exact hm
 | d::r,m,m',hl,hm,h=>by
  obtain⟨hgd,ht⟩:=hl d (by simp);obtain⟨g1,g2⟩:=f7h hgd;have hp:=b1f d.val;unfold De.tot at ht;rw[c8i] at h;split at h
  · cases h
  · cases hc:b9j ar d d.cons 0 m with
    | inl e=>rw[hc] at h;simp only at h;cases h
    | inr m2=>
     rw[hc] at h;simp only at h;refine f9q ar r m2 m' (fun x hx=>hl x (by simp[hx])) ?_ h;refine e5g ar d g1 d.cons 0 m m2 (fun c hc=>?_) (by omega) hm hc;have:=c8s hc;exact⟨(g2 c hc).1,(g2 c hc).2,by omega⟩
theorem i4x(l:List De)(hg:∀d∈l,GD d)(hs:De.sum l≤12000)(m:c3p)(h:d4c l=.inr m):g1i m:=
 f9q _ l [] m (fun d hd=>⟨hg d hd,Nat.le_trans (b0b hd) hs⟩) (fun p hp=>by cases hp) h
theorem GX.sx{e:Ex}(h:GX e):SX e:=by
 induction h with
 | nam k s hk _=>exact .mk _ (fun _=>⟨rfl,rfl⟩) (fun h3=>by rcases hk with rfl|rfl<;>simp[Ex.kind] at h3) (fun h3=>by rcases hk with rfl|rfl<;>simp[Ex.kind] at h3) (by simp[Ex.kids]) (by simp[Ex.alts])
 | lam s x _ _ ih=>exact .mk _ (by simp[Ex.kind]) (fun _=>⟨⟨x,rfl⟩,rfl⟩) (by simp[Ex.kind]) (by simp[Ex.kids,ih]) (by simp[Ex.alts])
 | app x y _ _ ih1 ih2=>exact .mk _ (by simp[Ex.kind]) (by simp[Ex.kind]) (by simp[Ex.kind]) (by simp[Ex.kids,ih1,ih2]) (by simp[Ex.alts])
 | lett s t x y _ _ _ _ ih1 ih2=>exact .mk _ (by simp[Ex.kind]) (by simp[Ex.kind]) (fun _=>⟨⟨x,y,rfl⟩,rfl⟩) (by simp[Ex.kids,ih1,ih2]) (by simp[Ex.alts])
 | letu s x y _ _ _ ih1 ih2=>exact .mk _ (by simp[Ex.kind]) (by simp[Ex.kind]) (fun _=>⟨⟨x,y,rfl⟩,rfl⟩) (by simp[Ex.kids,ih1,ih2]) (by simp[Ex.alts])
 | cas x al _ _ _ ih1 ih2=>exact .mk _ (by simp[Ex.kind]) (by simp[Ex.kind]) (by simp[Ex.kind]) (by simp[Ex.kids,ih1]) (fun a ha=>ih2 a ha)
 | ann x t _ _ ih=>exact .mk _ (by simp[Ex.kind]) (by simp[Ex.kind]) (by simp[Ex.kind]) (by simp[Ex.kids,ih]) (by simp[Ex.alts])
theorem GD.sx{d:De}(h:GD d)(hk:d.kind=3):SX d.val:=by
 cases h with
 | data=>simp at hk
 | sig=>simp at hk
 | bind s x _ hx=>exact hx.sx
def g2u(p:List De×Int):AVal:=if p.2 !=0 then .tup [.slice [],.slice [],.bool false] else .tup [.slice (p.1.map deV),.slice (p.1.map deV),.bool ((g9v p.1).2==0)]
theorem e2z{f:Nat}{s:List UInt8}{p:List De×Int}(hp:b5s f s=some p):den E 24 [.str s] []=some (g2u p,[]):=by
 obtain⟨h1,h2⟩:=f3z hp;unfold d3v at h1 h2;rw[a0d i4j,i7r];unfold g2u;cases h0:(p.2 !=0)
 · have h00:p.2=0:=by rw[b6n] at h0;simpa using h0
   have key:=c2n hp h00;have h3:=g0c p.1 (fun d hd hk=>(key.1 d hd).sx hk) (by have:=key.2;omega);unfold seV at h3;simp only[go_sem,Tryz.f24,h1,h2,h0,h3]
 · simp only[go_sem,Tryz.f24,h1,h2,h0]
theorem e1x(ar:List (List UInt8×Int))(cs:List AVal)(m:c3p)(n:List UInt8):den E 27 [.ptr (.par 0) 0,.str n] [a4t ar cs (a8q c1s m)]=some (match a1i n m with
 | none=>.tup [.agg (xcC zCX),.bool false]
 | some x=>.tup [.agg (xcC x),.bool true],[a4t ar cs (a8q c1s m)]):=by
 have hf:=a8v c1s n m;rw[a0d i4h,i7p];cases hk:a1i n m with
 | none=>
  rw[hk] at hf;simp only[Option.map_none] at hf;simp only[go_sem,Tryz.f27,hf,xcC,zCX,zTy,List.map_nil,b5y,b5w,h4u,c3k,a0h]
 | some x=>
  rw[hk] at hf;simp only[Option.map_some,c1s,xcC] at hf;simp only[go_sem,Tryz.f27,hf,xcC]
def j4g(n:List UInt8)(t:List UInt8)(r:(List UInt8×Int) ⊕ c3p):Bool:=match r with
 | .inl e=>decide (0≤e.2)&&(decide (e.2<1000)&&(decide (e.1.length≤1000)&&t==e.1++[32]++Lib.itoa e.2))
 | .inr m=>match a1i n m with
  | none=>false
  | some x=>f2h x==t
def g9w(f:Nat)(s n t:List UInt8):Bool:=match b5s f s with
 | some p=>p.2==0&&((g9v p.1).2==0&&j4g n t (d4c p.1))
 | none=>false
theorem b9k{f:Nat}{s n t:List UInt8}(h:g9w f s n t=true):den E 77 [.str s,.str n] []=some (.str t,[]):=by
 unfold g9w at h;split at h
 case h_2=>cases h
 rename_i p hp;simp only[Bool.and_eq_true] at h;obtain⟨h0,h1,h2⟩:=h;have h00:p.2=0:=by simpa using h0
 have key:=c2n hp h00;have dr:=e2z hp;have dn:=f4n p.1 key.1 key.2;have ok:=i4x p.1 key.1 key.2;unfold g2u at dr;rw[h1] at dr;have hb:(p.2 !=0)=false:=by rw[h00];rfl
 rw[hb] at dr;simp only[Bool.false_eq_true,if_false] at dr;rw[a0d i3z,i7i];unfold j4g at h2;cases hn:d4c p.1 with
 | inl e=>
  rw[hn] at h2 dn;simp only[Bool.and_eq_true,decide_eq_true_eq] at h2;obtain⟨q1,q2,q3,q4⟩:=h2;unfold i4w at dn;simp only at dn;obtain⟨k,hk⟩:∃k:Nat,e.2=k:=⟨e.2.toNat,by omega⟩
  have hm:(if (k:Int)>0 then (k:Int) else 0)=(k:Int):=by split<;>omega
  have dd:=c8n k (by omega);have li:=b0t 8 k (by
   have e:(10:Nat) ^ (8+1)=1000000000:=by decide
   omega)
  have l1:(e.1.length+1≤a1y)=True:=sle (by omega);have l2:((e.1++[32]).length+(Lib.itoa (k:Int)).length≤a1y)=True:=sle (by simp;omega);have ht:t=e.1++[32]++Lib.itoa e.2:=by simpa using q4
  rw[ht];rw[hk] at dn⊢;simp only[go_sem,Tryz.f77,dr,dn,hm,dd,l1,l2]
 | inr m=>
  rw[hn] at h2 dn;simp only at h2;unfold i4w a4t at dn;simp only at dn;cases hl:a1i n m with
  | none=>rw[hl] at h2;simp at h2
  | some x=>
   rw[hl] at h2;have ht:f2h x=t:=by simpa using h2
   have dc:=e1x (arU p.1) (a8q lsA (csU p.1)) m n;rw[hl] at dc;simp only at dc;have dx:=f9w x ((ok m hn).look hl);unfold a4t at dc;unfold xcC at dc dx;rw[ht] at dx;simp only[go_sem,Tryz.f77,dr,dn,dc,dx]
theorem run0:g9w 1000 [100,97,116,97,32,73,110,116,32,123,73,32,58,32,73,110,116,125,59,32,100,97,116,97,32,69,32,97,32,123,76,32,58,32,73,110,116,32,45,62,32,69,32,73,110,116,59,32,80,32,58,32,102,111,114,97,108,108,32,98,32,99,46,32,69,32,98,32,45,62,32,69,32,99,32,45,62,32,69,32,40,81,32,98,32,99,41,59,32,85,32,58,32,102,111,114,97,108,108,32,100,46,32,100,32,45,62,32,69,32,100,125,59,32,100,97,116,97,32,81,32,120,32,121,32,123,77,32,58,32,102,111,114,97,108,108,32,120,32,121,46,32,120,32,45,62,32,121,32,45,62,32,81,32,120,32,121,59,32,68,32,58,32,102,111,114,97,108,108,32,122,46,32,122,32,45,62,32,81,32,122,32,122,125] [76] [76,32,69,32,48,32,73,110,116,32,45,62,32,69,32,73,110,116,32,117,48,59,59,32,103,48,58,32,117,48,32,126,32,73,110,116,59,32,73,110,116]=true:=by kernel_rfl
theorem i8f:g9w 1000 [100,97,116,97,32,73,110,116,32,123,73,32,58,32,73,110,116,125,59,32,100,97,116,97,32,69,32,97,32,123,76,32,58,32,73,110,116,32,45,62,32,69,32,73,110,116,59,32,80,32,58,32,102,111,114,97,108,108,32,98,32,99,46,32,69,32,98,32,45,62,32,69,32,99,32,45,62,32,69,32,40,81,32,98,32,99,41,59,32,85,32,58,32,102,111,114,97,108,108,32,100,46,32,100,32,45,62,32,69,32,100,125,59,32,100,97,116,97,32,81,32,120,32,121,32,123,77,32,58,32,102,111,114,97,108,108,32,120,32,121,46,32,120,32,45,62,32,121,32,45,62,32,81,32,120,32,121,59,32,68,32,58,32,102,111,114,97,108,108,32,122,46,32,122,32,45,62,32,81,32,122,32,122,125] [80] [80,32,69,32,49,32,102,111,114,97,108,108,32,120,48,32,120,49,46,32,69,32,120,48,32,45,62,32,69,32,120,49,32,45,62,32,69,32,40,81,32,120,48,32,120,49,41,32,117,48,59,32,101,48,32,101,49,59,32,103,48,58,32,117,48,32,126,32,81,32,101,48,32,101,49,59,32,69,32,101,48,59,32,69,32,101,49]=true:=by kernel_rfl
theorem j5c:g9w 1000 [100,97,116,97,32,73,110,116,32,123,73,32,58,32,73,110,116,125,59,32,100,97,116,97,32,69,32,97,32,123,76,32,58,32,73,110,116,32,45,62,32,69,32,73,110,116,59,32,80,32,58,32,102,111,114,97,108,108,32,98,32,99,46,32,69,32,98,32,45,62,32,69,32,99,32,45,62,32,69,32,40,81,32,98,32,99,41,59,32,85,32,58,32,102,111,114,97,108,108,32,100,46,32,100,32,45,62,32,69,32,100,125,59,32,100,97,116,97,32,81,32,120,32,121,32,123,77,32,58,32,102,111,114,97,108,108,32,120,32,121,46,32,120,32,45,62,32,121,32,45,62,32,81,32,120,32,121,59,32,68,32,58,32,102,111,114,97,108,108,32,122,46,32,122,32,45,62,32,81,32,122,32,122,125] [68] [68,32,81,32,49,32,102,111,114,97,108,108,32,120,48,46,32,120,48,32,45,62,32,81,32,120,48,32,120,48,32,117,48,32,117,49,59,59,32,103,48,58,32,117,49,32,126,32,117,48,59,32,117,48]=true:=by kernel_rfl
theorem run3:g9w 1000 [100,97,116,97,32,84,32,97,32,123,75,32,58,32,84,125] [75] [75,32,49,49,48]=true:=by kernel_rfl
theorem run4:g9w 1000 [100,97,116,97,32,84,32,123,75,32,58,32,97,32,45,62,32,84,125] [75] [75,32,49,49,49]=true:=by kernel_rfl
theorem run5:g9w 1000 [100,97,116,97,32,84,32,123,75,32,58,32,102,111,114,97,108,108,32,98,46,32,98,125] [75] [75,32,49,49,50]=true:=by kernel_rfl
theorem run6:g9w 1000 [100,97,116,97,32,84,32,97,32,123,75,32,58,32,102,111,114,97,108,108,32,98,46,32,84,32,40,102,111,114,97,108,108,32,99,46,32,99,41,125] [75] [75,32,49,49,50]=true:=by kernel_rfl
theorem g0u:den E 23 [] []=some (.bool true,[]):=by
 rw[a0d i4k,i7s];have t0:=b9k run0
 try dsimp only at t0
 have t1:=b9k i8f
 try dsimp only at t1
 have t2:=b9k j5c
 try dsimp only at t2
 have t3:=b9k run3
 try dsimp only at t3
 have t4:=b9k run4
 try dsimp only at t4
 have t5:=b9k run5
 try dsimp only at t5
 have t6:=b9k run6
 try dsimp only at t6
 simp only[go_sem,Tryz.f23,List.append_eq,t0,t1,t2,t3,t4,t5,t6]
end Go.Proofs
