/- Matching in the program; the law DeclsWhole. -/
import Derived.Test.YtjfghnkmladbkaaGreatDoorAvU
import Derived.Test.YtjfghnkmladbkaaGreatDoorAvK
import Derived.Test.YtjfghnkmladbkaaGreatDoorAvD
import Derived.Test.YtjfghnkmladbkaaGreatDoorAvP
namespace Go.Proofs
open Go.Av
set_option maxHeartbeats 128000000
set_option maxRecDepth 100000
def bV(b:Prs):List AVal:=b.map c9o
theorem g0t(b:Prs):(bV b).length=b.length:=by simp[bV]
theorem h5l(b:Prs)(i:Nat):(bV b)[i]? =(b[i]?).map fun p=>.agg [.str p.1,.str p.2]:=by simp[bV];rfl
theorem d0p(t:Ty)(g:Nat)(q:List UInt8×List UInt8→Bool)(b:Prs)(hb:b.length<1000000)(hc:∀x∈b,den E g [.agg [.str x.1,.str x.2],.ptr (.par 0) 0] [tyC t]=some (.bool (q x),[tyC t])):
 den E 249 [.slice (bV b),.func g [] [.ptr (.par 0) 0]] [tyC t]=some (.int .i64 (plF q b),[tyC t]):=by
 rw[a0d e3d,e5m];have w0:IntKind.i64.wrap ((b.length:Int) - 1)=(b.length:Int) - 1:=by unfold IntKind.wrap;simp[IntKind.bits,IntKind.signed];omega
 unfold tyC at hc;simp only[go_sem,Tryz.f249,g0t,w0,tyC];unfold plF;refine a0p (fun j:Nat=>j≤b.length) (fun j=>⟨[(0,.slice (bV b)),(1,.func g [] [.ptr (.par 0) 0]),(5,.int .i64 ((j:Int) - 1))],[tyC t],[],1⟩)
  (fun j=>some (.int .i64 (plN q b j),[tyC t])) (fun j=>j) b.length (Nat.le_refl _) ?_ ?_
 · simp only[go_sem,tyC]
 · intro j hj h;cases j with
   | zero=>
    have g0:decide (((0:Int) - 1)≥0)=false:=rfl;simp only[go_sem,g0,plN,tyC]
   | succ j=>
    have g1:(((j+1:Nat):Int) - 1)=(j:Int):=by omega
    obtain⟨p,hp⟩:=a7p (l:=b) (i:=j) (by omega);rw[c0h hp,g1];have w1:IntKind.i64.wrap ((j:Int) - 1)=(j:Int) - 1:=by unfold IntKind.wrap;simp[IntKind.bits,IntKind.signed];omega
    have gf:=h5l b j;rw[hp] at gf;have d:=hc p (List.mem_of_getElem? hp);cases hq:q p
    · rw[hq] at d;simp only[go_sem,a0c,a0j,gf,d,tyC];refine h j _ (by omega) (by omega) ?_;simp only[go_sem,w1,tyC]
    · rw[hq] at d;simp only[go_sem,a0c,a0j,gf,d,tyC]
theorem e6w(s:List UInt8)(g:Nat)(q:List UInt8×List UInt8→Bool)(b:Prs)(hb:b.length<1000000)(hc:∀x∈b,den E g [.agg [.str x.1,.str x.2],.ptr (.par 0) 0] [[.str s]]=some (.bool (q x),[[.str s]])):
 den E 249 [.slice (bV b),.func g [] [.ptr (.par 0) 0]] [[.str s]]=some (.int .i64 (plF q b),[[.str s]]):=by
 rw[a0d e3d,e5m];have w0:IntKind.i64.wrap ((b.length:Int) - 1)=(b.length:Int) - 1:=by unfold IntKind.wrap;simp[IntKind.bits,IntKind.signed];omega
 simp only[go_sem,Tryz.f249,g0t,w0];unfold plF;refine a0p (fun j:Nat=>j≤b.length) (fun j=>⟨[(0,.slice (bV b)),(1,.func g [] [.ptr (.par 0) 0]),(5,.int .i64 ((j:Int) - 1))],[[.str s]],[],1⟩)
  (fun j=>some (.int .i64 (plN q b j),[[.str s]])) (fun j=>j) b.length (Nat.le_refl _) ?_ ?_
 · simp only[go_sem]
 · intro j hj h;cases j with
   | zero=>
    have g0:decide (((0:Int) - 1)≥0)=false:=rfl;simp only[go_sem,g0,plN]
   | succ j=>
    have g1:(((j+1:Nat):Int) - 1)=(j:Int):=by omega
    obtain⟨p,hp⟩:=a7p (l:=b) (i:=j) (by omega);rw[c0h hp,g1];have w1:IntKind.i64.wrap ((j:Int) - 1)=(j:Int) - 1:=by unfold IntKind.wrap;simp[IntKind.bits,IntKind.signed];omega
    have gf:=h5l b j;rw[hp] at gf;have d:=hc p (List.mem_of_getElem? hp);cases hq:q p
    · rw[hq] at d;simp only[go_sem,a0c,a0j,gf,d];refine h j _ (by omega) (by omega) ?_;simp only[go_sem,w1]
    · rw[hq] at d;simp only[go_sem,a0c,a0j,gf,d]
theorem g1n(t:Ty)(x:List UInt8×List UInt8):den E 250 [.agg [.str x.1,.str x.2],.ptr (.par 0) 0] [tyC t]=some (.bool (inP t.name x),[tyC t]):=by
 rw[a0d g3g,h0n];simp only[go_sem,Tryz.f250,tyC,inP]
theorem g1m(t:Ty)(x:List UInt8×List UInt8):den E 253 [.agg [.str x.1,.str x.2],.ptr (.par 0) 0] [tyC t]=some (.bool (inT t.name x),[tyC t]):=by
 rw[a0d g3d,h0k];simp only[go_sem,Tryz.f253,tyC,inT]
theorem g6n(s:List UInt8)(x:List UInt8×List UInt8):den E 264 [.agg [.str x.1,.str x.2],.ptr (.par 0) 0] [[.str s]]=some (.bool (inT s x),[[.str s]]):=by
 rw[a0d g2z,h0g];simp only[go_sem,Tryz.f264,inT]
theorem g6o(b:Prs)(hb:b.length<1000000)(n:List UInt8):den E 263 [.str n,.ptr (.par 0) 0] [[.slice (bV b)]]=some (.bool (decide (0≤plF (inT n) b)),[[.slice (bV b)]]):=by
 have d:=e6w n 264 (inT n) b hb fun x _=>g6n n x;rw[a0d g3a,h0h];simp only[go_sem,Tryz.f263,d,ge_iff_le]
def h5c(p:List UInt8→Bool):List (List UInt8)→Nat→Int
 | [],_=> -1
 | x::r,i=>if p x then (i:Int) else h5c p r (i+1)
theorem f7d(p:List UInt8→Bool):∀(l:List (List UInt8)) (i:Nat),decide (0≤h5c p l i)=l.any p
 | [],i=>rfl
 | x::r,i=>by
  unfold h5c;cases h:p x
  · simp only[Bool.false_eq_true,if_false,List.any_cons,h,Bool.false_or];exact f7d p r (i+1)
  · simp[h]
theorem i5h(b:Prs)(hb:b.length<1000000)(l:List (List UInt8))(hl:l.length<1000000):
 den E 204 [.slice (l.map .str),.func 263 [] [.ptr (.par 0) 0]] [[.slice (bV b)]]=some (.int .i64 (h5c (fun n=>decide (0≤plF (inT n) b)) l 0),[[.slice (bV b)]]):=by
 rw[a0d e3f,e5o];simp only[go_sem,Tryz.f204,List.length_map];refine a0p (fun i:Nat=>i≤l.length) (fun i=>⟨[(0,.slice (l.map .str)),(1,.func 263 [] [.ptr (.par 0) 0]),(7,.int .i64 l.length),(8,.int .i64 i)],[[.slice (bV b)]],[],1⟩) (fun i=>some (.int .i64 (h5c (fun n=>decide (0≤plF (inT n) b)) (l.drop i) i),[[.slice (bV b)]])) (fun i=>l.length - i) 0 (Nat.zero_le _) ?_ ?_
 · simp only[go_sem]
 · intro i hi h
   by_cases hlt:i<l.length
   · obtain⟨x,hx⟩:=a7p hlt;rw[a2x hx];have w1:IntKind.i64.wrap ((i:Int)+1)=((i+1:Nat):Int):=a1e (i+1) (by omega);have d:=g6o b hb x;cases hq:decide (0≤plF (inT x) b)
     · rw[hq] at d;simp only[go_sem,a0g,decide_eq_true hlt,a0c,a0j,a4b,hx,hq,d,h5c];refine h (i+1) _ (by omega) (by omega) ?_;simp only[go_sem,w1]
     · rw[hq] at d;simp only[go_sem,a0g,decide_eq_true hlt,a0c,a0j,a4b,hx,hq,d,h5c]
   · have hie:i=l.length:=by omega
     subst hie;rw[List.drop_length];simp only[go_sem,a0g,Nat.lt_irrefl,h5c]
theorem h3x(b:Prs)(hb:b.length<1000000)(l:List (List UInt8))(hl:l.length<1000000):
 den E 262 [.slice (l.map .str),.func 263 [] [.ptr (.par 0) 0]] [[.slice (bV b)]]=some (.bool (l.any fun n=>decide (0≤plF (inT n) b)),[[.slice (bV b)]]):=by
 rw[a0d g3b,h0i];have d:=i5h b hb l hl;have e:=f7d (fun n=>decide (0≤plF (inT n) b)) l 0;simp only[go_sem,Tryz.f262,d,e,ge_iff_le]
theorem i4o(t:Ty)(ht:t.sz<1000000)(b:Prs)(hb:b.length<1000000):den E 252 [tyV t,.slice (bV b)] []=some (.bool (h4n t b),[]):=by
 have dp:=c0f _ t (Nat.le_refl _) ht;have df:=a4l t ht;have hle:=a2o _ t (Nat.le_refl _) [] [];simp only[List.length_nil,Nat.zero_add] at hle;have da:=h3x b hb (a0m t [] []) (by omega);rw[a0d g3e,h0l];unfold h4n;rw[a0a] at dp df⊢;cases hp:b1j t
 · rw[hp] at dp;simp only[go_sem,Tryz.f252,dp,df,da]
 · rw[hp] at dp;simp only[go_sem,Tryz.f252,dp]
def mB(vars:List (List UInt8))(F:FM):List AVal:=[.slice (vars.map .str),.own 1099511627777 0 (a8q tyV F)]
theorem g2n(t u:Ty)(ht:GT t)(htb:t.sz<20000)(hu:GT u)(hub:u.sz<20000):den E 251 [tyV t,tyV u] []=some (.bool (cS t==cS u),[]):=by
 have d1:=b1b t ht htb;have d2:=b1b u hu hub;rw[a0d g3f,h0m];rw[a0a] at d1 d2;rw[a0a t,a0a u];simp only[go_sem,Tryz.f251,d1,d2]
theorem d5v(vars:List (List UInt8))(hv:vars.length<1000000)(p t:Ty)(ht:GT t∧t.sz<20000)(b:Prs)(hb:b.length<1000000)(F:FM)(hF:FOk F):
 den E 220 [.ptr (.par 0) 0,tyV p,tyV t,.slice (bV b)] [mB vars F]=some (.bool (g1f vars p t b F).1,[mB vars (g1f vars p t b F).2]):=by
 have d1:=d0p p 250 (inP p.name) b hb fun x _=>g1n p x;have d2:=d0p t 253 (inT t.name) b hb fun x _=>g1m t x;have dc:=a3q vars p.name hv;have dw:=i4o t (by omega) b hb;have hf:=a8v tyV p.name F;have hu:=b6r tyV p.name t F;unfold tyC at d1 d2;rw[a0d g4b,h1i];unfold g1f;rw[a0a t] at dw hu;rw[a0a p,a0a t];have rest:(decide (plF (inP p.name) b<0)&&vars.contains p.name)=false→True:=fun _=>trivial;cases ha:decide (plF (inP p.name) b<0)
 · cases k1:t.kind==1
   · simp only[go_sem,Tryz.f220,mB,d1,ha,k1,Bool.false_and]
   · cases he:plF (inP p.name) b==plF (inT t.name) b
     · simp only[go_sem,Tryz.f220,mB,d1,d2,ha,k1,he,Bool.false_and,Bool.and_false,Bool.true_and]
     · cases hg:decide (0≤plF (inP p.name) b)
       · simp only[go_sem,Tryz.f220,mB,d1,d2,ha,k1,he,hg,ge_iff_le,Bool.false_and,Bool.true_and,Bool.false_or]
       · simp only[go_sem,Tryz.f220,mB,d1,d2,ha,k1,he,hg,ge_iff_le,Bool.false_and,Bool.true_and,Bool.true_or]
 · cases hc:vars.contains p.name
   · rw[hc] at dc;cases k1:t.kind==1
     · simp only[go_sem,Tryz.f220,mB,d1,dc,ha,k1,Bool.false_and,Bool.and_false]
     · cases he:plF (inP p.name) b==plF (inT t.name) b
       · simp only[go_sem,Tryz.f220,mB,d1,d2,dc,ha,k1,he,Bool.false_and,Bool.and_false,Bool.true_and]
       · cases hg:decide (0≤plF (inP p.name) b)
         · simp only[go_sem,Tryz.f220,mB,d1,d2,dc,ha,k1,he,hg,ge_iff_le,Bool.and_false,Bool.true_and,Bool.false_or]
         · simp only[go_sem,Tryz.f220,mB,d1,d2,dc,ha,k1,he,hg,ge_iff_le,Bool.and_false,Bool.true_and,Bool.true_or]
   · rw[hc] at dc;cases hk:a1i p.name F with
     | none=>
      rw[hk] at hf;simp only[Option.map_none] at hf;simp only[go_sem,Tryz.f220,mB,d1,dc,ha,hf,hu,dw,Bool.true_and]
     | some u=>
      rw[hk] at hf;obtain⟨u1,u2⟩:=hF.look hk;have ds:=g2n u t u1 u2 ht.1 ht.2;simp only[Option.map_some] at hf;rw[a0a u] at hf ds;rw[a0a t] at ds;cases hs:cS u==cS t
      · rw[hs] at ds;simp only[go_sem,Tryz.f220,mB,d1,dc,ha,hf,ds,hs,Bool.true_and,Bool.false_and]
      · rw[hs] at ds;simp only[go_sem,Tryz.f220,mB,d1,dc,ha,hf,ds,hs,dw,Bool.true_and]
theorem e1e(b:Prs)(hb:b.length≤536870912):den E 221 [.slice (bV b)] []=some (.own 300 0 (bV b),[]):=by
 have hs:∀l:Prs,c0i (bV l)=some l:=by
  intro l
  induction l with
  | nil=>rfl
  | cons x l ih=>
   show (c0i (bV l)).map ((x.1,x.2):: ·)=_
   rw[ih];rfl
 rw[a9r g4a];unfold b4b;simp only[hs,Option.bind_some];rw[if_pos hb];rfl
structure MaS where
 i:Nat
 F:FM
theorem f5b(vars:List (List UInt8))(hv:vars.length<1000000):∀(n:Nat) (p t:Ty),p.sz≤n→p.sz<20000→GT t∧t.sz<20000→∀(b:Prs),b.length+p.sz<1000000→∀(F:FM),FOk F→
 den E 160 [.ptr (.par 0) 0,tyV p,tyV t,.slice (bV b)] [mB vars F]=some (.bool (a6l vars n p t b F).1,[mB vars (a6l vars n p t b F).2]):=by
 intro n
 induction n with
 | zero=>intro p t h;have:=a3g p;omega
 | succ n ih=>
  intro p t hn hpb ht b hb F hF;have hsz:=a3g p;have hszt:=a3g t;have rl:=a2m p.args;have rl2:=a2m t.args;have hal:=a6h p;have hal2:=a6h t;rw[a0d g5n,h2t,a0a p,a0a t,b9b];cases k1:p.kind==1
  rotate_left
  · have dv:=d5v vars hv p t ht b (by omega) F hF;rw[a0a p,a0a t] at dv;unfold mB at dv⊢;simp only[go_sem,Tryz.f160,k1,dv]
  simp only[Bool.false_eq_true,if_false];cases hnm:e7b p t
  rotate_left
  · simp only[if_true];unfold e7b at hnm;cases q1:p.kind !=t.kind
    · cases q2:(p.args.length:Int)!=(t.args.length:Int)
      · cases q3:p.n !=t.n
        · cases q4:p.kind==3
          · rw[q1,q2,q3,q4] at hnm;cases hnm
          · rw[q1,q2,q3,q4] at hnm;simp only[Bool.false_or,Bool.true_and,Bool.or_false] at hnm;have hnn:(p.name==t.name)=false:=by simpa using hnm
            simp only[go_sem,Tryz.f160,k1,q1,q2,q3,q4,hnn,Bool.not_false,rl,rl2,mB]
        · simp only[go_sem,Tryz.f160,k1,q1,q2,q3,rl,rl2,mB]
      · simp only[go_sem,Tryz.f160,k1,q1,q2,rl,rl2,mB]
    · simp only[go_sem,Tryz.f160,k1,q1,mB]
  simp only[Bool.false_eq_true,if_false];have hn1:(p.kind !=t.kind)=false∧((p.args.length:Int)!=(t.args.length:Int))=false∧(p.n !=t.n)=false∧(p.kind==3&&p.name !=t.name)=false:=by
   unfold e7b at hnm;simp only[Bool.or_eq_false_iff] at hnm;exact⟨hnm.1.1.1,hnm.1.1.2,hnm.1.2,hnm.2⟩
  obtain⟨q1,q2,q3,q4⟩:=hn1;have hll:p.args.length=t.args.length:=by
   have:(p.args.length:Int)=(t.args.length:Int):=by simpa using q2
   omega
  obtain⟨g,hg⟩:∃g,g=(fun x y F=>a6l vars n x y (bdT p t b) F):=⟨_,rfl⟩
  rw[←hg];obtain⟨R,hR0⟩:∃R,R=b1m g p.args t.args F:=⟨_,rfl⟩
  rw[←hR0];obtain⟨fin,hfin⟩:∃fin,fin=(some (.bool R.1,[mB vars R.2]):Option (AVal×a3e)):=⟨_,rfl⟩
  rw[←hfin];unfold bdT at hg;cases k5:p.kind==5
  · rw[k5] at hg;simp only[Bool.false_eq_true,if_false] at hg;cases k3:p.kind==3
    · simp only[go_sem,Tryz.f160,k1,q1,q2,q3,k3,k5,rl,rl2];refine a0p (fun a:MaS=>a.i≤p.args.length∧FOk a.F∧b1m g (p.args.drop a.i) (t.args.drop a.i) a.F=R) (fun a=>⟨[(0,.ptr (.par 0) 0),(3,.slice (bV b)),(5,.ptr (.loc 5) 0),(6,.ptr (.loc 6) 0),(65,.int .i64 p.args.length),(66,.int .i64 a.i)],[mB vars a.F],[(5,tyC p),(6,tyC t)],1⟩)
       (fun _=>fin) (fun a=>p.args.length - a.i) ⟨0,F⟩ ⟨Nat.zero_le _,hF,hR0.symm⟩ ?_ ?_
      · simp only[go_sem,tyC,mB]
      · rintro⟨i,F1⟩ ⟨hi,hF1,hR⟩ h;simp only at hi hF1 hR⊢
        by_cases hlt:i<p.args.length
        · obtain⟨x,hx⟩:=a7p hlt;obtain⟨y,hy⟩:=a7p (l:=t.args) (i:=i) (by omega);have hxs:=a2p (List.mem_of_getElem? hx);have hys:=a2p (List.mem_of_getElem? hy);have d:=ih x y (by omega) (by omega) ⟨ht.1.args y (List.mem_of_getElem? hy),by omega⟩ b (by omega) F1 hF1;have ok1:=c0q vars n x y b F1 ⟨ht.1.args y (List.mem_of_getElem? hy),by omega⟩ hF1;rw[a2x hx,a2x hy,b1l] at hR;have hge:g x y F1=a6l vars n x y b F1:=by rw[hg]
          rw[hge] at hR;have w1:IntKind.i64.wrap ((i:Int)+1)=((i+1:Nat):Int):=a1e (i+1) (by omega);rw[a0a x,a0a y] at d;unfold mB at d;cases hm:(a6l vars n x y b F1).1
          · rw[hm] at d hR;simp only[Bool.false_eq_true,if_false] at hR;rw[←hR] at hfin;simp only[go_sem,a0g,decide_eq_true hlt,a0c,a0j,a6v,hx,hy,a0a x,a0a y,tyC,mB,d,List.take_zero];rw[hfin];rfl
          · rw[hm] at d hR;simp only[if_true] at hR;simp only[go_sem,a0g,decide_eq_true hlt,a0c,a0j,a6v,hx,hy,a0a x,a0a y,tyC,mB,d,List.take_zero];refine h ⟨i+1,(a6l vars n x y b F1).2⟩ _ ⟨show i+1≤p.args.length by omega,ok1,hR⟩ (show p.args.length - (i+1)<p.args.length - i by omega) ?_;simp only[go_sem,w1,mB,tyC]
        · have hie:i=p.args.length:=by omega
          subst hie;rw[List.drop_length,b3b] at hR;rw[←hR] at hfin;simp only[go_sem,a0g,Nat.lt_irrefl,tyC,mB];rw[hfin];rfl
    · rw[k3] at q4;simp only[Bool.true_and] at q4;have hnn:(p.name==t.name)=true:=by simpa using q4
      simp only[go_sem,Tryz.f160,k1,q1,q2,q3,hnn,Bool.not_true,k3,k5,rl,rl2];refine a0p (fun a:MaS=>a.i≤p.args.length∧FOk a.F∧b1m g (p.args.drop a.i) (t.args.drop a.i) a.F=R) (fun a=>⟨[(0,.ptr (.par 0) 0),(3,.slice (bV b)),(5,.ptr (.loc 5) 0),(6,.ptr (.loc 6) 0),(65,.int .i64 p.args.length),(66,.int .i64 a.i)],[mB vars a.F],[(5,tyC p),(6,tyC t)],1⟩)
       (fun _=>fin) (fun a=>p.args.length - a.i) ⟨0,F⟩ ⟨Nat.zero_le _,hF,hR0.symm⟩ ?_ ?_
      · simp only[go_sem,tyC,mB]
      · rintro⟨i,F1⟩ ⟨hi,hF1,hR⟩ h;simp only at hi hF1 hR⊢
        by_cases hlt:i<p.args.length
        · obtain⟨x,hx⟩:=a7p hlt;obtain⟨y,hy⟩:=a7p (l:=t.args) (i:=i) (by omega);have hxs:=a2p (List.mem_of_getElem? hx);have hys:=a2p (List.mem_of_getElem? hy);have d:=ih x y (by omega) (by omega) ⟨ht.1.args y (List.mem_of_getElem? hy),by omega⟩ b (by omega) F1 hF1;have ok1:=c0q vars n x y b F1 ⟨ht.1.args y (List.mem_of_getElem? hy),by omega⟩ hF1;rw[a2x hx,a2x hy,b1l] at hR;have hge:g x y F1=a6l vars n x y b F1:=by rw[hg]
          rw[hge] at hR;have w1:IntKind.i64.wrap ((i:Int)+1)=((i+1:Nat):Int):=a1e (i+1) (by omega);rw[a0a x,a0a y] at d;unfold mB at d;cases hm:(a6l vars n x y b F1).1
          · rw[hm] at d hR;simp only[Bool.false_eq_true,if_false] at hR;rw[←hR] at hfin;simp only[go_sem,a0g,decide_eq_true hlt,a0c,a0j,a6v,hx,hy,a0a x,a0a y,tyC,mB,d,List.take_zero];rw[hfin];rfl
          · rw[hm] at d hR;simp only[if_true] at hR;simp only[go_sem,a0g,decide_eq_true hlt,a0c,a0j,a6v,hx,hy,a0a x,a0a y,tyC,mB,d,List.take_zero];refine h ⟨i+1,(a6l vars n x y b F1).2⟩ _ ⟨show i+1≤p.args.length by omega,ok1,hR⟩ (show p.args.length - (i+1)<p.args.length - i by omega) ?_;simp only[go_sem,w1,mB,tyC]
        · have hie:i=p.args.length:=by omega
          subst hie;rw[List.drop_length,b3b] at hR;rw[←hR] at hfin;simp only[go_sem,a0g,Nat.lt_irrefl,tyC,mB];rw[hfin];rfl
  · rw[k5] at hg;simp only[if_true] at hg;have k3:(p.kind==3)=false:=by
     have:p.kind=5:=by simpa using k5
     rw[this];rfl
    have dc:=e1e b (by omega);have am:(bV b).length+1≤a0s:=by rw[g0t];unfold a0s;omega
    have hsn:bV (b++[(p.name,t.name)])=bV b++[.agg [.str p.name,.str t.name]]:=by simp[bV,c9o]
    simp only[go_sem,Tryz.f160,k1,q1,q2,q3,k3,k5,rl,rl2,dc,am];refine a0p (fun a:MaS=>a.i≤p.args.length∧FOk a.F∧b1m g (p.args.drop a.i) (t.args.drop a.i) a.F=R) (fun a=>⟨[(0,.ptr (.par 0) 0),(3,.own 300 0 (bV (b++[(p.name,t.name)]))),(5,.ptr (.loc 5) 0),(6,.ptr (.loc 6) 0),(65,.int .i64 p.args.length),(66,.int .i64 a.i)],[mB vars a.F],[(5,tyC p),(6,tyC t)],1⟩)
     (fun _=>fin) (fun a=>p.args.length - a.i) ⟨0,F⟩ ⟨Nat.zero_le _,hF,hR0.symm⟩ ?_ ?_
    · simp only[go_sem,tyC,mB,hsn]
    · rintro⟨i,F1⟩ ⟨hi,hF1,hR⟩ h;simp only at hi hF1 hR⊢
      by_cases hlt:i<p.args.length
      · obtain⟨x,hx⟩:=a7p hlt;obtain⟨y,hy⟩:=a7p (l:=t.args) (i:=i) (by omega);have hxs:=a2p (List.mem_of_getElem? hx);have hys:=a2p (List.mem_of_getElem? hy);have d:=ih x y (by omega) (by omega) ⟨ht.1.args y (List.mem_of_getElem? hy),by omega⟩ (b++[(p.name,t.name)]) (by simp;omega) F1 hF1;have ok1:=c0q vars n x y (b++[(p.name,t.name)]) F1 ⟨ht.1.args y (List.mem_of_getElem? hy),by omega⟩ hF1;rw[a2x hx,a2x hy,b1l] at hR;have hge:g x y F1=a6l vars n x y (b++[(p.name,t.name)]) F1:=by rw[hg]
        rw[hge] at hR;have w1:IntKind.i64.wrap ((i:Int)+1)=((i+1:Nat):Int):=a1e (i+1) (by omega);rw[a0a x,a0a y] at d;unfold mB at d;rw[hsn] at d;cases hm:(a6l vars n x y (b++[(p.name,t.name)]) F1).1
        · rw[hm] at d hR;simp only[Bool.false_eq_true,if_false] at hR;rw[←hR] at hfin;simp only[go_sem,a0g,decide_eq_true hlt,a0c,a0j,a6v,hx,hy,a0a x,a0a y,tyC,mB,d,hsn];rw[hfin];rfl
        · rw[hm] at d hR;simp only[if_true] at hR;simp only[go_sem,a0g,decide_eq_true hlt,a0c,a0j,a6v,hx,hy,a0a x,a0a y,tyC,mB,d,hsn];refine h ⟨i+1,(a6l vars n x y (b++[(p.name,t.name)]) F1).2⟩ _ ⟨show i+1≤p.args.length by omega,ok1,hR⟩ (show p.args.length - (i+1)<p.args.length - i by omega) ?_;simp only[go_sem,w1,mB,tyC,hsn]
      · have hie:i=p.args.length:=by omega
        subst hie;rw[List.drop_length,b3b] at hR;rw[←hR] at hfin;simp only[go_sem,a0g,Nat.lt_irrefl,tyC,mB];rw[hfin];rfl
def bnd(F:FM)(l:List (List UInt8)):List AVal:=l.flatMap fun n=>match a1i n F with
 | some u=>[.agg [.str n,.int .i64 u.kind,.str u.name,.int .i64 u.n,.slice (a3a u.args)]]
 | none=>[]
theorem i7t(F:FM)(l:List (List UInt8)):(bnd F l).length≤l.length:=by
 induction l with
 | nil=>exact Nat.zero_le _
 | cons x r ih=>
  have e:bnd F (x::r)=(match a1i x F with
   | some u=>[.agg [.str x,.int .i64 u.kind,.str u.name,.int .i64 u.n,.slice (a3a u.args)]]
   | none=>[])++bnd F r:=rfl
  rw[e,List.length_append,List.length_cons];cases a1i x F<;>simp<;>omega
theorem h3s(F:FM){l:List (List UInt8)}{i:Nat}{x:List UInt8}(h:l[i]? =some x):bnd F (l.take (i+1))=bnd F (l.take i)++(match a1i x F with
 | some u=>[.agg [.str x,.int .i64 u.kind,.str u.name,.int .i64 u.n,.slice (a3a u.args)]]
 | none=>[]):=by
 rw[a7e h];unfold bnd;rw[List.flatMap_append]
 congr 1
 simp
theorem g1d(vars:List (List UInt8))(hv:vars.length<1000000)(p t:Ty)(hp:p.sz<20000)(ht:GT t∧t.sz<20000):
 ∃L,den E 104 [tyV p,tyV t,.slice (vars.map .str)] []=some (.tup [.slice L,.bool (a6l vars p.sz p t [] []).1],[]):=by
 have d:=f5b vars hv p.sz p t (Nat.le_refl _) hp ht [] (by simp;omega) [] (fun e he=>by cases he);have df:=a4l p (by omega);have hle:=a2o _ p (Nat.le_refl _) [] [];simp only[List.length_nil,Nat.zero_add] at hle;generalize a6l vars p.sz p t [] []=R at d;unfold mB at d;have b0:bV []=[]:=rfl;have m0:a8q tyV ([]:FM)=[]:=rfl;rw[b0,m0] at d;rw[a0a p] at d df;rw[a0a t] at d;rw[a0d g6j,h3p,a0a p,a0a t];obtain⟨ok,F⟩:=R;cases ok
 · refine⟨[],?_⟩;simp only[go_sem,Tryz.f104,d]
 · generalize a0m p [] []=l at df hle;refine⟨bnd F l,?_⟩;obtain⟨fin,hfin⟩:∃fin,fin=(some (.tup [.slice (bnd F l),.bool true],[]):Option (AVal×a3e)):=⟨_,rfl⟩
   rw[←hfin];simp only[go_sem,Tryz.f104,d,df,List.length_map];refine a4j (fun i=>⟨[(8,.ptr (.loc 17) 0),(9,.own 268 0 (bnd F (l.take i))),(24,.own 9 0 (l.map .str)),(25,.int .i64 l.length),(26,.int .i64 i)],[],[(17,mB vars F)],1⟩) l.length ?_ ?_ ?_
   · simp only[go_sem,mB,List.take_zero,bnd,List.flatMap_nil]
   · intro i hi h;obtain⟨x,hx⟩:=a7p hi;have hf:=a8v tyV x F;have hbl:=i7t F (l.take i);have w1:IntKind.i64.wrap ((i:Int)+1)=((i+1:Nat):Int):=a1e (i+1) (by omega);have am:(bnd F (l.take i)).length+1≤a0s:=by
      rw[List.length_take] at hbl;unfold a0s;omega
     rw[h3s F hx] at h;cases hk:a1i x F with
     | none=>
      rw[hk] at hf h;simp only[Option.map_none,List.append_nil] at hf h;simp only[go_sem,a0g,decide_eq_true hi,a0c,a0j,a4b,hx,hf,mB];refine h _ ?_;simp only[go_sem,w1,mB]
     | some u=>
      rw[hk] at hf h;simp only[Option.map_some] at hf h;rw[a0a u] at hf;simp only[go_sem,a0g,decide_eq_true hi,a0c,a0j,a4b,hx,hf,am,mB];refine h _ ?_;simp only[go_sem,w1,mB]
   · simp only[go_sem,a0g,Nat.lt_irrefl,List.take_length,hfin,mB]
theorem c5m(g s:Ty)(hg:GT g∧g.sz<12000)(hs:GT s∧s.sz<12000):den E 41 [tyV g,tyV s] []=some (.bool (d7v g s),[]):=by
 have d1:=a4l g (by omega);have d2:=a4l s (by omega);have l1:=a2o _ g (Nat.le_refl _) [] [];have l2:=a2o _ s (Nat.le_refl _) [] [];simp only[List.length_nil,Nat.zero_add] at l1 l2;obtain⟨but,hbut⟩:∃but,but=a0m g [] []++a0m s [] []:=⟨_,rfl⟩
 have hbl:but.length≤24000:=by rw[hbut,List.length_append];omega
 have q1:g.sz*(but.length+1)≤12000*24001:=Nat.mul_le_mul (by omega) (by omega);have q2:s.sz*(but.length+1)≤12000*24001:=Nat.mul_le_mul (by omega) (by omega);have p1:=b7f 113 but (by omega) g hg.1 (by omega) (by omega);have p2:=b7f 112 but (by omega) s hs.1 (by omega) (by omega);obtain⟨g1,s1,n1,_⟩:=a9l 113 but g.sz g 0 (Nat.le_refl _) hg.1 (by omega) (by omega);obtain⟨g2,s2,_,_⟩:=a9l 112 but s.sz s 0 (Nat.le_refl _) hs.1 (by omega) (by omega);obtain⟨X,dm⟩:=g1d (a3h 113 but g.sz g 0).1 (by omega) (a3h 113 but g.sz g 0).2 (a3h 112 but s.sz s 0).2 (by omega) ⟨g2,by omega⟩;have e:d7v g s=(a6l (a3h 113 but g.sz g 0).1 (a3h 113 but g.sz g 0).2.sz (a3h 113 but g.sz g 0).2 (a3h 112 but s.sz s 0).2 [] []).1:=by rw[hbut];rfl
 rw[e];generalize a6l (a3h 113 but g.sz g 0).1 (a3h 113 but g.sz g 0).2.sz (a3h 113 but g.sz g 0).2 (a3h 112 but s.sz s 0).2 [] []=R at dm⊢;generalize a3h 113 but g.sz g 0=A at p1 dm;generalize a3h 112 but s.sz s 0=B at p2 dm;have am:(a0m g [] []).length+(a0m s [] []).length≤a0s:=by unfold a0s;omega
 rw[hbut,List.map_append] at p1 p2;rw[a0a g] at d1 p1⊢;rw[a0a s] at d2 p2⊢;rw[a0a A.2] at p1 dm;rw[a0a B.2] at p2 dm;rw[a0d i4d,i7l];rcases e4o (a0m g [] []) with h1| ⟨b,h1⟩<;>rcases e4o (a0m s [] []) with h2| ⟨b',h2⟩<;>
 simp only[go_sem,Tryz.f41,d1,d2,am,h1,h2,p1,p2,dm,List.length_map]
theorem c1f:∀(l:List De) (s:List (List UInt8)),b1q s l→∀d∈l,(d.kind==1)=true→d.name∉s∧d.name≠f1p
 | [],_,_,_,hd,_=>by cases hd
 | e::r,s,h,d,hd,hk=>by
  unfold b1q at h;rcases List.mem_cons.1 hd with rfl|hd
  · rw[if_pos hk] at h;exact⟨h.1,h.2.1⟩
  · split at h
    · obtain⟨h1,h2⟩:=c1f r _ h.2.2 d hd hk;exact⟨fun hm=>h1 (List.mem_append_left _ hm),h2⟩
    · exact c1f r s h d hd hk
theorem e1l:∀(l:List De) (s:List (List UInt8)),b1q s l→∀d∈l,(d.kind==1)=true→arL l d.name=(d.vars.length:Int)
 | [],_,_,_,hd,_=>by cases hd
 | e::r,s,h,d,hd,hk=>by
  rw[arL];rcases List.mem_cons.1 hd with rfl|hd
  · rw[hk];simp
  · unfold b1q at h;split at h
    · obtain⟨h1,_⟩:=c1f r _ h.2.2 d hd hk;have:(e.name==d.name)=false:=by
       have:e.name≠d.name:=fun e2=>h1 (by rw[e2];simp);simpa using this
      rw[this,Bool.and_false];exact e1l r _ h.2.2 d hd hk
    · rename_i hk2;rw[show (e.kind==1)=false by simpa using hk2,Bool.false_and];exact e1l r s h d hd hk
structure ZOk (d:De) (c:Co) (k:Nat) (z:CX):Prop where
 data:z.data=d.name
 tag:z.tag=(k:Int)
 un:z.univ.length=d.vars.length
 wh:WH c.ty z
theorem g1t{l:List De}(hu:b1q [] l)(hnd:(c9v l).Nodup)(hcon:∀d∈l,d.name.length≤16∧d.cons.length≤1000000∧∀c∈d.cons,GT c.ty∧c.ty.sz<12000∧c.name.length≤16)(hemp:∀d∈l,(d.kind==1)=false→d.cons=[]){m:c3p}(h:d4c l=.inr m):
 ∀d∈l,∀(k:Nat) (c:Co),d.cons[k]? =some c→∃z,a1i c.name m=some z∧ZOk d c k z:=by
 intro d hd k c hk;obtain⟨_,h2⟩:=e5d (arU l) l [] m h hnd;obtain⟨x,x1,x2,x3⟩:=h2 d hd k c hk;obtain⟨d1,_,d3⟩:=hcon d hd;obtain⟨c1,c2,_⟩:=d3 c (List.mem_of_getElem? hk);have hk1:(d.kind==1)=true:=by
  cases hq:d.kind==1
  · rw[hemp d hd hq] at hk;simp at hk
  · rfl
 obtain⟨u1,u2⟩:=f5d (arU l) d c c1 c2 x2 x1;have har:=h3w hu d.name;have hD:arD l d.name=(d.vars.length:Int):=by
  unfold arD;have:=(c1f l [] hu d hd hk1).2;have:(d.name==[65,110,121])=false:=by
   have h3:d.name≠[65,110,121]:=this;simpa using h3
  rw[this];exact e1l l [] hu d hd hk1
 rw[u1,hD,if_pos (by omega)] at har;injection har with har;have w:=g1j d c c1 c2 (i5o (arU l) c1 x2) d1 x1;exact⟨_,x3,⟨u2,rfl,by show x.univ.length=_;omega,⟨w.ty,w.ags,w.gs,w.gr,w.both,w.two,w.lens⟩⟩⟩
def tyB:Bool→Ty→List AVal
 | true,w=>[.int .i64 w.kind,.str w.name,.int .i64 w.n,.own 25 0 (a3a w.args)]
 | false,w=>[.int .i64 w.kind,.str w.name,.int .i64 w.n,.slice (a3a w.args)]
structure WhS where
 r:Nat
 o:Bool
theorem f7l{l:List Ty}{w:Ty}{i:Nat}{x:Ty}(h:l[i]? =some x):c1r (l.drop i) w=.mk 4 [] 0 [x,c1r (l.drop (i+1)) w]:=by rw[a2x h];rfl
theorem e1s{l:List Gv}{w:Ty}{i:Nat}{g:Gv}(h:l[i]? =some g):whQ ((l.map gvP).drop i) w=a8n (whQ ((l.map gvP).drop (i+1)) w).sz (whQ ((l.map gvP).drop (i+1)) w) g.l.name g.r:=by
 have:(l.map gvP)[i]? =some (gvP g):=by simp[h]
 rw[a2x this];rfl
theorem c1o{l:List (List UInt8)}{w:Ty}{i:Nat}{x:List UInt8}(h:l[i]? =some x):a5h (l.drop i) w=.mk 5 x 0 [a5h (l.drop (i+1)) w]:=by rw[a2x h];rfl
theorem f1r(s:List UInt8):den E 8 [.str s] []=some (.bool true,[]):=by
 have ha:=g0u;obtain⟨p,hp⟩:=e6y s;have dr:=e2z hp;unfold g2u at dr;rw[a0d j3s,j4s];cases h0:(p.2 !=0)
 rotate_left
 · rw[h0] at dr;simp only[if_true] at dr;simp only[go_sem,Tryz.f8,ha,dr]
 rw[h0] at dr;simp only[Bool.false_eq_true,if_false] at dr;cases hc:(g9v p.1).2==0
 · rw[hc] at dr;simp only[go_sem,Tryz.f8,ha,dr]
 rw[hc] at dr;have h00:p.2=0:=by rw[b6n] at h0;simpa using h0
 have key:=c2n hp h00;have dn:=f4n p.1 key.1 key.2;have hu:=g9t (l:=p.1) (by simpa using hc);have hemp:∀d∈p.1,(d.kind==1)=false→d.cons=[]:=fun d hd hk=>by
  have hgd:=key.1 d hd;cases hgd with
  | data s vs cs _ _ h3=>cases hk
  | sig _ _ _ _=>rfl
  | bind _ _ _ _=>rfl
 have hnd:=g9u (l:=p.1) (by simpa using hc) hemp;have hcon:∀d∈p.1,d.name.length≤16∧d.cons.length≤1000000∧∀c∈d.cons,GT c.ty∧c.ty.sz<12000∧c.name.length≤16:=fun d hd=>by
  have hm:=b0b hd;have h2:=b1f d.val;have h3:=key.2;unfold De.tot at hm;obtain⟨g1,g2⟩:=f7h (key.1 d hd);refine⟨g1,by omega,fun c hcm=>?_⟩;have h1:c.ty.sz≤Ty.szs (d.cons.map Co.ty):=c8s hcm;exact⟨(g2 c hcm).2,by omega,(g2 c hcm).1⟩
 have hvl:∀d∈p.1,d.vars.length≤12000∧d.cons.length≤12000:=fun d hd=>by
  have hm:=b0b hd;have h3:=key.2;unfold De.tot at hm;exact⟨by omega,by omega⟩
 cases hn:d4c p.1 with
 | inl e=>
  rw[hn] at dn;unfold i4w at dn;simp only at dn;simp only[go_sem,Tryz.f8,ha,dr,dn]
 | inr m=>
  have htab:=g1t hu hnd hcon hemp hn;rw[hn] at dn;unfold i4w a4t at dn;simp only at dn;have hlen:=b6f p.1;have hk2:=key.2;generalize arU p.1=ar at *;generalize csU p.1=cs at *;obtain⟨L,hL⟩:∃L,L=p.1:=⟨_,rfl⟩
  have hcon2:∀d∈p.1,∀c∈d.cons,GT c.ty∧c.ty.sz<12000:=fun d hd c hc=>⟨((hcon d hd).2.2 c hc).1,((hcon d hd).2.2 c hc).2.1⟩
  rw[←hL] at dr dn htab hlen hk2 hcon2 hvl;clear hcon hnd hemp hu key hp;obtain⟨fin,hfin⟩:∃fin,fin=(some (.bool true,[]):Option (AVal×a3e)):=⟨_,rfl⟩
  rw[←hfin];simp only[go_sem,Tryz.f8,ha,dr,dn];refine a0p (fun i:Nat=>i≤L.length) (fun i=>⟨[(3,.bool true),(4,.slice (L.map deV)),(7,.ptr (.loc 34) 0),(10,.int .i64 i)],[],[(34,a4t ar (a8q lsA cs) (a8q c1s m))],1⟩) (fun _=>fin) (fun i=>L.length - i) 0 (Nat.zero_le _) ?_ ?_
  · simp only[go_sem,a4t]
  intro i hi hA
  by_cases hlt:i<L.length
  rotate_left
  · have hie:i=L.length:=by omega
    subst hie;simp only[go_sem,List.length_map,a0g,Nat.lt_irrefl,a4t];exact hfin.symm
  obtain⟨d,hd⟩:=a7p hlt;have hdl:(L.map deV)[i]? =some (deV d):=by simp[hd]
  have hdm:=List.mem_of_getElem? hd;obtain⟨hv1,hv2⟩:=hvl d hdm;have wi:IntKind.i64.wrap ((i:Int)+1)=((i+1:Nat):Int):=a1e (i+1) (by omega);simp only[go_sem,List.length_map,a0g,decide_eq_true hlt,a4t];refine a0p (fun k:Nat=>k≤d.cons.length) (fun k=>⟨[(3,.bool true),(4,.slice (L.map deV)),(7,.ptr (.loc 34) 0),(10,.int .i64 i),(11,.int .i64 k)],[],[(34,a4t ar (a8q lsA cs) (a8q c1s m))],1⟩) (fun _=>fin) (fun k=>d.cons.length - k) 0 (Nat.zero_le _) ?_ ?_
  · simp only[go_sem,a4t]
  intro k hk hB
  by_cases hkl:k<d.cons.length
  rotate_left
  · have hke:k=d.cons.length:=by omega
    subst hke;simp only[go_sem,a0c,a0j,hdl,deV,deC,List.length_map,a0g,Nat.lt_irrefl,a4t];refine hA (i+1) _ (by omega) (by omega) ?_;simp only[go_sem,wi,a4t]
  obtain⟨c,hck⟩:=a7p hkl;obtain⟨z,hz,zo⟩:=htab d hdm k c hck;have hcl:(d.cons.map coV)[k]? =some (coV c):=by simp[hck]
  have g1:=e1x ar (a8q lsA cs) m c.name;rw[hz] at g1;unfold a4t at g1;simp only[xcC] at g1;obtain⟨za,zb,zc,zw⟩:=zo;obtain⟨ln1,ln2,ln3⟩:=zw.lens;have hnn:(z.data==d.name)=true:=by simpa using za
  have htg:(z.tag !=(k:Int))=false:=by rw[zb];simp
  have hul:((z.univ.length:Int)!=(d.vars.length:Int))=false:=by rw[zc];simp
  have wk:IntKind.i64.wrap ((k:Int)+1)=((k+1:Nat):Int):=a1e (k+1) (by omega);obtain⟨w0,hw0⟩:∃w0:Ty,w0=.mk 3 z.data 0 (z.univ.map fun u=>.mk 1 u 0 []):=⟨_,rfl⟩
  simp only[go_sem,a0c,a0j,hdl,deV,deC,List.length_map,a0g,decide_eq_true hkl,hcl,d8x,g1,a4t,hnn,Bool.not_true,htg,hul]
  -- the data,with its arguments
  refine a4j (fun j=>⟨[(3,.bool true),(4,.slice (L.map deV)),(7,.ptr (.loc 34) 0),(10,.int .i64 i),(11,.int .i64 k),(12,.ptr (.loc 12) 0),(14,.ptr (.loc 14) 0),(15,.int .i64 j)],[],
   [(12,xcC z),(14,tyB true (.mk 3 z.data 0 ((z.univ.map fun u=>Ty.mk 1 u 0 []).take j))),(34,a4t ar (a8q lsA cs) (a8q c1s m))],1⟩) z.univ.length ?_ ?_ ?_
  · simp only[go_sem,tyB,xcC,a4t,List.take_zero,a0h,Ty.kind,Ty.name,Ty.n,Ty.args]
  · intro j hj h;obtain⟨u,hu⟩:=a7p hj;have huu:(z.univ.map fun u=>Ty.mk 1 u 0 [])[j]? =some (.mk 1 u 0 []):=by simp[hu]
    have hap:(a3a ((z.univ.map fun u=>Ty.mk 1 u 0 []).take j)).length+1≤a0s:=by rw[a2m,List.length_take,List.length_map];unfold a0s;omega
    have wj:IntKind.i64.wrap ((j:Int)+1)=((j+1:Nat):Int):=a1e (j+1) (by omega);rw[a6k huu] at h;simp only[go_sem,tyB,xcC,a4t,List.length_map,a0g,decide_eq_true hj,a0c,a0j,a4b,hu,hap,Ty.kind,Ty.name,Ty.n,Ty.args];refine h _ ?_;simp only[go_sem,wj,tyB,xcC,a4t,a9f,a1c,a0h,a4n,Ty.kind,Ty.name,Ty.n,Ty.args]
  have htk:(z.univ.map fun u=>Ty.mk 1 u 0 []).take z.univ.length=z.univ.map fun u=>Ty.mk 1 u 0 []:=List.take_of_length_le (by simp);rw[htk,←hw0];have wa:IntKind.i64.wrap ((z.args.length:Int) - 1)=(z.args.length:Int) - 1:=by unfold IntKind.wrap;simp[IntKind.bits,IntKind.signed];omega
  have rla:=a2m z.args;simp only[go_sem,tyB,xcC,a4t,List.length_map,a0g,Nat.lt_irrefl,rla,wa]
  -- functions to it
  refine a0p (fun a:WhS=>a.r≤z.args.length) (fun a=>⟨[(3,.bool true),(4,.slice (L.map deV)),(7,.ptr (.loc 34) 0),(10,.int .i64 i),(11,.int .i64 k),(12,.ptr (.loc 12) 0),(14,.ptr (.loc 14) 0),(16,.int .i64 ((a.r:Int) - 1))],[],
   [(12,xcC z),(14,tyB a.o (c1r (z.args.drop a.r) w0)),(34,a4t ar (a8q lsA cs) (a8q c1s m))],1⟩) (fun _=>fin) (fun a=>a.r) ⟨z.args.length,true⟩ (Nat.le_refl _) ?_ ?_
  · simp only[go_sem,tyB,xcC,a4t,List.drop_length,c1r]
  rintro⟨r,o⟩ hr h;simp only at hr;cases r with
  | succ r=>
   have e1:(((r+1:Nat):Int) - 1)=(r:Int):=by omega
   obtain⟨a,hra⟩:=a7p (l:=z.args) (i:=r) (by omega);have wr:IntKind.i64.wrap ((r:Int) - 1)=(r:Int) - 1:=by unfold IntKind.wrap;simp[IntKind.bits,IntKind.signed];omega
   have hfd:=f7l (w:=w0) hra;rw[e1];cases o<;>
   (simp only[go_sem,tyB,xcC,a4t,a0c,a0j,a6v,hra,a0a a]
    refine h ⟨r,false⟩ _ (show r≤z.args.length by omega) (Nat.lt_succ_self r) ?_;rw[hfd];simp only[go_sem,wr,tyB,xcC,a4t,a1c,a0h,a0a a,a0a (c1r _ _),Ty.kind,Ty.name,Ty.n,Ty.args])
  | zero=>
  clear h;have gm:decide (((0:Int) - 1)≥0)=false:=rfl;have hw00:c1r z.args w0=wh0 z:=by rw[hw0];rfl
  have wg:IntKind.i64.wrap ((z.givens.length:Int) - 1)=(z.givens.length:Int) - 1:=by unfold IntKind.wrap;simp[IntKind.bits,IntKind.signed];omega
  rw[List.drop_zero,hw00];clear hw0 hw00;cases o
  · simp only[go_sem,gm,tyB,xcC,a4t,List.length_map,wg]
    -- the givens
    refine a0p (fun a:WhS=>a.r≤z.givens.length) (fun a=>⟨[(3,.bool true),(4,.slice (L.map deV)),(7,.ptr (.loc 34) 0),(10,.int .i64 i),(11,.int .i64 k),(12,.ptr (.loc 12) 0),(14,.ptr (.loc 14) 0),(17,.int .i64 ((a.r:Int) - 1))],[],
     [(12,xcC z),(14,tyB a.o (whQ ((z.givens.map gvP).drop a.r) (wh0 z))),(34,a4t ar (a8q lsA cs) (a8q c1s m))],1⟩) (fun _=>fin) (fun a=>a.r) ⟨z.givens.length,false⟩ (Nat.le_refl _) ?_ ?_
    · have hdl0:(z.givens.map gvP).drop z.givens.length=[]:=List.drop_eq_nil_of_le (by simp);simp only[go_sem,hdl0,whQ,tyB,xcC,a4t]
    rintro⟨r,o⟩ hr h;simp only at hr;cases r with
    | succ r=>
     have e1:(((r+1:Nat):Int) - 1)=(r:Int):=by omega
     obtain⟨g,hrg⟩:=a7p (l:=z.givens) (i:=r) (by omega);have wr:IntKind.i64.wrap ((r:Int) - 1)=(r:Int) - 1:=by unfold IntKind.wrap;simp[IntKind.bits,IntKind.signed];omega
     have hgd:=e1s (w:=wh0 z) hrg;obtain⟨q1,q2⟩:=zw.gs (r+1);obtain⟨r1,r2,r3⟩:=zw.gr g (List.mem_of_getElem? hrg);have dp:=(c0d g.r r1 (by omega) r3 g.l.name _ _ (Nat.le_refl _) q1 (by omega)).1;generalize whQ ((z.givens.map gvP).drop (r+1)) (wh0 z)=W at *;rw[a0a W,a0a g.r,a0a (a8n _ _ _ _)] at dp;rw[e1];cases o<;>
     (simp only[go_sem,tyB,xcC,a4t,a0c,a0j,i5n,hrg,e4p,dp]
      refine h ⟨r,false⟩ _ (show r≤z.givens.length by omega) (Nat.lt_succ_self r) ?_;rw[hgd];simp only[go_sem,wr,tyB,xcC,a4t])
    | zero=>
    clear h;rw[List.drop_zero];obtain⟨q1,q2⟩:=zw.gs 0;rw[List.drop_zero] at q1 q2;have df:=a4l (whQ (z.givens.map gvP) (wh0 z)) (by omega);have hfl:=a2o _ (whQ (z.givens.map gvP) (wh0 z)) (Nat.le_refl _) [] [];simp only[List.length_nil,Nat.zero_add] at hfl;have e2:wh2 z=a5h (a0m (whQ (z.givens.map gvP) (wh0 z)) [] []) (whQ (z.givens.map gvP) (wh0 z)):=rfl;have d1:=c5m (wh2 z) z.ty zw.two ⟨by rw[zw.ty];exact (hcon2 d hdm c (List.mem_of_getElem? hck)).1,by rw[zw.ty];exact (hcon2 d hdm c (List.mem_of_getElem? hck)).2⟩;have d2:=c5m z.ty (wh2 z) ⟨by rw[zw.ty];exact (hcon2 d hdm c (List.mem_of_getElem? hck)).1,by rw[zw.ty];exact (hcon2 d hdm c (List.mem_of_getElem? hck)).2⟩ zw.two;rw[zw.both.1] at d1;rw[zw.both.2] at d2;rw[e2] at d1 d2;generalize whQ (z.givens.map gvP) (wh0 z)=W at *;generalize a0m W [] []=F at *;rw[a0a W] at df;rw[a0a z.ty,a0a (a5h _ _)] at d1 d2;have hFl:F.length≤12000:=by omega
    cases o
    · simp only[go_sem,gm,tyB,xcC,a4t,df]
      -- closed
      refine a0p (fun a:WhS=>a.r≤F.length) (fun a=>⟨[(3,.bool true),(4,.slice (L.map deV)),(7,.ptr (.loc 34) 0),(10,.int .i64 i),(11,.int .i64 k),(12,.ptr (.loc 12) 0),(14,.ptr (.loc 14) 0),(18,.own 9 0 (F.map .str)),(19,.int .i64 a.r)],[],
       [(12,xcC z),(14,tyB a.o (a5h (F.drop (F.length - a.r)) W)),(34,a4t ar (a8q lsA cs) (a8q c1s m))],1⟩) (fun _=>fin) (fun a=>F.length - a.r) ⟨0,false⟩ (Nat.zero_le _) ?_ ?_
      · simp only[go_sem,Nat.sub_zero,List.drop_length,a5h,tyB,xcC,a4t]
      rintro⟨r,o⟩ hr h;simp only at hr
      by_cases hrl:r<F.length
      · obtain⟨f,hf⟩:=a7p (l:=F) (i:=F.length - (r+1)) (by omega);have hal:=c1o (w:=W) hf;rw[show F.length - (r+1)+1=F.length - r by omega] at hal;have w1:IntKind.i64.wrap ((F.length:Int) - 1)=(F.length:Int) - 1:=by unfold IntKind.wrap;simp[IntKind.bits,IntKind.signed];omega
        have w2:IntKind.i64.wrap ((F.length:Int) - 1 - (r:Int))=((F.length - (r+1):Nat):Int):=by unfold IntKind.wrap;simp[IntKind.bits,IntKind.signed];omega
        have w3:IntKind.i64.wrap ((r:Int)+1)=((r+1:Nat):Int):=a1e (r+1) (by omega);generalize a5h (F.drop (F.length - r)) W=V at *;cases o<;>
        (simp only[go_sem,tyB,xcC,a4t,List.length_map,a0g,decide_eq_true hrl,w1,w2,a0c,a0j,a4b,hf]
         refine h ⟨r+1,false⟩ _ (show r+1≤F.length by omega) (show F.length - (r+1)<F.length - r by omega) ?_;simp only;rw[hal];simp only[go_sem,w3,tyB,xcC,a4t,a1c,a0h,a0a V,Ty.kind,Ty.name,Ty.n,Ty.args])
      · have hre:r=F.length:=by omega
        subst hre;rw[Nat.sub_self,List.drop_zero];cases o<;>
        (simp only[go_sem,tyB,xcC,a4t,List.length_map,a0g,Nat.lt_irrefl,d1,d2,Bool.not_true]
         refine hB (k+1) _ (by omega) (by omega) ?_;simp only[go_sem,wk,a4t])
    · simp only[go_sem,gm,tyB,xcC,a4t,df]
      -- closed
      refine a0p (fun a:WhS=>a.r≤F.length) (fun a=>⟨[(3,.bool true),(4,.slice (L.map deV)),(7,.ptr (.loc 34) 0),(10,.int .i64 i),(11,.int .i64 k),(12,.ptr (.loc 12) 0),(14,.ptr (.loc 14) 0),(18,.own 9 0 (F.map .str)),(19,.int .i64 a.r)],[],
       [(12,xcC z),(14,tyB a.o (a5h (F.drop (F.length - a.r)) W)),(34,a4t ar (a8q lsA cs) (a8q c1s m))],1⟩) (fun _=>fin) (fun a=>F.length - a.r) ⟨0,true⟩ (Nat.zero_le _) ?_ ?_
      · simp only[go_sem,Nat.sub_zero,List.drop_length,a5h,tyB,xcC,a4t]
      rintro⟨r,o⟩ hr h;simp only at hr
      by_cases hrl:r<F.length
      · obtain⟨f,hf⟩:=a7p (l:=F) (i:=F.length - (r+1)) (by omega);have hal:=c1o (w:=W) hf;rw[show F.length - (r+1)+1=F.length - r by omega] at hal;have w1:IntKind.i64.wrap ((F.length:Int) - 1)=(F.length:Int) - 1:=by unfold IntKind.wrap;simp[IntKind.bits,IntKind.signed];omega
        have w2:IntKind.i64.wrap ((F.length:Int) - 1 - (r:Int))=((F.length - (r+1):Nat):Int):=by unfold IntKind.wrap;simp[IntKind.bits,IntKind.signed];omega
        have w3:IntKind.i64.wrap ((r:Int)+1)=((r+1:Nat):Int):=a1e (r+1) (by omega);generalize a5h (F.drop (F.length - r)) W=V at *;cases o<;>
        (simp only[go_sem,tyB,xcC,a4t,List.length_map,a0g,decide_eq_true hrl,w1,w2,a0c,a0j,a4b,hf]
         refine h ⟨r+1,false⟩ _ (show r+1≤F.length by omega) (show F.length - (r+1)<F.length - r by omega) ?_;simp only;rw[hal];simp only[go_sem,w3,tyB,xcC,a4t,a1c,a0h,a0a V,Ty.kind,Ty.name,Ty.n,Ty.args])
      · have hre:r=F.length:=by omega
        subst hre;rw[Nat.sub_self,List.drop_zero];cases o<;>
        (simp only[go_sem,tyB,xcC,a4t,List.length_map,a0g,Nat.lt_irrefl,d1,d2,Bool.not_true]
         refine hB (k+1) _ (by omega) (by omega) ?_;simp only[go_sem,wk,a4t])
  · simp only[go_sem,gm,tyB,xcC,a4t,List.length_map,wg]
    -- the givens
    refine a0p (fun a:WhS=>a.r≤z.givens.length) (fun a=>⟨[(3,.bool true),(4,.slice (L.map deV)),(7,.ptr (.loc 34) 0),(10,.int .i64 i),(11,.int .i64 k),(12,.ptr (.loc 12) 0),(14,.ptr (.loc 14) 0),(17,.int .i64 ((a.r:Int) - 1))],[],
     [(12,xcC z),(14,tyB a.o (whQ ((z.givens.map gvP).drop a.r) (wh0 z))),(34,a4t ar (a8q lsA cs) (a8q c1s m))],1⟩) (fun _=>fin) (fun a=>a.r) ⟨z.givens.length,true⟩ (Nat.le_refl _) ?_ ?_
    · have hdl0:(z.givens.map gvP).drop z.givens.length=[]:=List.drop_eq_nil_of_le (by simp);simp only[go_sem,hdl0,whQ,tyB,xcC,a4t]
    rintro⟨r,o⟩ hr h;simp only at hr;cases r with
    | succ r=>
     have e1:(((r+1:Nat):Int) - 1)=(r:Int):=by omega
     obtain⟨g,hrg⟩:=a7p (l:=z.givens) (i:=r) (by omega);have wr:IntKind.i64.wrap ((r:Int) - 1)=(r:Int) - 1:=by unfold IntKind.wrap;simp[IntKind.bits,IntKind.signed];omega
     have hgd:=e1s (w:=wh0 z) hrg;obtain⟨q1,q2⟩:=zw.gs (r+1);obtain⟨r1,r2,r3⟩:=zw.gr g (List.mem_of_getElem? hrg);have dp:=(c0d g.r r1 (by omega) r3 g.l.name _ _ (Nat.le_refl _) q1 (by omega)).1;generalize whQ ((z.givens.map gvP).drop (r+1)) (wh0 z)=W at *;rw[a0a W,a0a g.r,a0a (a8n _ _ _ _)] at dp;rw[e1];cases o<;>
     (simp only[go_sem,tyB,xcC,a4t,a0c,a0j,i5n,hrg,e4p,dp]
      refine h ⟨r,false⟩ _ (show r≤z.givens.length by omega) (Nat.lt_succ_self r) ?_;rw[hgd];simp only[go_sem,wr,tyB,xcC,a4t])
    | zero=>
    clear h;rw[List.drop_zero];obtain⟨q1,q2⟩:=zw.gs 0;rw[List.drop_zero] at q1 q2;have df:=a4l (whQ (z.givens.map gvP) (wh0 z)) (by omega);have hfl:=a2o _ (whQ (z.givens.map gvP) (wh0 z)) (Nat.le_refl _) [] [];simp only[List.length_nil,Nat.zero_add] at hfl;have e2:wh2 z=a5h (a0m (whQ (z.givens.map gvP) (wh0 z)) [] []) (whQ (z.givens.map gvP) (wh0 z)):=rfl;have d1:=c5m (wh2 z) z.ty zw.two ⟨by rw[zw.ty];exact (hcon2 d hdm c (List.mem_of_getElem? hck)).1,by rw[zw.ty];exact (hcon2 d hdm c (List.mem_of_getElem? hck)).2⟩;have d2:=c5m z.ty (wh2 z) ⟨by rw[zw.ty];exact (hcon2 d hdm c (List.mem_of_getElem? hck)).1,by rw[zw.ty];exact (hcon2 d hdm c (List.mem_of_getElem? hck)).2⟩ zw.two;rw[zw.both.1] at d1;rw[zw.both.2] at d2;rw[e2] at d1 d2;generalize whQ (z.givens.map gvP) (wh0 z)=W at *;generalize a0m W [] []=F at *;rw[a0a W] at df;rw[a0a z.ty,a0a (a5h _ _)] at d1 d2;have hFl:F.length≤12000:=by omega
    cases o
    · simp only[go_sem,gm,tyB,xcC,a4t,df]
      -- closed
      refine a0p (fun a:WhS=>a.r≤F.length) (fun a=>⟨[(3,.bool true),(4,.slice (L.map deV)),(7,.ptr (.loc 34) 0),(10,.int .i64 i),(11,.int .i64 k),(12,.ptr (.loc 12) 0),(14,.ptr (.loc 14) 0),(18,.own 9 0 (F.map .str)),(19,.int .i64 a.r)],[],
       [(12,xcC z),(14,tyB a.o (a5h (F.drop (F.length - a.r)) W)),(34,a4t ar (a8q lsA cs) (a8q c1s m))],1⟩) (fun _=>fin) (fun a=>F.length - a.r) ⟨0,false⟩ (Nat.zero_le _) ?_ ?_
      · simp only[go_sem,Nat.sub_zero,List.drop_length,a5h,tyB,xcC,a4t]
      rintro⟨r,o⟩ hr h;simp only at hr
      by_cases hrl:r<F.length
      · obtain⟨f,hf⟩:=a7p (l:=F) (i:=F.length - (r+1)) (by omega);have hal:=c1o (w:=W) hf;rw[show F.length - (r+1)+1=F.length - r by omega] at hal;have w1:IntKind.i64.wrap ((F.length:Int) - 1)=(F.length:Int) - 1:=by unfold IntKind.wrap;simp[IntKind.bits,IntKind.signed];omega
        have w2:IntKind.i64.wrap ((F.length:Int) - 1 - (r:Int))=((F.length - (r+1):Nat):Int):=by unfold IntKind.wrap;simp[IntKind.bits,IntKind.signed];omega
        have w3:IntKind.i64.wrap ((r:Int)+1)=((r+1:Nat):Int):=a1e (r+1) (by omega);generalize a5h (F.drop (F.length - r)) W=V at *;cases o<;>
        (simp only[go_sem,tyB,xcC,a4t,List.length_map,a0g,decide_eq_true hrl,w1,w2,a0c,a0j,a4b,hf]
         refine h ⟨r+1,false⟩ _ (show r+1≤F.length by omega) (show F.length - (r+1)<F.length - r by omega) ?_;simp only;rw[hal];simp only[go_sem,w3,tyB,xcC,a4t,a1c,a0h,a0a V,Ty.kind,Ty.name,Ty.n,Ty.args])
      · have hre:r=F.length:=by omega
        subst hre;rw[Nat.sub_self,List.drop_zero];cases o<;>
        (simp only[go_sem,tyB,xcC,a4t,List.length_map,a0g,Nat.lt_irrefl,d1,d2,Bool.not_true]
         refine hB (k+1) _ (by omega) (by omega) ?_;simp only[go_sem,wk,a4t])
    · simp only[go_sem,gm,tyB,xcC,a4t,df]
      -- closed
      refine a0p (fun a:WhS=>a.r≤F.length) (fun a=>⟨[(3,.bool true),(4,.slice (L.map deV)),(7,.ptr (.loc 34) 0),(10,.int .i64 i),(11,.int .i64 k),(12,.ptr (.loc 12) 0),(14,.ptr (.loc 14) 0),(18,.own 9 0 (F.map .str)),(19,.int .i64 a.r)],[],
       [(12,xcC z),(14,tyB a.o (a5h (F.drop (F.length - a.r)) W)),(34,a4t ar (a8q lsA cs) (a8q c1s m))],1⟩) (fun _=>fin) (fun a=>F.length - a.r) ⟨0,true⟩ (Nat.zero_le _) ?_ ?_
      · simp only[go_sem,Nat.sub_zero,List.drop_length,a5h,tyB,xcC,a4t]
      rintro⟨r,o⟩ hr h;simp only at hr
      by_cases hrl:r<F.length
      · obtain⟨f,hf⟩:=a7p (l:=F) (i:=F.length - (r+1)) (by omega);have hal:=c1o (w:=W) hf;rw[show F.length - (r+1)+1=F.length - r by omega] at hal;have w1:IntKind.i64.wrap ((F.length:Int) - 1)=(F.length:Int) - 1:=by unfold IntKind.wrap;simp[IntKind.bits,IntKind.signed];omega
        have w2:IntKind.i64.wrap ((F.length:Int) - 1 - (r:Int))=((F.length - (r+1):Nat):Int):=by unfold IntKind.wrap;simp[IntKind.bits,IntKind.signed];omega
        have w3:IntKind.i64.wrap ((r:Int)+1)=((r+1:Nat):Int):=a1e (r+1) (by omega);generalize a5h (F.drop (F.length - r)) W=V at *;cases o<;>
        (simp only[go_sem,tyB,xcC,a4t,List.length_map,a0g,decide_eq_true hrl,w1,w2,a0c,a0j,a4b,hf]
         refine h ⟨r+1,false⟩ _ (show r+1≤F.length by omega) (show F.length - (r+1)<F.length - r by omega) ?_;simp only;rw[hal];simp only[go_sem,w3,tyB,xcC,a4t,a1c,a0h,a0a V,Ty.kind,Ty.name,Ty.n,Ty.args])
      · have hre:r=F.length:=by omega
        subst hre;rw[Nat.sub_self,List.drop_zero];cases o<;>
        (simp only[go_sem,tyB,xcC,a4t,List.length_map,a0g,Nat.lt_irrefl,d1,d2,Bool.not_true]
         refine hB (k+1) _ (by omega) (by omega) ?_;simp only[go_sem,wk,a4t])
end Go.Proofs
