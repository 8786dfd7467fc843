/- The scanners of the program and of the document give the same tokens for any text. -/
import Derived.Test.YtjfghnkmladbkaaGreatDoorAvE
import Derived.IntWalk
namespace Go.Proofs
open Go.Av
set_option maxHeartbeats 4000000
set_option maxRecDepth 100000
def a6m(c:UInt8):Bool:=decide ((c.toNat:Int)≥97)&&decide ((c.toNat:Int)≤122)
def a5n(c:UInt8):Bool:=decide ((c.toNat:Int)≥65)&&decide ((c.toNat:Int)≤90)
def a1v(c:UInt8):Bool:=decide ((c.toNat:Int)≥48)&&decide ((c.toNat:Int)≤57)
def a9b(c:UInt8):Bool:=a6m c||(a5n c||(a1v c||((c.toNat:Int)==95)))
theorem a5e(c:UInt8):den E 162 [.int .u8 c.toNat] []=some (.bool (a6m c),[]):=by
 rw[a0d g5m,h2s];unfold a6m;cases h:decide ((c.toNat:Int)≥97)<;>simp only[go_sem,Tryz.f162,h]
theorem a6j(c:UInt8):den E 163 [.int .u8 c.toNat] []=some (.bool (a5n c),[]):=by
 rw[a0d g5l,h2r];unfold a5n;cases h:decide ((c.toNat:Int)≥65)<;>simp only[go_sem,Tryz.f163,h]
theorem a8x(c:UInt8):den E 167 [.int .u8 c.toNat] []=some (.bool (a1v c),[]):=by
 rw[a0d g5h,h2n];unfold a1v;cases h:decide ((c.toNat:Int)≥48)<;>simp only[go_sem,Tryz.f167,h]
theorem f6w(c:UInt8):den E 165 [.int .u8 c.toNat] []=some (.bool (a9b c),[]):=by
 rw[a0d g5j,h2p];unfold a9b;cases h:a6m c
 · cases h2:a5n c
   · cases h3:a1v c<;>simp only[go_sem,Tryz.f165,a5e,a6j,a8x,h,h2,h3]
   · simp only[go_sem,Tryz.f165,a5e,a6j,h,h2]
 · simp only[go_sem,Tryz.f165,a5e,h]
theorem a2l(c:UInt8):den E 173 [.int .u8 c.toNat] []=some (.bool (a6m c||a5n c),[]):=by
 rw[a0d g5d,h2k];unfold a6m a5n;cases h:decide ((c.toNat:Int)≥97)<;>cases h2:decide ((c.toNat:Int)≤122)<;>cases h3:decide ((c.toNat:Int)≥65)<;>simp only[go_sem,Tryz.f173,h,h2,h3]
theorem a2b(c:UInt8):den E 174 [.int .u8 c.toNat] []=some (.bool (a1v c),[]):=by
 rw[a0d g5c,h2j];unfold a1v;cases h:decide ((c.toNat:Int)≥48)<;>simp only[go_sem,Tryz.f174,h]
theorem a1e(n:Nat)(h:n<9223372036854775808):IntKind.i64.wrap (n:Int)=n:=IntWalk.i64_in _ (by omega)
theorem a0g(a b:Nat):decide ((a:Int)<b)=decide (a<b):=by simp
theorem a0c(a:Nat):((0:Int)≤a)=True:=by simp
theorem a0j(a:Nat):((a:Int)).toNat=a:=by simp
def a4e(p:UInt8→Bool):List UInt8→Nat
 | []=>0
 | c::r=>if p c then a4e p r+1 else 0
theorem b0p(p:UInt8→Bool):∀s,a4e p s≤s.length
 | []=>Nat.le_refl 0
 | c::r=>by
  simp only[a4e];split
  · have:=b0p p r;simp;omega
  · omega
theorem b9x(p:UInt8→Bool):∀ {s:List UInt8} {i:Nat},i<a4e p s→∃c,s[i]? =some c∧p c=true
 | [],i,h=>by simp[a4e] at h
 | c::r,i,h=>by
  simp only[a4e] at h;split at h
  · rename_i hp;cases i with
    | zero=>exact⟨c,rfl,hp⟩
    | succ i=>exact b9x p (s:=r) (by omega)
  · omega
theorem b6v(p:UInt8→Bool):∀ {s:List UInt8},a4e p s<s.length→∃c,s[a4e p s]? =some c∧p c=false
 | [],h=>by simp at h
 | c::r,h=>by
  simp only[a4e] at h⊢;split
  · rename_i hp;rw[if_pos hp] at h;exact b6v p (s:=r) (by simpa using h)
  · rename_i hp;exact⟨c,rfl,by simpa using hp⟩
theorem e2f(f:Nat)(p:UInt8→Bool)(hf:∀c:UInt8,den E f [.int .u8 c.toNat] []=some (.bool (p c),[]))(s:List UInt8)(hs:s.length<1000000):
 den E 164 [.str s,.func f [] []] []=some (.int .i64 (a4e p s),[]):=by
 rw[a0d g5k,h2q];simp only[go_sem,Tryz.f164];refine a4j (fun i=>⟨[(0,.str s),(1,.func f [] []),(5,.int .i64 i)],[],[],1⟩) (a4e p s) ?_ ?_ ?_
 · simp only[go_sem]
 · intro i hi h;have hle:=b0p p s;have hlt:decide (i<s.length)=true:=by simp;omega
   obtain⟨c,hc,hp⟩:=b9x p hi;have hw:IntKind.i64.wrap ((i:Int)+1)=((i+1:Nat):Int):=a1e (i+1) (by omega);simp only[go_sem,a0g,hlt,a0c,a0j,hc,hf,hp];refine h _ ?_;simp only[go_sem,hw]
 · by_cases hlt:a4e p s<s.length
   · obtain⟨c,hc,hp⟩:=b6v p hlt;simp only[go_sem,a0g,hlt,a0c,a0j,hc,hf,hp]
   · simp only[go_sem,a0g,hlt]
def k1u(w:List UInt8):Bool:=w==[100,97,116,97]||(w==[108,101,116]||(w==[105,110]||(w==[99,97,115,101]||(w==[111,102]||w==[102,111,114,97,108,108]))))
def d4j(w:List UInt8):Int:=if k1u w then 3 else if a5n (w.headD 0) then 2 else 1
theorem e9f(w:List UInt8)(c:UInt8)(hc:w[0]? =some c):den E 166 [.str w] []=some (.int .i64 (d4j w),[]):=by
 rw[a0d g5i,h2o];unfold d4j k1u;have hh:w.headD 0=c:=by cases w<;>simp_all
 cases h1:w==[100,97,116,97]
 · cases h2:w==[108,101,116]
   · cases h3:w==[105,110]
     · cases h4:w==[99,97,115,101]
       · cases h5:w==[111,102]
         · cases h6:w==[102,111,114,97,108,108]
           · cases h7:a5n c<;>simp only[go_sem,Tryz.f166,hc,hh,h1,h2,h3,h4,h5,h6,h7,a6j,Int.le_refl,Int.toNat_zero]
           · simp only[go_sem,Tryz.f166,h1,h2,h3,h4,h5,h6]
         · simp only[go_sem,Tryz.f166,h1,h2,h3,h4,h5]
       · simp only[go_sem,Tryz.f166,h1,h2,h3,h4]
     · simp only[go_sem,Tryz.f166,h1,h2,h3]
   · simp only[go_sem,Tryz.f166,h1,h2]
 · simp only[go_sem,Tryz.f166,h1]
theorem b5v(n:Nat):((n:Int)==0)=decide (n=0):=by
 by_cases h:n=0
 · simp[h]
 · rw[decide_eq_false h,beq_eq_false_iff_ne];omega
def a2v(s:List UInt8):Nat:=if a4e a1v s>6||(decide (a4e a1v s>1)&&s.head? ==some 48) then 0 else a4e a1v s
theorem b4y(c:UInt8)(n:Nat)(h:n<256):((c.toNat:Int)==(n:Int))=(c==UInt8.ofNat n):=by
 have:c=UInt8.ofNat n↔c.toNat=n:=by
  constructor
  · intro e;subst e;simp;omega
  · intro e;subst e;simp
 by_cases e:c.toNat=n
 · rw[beq_iff_eq.2 (this.2 e),beq_iff_eq.2 (by omega)]
 · have h2:¬c=UInt8.ofNat n:=fun h=>e (this.1 h);have h3:¬((c.toNat:Int)=(n:Int)):=by omega
   rw[beq_eq_false_iff_ne.2 h3,beq_eq_false_iff_ne.2 h2]
theorem e6e(s:List UInt8)(hs:s.length<1000000):den E 164 [.str s,.func 167 [] []] []=some (.int .i64 (a4e a1v s),[]):=e2f 167 a1v a8x s hs
theorem f2q(s:List UInt8)(hs:s.length<1000000):den E 164 [.str s,.func 165 [] []] []=some (.int .i64 (a4e a9b s),[]):=e2f 165 a9b f6w s hs
theorem d0v(s:List UInt8)(hs:s.length<1000000):den E 168 [.str s] []=some (.int .i64 (a2v s),[]):=by
 rw[a0d g5g,h2m];unfold a2v;have h0:=e6e s hs;have e1:decide ((a4e a1v s:Int)>6)=decide (a4e a1v s>6):=by simp;omega
 have e2:decide ((a4e a1v s:Int)>1)=decide (a4e a1v s>1):=by simp;omega
 cases h1:decide (a4e a1v s>6)
 · cases h2:decide (a4e a1v s>1)
   · simp only[go_sem,Tryz.f168,h0,e1,e2,h1,h2]
   · have:∃c r,s=c::r:=by
      cases s with
      | nil=>simp[a4e] at h2
      | cons c r=>exact⟨c,r,rfl⟩
     obtain⟨c,r,rfl⟩:=this;have e3:=b4y c 48 (by omega);cases h3:(c==48)<;>
     · rw[show ((48:Nat):Int)=48 from rfl,show UInt8.ofNat 48=48 from rfl,h3] at e3;simp only[go_sem,Tryz.f168,h0,e1,e2,h1,h2,Int.le_refl,Int.toNat_zero,e3];simp[h3]
 · simp only[go_sem,Tryz.f168,h0,e1,h1]
theorem e6v(s p:List UInt8):den E 222 [.str s,.str p] []=some (.bool (decide (p.length≤s.length)&&(s.take p.length==p)),[]):=by
 rw[a0d g3z,h1h];have e1:decide ((s.length:Int)≥p.length)=decide (p.length≤s.length):=by simp
 cases h1:decide (p.length≤s.length)
 · simp only[go_sem,Tryz.f222,e1,h1]
 · have h2:p.length≤s.length:=of_decide_eq_true h1;simp only[go_sem,Tryz.f222,e1,a0c,a0j,h2,Nat.zero_le,List.drop_zero]
theorem c0v(s p:List UInt8):den E 169 [.str s,.str p] []=some (.bool (decide (p.length≤s.length)&&(s.take p.length==p)),[]):=by
 rw[a0d g5f,h2l];simp only[go_sem,Tryz.f169,e6v]
def a6c:List UInt8:=[92,58,61,59,123,125,40,41,46,126,64,60,62,44,91,93,33]
def c3q(s:List UInt8):Option (Int×Nat):=
 let c:=s.headD 0
 if a6m c||a5n c then (if a4e a9b s>16 then none else some (d4j (s.take (a4e a9b s)),a4e a9b s))
 else if a1v c then (if a2v s=0 then none else some (4,a2v s))
 else if c==63 then (if a2v (s.drop 1)=0 then none else some (5,a2v (s.drop 1)+1))
 else if s.take 2==[45,62]||s.take 2==[124,62] then some (6,2)
 else if a6c.contains c then some (6,1)
 else none
def g1s(s:List UInt8):Int×Nat:=
 match c3q s with
 | some r=>r
 | none=>if !(a6m (s.headD 0)||a5n (s.headD 0))&&a1v (s.headD 0) then (4,0) else (0,0)
theorem e0o(c:UInt8):decide (Lib.indexByte a6c c≥0)=a6c.contains c:=by
 have:∀n:Fin 256,decide (Lib.indexByte a6c (UInt8.ofNat n.val)≥0)=a6c.contains (UInt8.ofNat n.val):=by decide
 have h:=this ⟨c.toNat,c.toNat_lt⟩;simpa using h
theorem f2e(s:List UInt8)(c:UInt8)(hc:s[0]? =some c)(hs:s.length<1000000):den E 109 [.str s] []=some (.tup [.int .i64 (g1s s).1,.int .i64 (g1s s).2],[]):=by
 rw[a0d g6h,h3n];have hh:s.headD 0=c:=by cases s<;>simp_all
 have hw:=f2q s hs;have hn:=d0v s hs;have hn1:=d0v (s.drop 1) (by simp;omega);have hle:=b0p a9b s;have e1:decide ((a4e a9b s:Int)>16)=decide (a4e a9b s>16):=by simp;omega
 have hlen:1≤s.length:=by cases s<;>simp_all
 have hk:∀n,(s.take n)[0]? =if 0<n then some c else none:=fun n=>by rw[List.getElem?_take,hc]
 have e63:=b4y c 63 (by omega);have e63':((c.toNat:Int)==63)=(c==63):=e63;have n0:=b5v (a2v (s.drop 1));unfold g1s c3q;rw[hh];cases h1:a6m c||a5n c
 · have h1a:a6m c=false:=by cases h:a6m c<;>simp_all
   have h1b:a5n c=false:=by cases h:a5n c<;>simp_all
   cases h2:a1v c
   · cases h3:c==63
     · have pa:(decide (2≤s.length)&&(s.take 2==[45,62]))=(s.take 2==[45,62]):=by
        by_cases h:2≤s.length
        · simp[h]
        · have:s.take 2≠[45,62]:=fun e=>by have:=congrArg List.length e;simp at this;omega
          simp[this]
       have pb:(decide (2≤s.length)&&(s.take 2==[124,62]))=(s.take 2==[124,62]):=by
        by_cases h:2≤s.length
        · simp[h]
        · have:s.take 2≠[124,62]:=fun e=>by have:=congrArg List.length e;simp at this;omega
          simp[this]
       have hpa:=c0v s [45,62];have hpb:=c0v s [124,62];simp only[List.length_cons,List.length_nil,Nat.reduceAdd,pa] at hpa;simp only[List.length_cons,List.length_nil,Nat.reduceAdd,pb] at hpb;cases h4:(s.take 2==[45,62])
       · cases h5:(s.take 2==[124,62])
         · have hi:=e0o c;have hp:den E 170 [.str [92,58,61,59,123,125,40,41,46,126,64,60,62,44,91,93,33],.int .u8 c.toNat] []=some (.int .i64 (Lib.indexByte a6c c),[]):=by
            rw[a9r g5e];simp[a9n,a6c]
           cases h6:a6c.contains c<;>
           · rw[h6] at hi;rw[h4] at hpa;rw[h5] at hpb;simp only[go_sem,Tryz.f109,hc,h1a,h1b,h2,h3,Int.le_refl,Int.toNat_zero,a5e,a6j,a8x,e63',hpa,hpb,hp,hi,h6]
         · rw[h4] at hpa;rw[h5] at hpb;simp only[go_sem,Tryz.f109,hc,h1a,h1b,h2,h3,Int.le_refl,Int.toNat_zero,a5e,a6j,a8x,e63',hpa,hpb]
       · rw[h4] at hpa;simp only[go_sem,Tryz.f109,hc,h1a,h1b,h2,h3,Int.le_refl,Int.toNat_zero,a5e,a6j,a8x,e63',hpa]
     · have hd:(s.take s.length).drop 1=s.drop 1:=by simp
       have hw2:a2v (s.drop 1)<1000000:=by
        have:=b0p a1v (s.drop 1);unfold a2v;split<;>simp at this⊢<;>omega
       have hwr:IntKind.i64.wrap ((a2v (s.drop 1):Int)+1)=((a2v (s.drop 1)+1:Nat):Int):=a1e (a2v (s.drop 1)+1) (by omega);cases h4:decide (a2v (s.drop 1)=0)
       · have h4':=of_decide_eq_false h4;simp only[go_sem,Tryz.f109,hc,h1a,h1b,h2,h3,Int.le_refl,Int.toNat_zero,a5e,a6j,a8x,e63',hn1,n0,h4',hlen,Nat.le_refl,List.take_length,hwr,Int.zero_le_ofNat,Int.toNat_one]
       · have h4':=of_decide_eq_true h4;simp only[go_sem,Tryz.f109,hc,h1a,h1b,h2,h3,Int.le_refl,Int.toNat_zero,a5e,a6j,a8x,e63',hn1,h4',hlen,Nat.le_refl,List.take_length,Int.zero_le_ofNat,Int.toNat_one]
   · cases h4:decide (a2v s=0)
     · have h4':=of_decide_eq_false h4;simp only[go_sem,Tryz.f109,hc,h1a,h1b,h2,h4',Int.le_refl,Int.toNat_zero,a5e,a6j,a8x,hn]
     · have h4':=of_decide_eq_true h4;simp only[go_sem,Tryz.f109,hc,h1a,h1b,h2,h4',Int.le_refl,Int.toNat_zero,a5e,a6j,a8x,hn]
 · have hpos:0<a4e a9b s:=by
    cases s with
    | nil=>cases hc
    | cons x r=>
     simp at hc;subst hc;have:a9b x=true:=by unfold a9b;cases h:a6m x<;>simp_all
     simp[a4e,this]
   have hkk:=e9f (s.take (a4e a9b s)) c (by rw[hk,if_pos hpos]);cases h2:decide (a4e a9b s>16)
   · have h2':=of_decide_eq_false h2;cases h3:a6m c
     · have h4:a5n c=true:=by simpa [h3] using h1
       simp only[go_sem,Tryz.f109,hc,h3,h4,h2',Int.le_refl,Int.toNat_zero,a5e,a6j,hw,e1,a0c,a0j,hle,Nat.zero_le,List.drop_zero,hkk]
     · simp only[go_sem,Tryz.f109,hc,h3,h2',Int.le_refl,Int.toNat_zero,a5e,hw,e1,a0c,a0j,hle,Nat.zero_le,List.drop_zero,hkk]
   · have h2':=of_decide_eq_true h2;cases h3:a6m c
     · have h4:a5n c=true:=by simpa [h3] using h1
       simp only[go_sem,Tryz.f109,hc,h3,h4,h2',Int.le_refl,Int.toNat_zero,a5e,a6j,hw,e1]
     · simp only[go_sem,Tryz.f109,hc,h3,h2',Int.le_refl,Int.toNat_zero,a5e,hw,e1]
def a7j:Bool→List UInt8→Nat
 | _,[]=>0
 | rm,c::r=>if c==35 then a7j true r+1 else if c==10 then a7j false r+1 else if !rm&&(!(c==32)&& !(c==9)) then 0 else a7j rm r+1
theorem c3a:∀(s:List UInt8) (rm:Bool),a7j rm s≤s.length
 | [],_=>Nat.le_refl 0
 | c::r,rm=>by
  simp only[a7j,List.length_cons];have h1:=c3a r true;have h2:=c3a r false;have h3:=c3a r rm;split
  · omega
  · split
    · omega
    · split<;>omega
theorem g0r(a b:Int):(a !=b)= !(a==b):=rfl
theorem a7z{s:List UInt8}{n:Nat}(h:n<s.length):∃c,s[n]? =some c∧s.drop n=c::s.drop (n+1):=
 ⟨s[n],List.getElem?_eq_getElem h,by rw[List.drop_eq_getElem_cons h]⟩
theorem c9b(s:List UInt8)(hs:s.length<1000000):den E 110 [.str s] []=some (.int .i64 (a7j false s),[]):=by
 rw[a0d g6g,h3m];simp only[go_sem,Tryz.f110];refine (a0p (fun x:Nat×Bool=>x.1≤s.length) (fun x=>⟨[(0,.str s),(3,.int .i64 x.1),(4,.bool x.2)],[],[],1⟩) (fun x=>some (.int .i64 ((x.1+a7j x.2 (s.drop x.1):Nat):Int),[])) (fun x=>s.length - x.1) (0,false) (Nat.zero_le _) ?_ ?_).trans ?_
 · simp only[go_sem]
 · rintro⟨n,rm⟩ hle h;simp only at hle h⊢
   by_cases hlt:n<s.length
   · obtain⟨c,hc,hd⟩:=a7z hlt;have hlt':decide (n<s.length)=true:=by simpa using hlt
     have hw:IntKind.i64.wrap ((n:Int)+1)=((n+1:Nat):Int):=a1e (n+1) (by omega);have a1:((c.toNat:Int)==35)=(c==35):=b4y c 35 (by omega);have a2:((c.toNat:Int)==10)=(c==10):=b4y c 10 (by omega);have a3:((c.toNat:Int)==32)=(c==32):=b4y c 32 (by omega);have a4:((c.toNat:Int)==9)=(c==9):=b4y c 9 (by omega);rw[hd];have go:∀rm',(c==35)=true→rm'=true∨True→True:=fun _ _ _=>trivial;cases h1:c==35
     · cases h2:c==10
       · cases rm
         · cases h3:c==32
           · cases h4:c==9
             · simp only[go_sem,a0g,hlt',a0c,a0j,hc,a1,a2,a3,a4,h1,h2,h3,h4,g0r,a7j,Nat.add_zero]
             · simp only[go_sem,a0g,hlt',a0c,a0j,hc,a1,a2,a3,a4,h1,h2,h3,h4,g0r,a7j];rw[h (n+1,false) _ (by simp only;omega) (by simp only;omega) (by simp only[go_sem,hw])];simp only;rw[show n+1+a7j false (List.drop (n+1) s)=n+(a7j false (List.drop (n+1) s)+1) by omega]
           · simp only[go_sem,a0g,hlt',a0c,a0j,hc,a1,a2,a3,h1,h2,h3,g0r,a7j];rw[h (n+1,false) _ (by simp only;omega) (by simp only;omega) (by simp only[go_sem,hw])];simp only;rw[show n+1+a7j false (List.drop (n+1) s)=n+(a7j false (List.drop (n+1) s)+1) by omega]
         · simp only[go_sem,a0g,hlt',a0c,a0j,hc,a1,a2,h1,h2,a7j];rw[h (n+1,true) _ (by simp only;omega) (by simp only;omega) (by simp only[go_sem,hw])];simp only;rw[show n+1+a7j true (List.drop (n+1) s)=n+(a7j true (List.drop (n+1) s)+1) by omega]
       · simp only[go_sem,a0g,hlt',a0c,a0j,hc,a1,a2,h1,h2,a7j];rw[h (n+1,false) _ (by simp only;omega) (by simp only;omega) (by simp only[go_sem,hw])];simp only;rw[show n+1+a7j false (List.drop (n+1) s)=n+(a7j false (List.drop (n+1) s)+1) by omega]
     · simp only[go_sem,a0g,hlt',a0c,a0j,hc,a1,h1,a7j];rw[h (n+1,true) _ (by simp only;omega) (by simp only;omega) (by simp only[go_sem,hw])];simp only;rw[show n+1+a7j true (List.drop (n+1) s)=n+(a7j true (List.drop (n+1) s)+1) by omega]
   · have hlt':decide (n<s.length)=false:=by simpa using hlt
     have hd:s.drop n=[]:=List.drop_eq_nil_of_le (by omega);rw[hd];simp only[go_sem,a0g,hlt',a7j,Nat.add_zero]
 · simp
theorem g6v(s:List UInt8)(n:Nat)(hn:n<s.length)(hs:s.length<1000000):den E 108 [.ptr (.par 0) 0,.ptr (.par 1) 0] [[.str s],[.int .i64 n]]=some (.tup [.int .i64 (g1s (s.drop n)).1,.int .i64 (g1s (s.drop n)).2],[[.str s],[.int .i64 n]]):=by
 rw[a0d g6i,h3o];obtain⟨c,hc,hd⟩:=a7z hn;have ht:=f2e (s.drop n) c (by rw[hd];rfl) (by simp;omega);have hle:n≤s.length:=by omega
 simp only[go_sem,Tryz.f108,a0c,a0j,ht,hle,Nat.le_refl,List.take_length]
structure Tok where
 kind:Int
 text:List UInt8
 pos:Nat
def b2o(t:Tok):AVal:=.agg [.int .i64 t.kind,.str t.text,.int .i64 t.pos]
def a2j(l:List Tok):List AVal:=l.map b2o
def a9x:Nat→Nat→List UInt8→Except Nat (List Tok)
 | 0,pos,_=>.error pos
 | f+1,pos,s=>match s with
  | []=>.ok []
  | _::_=>match c3q s with
   | none=>.error pos
   | some (k,n)=>match a9x f (pos+n+a7j false (s.drop n)) ((s.drop n).drop (a7j false (s.drop n))) with
    | .ok l=>.ok (⟨k,s.take n,pos⟩::l)
    | .error p=>.error p
def b7x(acc:List Tok):Except Nat (List Tok)→AVal
 | .ok l=>.tup [.slice (a2j (acc++l)),.int .i64 0,.int .i64 0]
 | .error p=>.tup [.slice [],.int .i64 p,.int .i64 10]
def c9l(s:List UInt8):AVal:=
 if s.length>4000 then .tup [.slice [],.int .i64 0,.int .i64 2] else b7x [] (a9x (s.length+1) (a7j false s) (s.drop (a7j false s)))
theorem c1w{s:List UInt8}{k:Int}{n:Nat}(h:c3q s=some (k,n)):0<n∧n≤s.length:=by
 unfold c3q at h;simp only at h;have hw:=b0p a9b s;have hnum:∀s,a2v s≤s.length:=fun s=>by
  have:=b0p a1v s;unfold a2v;split<;>omega
 split at h
 · rename_i h1;split at h
   · cases h
   · injection h with h;injection h with _ h;subst h;refine⟨?_,hw⟩;cases s with
     | nil=>simp[a6m,a5n] at h1
     | cons x r=>
      have:a9b x=true:=by
       simp only[List.headD_cons] at h1;unfold a9b;cases h:a6m x<;>simp_all
      simp[a4e,this]
 · split at h
   · split at h
     · cases h
     · injection h with h;injection h with _ h;subst h;exact⟨by omega,hnum s⟩
   · split at h
     · rename_i h3;split at h
       · cases h
       · injection h with h;injection h with _ h;subst h;have:=hnum (s.drop 1);refine⟨by omega,?_⟩;cases s with
         | nil=>simp at h3
         | cons x r=>simp at this⊢;omega
     · split at h
       · rename_i h4;injection h with h;injection h with _ h;subst h;refine⟨by omega,?_⟩;have:2=(s.take 2).length:=by
          simp only[Bool.or_eq_true,beq_iff_eq] at h4;rcases h4 with h4|h4<;>rw[h4]<;>rfl
         simp at this;omega
       · split at h
         · rename_i h5;injection h with h;injection h with _ h;subst h;refine⟨by omega,?_⟩;cases s with
           | nil=>revert h5;decide
           | cons x r=>simp
         · cases h
theorem d0h{f pos:Nat}{s:List UInt8}{k:Int}{n:Nat}(ht:c3q s=some (k,n)):a9x (f+1) pos s=(match a9x f (pos+n+a7j false (s.drop n)) ((s.drop n).drop (a7j false (s.drop n))) with
 | .ok l=>.ok (⟨k,s.take n,pos⟩::l)
 | .error p=>.error p):=by
 cases s with
 | nil=>have:=c1w ht;simp at this;omega
 | cons x r=>simp only[a9x,ht]
theorem b2w:∀(f f':Nat) (pos:Nat) (s:List UInt8),s.length<f→s.length<f'→a9x f pos s=a9x f' pos s
 | f+1,f'+1,pos,s,h,h'=>by
  cases s with
  | nil=>rfl
  | cons x r=>
   simp only[a9x];cases ht:c3q (x::r) with
   | none=>rfl
   | some kn=>
    obtain⟨k,n⟩:=kn;obtain⟨h1,h2⟩:=c1w ht;simp only;rw[b2w f f' _ _ (by simp at h h2⊢;omega) (by simp at h' h2⊢;omega)]
theorem g2k(s:List UInt8)(hs:s.length<1000000):den E 45 [.str s] []=some (c9l s,[]):=by
 rw[a0d f3x,g0q];have e1:decide ((s.length:Int)>4000)=decide (s.length>4000):=by simp;omega
 unfold c9l;cases h1:decide (s.length>4000)
 · have h1':=of_decide_eq_false h1;have hb:=c9b s hs;rw[if_neg h1'];simp only[go_sem,Tryz.f45,e1,h1,hb];refine (a0p (fun x:Nat×List Tok=>x.1≤s.length∧x.2.length≤x.1) (fun x=>⟨[(1,.ptr (.loc 1) 0),(2,.own 206 0 (a2j x.2)),(3,.ptr (.loc 3) 0),(5,.func 108 [] [.ptr (.loc 1) 0,.ptr (.loc 3) 0])],[],[(1,[.str s]),(3,[.int .i64 x.1])],1⟩)
    (fun x=>some (b7x x.2 (a9x (s.length - x.1+1) x.1 (s.drop x.1)),[])) (fun x=>s.length - x.1) (a7j false s,[]) ⟨c3a s false,Nat.zero_le _⟩ ?_ ?_).trans ?_
   · simp only[go_sem,a2j,List.map_nil]
   · rintro⟨pos,acc⟩ ⟨hle,hac⟩ h;simp only at hle hac h⊢
     by_cases hlt:pos<s.length
     · have hlt':decide (pos<s.length)=true:=by simpa using hlt
       obtain⟨c,hc,hd⟩:=a7z hlt;have hn:=g6v s pos hlt hs;cases ht:c3q (s.drop pos) with
       | none=>
        have hp:(g1s (s.drop pos)).2=0:=by unfold g1s;rw[ht];simp only;split<;>rfl
        have hsc:a9x (s.length - pos+1) pos (s.drop pos)=.error pos:=by
         rw[hd] at ht⊢;simp only[a9x,ht]
        simp only[go_sem,a0g,hlt',hn,hp,hsc,b7x]
       | some kn=>
        obtain⟨k,n⟩:=kn;obtain⟨k1,k2⟩:=c1w ht;have k2':n≤s.length - pos:=by simpa using k2
        have hp:g1s (s.drop pos)=(k,n):=by unfold g1s;rw[ht]
        have hn0:decide (n=0)=false:=by simp;omega
        have hne:((n:Int)==0)=false:=by rw[b5v,hn0]
        have hle2:pos+n≤s.length:=by omega
        have w1:IntKind.i64.wrap ((pos:Int)+n)=((pos+n:Nat):Int):=a1e (pos+n) (by omega);have hb2:=c9b (s.drop (pos+n)) (by simp;omega);have hg:=c3a (s.drop (pos+n)) false;simp only[List.length_drop] at hg;have w2:IntKind.i64.wrap (((pos+n:Nat):Int)+(a7j false (s.drop (pos+n)):Nat))=((pos+n+a7j false (s.drop (pos+n)):Nat):Int):=a1e (pos+n+a7j false (s.drop (pos+n))) (by omega);have hsl:(s.take (pos+n)).drop pos=(s.drop pos).take n:=by rw[List.drop_take];congr 1;omega
        have hsc:b7x acc (a9x (s.length - pos+1) pos (s.drop pos))=b7x (acc++[⟨k,(s.drop pos).take n,pos⟩]) (a9x (s.length - (pos+n+a7j false (s.drop (pos+n)))+1) (pos+n+a7j false (s.drop (pos+n))) (s.drop (pos+n+a7j false (s.drop (pos+n))))):=by
         rw[d0h ht];simp only[List.drop_drop];rw[b2w (s.length - pos) (s.length - (pos+n+a7j false (s.drop (pos+n)))+1) _ _ (by simp;omega) (by simp)];generalize a9x _ _ _=z;cases z<;>simp[b7x]
        rw[hsc];have htv:a2j acc++[.agg [.int .i64 k,.str ((s.drop pos).take n),.int .i64 pos]]=a2j (acc++[⟨k,(s.drop pos).take n,pos⟩]):=by simp[a2j,b2o]
        have hap:(a2j acc).length+1≤a0s:=by simp only[a2j,List.length_map];unfold a0s;omega
        simp only[go_sem,a0g,hlt',hn,hp,hne,hap,hsl,htv,a0c,a0j,w1,hle2,hb2,w2,Nat.le_refl,List.take_length,Nat.le_add_right];refine h (pos+n+a7j false (s.drop (pos+n)),acc++[⟨k,(s.drop pos).take n,pos⟩]) _ ?_ ?_ ?_
        · simp only[List.length_append,List.length_singleton];omega
        · simp only;omega
        · simp only[go_sem]
          trace_state
     · have hlt':decide (pos<s.length)=false:=by simpa using hlt
       have hd:s.drop pos=[]:=List.drop_eq_nil_of_le (by omega);rw[hd];simp only[go_sem,a0g,hlt',a9x,b7x,List.append_nil]
   · simp only;rw[b2w (s.length - a7j false s+1) (s.length+1) _ _ (by simp) (by simp;omega)]
 · have h1':=of_decide_eq_true h1;rw[if_pos h1'];simp only[go_sem,Tryz.f45,e1,h1]
theorem b7i(s:List UInt8)(i j:Nat):s[i+j]? =(s.drop i)[j]? :=by rw[List.getElem?_drop]
theorem c7c(s:List UInt8)(i:Nat)(hi:i≤s.length)(hs:s.length<1000000):den E 175 [.str s,.int .i64 i] []=some (.int .i64 ((i+a2v (s.drop i):Nat):Int),[]):=by
 rw[a0d g5b,h2i];have hle:=b0p a1v (s.drop i);simp only[List.length_drop] at hle;simp only[go_sem,Tryz.f175];refine a4j (fun j=>⟨[(0,.str s),(1,.int .i64 i),(5,.int .i64 ((i+j:Nat):Int))],[],[],1⟩) (a4e a1v (s.drop i)) ?_ ?_ ?_
 · simp only[go_sem,Nat.add_zero]
 · intro j hj h;have hlt:decide (i+j<s.length)=true:=by simp;omega
   obtain⟨c,hc,hp⟩:=b9x a1v hj;rw[←b7i] at hc;have hw:IntKind.i64.wrap (((i+j:Nat):Int)+1)=((i+(j+1):Nat):Int):=a1e (i+(j+1)) (by omega);simp only[go_sem,a0g,hlt,a0c,a0j,hc,a2b,hp];refine h _ ?_;simp only[go_sem,hw]
 · have w0:IntKind.i64.wrap (((i+a4e a1v (s.drop i):Nat):Int) - i)=((a4e a1v (s.drop i):Nat):Int):=by
    rw[show (((i+a4e a1v (s.drop i):Nat):Int) - i)=((a4e a1v (s.drop i):Nat):Int) by omega];exact a1e _ (by omega)
   have e1:decide ((a4e a1v (s.drop i):Int)>6)=decide (a4e a1v (s.drop i)>6):=by simp;omega
   have e2:decide ((a4e a1v (s.drop i):Int)>1)=decide (a4e a1v (s.drop i)>1):=by simp;omega
   unfold a2v;cases h1:decide (a4e a1v (s.drop i)>6)
   · cases h2:decide (a4e a1v (s.drop i)>1)
     · by_cases hlt:i+a4e a1v (s.drop i)<s.length
       · obtain⟨c,hc,hp⟩:=b6v a1v (s:=s.drop i) (by simp;omega);rw[←b7i] at hc;simp only[go_sem,a0g,decide_eq_true hlt,a0c,a0j,hc,a2b,hp,w0,e1,e2,h1,h2]
       · simp only[go_sem,a0g,decide_eq_false hlt,w0,e1,e2,h1,h2]
     · have h2':=of_decide_eq_true h2;obtain⟨c0,hc0,hd0⟩:=a7z (s:=s) (n:=i) (by omega);have e3:((c0.toNat:Int)==48)=(c0==48):=b4y c0 48 (by omega);have e4:((s.drop i).head? ==some 48)=(c0==48):=by rw[hd0];simp
       cases h3:c0==48<;>
       · rw[h3] at e3 e4
         by_cases hlt:i+a4e a1v (s.drop i)<s.length
         · obtain⟨c,hc,hp⟩:=b6v a1v (s:=s.drop i) (by simp;omega);rw[←b7i] at hc;simp only[go_sem,a0g,decide_eq_true hlt,a0c,a0j,hc,a2b,hp,w0,e1,e2,h1,h2,hc0,e3,e4,Nat.add_zero]
         · simp only[go_sem,a0g,decide_eq_false hlt,a0c,a0j,w0,e1,e2,h1,h2,hc0,e3,e4,Nat.add_zero]
   · by_cases hlt:i+a4e a1v (s.drop i)<s.length
     · obtain⟨c,hc,hp⟩:=b6v a1v (s:=s.drop i) (by simp;omega);rw[←b7i] at hc;simp only[go_sem,a0g,decide_eq_true hlt,a0c,a0j,hc,a2b,hp,w0,e1,h1,Nat.add_zero]
     · simp only[go_sem,a0g,decide_eq_false hlt,w0,e1,h1,Nat.add_zero]
theorem b9d(c:UInt8):a9b c=((a6m c||a5n c)||(a1v c||((c.toNat:Int)==95))):=by unfold a9b;cases a6m c<;>cases a5n c<;>rfl
theorem i5l(w:List UInt8):k1u w=(w==[100,97,116,97]||(w==[108,101,116]||(w==[105,110]||(w==[99,97,115,101]||(w==[111,102]||w==[102,111,114,97,108,108]))))):=rfl
theorem g1o(c:UInt8)(h:(a6m c||a5n c)=true):decide ((c.toNat:Int)≤90)=a5n c:=by
 unfold a6m a5n at *;simp only[Bool.or_eq_true,Bool.and_eq_true,decide_eq_true_eq] at h
 by_cases h1:(c.toNat:Int)≤90
 · have h2:(c.toNat:Int)≥65:=by omega
   simp[h1,h2]
 · simp[h1]
theorem d0y(a b:Nat):((a:Int)==b)=decide (a=b):=by
 by_cases h:a=b
 · subst h;simp
 · rw[decide_eq_false h,beq_eq_false_iff_ne];omega
theorem c9z(x c:UInt8):((x.toNat:Int)==c.toNat)=(x==c):=by
 rw[d0y]
 by_cases h:x=c
 · subst h;simp
 · have:x.toNat≠c.toNat:=fun e=>h (UInt8.toNat_inj.1 e);rw[decide_eq_false this,beq_eq_false_iff_ne.2 h]
theorem c6r:([92,58,61,59,123,125,40,41,46,126,64,60,62,44,91,93,33]:List UInt8)=a6c:=rfl
theorem i4u(s:List UInt8)(i:Nat)(hi:i<s.length)(hs:s.length<1000000):den E 113 [.str s,.int .i64 i] []=
 some (match c3q (s.drop i) with
  | some (k,n)=>.tup [.int .i64 k,.int .i64 ((i+n:Nat):Int)]
  | none=>.tup [.int .i64 0,.int .i64 i],[]):=by
 rw[a0d g6f,h3l];obtain⟨c,hc,hd⟩:=a7z hi;have hh:(s.drop i).headD 0=c:=by rw[hd];rfl
 have hle:=b0p a9b (s.drop i);simp only[List.length_drop] at hle;have wi1:IntKind.i64.wrap ((i:Int)+1)=((i+1:Nat):Int):=a1e (i+1) (by omega);have wi2:IntKind.i64.wrap ((i:Int)+2)=((i+2:Nat):Int):=a1e (i+2) (by omega);cases h1:a6m c||a5n c
 · cases h2:a1v c
   · cases h3:c==63
     · have e63:((c.toNat:Int)==63)=false:=(b4y c 63 (by omega)).trans h3
       -- the a6c,one behind the other
       have e45:((c.toNat:Int)==45)=(c==45):=b4y c 45 (by omega);have e124:((c.toNat:Int)==124)=(c==124):=b4y c 124 (by omega);have nt:((s.drop i).take 2==[45,62]||(s.drop i).take 2==[124,62])=false→c3q (s.drop i)=if a6c.contains c then some (6,1) else none:=fun h=>by
        unfold c3q;simp only[hh,h1,h2,h3,Bool.false_eq_true,if_false,h]
       by_cases hlt:i+1<s.length
       · obtain⟨d,hdc,hdd⟩:=a7z hlt;have htk:(s.drop i).take 2=[c,d]:=by rw[hd,List.take_succ_cons,hdd];rfl
         have e62:((d.toNat:Int)==62)=(d==62):=b4y d 62 (by omega);have h4:((s.drop i).take 2==[45,62]||(s.drop i).take 2==[124,62])=(d==62&&(c==45||c==124)):=by
          rw[htk];have:∀a b:UInt8,(([c,d]:List UInt8)==[a,b])=(c==a&&d==b):=fun a b=>by
           show (c==a&&(d==b&&true))=_
           rw[Bool.and_true]
          rw[this,this];cases d==62<;>cases c==45<;>cases c==124<;>rfl
         have two:(d==62&&(c==45||c==124))=true→c3q (s.drop i)=some (6,2):=fun h=>by
          unfold c3q;simp only[hh,h1,h2,h3,Bool.false_eq_true,if_false,h4,h,if_true]
         cases k1:d==62
         · rw[nt (by rw[h4,k1];rfl)];simp only[go_sem,Tryz.f113,hc,a0c,a0j,a2l,a2b,h1,h2,e63,wi1,a0g,decide_eq_true hlt,hdc,e62,k1,c6r];refine (a0p (fun j:Nat=>j≤17∧∀m,m<j→a6c[m]? ≠some c) (fun j=>⟨[(0,.str s),(1,.int .i64 i),(11,.str a6c),(12,.int .i64 j)],[],[],1⟩)
            (fun _=>some (match (if a6c.contains c=true then some ((6:Int),1) else none) with
              | some (k,n)=>.tup [.int .i64 k,.int .i64 ((i+n:Nat):Int)]
              | none=>.tup [.int .i64 0,.int .i64 i],[])) (fun j=>17 - j) 0 ⟨by omega,fun m hm=>by omega⟩ ?_ ?_)
           · simp only[go_sem]
           · rintro j ⟨hj,hne⟩ h
             by_cases hj2:j<a6c.length
             · obtain⟨x,hx,_⟩:=a7z hj2;have wj:IntKind.i64.wrap ((j:Int)+1)=((j+1:Nat):Int):=a1e (j+1) (by omega);cases hxc:x==c
               · simp only[go_sem,a0g,decide_eq_true hj2,a0c,a0j,hx,hc,c9z,hxc];refine h (j+1) _ ⟨?_,fun m hm=>?_⟩ ?_ ?_
                 · have:a6c.length=17:=rfl;omega
                 · by_cases e:m=j
                   · subst e;rw[hx];intro e;injection e with e;subst e;simp at hxc
                   · exact hne m (by omega)
                 · have:a6c.length=17:=rfl;omega
                 · simp only[go_sem,wj]
               · have hcon:a6c.contains c=true:=by
                  have:=List.mem_of_getElem? hx;rw[beq_iff_eq.1 hxc] at this;simpa using this
                 simp only[go_sem,a0g,decide_eq_true hj2,a0c,a0j,hx,hc,c9z,hxc,hcon,wi1]
             · have hcon:a6c.contains c=false:=by
                rw[←Bool.not_eq_true];intro hc2;have:c∈a6c:=by simpa using hc2
                obtain⟨m,hm⟩:=List.getElem?_of_mem this;exact hne m (by have:=(List.getElem?_eq_some_iff.1 hm).1;omega) hm
               simp only[go_sem,a0g,decide_eq_false hj2,hcon]
         · cases k2:c==45
           · cases k3:c==124
             · rw[nt (by rw[h4,k1,k2,k3];rfl)];simp only[go_sem,Tryz.f113,hc,a0c,a0j,a2l,a2b,h1,h2,e63,wi1,a0g,decide_eq_true hlt,hdc,e62,k1,e45,k2,e124,k3,c6r];refine (a0p (fun j:Nat=>j≤17∧∀m,m<j→a6c[m]? ≠some c) (fun j=>⟨[(0,.str s),(1,.int .i64 i),(11,.str a6c),(12,.int .i64 j)],[],[],1⟩)
                (fun _=>some (match (if a6c.contains c=true then some ((6:Int),1) else none) with
                  | some (k,n)=>.tup [.int .i64 k,.int .i64 ((i+n:Nat):Int)]
                  | none=>.tup [.int .i64 0,.int .i64 i],[])) (fun j=>17 - j) 0 ⟨by omega,fun m hm=>by omega⟩ ?_ ?_)
               · simp only[go_sem]
               · rintro j ⟨hj,hne⟩ h
                 by_cases hj2:j<a6c.length
                 · obtain⟨x,hx,_⟩:=a7z hj2;have wj:IntKind.i64.wrap ((j:Int)+1)=((j+1:Nat):Int):=a1e (j+1) (by omega);cases hxc:x==c
                   · simp only[go_sem,a0g,decide_eq_true hj2,a0c,a0j,hx,hc,c9z,hxc];refine h (j+1) _ ⟨?_,fun m hm=>?_⟩ ?_ ?_
                     · have:a6c.length=17:=rfl;omega
                     · by_cases e:m=j
                       · subst e;rw[hx];intro e;injection e with e;subst e;simp at hxc
                       · exact hne m (by omega)
                     · have:a6c.length=17:=rfl;omega
                     · simp only[go_sem,wj]
                   · have hcon:a6c.contains c=true:=by
                      have:=List.mem_of_getElem? hx;rw[beq_iff_eq.1 hxc] at this;simpa using this
                     simp only[go_sem,a0g,decide_eq_true hj2,a0c,a0j,hx,hc,c9z,hxc,hcon,wi1]
                 · have hcon:a6c.contains c=false:=by
                    rw[←Bool.not_eq_true];intro hc2;have:c∈a6c:=by simpa using hc2
                    obtain⟨m,hm⟩:=List.getElem?_of_mem this;exact hne m (by have:=(List.getElem?_eq_some_iff.1 hm).1;omega) hm
                   simp only[go_sem,a0g,decide_eq_false hj2,hcon]
             · rw[two (by rw[k1,k2,k3];rfl)];simp only[go_sem,Tryz.f113,hc,a0c,a0j,a2l,a2b,h1,h2,e63,wi1,wi2,a0g,decide_eq_true hlt,hdc,e62,k1,e45,k2,e124,k3]
           · rw[two (by rw[k1,k2];rfl)];simp only[go_sem,Tryz.f113,hc,a0c,a0j,a2l,a2b,h1,h2,e63,wi1,wi2,a0g,decide_eq_true hlt,hdc,e62,k1,e45,k2]
       · have htk:(s.drop i).take 2=[c]:=by rw[hd,List.take_succ_cons,List.drop_eq_nil_of_le (by omega)];rfl
         rw[nt (by rw[htk];simp)];simp only[go_sem,Tryz.f113,hc,a0c,a0j,a2l,a2b,h1,h2,e63,wi1,a0g,decide_eq_false hlt,c6r];refine (a0p (fun j:Nat=>j≤17∧∀m,m<j→a6c[m]? ≠some c) (fun j=>⟨[(0,.str s),(1,.int .i64 i),(11,.str a6c),(12,.int .i64 j)],[],[],1⟩)
          (fun _=>some (match (if a6c.contains c=true then some ((6:Int),1) else none) with
            | some (k,n)=>.tup [.int .i64 k,.int .i64 ((i+n:Nat):Int)]
            | none=>.tup [.int .i64 0,.int .i64 i],[])) (fun j=>17 - j) 0 ⟨by omega,fun m hm=>by omega⟩ ?_ ?_)
         · simp only[go_sem]
         · rintro j ⟨hj,hne⟩ h
           by_cases hj2:j<a6c.length
           · obtain⟨x,hx,_⟩:=a7z hj2;have wj:IntKind.i64.wrap ((j:Int)+1)=((j+1:Nat):Int):=a1e (j+1) (by omega);cases hxc:x==c
             · simp only[go_sem,a0g,decide_eq_true hj2,a0c,a0j,hx,hc,c9z,hxc];refine h (j+1) _ ⟨?_,fun m hm=>?_⟩ ?_ ?_
               · have:a6c.length=17:=rfl;omega
               · by_cases e:m=j
                 · subst e;rw[hx];intro e;injection e with e;subst e;simp at hxc
                 · exact hne m (by omega)
               · have:a6c.length=17:=rfl;omega
               · simp only[go_sem,wj]
             · have hcon:a6c.contains c=true:=by
                have:=List.mem_of_getElem? hx;rw[beq_iff_eq.1 hxc] at this;simpa using this
               simp only[go_sem,a0g,decide_eq_true hj2,a0c,a0j,hx,hc,c9z,hxc,hcon,wi1]
           · have hcon:a6c.contains c=false:=by
              rw[←Bool.not_eq_true];intro hc2;have:c∈a6c:=by simpa using hc2
              obtain⟨m,hm⟩:=List.getElem?_of_mem this;exact hne m (by have:=(List.getElem?_eq_some_iff.1 hm).1;omega) hm
             simp only[go_sem,a0g,decide_eq_false hj2,hcon]
     · have e63:((c.toNat:Int)==63)=true:=(b4y c 63 (by omega)).trans h3;have hn:=c7c s (i+1) (by omega) hs;have e:s.drop (i+1)=(s.drop i).drop 1:=by rw[List.drop_drop]
       have htok:c3q (s.drop i)=if a2v (s.drop (i+1))=0 then none else some (5,a2v (s.drop (i+1))+1):=by
        unfold c3q;simp only[hh,h1,h2,h3,Bool.false_eq_true,if_false,if_true,e]
       by_cases h4:a2v (s.drop (i+1))=0
       · rw[htok,if_pos h4];have q:decide (i+1+a2v (s.drop (i+1))=i+1)=true:=by rw[h4];simp
         simp only[go_sem,Tryz.f113,hc,a0c,a0j,a2l,a2b,h1,h2,e63,wi1,hn,d0y,q]
       · rw[htok,if_neg h4];have q:decide (i+1+a2v (s.drop (i+1))=i+1)=false:=by simp;omega
         simp only[go_sem,Tryz.f113,hc,a0c,a0j,a2l,a2b,h1,h2,e63,wi1,hn,d0y,q];rw[show i+1+a2v (s.drop (i+1))=i+(a2v (s.drop (i+1))+1) by omega]
   · have hn:=c7c s i (by omega) hs;have htok:c3q (s.drop i)=if a2v (s.drop i)=0 then none else some (4,a2v (s.drop i)):=by
      unfold c3q;simp only[hh,h1,h2,Bool.false_eq_true,if_false,if_true]
     by_cases h4:a2v (s.drop i)=0
     · rw[htok,if_pos h4];have q:decide (i+a2v (s.drop i)=i)=true:=by rw[h4];simp
       simp only[go_sem,Tryz.f113,hc,a0c,a0j,a2l,a2b,h1,h2,hn,d0y,q]
     · rw[htok,if_neg h4];have q:decide (i+a2v (s.drop i)=i)=false:=by simp;omega
       simp only[go_sem,Tryz.f113,hc,a0c,a0j,a2l,a2b,h1,h2,hn,d0y,q]
 · have hwc:a9b c=true:=by rw[b9d,h1];rfl
   have hpos:0<a4e a9b (s.drop i):=by rw[hd];simp[a4e,hwc]
   simp only[go_sem,Tryz.f113,hc,a0c,a0j,a2l,h1];refine a4j (fun j=>⟨[(0,.str s),(1,.int .i64 i),(7,.int .i64 ((i+j:Nat):Int))],[],[],1⟩) (a4e a9b (s.drop i)) ?_ ?_ ?_
   · simp only[go_sem,Nat.add_zero]
   · intro j hj h;have hlt:decide (i+j<s.length)=true:=by simp;omega
     obtain⟨x,hx,hp⟩:=b9x a9b hj;rw[←b7i] at hx;rw[b9d] at hp;have hw:IntKind.i64.wrap (((i+j:Nat):Int)+1)=((i+(j+1):Nat):Int):=a1e (i+(j+1)) (by omega);cases q1:a6m x||a5n x
     · cases q2:a1v x
       · have q3:((x.toNat:Int)==95)=true:=by simpa [q1,q2] using hp
         simp only[go_sem,a0g,hlt,a0c,a0j,hx,a2l,a2b,q1,q2,q3];refine h _ ?_;simp only[go_sem,hw]
       · simp only[go_sem,a0g,hlt,a0c,a0j,hx,a2l,a2b,q1,q2];refine h _ ?_;simp only[go_sem,hw]
     · simp only[go_sem,a0g,hlt,a0c,a0j,hx,a2l,q1];refine h _ ?_;simp only[go_sem,hw]
   · generalize hn:a4e a9b (s.drop i)=n at *;have w0:IntKind.i64.wrap (((i+n:Nat):Int) - i)=((n:Nat):Int):=by
      rw[show (((i+n:Nat):Int) - i)=(n:Int) by omega];exact a1e _ (by omega)
     have e1:decide ((n:Int)>16)=decide (n>16):=by simp;omega
     have hle2:i+n≤s.length:=by omega
     have hsl:(s.take (i+n)).drop i=(s.drop i).take n:=by rw[List.drop_take];congr 1;omega
     have hhd:((s.drop i).take n).headD 0=c:=by rw[hd];cases n<;>simp at hpos⊢
     have hu:=g1o c h1;have htok:c3q (s.drop i)=if n>16 then none else some (d4j ((s.drop i).take n),n):=by
      unfold c3q;simp only[hh,h1,if_true,hn]
     rw[htok];unfold d4j;rw[hhd,i5l];generalize hwd:(s.drop i).take n=wd at *;have stop:i+n<s.length→∃x,s[i+n]? =some x∧a9b x=false:=fun hlt=>by
      obtain⟨x,hx,hp⟩:=b6v a9b (s:=s.drop i) (by simp;omega);rw[hn,←b7i] at hx;exact⟨x,hx,hp⟩
     by_cases hlt:i+n<s.length
     · obtain⟨x,hx,hp⟩:=stop hlt;rw[b9d] at hp;have p1:(a6m x||a5n x)=false:=by cases h:(a6m x||a5n x)<;>simp_all
       have p2:a1v x=false:=by cases h:a1v x<;>simp_all
       have p3:((x.toNat:Int)==95)=false:=by cases h:((x.toNat:Int)==95)<;>simp_all
       cases h2:decide (n>16)
       · have h2':=of_decide_eq_false h2;cases k1:wd==[100,97,116,97]
         · cases k2:wd==[108,101,116]
           · cases k3:wd==[105,110]
             · cases k4:wd==[99,97,115,101]
               · cases k5:wd==[111,102]
                 · cases k6:wd==[102,111,114,97,108,108]
                   · cases k7:a5n c<;>simp only[go_sem,a0g,decide_eq_true hlt,a0c,a0j,hx,a2l,a2b,p1,p2,p3,w0,e1,h2',hle2,Nat.le_add_right,hsl,k1,k2,k3,k4,k5,k6,hc,hu,k7]
                   · simp only[go_sem,a0g,decide_eq_true hlt,a0c,a0j,hx,a2l,a2b,p1,p2,p3,w0,e1,h2',hle2,Nat.le_add_right,hsl,k1,k2,k3,k4,k5,k6]
                 · simp only[go_sem,a0g,decide_eq_true hlt,a0c,a0j,hx,a2l,a2b,p1,p2,p3,w0,e1,h2',hle2,Nat.le_add_right,hsl,k1,k2,k3,k4,k5]
               · simp only[go_sem,a0g,decide_eq_true hlt,a0c,a0j,hx,a2l,a2b,p1,p2,p3,w0,e1,h2',hle2,Nat.le_add_right,hsl,k1,k2,k3,k4]
             · simp only[go_sem,a0g,decide_eq_true hlt,a0c,a0j,hx,a2l,a2b,p1,p2,p3,w0,e1,h2',hle2,Nat.le_add_right,hsl,k1,k2,k3]
           · simp only[go_sem,a0g,decide_eq_true hlt,a0c,a0j,hx,a2l,a2b,p1,p2,p3,w0,e1,h2',hle2,Nat.le_add_right,hsl,k1,k2]
         · simp only[go_sem,a0g,decide_eq_true hlt,a0c,a0j,hx,a2l,a2b,p1,p2,p3,w0,e1,h2',hle2,Nat.le_add_right,hsl,k1]
       · have h2':=of_decide_eq_true h2;simp only[go_sem,a0g,decide_eq_true hlt,a0c,a0j,hx,a2l,a2b,p1,p2,p3,w0,e1,h2']
     · cases h2:decide (n>16)
       · have h2':=of_decide_eq_false h2;cases k1:wd==[100,97,116,97]
         · cases k2:wd==[108,101,116]
           · cases k3:wd==[105,110]
             · cases k4:wd==[99,97,115,101]
               · cases k5:wd==[111,102]
                 · cases k6:wd==[102,111,114,97,108,108]
                   · cases k7:a5n c<;>simp only[go_sem,a0g,decide_eq_false hlt,a0c,a0j,w0,e1,h2',hle2,Nat.le_add_right,hsl,k1,k2,k3,k4,k5,k6,hc,hu,k7]
                   · simp only[go_sem,a0g,decide_eq_false hlt,a0c,a0j,w0,e1,h2',hle2,Nat.le_add_right,hsl,k1,k2,k3,k4,k5,k6]
                 · simp only[go_sem,a0g,decide_eq_false hlt,a0c,a0j,w0,e1,h2',hle2,Nat.le_add_right,hsl,k1,k2,k3,k4,k5]
               · simp only[go_sem,a0g,decide_eq_false hlt,a0c,a0j,w0,e1,h2',hle2,Nat.le_add_right,hsl,k1,k2,k3,k4]
             · simp only[go_sem,a0g,decide_eq_false hlt,a0c,a0j,w0,e1,h2',hle2,Nat.le_add_right,hsl,k1,k2,k3]
           · simp only[go_sem,a0g,decide_eq_false hlt,a0c,a0j,w0,e1,h2',hle2,Nat.le_add_right,hsl,k1,k2]
         · simp only[go_sem,a0g,decide_eq_false hlt,a0c,a0j,w0,e1,h2',hle2,Nat.le_add_right,hsl,k1]
       · have h2':=of_decide_eq_true h2;simp only[go_sem,a0g,decide_eq_false hlt,w0,e1,h2']
theorem c0w{s:List UInt8}{i:Nat}{c:UInt8}(hd:s.drop i=c::s.drop (i+1))(rm:Bool):a7j rm (s.drop i)=if c==35 then a7j true (s.drop (i+1))+1 else if c==10 then a7j false (s.drop (i+1))+1 else if !rm&&(!(c==32)&& !(c==9)) then 0 else a7j rm (s.drop (i+1))+1:=by
 rw[hd];rfl
theorem f2f{s:List UInt8}{k:Int}{n:Nat}(h:c3q s=some (k,n)):(k==0)=false:=by
 have hk:∀w,(d4j w==0)=false:=fun w=>by unfold d4j;split<;>(try split)<;>rfl
 unfold c3q at h;simp only at h;split at h
 · split at h
   · cases h
   · injection h with h;injection h with h _;subst h;exact hk _
 · split at h
   · split at h
     · cases h
     · injection h with h;injection h with h _;subst h;rfl
   · split at h
     · split at h
       · cases h
       · injection h with h;injection h with h _;subst h;rfl
     · split at h
       · injection h with h;injection h with h _;subst h;rfl
       · split at h
         · injection h with h;injection h with h _;subst h;rfl
         · cases h
def b0e(rm:Bool)(s:List UInt8)(i:Nat):Except Nat (List Tok):=a9x (s.length+1) (i+a7j rm (s.drop i)) (s.drop (i+a7j rm (s.drop i)))
theorem f3g(s:List UInt8)(hs:s.length<1000000):den E 48 [.str s] []=some (c9l s,[]):=by
 rw[a0d f3w,g0p];have e1:decide ((s.length:Int)>4000)=decide (s.length>4000):=by simp;omega
 unfold c9l;cases h1:decide (s.length>4000)
 · have h1':=of_decide_eq_false h1;rw[if_neg h1'];simp only[go_sem,Tryz.f48,e1,h1];refine (a0p (fun x:Nat×List Tok=>x.1≤s.length∧x.2.length≤x.1) (fun x=>⟨[(0,.str s),(5,.own 206 0 (a2j x.2)),(6,.int .i64 x.1)],[],[],1⟩)
    (fun x=>some (b7x x.2 (b0e false s x.1),[])) (fun x=>s.length - x.1) (0,[]) ⟨Nat.zero_le _,Nat.zero_le _⟩ ?_ ?_).trans ?_
   · simp only[go_sem,a2j,List.map_nil]
   · rintro⟨i,acc⟩ ⟨hle,hac⟩ h;simp only at hle hac h⊢
     by_cases hlt:i<s.length
     · have hlt':decide (i<s.length)=true:=by simpa using hlt
       obtain⟨c,hc,hd⟩:=a7z hlt;have w1:IntKind.i64.wrap ((i:Int)+1)=((i+1:Nat):Int):=a1e (i+1) (by omega);have a1:((c.toNat:Int)==35)=(c==35):=b4y c 35 (by omega);have a2:((c.toNat:Int)==10)=(c==10):=b4y c 10 (by omega);have a3:((c.toNat:Int)==32)=(c==32):=b4y c 32 (by omega);have a4:((c.toNat:Int)==9)=(c==9):=b4y c 9 (by omega);have ho:=i4u s i hlt hs;have skip:a7j false (s.drop i)=a7j false (s.drop (i+1))+1→b0e false s i=b0e false s (i+1):=fun e=>by
        unfold b0e;rw[e,show i+(a7j false (s.drop (i+1))+1)=i+1+a7j false (s.drop (i+1)) by omega]
       have hg:=c0w hd false;cases b1:c==32
       · cases b2:c==9
         · cases b3:c==10
           · cases b4:c==35
             · -- a token,or none
               have hg0:a7j false (s.drop i)=0:=by rw[hg,b4,b3,b1,b2];rfl
               have hk:b0e false s i=a9x (s.length - i+1) i (s.drop i):=by
                unfold b0e;rw[hg0,Nat.add_zero];exact b2w _ _ _ _ (by simp;omega) (by simp)
               cases ht:c3q (s.drop i) with
               | none=>
                rw[ht] at ho;have hsc:a9x (s.length - i+1) i (s.drop i)=.error i:=by rw[hd] at ht⊢;simp only[a9x,ht]
                rw[hk,hsc];simp only[go_sem,a0g,hlt',a0c,a0j,hc,a1,a2,a3,a4,b1,b2,b3,b4,ho,b7x]
               | some kn=>
                obtain⟨k,n⟩:=kn;rw[ht] at ho;obtain⟨k1,k2⟩:=c1w ht;have k2':n≤s.length - i:=by simpa using k2
                have hk0:(k==0)=false:=f2f ht;have hsl:(s.take (i+n)).drop i=(s.drop i).take n:=by rw[List.drop_take];congr 1;omega
                have hap:(a2j acc).length+1≤a0s:=by simp only[a2j,List.length_map];unfold a0s;omega
                have htv:a2j acc++[.agg [.int .i64 k,.str ((s.drop i).take n),.int .i64 i]]=a2j (acc++[⟨k,(s.drop i).take n,i⟩]):=by simp[a2j,b2o]
                have hle2:i+n≤s.length:=by omega
                have hsc:b7x acc (b0e false s i)=b7x (acc++[⟨k,(s.drop i).take n,i⟩]) (b0e false s (i+n)):=by
                 rw[hk,d0h ht];unfold b0e;simp only[List.drop_drop];have hgl:=c3a (s.drop (i+n)) false;simp only[List.length_drop] at hgl;rw[b2w (s.length - i) (s.length+1) _ _ (by simp;omega) (by simp;omega)];generalize a9x _ _ _=z;cases z<;>simp[b7x]
                rw[hsc];simp only[go_sem,a0g,hlt',a0c,a0j,hc,a1,a2,a3,a4,b1,b2,b3,b4,ho,hk0,hap,hsl,htv,hle2,Nat.le_add_right];refine h (i+n,acc++[⟨k,(s.drop i).take n,i⟩]) _ ⟨?_,?_⟩ ?_ ?_
                · simp only;omega
                · simp only[List.length_append,List.length_singleton];omega
                · simp only;omega
                · simp only[go_sem]
             · have hks:b0e false s i=b0e true s i:=by
                have:a7j false (s.drop i)=a7j true (s.drop i):=by rw[hg,c0w hd true,b4];rfl
                unfold b0e;rw[this]
               rw[hks];simp only[go_sem,a0g,hlt',a0c,a0j,hc,a1,a2,a3,a4,b1,b2,b3,b4];refine a0p (fun j:Nat=>i≤j∧j≤s.length∧(j=i→(c==10)=false)) (fun j=>⟨[(0,.str s),(5,.own 206 0 (a2j acc)),(6,.int .i64 j)],[],[],1⟩)
                (fun j=>some (b7x acc (b0e true s j),[])) (fun j=>s.length - j) i ⟨Nat.le_refl _,hle,fun _=>b3⟩ ?_ ?_
               · simp only[go_sem]
               · rintro j ⟨hij,hjl,hji⟩ h2
                 by_cases hlj:j<s.length
                 · obtain⟨x,hx,hdx⟩:=a7z hlj;have wj:IntKind.i64.wrap ((j:Int)+1)=((j+1:Nat):Int):=a1e (j+1) (by omega);have ax:((x.toNat:Int)==10)=(x==10):=b4y x 10 (by omega);cases bx:x==10
                   · have e:b0e true s j=b0e true s (j+1):=by
                      have:a7j true (s.drop j)=a7j true (s.drop (j+1))+1:=by
                       rw[c0w hdx true,bx]
                       by_cases hx35:(x==35)=true
                       · rw[hx35];rfl
                       · rw[Bool.not_eq_true] at hx35;rw[hx35];rfl
                      unfold b0e;rw[this,show j+(a7j true (s.drop (j+1))+1)=j+1+a7j true (s.drop (j+1)) by omega]
                     rw[e];simp only[go_sem,a0g,decide_eq_true hlj,a0c,a0j,hx,ax,bx,g0r];exact h2 (j+1) _ ⟨by omega,by omega,fun e=>by omega⟩ (by omega) (by simp only[go_sem,wj])
                   · have e:b0e true s j=b0e false s j:=by
                      have:a7j true (s.drop j)=a7j false (s.drop j):=by
                       have h35:(x==35)=false:=by rw[beq_iff_eq.1 bx];rfl
                       rw[c0w hdx true,c0w hdx false,bx,h35];rfl
                      unfold b0e;rw[this]
                     have hij2:i<j:=by
                      rcases Nat.lt_or_ge i j with hh|hh
                      · exact hh
                      · have:j=i:=by omega
                        subst this;rw[hx] at hc;injection hc with hc;subst hc;rw[bx] at b3;cases b3
                     rw[e];simp only[go_sem,a0g,decide_eq_true hlj,a0c,a0j,hx,ax,bx,g0r];exact h (j,acc) _ ⟨by simp only;omega,by simp only;omega⟩ (by simp only;omega) (by simp only[go_sem])
                 · have e:b0e true s j=b0e false s j:=by
                    unfold b0e;rw[List.drop_eq_nil_of_le (show s.length≤j by omega)];rfl
                   rw[e];simp only[go_sem,a0g,decide_eq_false hlj];exact h (j,acc) _ ⟨by simp only;omega,by simp only;omega⟩ (by simp only;omega) (by simp only[go_sem])
           · have e:a7j false (s.drop i)=a7j false (s.drop (i+1))+1:=by
              have:(c==35)=false:=by rw[beq_iff_eq.1 b3];rfl
              rw[hg,b3,this];rfl
             rw[skip e];simp only[go_sem,a0g,hlt',a0c,a0j,hc,a2,a3,a4,b1,b2,b3];exact h (i+1,acc) _ ⟨by simp only;omega,by simp only;omega⟩ (by simp only;omega) (by simp only[go_sem,w1])
         · have e:a7j false (s.drop i)=a7j false (s.drop (i+1))+1:=by
            have h35:(c==35)=false:=by rw[beq_iff_eq.1 b2];rfl
            have h10:(c==10)=false:=by rw[beq_iff_eq.1 b2];rfl
            rw[hg,h35,h10,b2,b1];rfl
           rw[skip e];simp only[go_sem,a0g,hlt',a0c,a0j,hc,a3,a4,b1,b2];exact h (i+1,acc) _ ⟨by simp only;omega,by simp only;omega⟩ (by simp only;omega) (by simp only[go_sem,w1])
       · have e:a7j false (s.drop i)=a7j false (s.drop (i+1))+1:=by
          have h35:(c==35)=false:=by rw[beq_iff_eq.1 b1];rfl
          have h10:(c==10)=false:=by rw[beq_iff_eq.1 b1];rfl
          rw[hg,h35,h10,b1];rfl
         rw[skip e];simp only[go_sem,a0g,hlt',a0c,a0j,hc,a3,b1];exact h (i+1,acc) _ ⟨by simp only;omega,by simp only;omega⟩ (by simp only;omega) (by simp only[go_sem,w1])
     · have hlt':decide (i<s.length)=false:=by simpa using hlt
       have hk:b0e false s i=.ok []:=by
        unfold b0e;rw[List.drop_eq_nil_of_le (show s.length≤i by omega)];simp only[a7j,Nat.add_zero];rw[List.drop_eq_nil_of_le (by omega)];rfl
       rw[hk];simp only[go_sem,a0g,hlt',b7x,List.append_nil]
   · simp only[b0e,List.drop_zero,Nat.zero_add]
 · have h1':=of_decide_eq_true h1;rw[if_pos h1'];simp only[go_sem,Tryz.f48,e1,h1]
end Go.Proofs
