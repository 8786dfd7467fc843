/- What both make of a constructor means the same; the law DeclsPlays. -/
import Derived.Test.YtjfghnkmladbkaaGreatDoorAvT
import Derived.Test.YtjfghnkmladbkaaGreatDoorAvS
import Derived.Test.YtjfghnkmladbkaaGreatDoorAvP
namespace Go.Proofs
open Go.Av
set_option maxHeartbeats 64000000
set_option maxRecDepth 100000
theorem f6k{t:Ty}(hg:GT t){m:Int}:∀ {ρ:b2p} {μ:Int→Dt} {d:Nat},omt m (sem t ρ μ d)=true↔(∃y,fvB t y=true∧omt m (ρ y)=true)∨∃n,mvB t n=true∧omt m (μ n)=true:=by
 induction hg with
 | var s _=>
  intro ρ μ d;rw[a3d];constructor
  · exact fun h=>.inl ⟨s,by simp[c8d],h⟩
  · rintro (⟨y,h1,h2⟩| ⟨n,h1,_⟩)
    · have:s=y:=by simpa [c8d] using h1
      rw[this];exact h2
    · simp[f6z] at h1
 | unk n _ _=>
  intro ρ μ d;rw[a4g];constructor
  · exact fun h=>.inr ⟨n,by simp[d8e],h⟩
  · rintro (⟨y,h1,_⟩| ⟨q,h1,h2⟩)
    · simp[g0l] at h1
    · have:n=q:=by simpa [d8e] using h1
      rw[this];exact h2
 | con s a _ _ ih=>
  intro ρ μ d;rw[a5a,f6l];have:∀l:List Ty,(∀z,z∈l→z∈a)→(g9r m (e0f l ρ μ d)=true↔(∃y,d1u l y=true∧omt m (ρ y)=true)∨∃n,d8g l n=true∧omt m (μ n)=true):=by
   intro l
   induction l with
   | nil=>intro _;simp[a1o,d4h,a9q,b3r]
   | cons z r ihr=>
    intro hl;rw[a0r,c0j,Bool.or_eq_true,ih z (hl z (List.mem_cons_self ..)),ihr fun w hw=>hl w (List.mem_cons_of_mem _ hw)];simp only[a1y,a5y,Bool.or_eq_true];constructor
    · rintro ((⟨y,h1,h2⟩| ⟨n,h1,h2⟩)|(⟨y,h1,h2⟩| ⟨n,h1,h2⟩))
      · exact .inl ⟨y,.inl h1,h2⟩
      · exact .inr ⟨n,.inl h1,h2⟩
      · exact .inl ⟨y,.inr h1,h2⟩
      · exact .inr ⟨n,.inr h1,h2⟩
    · rintro (⟨y,h1|h1,h2⟩| ⟨n,h1|h1,h2⟩)
      · exact .inl (.inl ⟨y,h1,h2⟩)
      · exact .inr (.inl ⟨y,h1,h2⟩)
      · exact .inl (.inr ⟨n,h1,h2⟩)
      · exact .inr (.inr ⟨n,h1,h2⟩)
  rw[this a fun _ h=>h];simp only[c3w,e4x]
 | fn u v _ _ ihu ihv=>
  intro ρ μ d;rw[a7f,f6l,a0r,a0r,a1o,c0j,c0j,d4h,Bool.or_false,Bool.or_eq_true,ihu,ihv];simp only[d5i,f7a,a1y,a5y,a9q,b3r,Bool.or_false,Bool.or_eq_true];constructor
  · rintro ((⟨y,h1,h2⟩| ⟨n,h1,h2⟩)|(⟨y,h1,h2⟩| ⟨n,h1,h2⟩))
    · exact .inl ⟨y,.inl h1,h2⟩
    · exact .inr ⟨n,.inl h1,h2⟩
    · exact .inl ⟨y,.inr h1,h2⟩
    · exact .inr ⟨n,.inr h1,h2⟩
  · rintro (⟨y,h1|h1,h2⟩| ⟨n,h1|h1,h2⟩)
    · exact .inl (.inl ⟨y,h1,h2⟩)
    · exact .inr (.inl ⟨y,h1,h2⟩)
    · exact .inl (.inr ⟨n,h1,h2⟩)
    · exact .inr (.inr ⟨n,h1,h2⟩)
 | all s t _ _ ih=>
  intro ρ μ d;rw[a3i,f6l,a0r,a1o,c0j,d4h,Bool.or_false,ih];simp only[c0w,d8f,a1y,a5y,a9q,b3r,Bool.or_false,Bool.and_eq_true];constructor
  · rintro (⟨y,h1,h2⟩|h)
    · by_cases he:y=s
      · subst he;rw[a1s,j7q] at h2;cases h2
      · rw[a2w he] at h2;have:(s==y)=false:=beq_eq_false_iff_ne.2 fun e=>he e.symm;exact .inl ⟨y,⟨h1,by simp[this]⟩,h2⟩
    · exact .inr h
  · rintro (⟨y,⟨h1,h3⟩,h2⟩|h)
    · refine .inl ⟨y,h1,?_⟩;rw[a2w]
      · exact h2
      · rintro rfl;simp at h3
    · exact .inr h
theorem j7x{t:Ty}(hg:GT t){m:Int}:mvB t m=omt m (sm t):=by
 rw[Bool.eq_iff_iff,f6k hg];constructor
 · exact fun h=>.inr ⟨m,h,by simp[h7l]⟩
 · rintro (⟨y,_,h2⟩| ⟨n,h1,h2⟩)
   · simp[f6m] at h2
   · have:n=m:=by simpa [h7l] using h2
     rw[←this];exact h1
structure Cl (S:List (List UInt8)) (t:Ty):Prop where
 fv:∀y,fvB t y=true→y∈S
 mv:∀m,mvB t m=false
theorem i7x{l:List Ty}{m:Int}(h:d8g l m=false){t:Ty}(ht:t∈l):mvB t m=false:=by
 cases hq:mvB t m
 · rfl
 · exact absurd ((e4y m).2 ⟨t,ht,hq⟩) (by rw[h];decide)
theorem Cl.kid{S:List (List UInt8)}{k:Int}{s:List UInt8}{n:Int}{l:List Ty}(h:Cl S (.mk k s n l))(h1:(k==1)=false)(h2:(k==2)=false)(h5:(k==5)=false){t:Ty}(ht:t∈l):Cl S t:=by
 refine⟨fun y hy=>h.fv y ?_,fun m=>i7x ?_ ht⟩
 · rw[fvB,h1,h5];simp only[Bool.false_eq_true,if_false];exact (d5j y).2 ⟨t,ht,hy⟩
 · have:=h.mv m;rw[mvB,h2] at this;simpa using this
theorem Cl.con{S:List (List UInt8)}{s:List UInt8}{l:List Ty}(h:Cl S (.mk 3 s 0 l)){t:Ty}(ht:t∈l):Cl S t:=h.kid rfl rfl rfl ht
theorem Cl.fn{S:List (List UInt8)}{a b:Ty}(h:Cl S (.mk 4 [] 0 [a,b])):Cl S a∧Cl S b:=⟨h.kid rfl rfl rfl (by simp),h.kid rfl rfl rfl (by simp)⟩
theorem f5y(c:UInt8)(but:List (List UInt8)):∀(n:Nat) (t:Ty) (i:Nat) (S:List (List UInt8)),GT t→t.sz≤n→t.sz<20000→i+n*(but.length+1)≤900000000→Cl S t→Cl (S++(a7y c but n t i).1) (a7y c but n t i).2∧(∀x∈(a7y c but n t i).1,∃j,i≤j∧x=a0y c j)∧(a7y c but n t i).1.Nodup
 | 0,t,i,S,_,h,_,_,_=>by have:=a2f t;omega
 | n+1,t,i,S,ht,hn,hb,hi,h=>by
  cases h5:t.kind==5
  · rw[b5r c but _ _ _ h5,List.append_nil];exact⟨h,fun x hx=>(by cases hx),List.nodup_nil⟩
  · obtain⟨s,x,rfl,hs,hx⟩:=ht.all_inv h5;rw[a0t,a1e] at hn hb;rw[c0h];obtain⟨q1,q2,_,_⟩:=a8h c but i;have e:(n+1)*(but.length+1)=n*(but.length+1)+(but.length+1):=by rw[Nat.add_mul];omega
    obtain⟨c1,c2,_⟩:=a4o (a3j c but i) c (by omega);obtain⟨_,g,hsz⟩:=c5d hx (by omega) s (a0y c (a3j c but i)) c2 c1;have hsm:=e3g hx (by omega) s (a0y c (a3j c but i)) c2 c1 .fv .mt 0;have hcl:Cl (S++[a0y c (a3j c but i)]) (b0t x.sz x s (.mk 1 (a0y c (a3j c but i)) 0 [])):=by
     refine⟨fun y hy=>?_,fun m=>?_⟩
     · rw[d8y g,hsm] at hy;rcases (d4j hx).1 hy with⟨z,h2,h3⟩| ⟨q,_,h3⟩
       · by_cases hz:z=s
         · subst hz;rw[a1s,c3u] at h3;have:a0y c (a3j c but i)=y:=by simpa using h3
           rw[←this];simp
         · rw[a2w hz,c3u] at h3;have h3:z=y:=by simpa using h3
           subst h3;have:=h.fv z (d8z h2 hz);simp[this]
       · rw[e4q] at h3;cases h3
     · cases hq:mvB (b0t x.sz x s (.mk 1 (a0y c (a3j c but i)) 0 [])) m
       · rfl
       · rw[j7x g] at hq;unfold sm at hq;rw[hsm] at hq;rcases (f6k hx).1 hq with⟨z,_,h3⟩| ⟨q,h2,h3⟩
         · by_cases hz:z=s
           · subst hz;rw[a1s,f6m] at h3;cases h3
           · rw[a2w hz,f6m] at h3;cases h3
         · have:=h.mv q;rw[d8f,a5y,h2] at this;cases this
    obtain⟨r1,r2,r3⟩:=f5y c but n _ (a3j c but i+1) _ g (by omega) (by omega) (by omega) hcl;refine⟨by simpa using r1,fun y hy=>?_,List.nodup_cons.2 ⟨fun hm=>?_,r3⟩⟩
    · rcases List.mem_cons.1 hy with rfl|hy
      · exact⟨_,q1,rfl⟩
      · obtain⟨j,hj,e⟩:=r2 y hy;exact⟨j,by omega,e⟩
    · obtain⟨j,hj,e⟩:=r2 _ hm;have:=b6h c _ _ e;omega
theorem j5w{S:List (List UInt8)}:∀(n:Nat) (t:Ty) (acc:List Ty),GT t→Cl S t→(∀x∈acc,Cl S x)→(∀x∈(spF n t acc).1,Cl S x)∧Cl S (spF n t acc).2
 | 0,t,acc,_,h,ha=>⟨ha,h⟩
 | n+1,t,acc,ht,h,ha=>by
  cases h4:t.kind==4
  · rw[a8r _ _ _ h4];exact⟨ha,h⟩
  · obtain⟨a,b,rfl,hga,hgb⟩:=ht.fn_inv h4;rw[b9z];exact j5w n b _ hgb h.fn.2 fun x hx=>by
     rcases List.mem_append.1 hx with hx|hx
     · exact ha x hx
     · rw[List.mem_singleton.1 hx];exact h.fn.1
theorem i8r(ar:List (List UInt8×Int)){t:Ty}(hg:GT t):b3v ar t=true→∀m,mvB t m=false:=by
 have L:∀(l:List Ty),(∀x∈l,b3v ar x=true→∀m,mvB x m=false)→d5k ar l=true→∀m,d8g l m=false:=by
  intro l
  induction l with
  | nil=>intro _ _ m;rw[b3r]
  | cons x r ihr=>
   intro h1 h2 m;rw[c2v,Bool.and_eq_true] at h2;rw[a5y,h1 x (List.mem_cons_self ..) h2.1,ihr (fun y hy=>h1 y (List.mem_cons_of_mem _ hy)) h2.2];rfl
 induction hg with
 | var s _=>intro _ m;rw[f6z]
 | unk n _ _=>intro h;rw[b7j] at h;simp[Ty.kind] at h
 | con s a _ _ ih=>
  intro h m;rw[b7j,Bool.and_eq_true] at h;rw[e4x,L a ih h.2]
 | fn a b _ _ iha ihb=>
  intro h m;rw[b7j,Bool.and_eq_true] at h;rw[f7a,L [a,b] (fun x hx=>by simp at hx;rcases hx with rfl|rfl;exact iha;exact ihb) h.2]
 | all s t _ _ ih=>
  intro h m;rw[b7j,Bool.and_eq_true] at h;rw[d8f,L [t] (fun x hx=>by rw[List.mem_singleton.1 hx];exact ih) h.2]
theorem i8k(ar:List (List UInt8×Int)){t:Ty}(hg:GT t)(h:b3b ar t=0):Cl [] t:=by
 unfold b3b at h;split at h
 · rename_i hf;split at h
   · rename_i he;refine⟨fun y hy=>?_,i8r ar hg hf⟩;have:=(b0x hg).2 hy;rw[he] at this;exact this
   · cases h
 · cases h
def Agr(names:List (List UInt8))(c:Cal)(c':List (List UInt8)):Prop:=c'.length=names.length∧∀(i:Nat) (x:List UInt8),names[i]? =some x→c'.getD i []=(a2a x c).getD []
theorem Agr.upd{names:List (List UInt8)}(hnd:names.Nodup){c:Cal}{c':List (List UInt8)}(h:Agr names c c'){i:Nat}{x v:List UInt8}(hx:names[i]? =some x):Agr names (b4i x v c) (c'.set i v):=by
 refine⟨by rw[List.length_set];exact h.1,fun j y hy=>?_⟩;have hil:=(List.getElem?_eq_some_iff.1 hx).1;rw[c0o]
 by_cases hji:j=i
 · subst hji;rw[hx] at hy;injection hy with hy;rw[if_pos hy.symm,List.getD_eq_getElem?_getD,List.getElem?_set_self (by rw[h.1];exact hil),Option.getD_some]
 · have hyx:y≠x:=fun e=>by
    rw[e,←hx] at hy;have hjl:=(List.getElem?_eq_some_iff.1 (hy.trans hx)).1;exact hji ((List.getElem?_inj hjl hnd).1 hy)
   rw[if_neg hyx,←h.2 j y hy,List.getD_eq_getElem?_getD,List.getD_eq_getElem?_getD,List.getElem?_set_ne (Ne.symm hji)]
theorem d8m{c:Cal}(h:OkC c)(x:List UInt8):((a2a x c).getD []==[])=(a2a x c).isNone:=by
 cases hk:a2a x c with
 | none=>rfl
 | some v=>
  have:=(h.look hk).1;simpa using this
theorem h8c{x:List UInt8}:∀(l:List (List UInt8)) (k:Nat),x∈l→∃i,atD l x k=((k+i:Nat):Int)∧l[i]? =some x
 | y::r,k,h=>by
  rw[atD]
  by_cases hy:y=x
  · subst hy;exact⟨0,by simp,rfl⟩
  · rw[if_neg (by simpa using hy)];obtain⟨i,h1,h2⟩:=h8c r (k+1) (by
     rcases List.mem_cons.1 h with h|h
     · exact absurd h.symm hy
     · exact h)
    exact⟨i+1,by rw[h1];congr 1;omega,by simpa using h2⟩
theorem h8h{t u:Ty}(ht:GT t)(hu:GT u)(h:sm t=sm u)(hk:t.kind=1):t=u:=by
 have hk2:=c0r ht hu h;rw[hk] at hk2;cases ht with
 | var s _=>
  cases hu with
  | var s' _=>
   rw[sm,sm,a3d,a3d] at h;injection h with h;rw[h]
  | _=>cases hk2
 | _=>cases hk
theorem j5v{names:List (List UInt8)}(hnd:names.Nodup):∀(l l':List Ty) (i:Nat) (c:Cal) (c':List (List UInt8)) (g:List Nat),l.map sm=l'.map sm→(∀t∈l,GT t)→(∀t∈l',GT t)→(∀t∈l,Cl names t)→a9i l'=false→OkC c→i+l.length≤100000000→Agr names c c'→∃c2,mk1 names l' i c' g=.inr (c2,(lp1 l i c g).2)∧Agr names (lp1 l i c g).1 c2
 | [],[],i,c,c',g,_,_,_,_,_,_,_,h=>⟨c',rfl,h⟩
 | [],_::_,_,_,_,_,h,_,_,_,_,_,_,_=>by simp at h
 | _::_,[],_,_,_,_,h,_,_,_,_,_,_,_=>by simp at h
 | t::r,u::r',i,c,c',g,h,h1,h2,h3,hp,ho,hb,ha=>by
  rw[List.map_cons,List.map_cons] at h;injection h with hh ht;rw[a8g,Bool.or_eq_false_iff] at hp;simp only[List.length_cons] at hb;have k:=c0r (h1 t (List.mem_cons_self ..)) (h2 u (List.mem_cons_self ..)) hh;rw[d5b,c5k,hp.1,←k];simp only[Bool.false_eq_true,if_false];have hrec:=fun c c' g ho ha=>j5v hnd r r' (i+1) c c' g ht (fun x hx=>h1 x (List.mem_cons_of_mem _ hx)) (fun x hx=>h2 x (List.mem_cons_of_mem _ hx)) (fun x hx=>h3 x (List.mem_cons_of_mem _ hx)) hp.2 ho (by omega) ha;cases k1:t.kind==1
  · simp only[Bool.false_and,Bool.false_eq_true,if_false];exact hrec c c' (g++[i]) ho ha
  · have e:=h8h (h1 t (List.mem_cons_self ..)) (h2 u (List.mem_cons_self ..)) hh (by simpa using k1);rw[←e];have hmem:t.name∈names:=by
     refine (h3 t (List.mem_cons_self ..)).fv _ ?_;have hgt:=h1 t (List.mem_cons_self ..);cases hgt with
     | var s _=>simp[c8d,Ty.name]
     | _=>simp[Ty.kind] at k1
    obtain⟨q,hq1,hq2⟩:=h8c names 0 hmem;rw[Nat.zero_add] at hq1;rw[hq1,Int.toNat_natCast,ha.2 q _ hq2,d8m ho];have:decide ((0:Int)≤(q:Int))=true:=by simp
    rw[this];simp only[Bool.true_and];cases hn:(a2a t.name c).isNone
    · simp only[Bool.false_eq_true,if_false];exact hrec c c' (g++[i]) ho ha
    · simp only[if_true];exact hrec _ _ g (ho.upd ⟨(a5b 117 i (by omega)).2.1,(a5b 117 i (by omega)).1⟩) (ha.upd hnd hq2)
theorem i1h{names:List (List UInt8)}(hnd:names.Nodup):∀(r:List (List UInt8)) (i:Nat) (c:Cal) (c' ex:List (List UInt8)),names.drop i=r→OkC c→ex.length+r.length≤100000000→Agr names c c'→(mk2 r.length i c' ex).2=(lp2 r c ex).2∧Agr names (lp2 r c ex).1 (mk2 r.length i c' ex).1
 | [],i,c,c',ex,_,_,_,h=>⟨rfl,h⟩
 | n::r,i,c,c',ex,hd,ho,hb,ha=>by
  have hi:names[i]? =some n:=by
   have:=congrArg (fun l=>l[0]?) hd;simpa using this
  have hd2:names.drop (i+1)=r:=by
   have:=congrArg List.tail hd;simpa using this
  simp only[List.length_cons] at hb;rw[List.length_cons,d4w,c5l,ha.2 i n hi,d8m ho];cases hn:(a2a n c).isNone
  · simp only[Bool.false_eq_true,if_false];exact i1h hnd r (i+1) c c' ex hd2 ho (by omega) ha
  · simp only[if_true];exact i1h hnd r (i+1) _ _ _ hd2 (ho.upd ⟨(a5b 101 ex.length (by omega)).2.1,(a5b 101 ex.length (by omega)).1⟩) (by simp;omega) (ha.upd hnd hi)
def HV(v:List UInt8):Prop:=(∃i,v=a4l i)∨∃i,v=b0j i
def h6v(c:Cal):Prop:=∀p∈c,HV p.2
theorem h6v.upd{c:Cal}(h:h6v c){k v:List UInt8}(hv:HV v):h6v (b4i k v c):=by
 induction c with
 | nil=>intro p hp;simp[b4i] at hp;subst hp;exact hv
 | cons a r ih=>
  intro p hp;rw[b4i] at hp;split at hp
  · rcases List.mem_cons.1 hp with rfl|hp
    · exact hv
    · exact h p (List.mem_cons_of_mem _ hp)
  · rcases List.mem_cons.1 hp with rfl|hp
    · exact h _ (List.mem_cons_self ..)
    · exact ih (fun q hq=>h q (List.mem_cons_of_mem _ hq)) p hp
theorem h6v.look{c:Cal}(h:h6v c){k v:List UInt8}(hk:a2a k c=some v):HV v:=by
 induction c with
 | nil=>cases hk
 | cons a r ih=>
  rw[a2a] at hk;split at hk
  · injection hk with hk;subst hk;exact h a (List.mem_cons_self ..)
  · exact ih (fun q hq=>h q (List.mem_cons_of_mem _ hq)) hk
theorem f7x:∀(l:List Ty) (i:Nat) (c:Cal) (ix:List Nat),h6v c→h6v (lp1 l i c ix).1
 | [],_,_,_,h=>h
 | t::r,i,c,ix,h=>by
  rw[d5b];split
  · exact f7x r _ _ _ (h.upd (.inl ⟨i,rfl⟩))
  · exact f7x r _ _ _ h
theorem f7w:∀(l:List (List UInt8)) (c:Cal) (ex:List (List UInt8)),h6v c→h6v (lp2 l c ex).1
 | [],_,_,h=>h
 | n::r,c,ex,h=>by
  rw[c5l];split
  · exact f7w r _ _ (h.upd (.inr ⟨_,rfl⟩))
  · exact f7w r _ _ h
theorem j8b{v:List UInt8}(h:HV v)(j:Nat):v≠a0y 112 j:=by
 rcases h with⟨i,rfl⟩| ⟨i,rfl⟩
 · intro e;unfold a4l a0y at e;injection e with e _;cases e
 · intro e;unfold b0j a0y at e;injection e with e _;cases e
theorem e2o(f:List UInt8→List UInt8):∀(names c':List (List UInt8)),c'.length=names.length→(∀(i:Nat) (x:List UInt8),names[i]? =some x→c'.getD i []=f x)→∀x,lkD (names.zip c') x=if x∈names then f x else x
 | [],_,_,_,x=>by simp[lkD]
 | n::r,[],h,_,_=>by simp at h
 | n::r,v::c',h,hf,x=>by
  have ih:=e2o f r c' (by simpa using h) (fun i x hx=>by
   have:=hf (i+1) x (by simpa using hx);simpa using this) x
  have h0:=hf 0 n rfl;rw[List.zip_cons_cons,b3t]
  by_cases hx:n=x
  · subst hx;simp at h0⊢;exact h0
  · rw[if_neg (by simpa using hx),ih];have:(x∈n::r)=(x∈r):=by simp[Ne.symm hx]
    simp only[this]
mutual
def df(τ:b2p):Dt→Dt
 | .fv s=>τ s
 | .bl k=>.bl k
 | .mt n=>.mt n
 | .nd k s l=>.nd k s (dfs τ l)
def dfs(τ:b2p):List Dt→List Dt
 | []=>[]
 | t::r=>df τ t::dfs τ r
end
theorem i9i(τ:b2p)(k:Int)(s:List UInt8)(l:List Dt):df τ (.nd k s l)=.nd k s (dfs τ l):=by simp[df]
theorem d5s(τ:b2p):∀l:List Dt,dfs τ l=l.map (df τ)
 | []=>by simp[dfs]
 | t::r=>by rw[List.map_cons,←d5s τ r];simp[dfs]
theorem h7h(τ:b2p){t:Ty}(hg:GT t):∀(ρ:b2p) (μ:Int→Dt) (d:Nat),df τ (sem t ρ μ d)=sem t (fun s=>df τ (ρ s)) (fun n=>df τ (μ n)) d:=by
 induction hg with
 | var s _=>intro ρ μ d;rw[a3d,a3d]
 | unk n _ _=>intro ρ μ d;rw[a4g,a4g]
 | con s a _ _ ih=>
  intro ρ μ d;rw[a5a,a5a,i9i,d5s,a2u,a2u,List.map_map]
  congr 1
  exact List.map_congr_left fun t ht=>ih t ht ρ μ d
 | fn a b _ _ iha ihb=>
  intro ρ μ d;rw[a7f,a7f,i9i,d5s,a2u,a2u,List.map_map];simp only[List.map_cons,List.map_nil,Function.comp_apply,iha,ihb]
 | all s t _ _ ih=>
  intro ρ μ d;rw[a3i,a3i,i9i,d5s,a2u,a2u,List.map_map];simp only[List.map_cons,List.map_nil,Function.comp_apply,ih];have:(fun x=>df τ (upd ρ s (.bl d) x))=upd (fun x=>df τ (ρ x)) s (.bl d):=by
   funext x
   by_cases h:x=s
   · subst h;rw[a1s,a1s];simp[df]
   · rw[a2w h,a2w h]
  rw[this]
theorem g4z{t u:Ty}(ht:GT t)(hu:GT u)(h:sm t=sm u)(τ:b2p):sem t τ .mt 0=sem u τ .mt 0:=by
 have h1:=h7h τ ht .fv .mt 0;have h2:=h7h τ hu .fv .mt 0;have e1:(fun s=>df τ (.fv s))=τ:=by funext s;simp[df]
 have e2:(fun n=>df τ (.mt n))=Dt.mt:=by funext n;simp[df]
 rw[e1,e2] at h1 h2;rw[←h1,←h2];exact congrArg (df τ) h
def gvM(g:Gv):List UInt8×Dt×Dt:=(g.name,sm g.l,sm g.r)
structure SameX (x y:CX):Prop where
 nm:x.name=y.name
 dt:x.data=y.data
 tag:x.tag=y.tag
 ty:x.ty=y.ty
 un:x.univ=y.univ
 ex:x.exis=y.exis
 gv:x.givens.map gvM=y.givens.map gvM
 ar:x.args.map sm=y.args.map sm
theorem GT.con_inv{t:Ty}(h:GT t)(hk:(t.kind==3)=true):∃s l,t=.mk 3 s 0 l∧∀x∈l,GT x:=by
 cases h with
 | con s l hs hl=>exact⟨s,l,rfl,hl⟩
 | _=>simp[Ty.kind] at hk
theorem f7n{P Q:Ty→Prop}{F G:Ty→Ty}(h:∀t u,P t→Q u→sm t=sm u→sm (F t)=sm (G u)):∀(l l':List Ty),l.map sm=l'.map sm→(∀t∈l,P t)→(∀t∈l',Q t)→(l.map F).map sm=(l'.map G).map sm
 | [],[],_,_,_=>rfl
 | [],_::_,e,_,_=>by simp at e
 | _::_,[],e,_,_=>by simp at e
 | t::r,u::r',e,h1,h2=>by
  rw[List.map_cons,List.map_cons] at e;injection e with e1 e2;rw[List.map_cons,List.map_cons,List.map_cons,List.map_cons,h t u (h1 t (List.mem_cons_self ..)) (h2 u (List.mem_cons_self ..)) e1,f7n h r r' e2 (fun x hx=>h1 x (List.mem_cons_of_mem _ hx)) (fun x hx=>h2 x (List.mem_cons_of_mem _ hx))]
theorem j5u{C:Cal}{names:List (List UInt8)}{es:List (List UInt8×List UInt8)}{P Q:Ty→Prop}(h:∀t u,P t→Q u→sm t=sm u→sm (b0k C names t)=sm (c0c es u)){l l':List Ty}(e:l.map sm=l'.map sm)(h1:∀t∈l,P t)(h2:∀t∈l',Q t):∀(ks:List Nat) (acc acc':List Gv),(∀k∈ks,k<l.length)→acc.map gvM=acc'.map gvM→(lp3 C names l ks acc).map gvM=(mk3 es l' ks acc').map gvM
 | [],_,_,_,ha=>ha
 | k::r,acc,acc',hk,ha=>by
  rw[d4z,d4v];have hl:acc.length=acc'.length:=by
   have:=congrArg List.length ha;simpa using this
  have hll:l.length=l'.length:=by
   have:=congrArg List.length e;simpa using this
  have hk0:=hk k (List.mem_cons_self ..);obtain⟨t,ht⟩:=a6u hk0;obtain⟨u,hu⟩:=a6u (l:=l') (i:=k) (by omega);have et:l.getD k zTy=t:=by rw[List.getD_eq_getElem?_getD,ht];rfl
  have eu:l'.getD k zTy=u:=by rw[List.getD_eq_getElem?_getD,hu];rfl
  have es:sm t=sm u:=by
   have:=congrArg (fun x:List Dt=>x[k]?) e;simp only[List.getElem?_map,ht,hu,Option.map_some,Option.some.injEq] at this;exact this
  refine j5u h e h1 h2 r _ _ (fun k' hk'=>hk k' (List.mem_cons_of_mem _ hk')) ?_;rw[List.map_append,List.map_append,ha,et,eu,hl];simp only[List.map_cons,List.map_nil,gvM,h t u (h1 t (List.mem_of_getElem? ht)) (h2 u (List.mem_of_getElem? hu)) es]
theorem f7g(es:List (List UInt8×List UInt8))(ts:List Ty)(Q:Gv→Prop):∀(l:List Nat) (acc:List Gv),(∀g∈acc,Q g)→(∀k∈l,∀i,i<acc.length+l.length→Q ⟨f3a i,.mk 1 (a4l k) 0 [],c0c es (ts.getD k zTy)⟩)→(∀g∈mk3 es ts l acc,Q g)∧(mk3 es ts l acc).length=acc.length+l.length
 | [],acc,h,_=>⟨h,rfl⟩
 | k::r,acc,h,hq=>by
  rw[d4v];obtain⟨q1,q2⟩:=f7g es ts Q r (acc++[⟨f3a acc.length,.mk 1 (a4l k) 0 [],c0c es (ts.getD k zTy)⟩]) (fun g hg=>by
   rcases List.mem_append.1 hg with hg|hg
   · exact h g hg
   · simp at hg;subst hg;exact hq k (by simp) acc.length (by simp)) (fun k' hk' i hi=>hq k' (by simp[hk']) i (by simp at hi⊢;omega))
  exact⟨q1,by rw[q2];simp;omega⟩
theorem h0b(d:De)(c:Co)(hg:GT c.ty)(hb:c.ty.sz<12000)(hcl:Cl [] c.ty)(hn:c.name.length≤16)(hd:d.name.length≤16){x:CX}(hm:b3s d c=some x):∃y,b7z d c=(y,true)∧SameX x y∧∀k:Nat,k<100000000→OkX {y with tag:=(k:Int)}:=by
 have hfl:=a2v _ c.ty (Nat.le_refl _) [] [];simp only[List.length_nil,Nat.zero_add] at hfl;have hbd:c.ty.sz*((a0n c.ty [] []).length+1)≤900000000:=Nat.le_trans (Nat.mul_le_mul (show c.ty.sz≤12000 by omega) (show _≤12001 by omega)) (by omega);obtain⟨g1,s1,n1,o1⟩:=c7e 112 (a0n c.ty [] []) c.ty.sz c.ty 0 (Nat.le_refl _) hg (by omega) (by omega);obtain⟨g2,s2,_,_⟩:=d4e 112 (a0n c.ty [] []) c.ty.sz c.ty 0 (Nat.le_refl _) hg (by omega) (by omega);obtain⟨_,k2⟩:=e0p 112 (a0n c.ty [] []) c.ty.sz c.ty c.ty 0 rfl;obtain⟨e1,e2⟩:=d7t 112 (a0n c.ty [] []) c.ty.sz c.ty c.ty 0 hg hg (Nat.le_refl _) (Nat.le_refl _) (by omega) (by omega) (by omega) rfl;obtain⟨cl1,nm1,nd1⟩:=f5y 112 (a0n c.ty [] []) c.ty.sz c.ty 0 [] hg (Nat.le_refl _) (by omega) (by omega) hcl;unfold b3s at hm;unfold b7z;simp only at hm⊢;generalize a7y 112 (a0n c.ty [] []) c.ty.sz c.ty 0=p at *;generalize b0g 112 (a0n c.ty [] []) c.ty.sz c.ty 0=q at *;obtain⟨names,body⟩:=p;obtain⟨names',body'⟩:=q;simp only at g1 s1 n1 o1 g2 s2 k2 e1 e2 cl1 nm1 nd1 hm⊢;subst e1;rw[List.nil_append] at cl1;have hsz:body.sz=body'.sz:=by rw[←g5g _ body (Nat.le_refl _) g1,←g5g _ body' (Nat.le_refl _) g2,k2]
 rw[hsz] at hm;obtain⟨_,k3⟩:=i1i body'.sz body body' [] [] k2 rfl;obtain⟨f1,f2⟩:=f4j body'.sz body body' [] [] g1 g2 e2 rfl;obtain⟨cl2,cl3⟩:=j5w body'.sz body [] g1 cl1 (fun x hx=>by cases hx);obtain⟨h1,z1,a1,l1⟩:=b9y body'.sz body [] (by omega) g1 (fun x hx=>by cases hx) (by omega);obtain⟨h2,z2,a2,l2⟩:=b9y body'.sz body' [] (by omega) g2 (fun x hx=>by cases hx) (by omega);have b1:=d3k body'.sz body [] g1;have b2:=d3k body'.sz body' [] g2;generalize spF body'.sz body []=a at *;generalize spF body'.sz body' []=b at *;obtain⟨ap,rt⟩:=a;obtain⟨aq,rt'⟩:=b;simp only at k3 f1 f2 cl2 cl3 h1 z1 a1 l1 h2 z2 a2 l2 b1 b2 hm⊢;obtain⟨_,h4⟩:=d3l k3;have hk:=c0r h1 h2 f2;split at hm
 case isFalse=>cases hm
 rename_i hc;simp only[Bool.and_eq_true] at hc;obtain⟨hc1,hc2,hc3⟩:=hc;have kk:rt.kind=3:=by simpa using hc1
 have h5:=(h4 (by rw[kk];rfl)).1;have hp:a9i rt.args=a9i rt'.args:=by rw[←c0a _ h1.args,←c0a _ h2.args,h5]
 obtain⟨s,l,rfl,hl⟩:=h1.con_inv hc1;obtain⟨s',l',rfl,hl'⟩:=h2.con_inv (by rw[←hk];exact hc1);obtain⟨es,el⟩:=h2n f2;subst es;simp only[Ty.args,Ty.kind,Ty.name] at hm hp hc2 hc3⊢;simp only[hc2,beq_self_eq_true,Bool.and_self,if_true];have hp0:a9i l'=false:=by rw[←hp];simpa using hc3
 rw[a0t] at z1 z2;have hll:=a4v (.mk 3 s 0 l);have hll':l.length=l'.length:=by
  have:=congrArg List.length el;simpa using this
 rw[a0t] at hll;simp only[Ty.args] at hll;have clA:∀t∈l,Cl names t:=fun t ht=>cl3.con ht;obtain⟨c2,m1,ag1⟩:=j5v nd1 l l' 0 [] (List.replicate names.length []) [] el hl hl' clA hp0 (fun p hp=>by cases hp) (by omega) ⟨by simp,fun i x _=>by
  rw[List.getD_eq_getElem?_getD,List.getElem?_replicate];split<;>rfl⟩
 rw[m1];obtain⟨w1o,w1i,w1l⟩:=d8k l 0 [] [] (fun p hp=>by cases hp) (by omega) (fun k hk=>by cases hk);have v1:=f7x l 0 [] [] (fun p hp=>by cases hp);generalize lp1 l 0 [] []=r1 at *;obtain⟨C1,IX⟩:=r1;simp only at hm ag1 w1o w1i w1l v1⊢;obtain⟨x2,ag2⟩:=i1h nd1 names 0 C1 c2 [] rfl w1o (by simp;omega) ag1;obtain⟨w2o,w2n,_,w2l⟩:=d8j names C1 [] w1o (by simp;omega);have w2m:=d5a names C1 [] (fun u hu=>by cases hu) (by simp;omega);have v2:=f7w names C1 [] v1;unfold f7t;simp only;rw[x2];generalize (mk2 names.length 0 c2 []).1=D2 at *;generalize lp2 names C1 []=r2 at *;obtain⟨C2,EX⟩:=r2;simp only at hm ag2 w2o w2n w2l w2m v2⊢;have hcal:∀n∈names,(a2a n C2).getD []≠[]∧((a2a n C2).getD []).length≤16:=fun n hn=>by
  have h1:=w2n n hn;cases h2:a2a n C2 with
  | none=>rw[h2] at h1;cases h1
  | some v=>exact w2o.look h2
 have hzip:=e2o (fun x=>(a2a x C2).getD []) names D2 ag2.1 ag2.2;have hzm:∀p∈names.zip D2,HV p.2∧p.2.length≤16:=fun p hp=>by
  obtain⟨i,hi⟩:=b9f (List.of_mem_zip hp).2;have hil:=(List.getElem?_eq_some_iff.1 hi).1;rw[ag2.1] at hil;obtain⟨n,hn⟩:=a6u hil;have e:=ag2.2 i n hn;rw[List.getD_eq_getElem?_getD,hi,Option.getD_some] at e;have hnm:=List.mem_of_getElem? hn;have q1:=w2n n hnm;cases h2:a2a n C2 with
  | none=>rw[h2] at q1;cases q1
  | some v=>rw[h2,Option.getD_some] at e;rw[e];exact⟨v2.look h2,(w2o.look h2).2⟩
 have hzn:∀p∈names.zip D2,∀q∈names.zip D2,p.2≠q.1:=fun p hp q hq=>by
  obtain⟨j,_,e⟩:=nm1 q.1 (List.of_mem_zip hq).1;rw[e];exact j8b (hzm p hp).1 j
 have key:∀t u:Ty,(GT t∧t.sz<12000∧Cl names t)→(GT u∧u.sz<12000)→sm t=sm u→sm (b0k C2 names t)=sm (c0c (names.zip D2) u):=fun t u ht hu h=>by
  show sem _ _ _ _=sem _ _ _ _
  rw[g5o C2 names (by omega) hcal ht.1 (by omega) ht.2.2.mv,e3f (names.zip D2) u hu.1 (by omega) (fun p hp=>(hzm p hp).2) hzn];have e:(fun x=>if x∈names then Dt.fv ((a2a x C2).getD []) else .fv x)=fun x=>.fv (lkD (names.zip D2) x):=by
   funext x;rw[hzip x];split<;>rfl
  rw[e];exact g4z ht.1 hu.1 h _
 have lz:∀t∈l,t.sz<12000:=fun t ht=>by have:=a2i ht;omega
 have lz':∀t∈l',t.sz<12000:=fun t ht=>by have:=a2i ht;omega
 have gvs:=j5u key el (fun t ht=>⟨hl t ht,lz t ht,clA t ht⟩) (fun t ht=>⟨hl' t ht,lz' t ht⟩) IX [] [] (fun k hk=>by have:=w1i k hk;omega) rfl;have az:∀t∈ap,t.sz<12000:=fun t ht=>by
  rcases b1 t ht with h|h
  · cases h
  · omega
 have az':∀t∈aq,t.sz<12000:=fun t ht=>by
  rcases b2 t ht with h|h
  · cases h
  · omega
 have ars:=f7n key ap aq f1 (fun t ht=>⟨(a1 t ht).1,az t ht,cl2 t ht⟩) (fun t ht=>⟨(a2 t ht).1,az' t ht⟩);injection hm with hm;subst hm;refine⟨_,rfl,⟨rfl,rfl,rfl,rfl,by simp only[cxD,hll'],rfl,gvs,ars⟩,fun k hk=>?_⟩;simp only[List.length_nil] at w2l w1l l2;have gv2:=f7g (names.zip D2) l' (fun g=>g.name.length≤16∧(GT g.l∧g.l.sz<20000)∧GT g.r∧g.r.sz<20000) IX [] (fun g hg=>by cases hg) (fun k hk i hi=>by
  have hkt:=w1i k hk;obtain⟨y,hy⟩:=a6u (l:=l') (i:=k) (by omega);have hyd:l'.getD k zTy=y:=by rw[List.getD_eq_getElem?_getD,hy];rfl
  have hym:=List.mem_of_getElem? hy;have hys:=lz' y hym;obtain⟨gr,sr⟩:=e1b (names.zip D2) y (hl' y hym) (by omega) fun p hp=>(hzm p hp).2;simp only[List.length_nil] at hi;refine⟨(a5b 103 i (by omega)).1,⟨.var _ (a5b 117 k (by omega)).1,by rw[b8d];omega⟩,by simp only[hyd];exact gr,by simp only[hyd];omega⟩)
 simp only[List.length_nil] at gv2;have hal2:aq.length≤12000:=by omega
 refine⟨hn,hd,⟨by simp only[];omega,by simp only[];omega⟩,⟨hg,by simp only[cxD];omega⟩,⟨by simp[cxD];omega,fun u hu=>?_⟩,⟨by simp only[cxD];omega,w2m⟩,⟨by simp only[cxD];rw[gv2.2];omega,gv2.1⟩,⟨by simp[cxD];omega,fun u hu=>?_⟩⟩
 · obtain⟨i,hi,rfl⟩:=List.mem_map.1 hu;have:=List.mem_range.1 hi;exact (a5b 117 i (by omega)).1
 · obtain⟨y,hy,rfl⟩:=List.mem_map.1 hu;have:=az' y hy;obtain⟨gr,sr⟩:=e1b (names.zip D2) y (a2 y hy).1 (by omega) fun p hp=>(hzm p hp).2;exact⟨gr,by omega⟩
def cD(t:Ty):List UInt8:=(prR (3*(d2s t).sz) .pr (d2s t)).getD []
theorem c1f(t:Ty)(hg:GT t)(hb:t.sz<20000):den E 86 [tyV t] []=some (.str (cD t),[])∧(cD t).length≤800000:=by
 have df:=b2y t (.inl hg) (by omega);have hle:=a2v _ t (Nat.le_refl _) [] [];simp only[List.length_nil,Nat.zero_add] at hle;have hp:t.sz*((a0n t [] []).length+1)≤20000*20001:=Nat.mul_le_mul (by omega) (by omega);obtain⟨d,g,hs,_⟩:=e4s 120 (a0n t [] []) (by omega) _ t (Nat.le_refl _) hg (by omega) [] 0 (fun p hp=>by cases hp) (by simp;omega) (by omega);obtain⟨s,hl,hp⟩:=f5w g (by omega);unfold cD d2s;rw[hp _ (Nat.le_refl _),Option.getD_some];have dp:=e7o _ _ s (by omega) (hp _ (Nat.le_refl _));refine⟨?_,by omega⟩;generalize (a6t 120 (a0n t [] []) t.sz t [] 0).1=y at d dp;generalize (a6t 120 (a0n t [] []) t.sz t [] 0).2=k' at d;rw[a0d i6h,j0a];rw[a0a] at d df dp⊢;have f0:b0i []=[]:=rfl;have t0:toV []=[]:=rfl;rw[f0,t0,a0a,show ((0:Nat):Int)=0 from rfl] at d;simp only[go_sem,Tryz.f86,df,d,dp]
theorem h3c{t u:Ty}(ht:GT t)(hu:GT u)(hub:u.sz<20000)(h:sm t=sm u):cD t=cS u:=by
 unfold cD cS;rw[e2d ht hu hub h]
def ty2:List Gv→List UInt8→List UInt8
 | [],s=>s
 | g::r,s=>ty2 r (s++[59,32]++g.name++[58,32]++cD g.l++[32,126,32]++cD g.r)
def ty3:List Ty→List UInt8→List UInt8
 | [],s=>s
 | t::r,s=>ty3 r (s++[59,32]++cD t)
def e0m(c:CX):List UInt8:=ty3 c.args (ty2 c.givens (tx1 c.exis (tx1 c.univ (c.name++[32]++c.data++[32]++Lib.itoa c.tag++[32]++cD c.ty)++[59])))
theorem f5d(c:CX)(h:OkX c):den E 29 [.agg (xcC c)] []=some (.str (e0m c),[]):=by
 obtain⟨k1,k2,⟨k3,k3'⟩,⟨k4,k4'⟩,⟨k5,k5'⟩,⟨k6,k6'⟩,⟨k7,k7'⟩,⟨k8,k8'⟩⟩:=h;obtain⟨tg,htg⟩:∃n:Nat,c.tag=n:=⟨c.tag.toNat,by omega⟩
 have d1:=a4h tg (by omega);obtain⟨dc,lc⟩:=c1f c.ty k4 k4';have li:=a9p 8 tg (by
  have e:(10:Nat) ^ (8+1)=1000000000:=by decide
  omega)
 rw[a0a] at dc;rw[a0d i7b,j0s];obtain⟨fin,hfin⟩:∃fin,fin=(some (.str (e0m c),[]):Option (AVal×a2z)):=⟨_,rfl⟩
 rw[←hfin];unfold e0m at hfin;rw[htg] at hfin;have l1:(c.name.length+1≤a0q)=True:=sle (by omega);have l2:((c.name++[32]).length+c.data.length≤a0q)=True:=sle (by simp;omega);have l3:((c.name++[32]++c.data).length+1≤a0q)=True:=sle (by simp;omega);have l4:((c.name++[32]++c.data++[32]).length+(Lib.itoa (tg:Int)).length≤a0q)=True:=sle (by simp;omega);have l5:((c.name++[32]++c.data++[32]++Lib.itoa (tg:Int)).length+1≤a0q)=True:=sle (by simp;omega);have l6:((c.name++[32]++c.data++[32]++Lib.itoa (tg:Int)++[32]).length+(cD c.ty).length≤a0q)=True:=sle (by simp;omega);have hb0:(c.name++[32]++c.data++[32]++Lib.itoa (tg:Int)++[32]++cD c.ty).length≤1000000:=by simp;omega
 simp only[go_sem,Tryz.f29,xcC,htg,d1,dc,l1,l2,l3,l4,l5,l6];generalize (c.name++[32]++c.data++[32]++Lib.itoa (tg:Int)++[32]++cD c.ty)=S0 at hfin hb0⊢;obtain⟨T1,hT1⟩:∃T1,T1=tx1 c.univ S0:=⟨_,rfl⟩
 rw[←hT1] at hfin;clear l1 l2 l3 l4 l5 l6 d1 dc lc li;refine a0p (fun a:TxS=>a.i≤c.univ.length∧tx1 (c.univ.drop a.i) a.s=T1∧a.s.length≤1000000+17*a.i) (fun a=>⟨[(1,.ptr (.loc 1) 0),(3,.str a.s),(4,.int .i64 a.i)],[],[(1,xcC c)],1⟩) (fun _=>fin) (fun a=>c.univ.length - a.i) ⟨0,S0⟩ ⟨Nat.zero_le _,hT1.symm,by simp only;omega⟩ ?_ ?_
 · simp only[go_sem,xcC,htg]
 · rintro⟨i,s⟩ ⟨hi,hs,hl⟩ h;simp only at hi hs hl⊢
   by_cases hlt:i<c.univ.length
   · obtain⟨u,hu⟩:=a6u hlt;rw[a1z hu] at hs;have hs:tx1 (c.univ.drop (i+1)) (s++[32]++u)=T1:=hs;have lu:=k5' u (List.mem_of_getElem? hu);have w1:IntKind.i64.wrap ((i:Int)+1)=((i+1:Nat):Int):=a1c (i+1) (by omega);have l1:(s.length+1≤a0q)=True:=sle (by omega);have l2:((s++[32]).length+u.length≤a0q)=True:=sle (by simp;omega);simp only[go_sem,xcC,htg,List.length_map,a0f,decide_eq_true hlt,a0c,a0i,a4t,hu,l1,l2];refine h ⟨i+1,s++[32]++u⟩ _ ⟨show i+1≤c.univ.length by omega,hs,by simp;omega⟩ (show c.univ.length - (i+1)<c.univ.length - i by omega) ?_;simp only[go_sem,xcC,htg,w1]
   · have hie:i=c.univ.length:=by omega
     subst hie;rw[List.drop_length] at hs;have hs:s=T1:=hs;subst hs;have l1:(s.length+1≤a0q)=True:=sle (by omega);have hl1:(s++[59]).length≤3000000:=by simp;omega
     simp only[go_sem,xcC,htg,List.length_map,a0f,Nat.lt_irrefl,l1];clear h;generalize s++[59]=S1 at hfin hl1⊢;obtain⟨T2,hT2⟩:∃T2,T2=tx1 c.exis S1:=⟨_,rfl⟩
     rw[←hT2] at hfin;refine a0p (fun a:TxS=>a.i≤c.exis.length∧tx1 (c.exis.drop a.i) a.s=T2∧a.s.length≤3000000+17*a.i) (fun a=>⟨[(1,.ptr (.loc 1) 0),(3,.str a.s),(5,.int .i64 a.i)],[],[(1,xcC c)],1⟩) (fun _=>fin) (fun a=>c.exis.length - a.i) ⟨0,S1⟩ ⟨Nat.zero_le _,hT2.symm,by simp only;omega⟩ ?_ ?_
     · simp only[go_sem,xcC,htg]
     · rintro⟨i,s2⟩ ⟨hi2,hs2,hl2⟩ h;simp only at hi2 hs2 hl2⊢
       by_cases hlt:i<c.exis.length
       · obtain⟨u,hu⟩:=a6u hlt;rw[a1z hu] at hs2;have hs2:tx1 (c.exis.drop (i+1)) (s2++[32]++u)=T2:=hs2;have lu:=k6' u (List.mem_of_getElem? hu);have w1:IntKind.i64.wrap ((i:Int)+1)=((i+1:Nat):Int):=a1c (i+1) (by omega);have l1:(s2.length+1≤a0q)=True:=sle (by omega);have l2:((s2++[32]).length+u.length≤a0q)=True:=sle (by simp;omega);simp only[go_sem,xcC,htg,List.length_map,a0f,decide_eq_true hlt,a0c,a0i,a4t,hu,l1,l2];refine h ⟨i+1,s2++[32]++u⟩ _ ⟨show i+1≤c.exis.length by omega,hs2,by simp;omega⟩ (show c.exis.length - (i+1)<c.exis.length - i by omega) ?_;simp only[go_sem,xcC,htg,w1]
       · have hie:i=c.exis.length:=by omega
         subst hie;rw[List.drop_length] at hs2;have hs2:s2=T2:=hs2;subst hs2;have hl3:s2.length≤5000000:=by omega
         simp only[go_sem,xcC,htg,List.length_map,a0f,Nat.lt_irrefl];clear h hl2;obtain⟨T3,hT3⟩:∃T3,T3=ty2 c.givens s2:=⟨_,rfl⟩
         rw[←hT3] at hfin;refine a0p (fun a:TxS=>a.i≤c.givens.length∧ty2 (c.givens.drop a.i) a.s=T3∧a.s.length≤5000000+1700000*a.i) (fun a=>⟨[(1,.ptr (.loc 1) 0),(3,.str a.s),(6,.int .i64 a.i)],[],[(1,xcC c)],1⟩) (fun _=>fin) (fun a=>c.givens.length - a.i) ⟨0,s2⟩ ⟨Nat.zero_le _,hT3.symm,by simp only;omega⟩ ?_ ?_
         · simp only[go_sem,xcC,htg]
         · rintro⟨i,s3⟩ ⟨hi3,hs3,hl4⟩ h;simp only at hi3 hs3 hl4⊢
           by_cases hlt:i<c.givens.length
           · obtain⟨g,hu⟩:=a6u hlt;rw[a1z hu] at hs3;have hs3:ty2 (c.givens.drop (i+1)) (s3++[59,32]++g.name++[58,32]++cD g.l++[32,126,32]++cD g.r)=T3:=hs3;obtain⟨lu,⟨gl,gl'⟩,gr,gr'⟩:=k7' g (List.mem_of_getElem? hu);obtain⟨dl,ll⟩:=c1f g.l gl gl';obtain⟨dr,lr⟩:=c1f g.r gr gr';rw[a0a] at dl dr;have w1:IntKind.i64.wrap ((i:Int)+1)=((i+1:Nat):Int):=a1c (i+1) (by omega);have l1:(s3.length+2≤a0q)=True:=sle (by omega);have l2:((s3++[59,32]).length+g.name.length≤a0q)=True:=sle (by simp;omega);have l3:((s3++[59,32]++g.name).length+2≤a0q)=True:=sle (by simp;omega);have l4:((s3++[59,32]++g.name++[58,32]).length+(cD g.l).length≤a0q)=True:=sle (by simp;omega);have l5:((s3++[59,32]++g.name++[58,32]++cD g.l).length+3≤a0q)=True:=sle (by simp;omega);have l6:((s3++[59,32]++g.name++[58,32]++cD g.l++[32,126,32]).length+(cD g.r).length≤a0q)=True:=sle (by simp;omega);simp only[go_sem,xcC,htg,List.length_map,a0f,decide_eq_true hlt,a0c,a0i,j8c,hu,e5o,dl,dr,l1,l2,l3,l4,l5,l6];refine h ⟨i+1,s3++[59,32]++g.name++[58,32]++cD g.l++[32,126,32]++cD g.r⟩ _ ⟨show i+1≤c.givens.length by omega,hs3,by simp;omega⟩ (show c.givens.length - (i+1)<c.givens.length - i by omega) ?_;simp only[go_sem,xcC,htg,w1]
           · have hie:i=c.givens.length:=by omega
             subst hie;rw[List.drop_length] at hs3;have hs3:s3=T3:=hs3;subst hs3;have hl5:s3.length≤200000000000:=by omega
             simp only[go_sem,xcC,htg,List.length_map,a0f,Nat.lt_irrefl];clear h hl4;obtain⟨T4,hT4⟩:∃T4,T4=ty3 c.args s3:=⟨_,rfl⟩
             rw[←hT4] at hfin;have rl:=a1k c.args;refine a0p (fun a:TxS=>a.i≤c.args.length∧ty3 (c.args.drop a.i) a.s=T4∧a.s.length≤200000000000+900000*a.i) (fun a=>⟨[(1,.ptr (.loc 1) 0),(3,.str a.s),(7,.int .i64 a.i)],[],[(1,xcC c)],1⟩) (fun _=>fin) (fun a=>c.args.length - a.i) ⟨0,s3⟩ ⟨Nat.zero_le _,hT4.symm,by simp only;omega⟩ ?_ ?_
             · simp only[go_sem,xcC,htg]
             · rintro⟨i,s4⟩ ⟨hi4,hs4,hl6⟩ h;simp only at hi4 hs4 hl6⊢
               by_cases hlt:i<c.args.length
               · obtain⟨t,hu⟩:=a6u hlt;rw[a1z hu] at hs4;have hs4:ty3 (c.args.drop (i+1)) (s4++[59,32]++cD t)=T4:=hs4;obtain⟨gt,gt'⟩:=k8' t (List.mem_of_getElem? hu);obtain⟨dl,ll⟩:=c1f t gt gt';rw[a0a] at dl;have w1:IntKind.i64.wrap ((i:Int)+1)=((i+1:Nat):Int):=a1c (i+1) (by omega);have l1:(s4.length+2≤a0q)=True:=sle (by omega);have l2:((s4++[59,32]).length+(cD t).length≤a0q)=True:=sle (by simp;omega);simp only[go_sem,xcC,htg,rl,a0f,decide_eq_true hlt,a0c,a0i,a4r,hu,a0a,dl,l1,l2];refine h ⟨i+1,s4++[59,32]++cD t⟩ _ ⟨show i+1≤c.args.length by omega,hs4,by simp;omega⟩ (show c.args.length - (i+1)<c.args.length - i by omega) ?_;simp only[go_sem,xcC,htg,w1]
               · have hie:i=c.args.length:=by omega
                 subst hie;rw[List.drop_length] at hs4;have hs4:s4=T4:=hs4;subst hs4;simp only[go_sem,xcC,htg,rl,a0f,Nat.lt_irrefl];rw[hfin]
theorem h6z:∀(l l':List Gv) (s:List UInt8),l.map gvM=l'.map gvM→(∀g∈l,(GT g.l∧g.l.sz<20000)∧GT g.r∧g.r.sz<20000)→(∀g∈l',(GT g.l∧g.l.sz<20000)∧GT g.r∧g.r.sz<20000)→tx2 l s=ty2 l' s
 | [],[],s,_,_,_=>rfl
 | [],_::_,_,e,_,_=>by simp at e
 | _::_,[],_,e,_,_=>by simp at e
 | g::r,g'::r',s,e,h1,h2=>by
  rw[List.map_cons,List.map_cons] at e;injection e with e1 e2;simp only[gvM,Prod.mk.injEq] at e1;obtain⟨⟨a1,a2⟩,a3,a4⟩:=h1 g (List.mem_cons_self ..);obtain⟨⟨b1,b2⟩,b3,b4⟩:=h2 g' (List.mem_cons_self ..);rw[tx2,ty2,e1.1,h3c b1 a1 a2 e1.2.1.symm,h3c b3 a3 a4 e1.2.2.symm];exact h6z r r' _ e2 (fun x hx=>h1 x (List.mem_cons_of_mem _ hx)) (fun x hx=>h2 x (List.mem_cons_of_mem _ hx))
theorem h6y:∀(l l':List Ty) (s:List UInt8),l.map sm=l'.map sm→(∀t∈l,GT t∧t.sz<20000)→(∀t∈l',GT t∧t.sz<20000)→tx3 l s=ty3 l' s
 | [],[],s,_,_,_=>rfl
 | [],_::_,_,e,_,_=>by simp at e
 | _::_,[],_,e,_,_=>by simp at e
 | t::r,u::r',s,e,h1,h2=>by
  rw[List.map_cons,List.map_cons] at e;injection e with e1 e2;obtain⟨a1,a2⟩:=h1 t (List.mem_cons_self ..);obtain⟨b1,b2⟩:=h2 u (List.mem_cons_self ..);rw[tx3,ty3,h3c b1 a1 a2 e1.symm];exact h6y r r' _ e2 (fun x hx=>h1 x (List.mem_cons_of_mem _ hx)) (fun x hx=>h2 x (List.mem_cons_of_mem _ hx))
theorem f4a{x y:CX}(h:SameX x y)(hx:OkX x)(hy:OkX y):e0l x=e0m y:=by
 unfold e0l e0m;rw[h.nm,h.dt,h.un,h.ex,show max 0 x.tag=y.tag by rw[←h.tag];have:=hx.tag.1;omega,h3c (t:=y.ty) (u:=x.ty) hy.ty.1 hx.ty.1 hx.ty.2 (by rw[h.ty])];rw[h6z _ _ _ h.gv (fun g hg=>(hx.gv.2 g hg).2) (fun g hg=>(hy.gv.2 g hg).2)];exact h6y _ _ _ h.ar hx.ar.2 hy.ar.2
def c1a(l:List De):List (List UInt8):=l.flatMap fun d=>d.cons.map Co.name
theorem h7a{o:List (List UInt8)}{all:List (List UInt8)}:∀(r:List (List UInt8)) (i:Nat),all.drop i=r→(twR all o r i).2=false→∀(j:Nat) (x:List UInt8),i≤j→all[j]? =some x→x∉all.take j∧x∉o
 | [],i,hd,_,j,x,hj,hx=>by
  have h1:=(List.getElem?_eq_some_iff.1 hx).1;have:=congrArg List.length hd;simp at this;omega
 | y::r,i,hd,h,j,x,hj,hx=>by
  have hy:all[i]? =some y:=by
   have:=congrArg (fun l=>l[0]?) hd;simpa using this
  have hd2:all.drop (i+1)=r:=by
   have:=congrArg List.tail hd;simpa using this
  unfold twR at h;split at h
  · cases h
  · rename_i hc
    by_cases hji:j=i
    · subst hji;rw[hx] at hy;injection hy with hy;subst hy;simpa using hc
    · exact h7a r (i+1) hd2 h j x (by omega) hx
theorem g4v{o all:List (List UInt8)}(h:(twR all o all 0).2=false):all.Nodup∧∀x∈all,x∉o:=by
 have k:=h7a all 0 (by simp) h;refine⟨?_,fun x hx=>?_⟩
 · refine List.pairwise_iff_getElem.2 fun i j hi hj hij e=>?_;exact (k j all[j] (Nat.zero_le _) (List.getElem?_eq_getElem hj)).1 (List.mem_take_iff_getElem.2 ⟨i,by omega,e⟩)
 · obtain⟨i,hi⟩:=b9f hx;exact (k i x (Nat.zero_le _) hi).2
theorem g3h:∀(l:List De) (T T':Tab),(∀d∈l,(d.kind==1)=false→d.cons=[])→b6e T l=.ok T'→(c1a l).Nodup∧∀x∈c1a l,x∉T.cons
 | [],_,_,_,_=>⟨List.nodup_nil,fun x hx=>(by cases hx)⟩
 | d::r,T,T',hk,h=>by
  rw[b6e] at h;split at h
  · cases h
  · rename_i hc;obtain⟨i1,i2⟩:=g3h r _ _ (fun e he=>hk e (List.mem_cons_of_mem _ he)) h;have e:c1a (d::r)=d.cons.map Co.name++c1a r:=rfl;rw[e];cases k1:d.kind==1
    · have hd:=hk d (List.mem_cons_self ..) k1;have hT:∀x∈T.cons,x∈(b3g T d).2.cons:=fun x hx=>by
       unfold b3g;split
       · exact hx
       · split
         · exact hx
         · split
           · exact hx
           · split
             · exact hx
             · exact List.mem_append_left _ hx
      rw[hd,List.map_nil,List.nil_append];exact⟨i1,fun x hx hm=>i2 x hx (hT x hm)⟩
    · have k2:(d.kind==2)=false:=by
       have:d.kind=1:=by simpa using k1
       rw[this];rfl
      have k3:(d.kind==3)=false:=by
       have:d.kind=1:=by simpa using k1
       rw[this];rfl
      unfold b3g at hc i2;rw[k2,k3] at hc i2;simp only[Bool.false_eq_true,if_false] at hc i2;split at hc
      · rename_i h3;exact absurd h3 (by simpa using hc)
      · rename_i h3;rw[if_neg h3] at i2;split at hc
        · rename_i h6;exact absurd h6 (by simpa using hc)
        · rename_i h6;rw[if_neg h6] at i2;obtain⟨t1,t2⟩:=g4v (by simpa using hc:(twR (d.cons.map Co.name) T.cons (d.cons.map Co.name) 0).2=false);refine⟨List.nodup_append.2 ⟨t1,i1,fun x hx y hy hxy=>?_⟩,fun x hx=>?_⟩
          · subst hxy;exact i2 x hy (List.mem_append_right _ hx)
          · rcases List.mem_append.1 hx with hx|hx
            · exact t2 x hx
            · exact fun hm=>i2 x hx (List.mem_append_left _ hm)
theorem h2q{l:List De}(h:(h2r l).2=0)(hk:∀d∈l,(d.kind==1)=false→d.cons=[]):(c1a l).Nodup:=by
 unfold h2r h7y at h;split at h
 · exact absurd h (by simp)
 · rename_i T hT;exact (g3h l _ _ hk hT).1
def k6c(m:c4k)(x:CX):Prop:=∃z,a2a x.name m=some z∧SameX z x∧OkX z∧OkX x
theorem SameX.tagged{x y:CX}(h:SameX x y)(k:Int):SameX {x with tag:=k} {y with tag:=k}:=⟨h.nm,h.dt,rfl,h.ty,h.un,h.ex,h.gv,h.ar⟩
theorem e6f{l:List De}(hu:b0z [] l)(d:De)(hd:d.name.length≤16):∀(cs:List Co) (i:Nat) (m:c4k) (out:List CX),(∀c∈cs,GT c.ty∧c.ty.sz<12000∧c.name.length≤16)→i+cs.length≤1000000→
 (∃e,e.2≠0∧b9l (arU l) d cs i m=.inl e∧c3a l d cs i out=.inl e)∨∃m' o,b9l (arU l) d cs i m=.inr m'∧c3a l d cs i out=.inr (out++o)∧o.map CX.name=cs.map Co.name∧(∀n,n∉cs.map Co.name→a2a n m'=a2a n m)∧((cs.map Co.name).Nodup→∀x∈o,k6c m' x)
 | [],i,m,out,_,_=>.inr ⟨m,[],rfl,by rw[List.append_nil];rfl,rfl,fun _ _=>rfl,fun _ x hx=>(by cases hx)⟩
 | c::r,i,m,out,hg,hi=>by
  obtain⟨g1,g2,g3⟩:=hg c (List.mem_cons_self ..);simp only[List.length_cons] at hi;rw[b7m,c2z,←g0j hu];cases hz:b3b (arU l) c.ty==0
  · refine .inl ⟨(c.name,b3b (arU l) c.ty),by simpa using hz,?_,?_⟩<;>simp
  · simp only[if_true];have hs:=f7p d c g1 g2;have hcl:=i8k (arU l) g1 (by simpa using hz);cases hm:b3s d c with
    | none=>
     rw[hm] at hs;rw[←hs];refine .inl ⟨(c.name,112),show (112:Int)≠0 by decide,?_,?_⟩<;>simp
    | some x=>
     obtain⟨y,hy,hxy,hoy⟩:=h0b d c g1 g2 hcl g3 hd hm;have hox:=f7q d c g1 g2 g3 hd x hm i (by omega);obtain⟨x1,_⟩:=e8o hm;rw[hy];simp only[if_true];have hyn:y.name=c.name:=by rw[←hxy.nm,x1]
     rcases e6f hu d hd r (i+1) (b4i c.name {x with tag:=(i:Int)} m) (out++[{y with tag:=(i:Int)}]) (fun z hz=>hg z (List.mem_cons_of_mem _ hz)) (by omega) with⟨e,e0,e1,e2⟩| ⟨m',o,e1,e2,e3,e4,e5⟩
     · exact .inl ⟨e,e0,e1,e2⟩
     · refine .inr ⟨m',{y with tag:=(i:Int)}::o,e1,by rw[e2,List.append_assoc,List.singleton_append],by rw[List.map_cons,List.map_cons,e3,hyn],fun n hn=>?_,fun hnd z hz=>?_⟩
       · rw[List.map_cons,List.mem_cons,not_or] at hn;rw[e4 n hn.2,c0o,if_neg hn.1]
       · rw[List.map_cons,List.nodup_cons] at hnd;rcases List.mem_cons.1 hz with rfl|hz
         · refine⟨{x with tag:=(i:Int)},?_,hxy.tagged _,hox,hoy i (by omega)⟩;show a2a y.name m'=_
           rw[hyn,e4 _ hnd.1,c0o,if_pos rfl]
         · exact e5 hnd.2 z hz
theorem e2a{q:List De}(hu:b0z [] q):∀(l:List De) (m:c4k) (out:List CX),(∀d∈l,d.name.length≤16∧d.cons.length≤1000000∧∀c∈d.cons,GT c.ty∧c.ty.sz<12000∧c.name.length≤16)→(c1a l).Nodup→
 (∃e,e.2≠0∧g4o (arU q) l m=.inl e∧g4p q l out=.inl e)∨∃m' o,g4o (arU q) l m=.inr m'∧g4p q l out=.inr (out++o)∧o.map CX.name=c1a l∧(∀n,n∉c1a l→a2a n m'=a2a n m)∧∀x∈o,k6c m' x
 | [],m,out,_,_=>.inr ⟨m,[],rfl,by rw[List.append_nil];rfl,rfl,fun _ _=>rfl,fun x hx=>(by cases hx)⟩
 | d::r,m,out,hg,hnd=>by
  have hc:c1a (d::r)=d.cons.map Co.name++c1a r:=rfl;rw[hc] at hnd⊢;obtain⟨n1,n2,n3⟩:=List.nodup_append.1 hnd;obtain⟨g1,g2,g3⟩:=hg d (List.mem_cons_self ..);rw[c8q,d9l,←g0j hu];split
  · rename_i hb;refine .inl ⟨(d.name,b3b (arU q) d.ty),?_,rfl,rfl⟩;simp only[Bool.and_eq_true] at hb;simpa using hb.2
  · rcases e6f hu d g1 d.cons 0 m out g3 (by omega) with⟨e,e0,e1,e2⟩| ⟨m2,o1,e1,e2,e3,e4,e5⟩
    · rw[e1,e2];exact .inl ⟨e,e0,rfl,rfl⟩
    · rw[e1,e2];simp only;rcases e2a hu r m2 (out++o1) (fun x hx=>hg x (List.mem_cons_of_mem _ hx)) n2 with⟨e,f0,f1,f2⟩| ⟨m',o2,f1,f2,f3,f4,f5⟩
      · exact .inl ⟨e,f0,f1,f2⟩
      · refine .inr ⟨m',o1++o2,f1,by rw[f2,List.append_assoc],by rw[List.map_append,e3,f3],fun n hn=>?_,fun x hx=>?_⟩
        · rw[List.mem_append,not_or] at hn;rw[f4 n hn.2,e4 n hn.1]
        · rcases List.mem_append.1 hx with hx|hx
          · obtain⟨z,z1,z2⟩:=e5 n1 x hx;refine⟨z,?_,z2⟩;rw[←z1];have hxn:x.name∈d.cons.map Co.name:=by rw[←e3];exact List.mem_map.2 ⟨x,hx,rfl⟩
            exact f4 _ fun hm=>n3 _ hxn _ hm rfl
          · exact f5 x hx
theorem i7t{l:List De}(hu:b0z [] l)(hg:∀d∈l,d.name.length≤16∧d.cons.length≤1000000∧∀c∈d.cons,GT c.ty∧c.ty.sz<12000∧c.name.length≤16)(hnd:(c1a l).Nodup):(∃e,e.2≠0∧d4t l=.inl e∧j1o l=.inl e)∨∃m out,d4t l=.inr m∧j1o l=.inr out∧∀x∈out,k6c m x:=by
 rcases e2a hu l [] [] hg hnd with⟨e,e0,e1,e2⟩| ⟨m,o,e1,e2,_,_,e5⟩
 · exact .inl ⟨e,e0,e1,e2⟩
 · exact .inr ⟨m,o,e1,by unfold j1o;rw[e2,List.nil_append],e5⟩
theorem f5x(s:List UInt8):den E 5 [.str s] []=some (.bool true,[]):=by
 have ha:=g4c;obtain⟨p,hp⟩:=e8e s;have dr:=e3v hp;unfold g5y at dr;rw[a0d j7m,j8m];cases h0:(p.2 !=0)
 · rw[h0] at dr;simp only[Bool.false_eq_true,if_false] at dr;cases hc:(h2r p.1).2==0
   · rw[hc] at dr;simp only[go_sem,Tryz.f5,ha,dr]
   · rw[hc] at dr;have h00:p.2=0:=by rw[b6k] at h0;simpa using h0
     have key:=c2f hp h00;have dn:=f6w p.1 key.1 key.2;have drn:=e8a p.1 key.1 key.2;have hu:=h2p (l:=p.1) (by simpa using hc);have hemp:∀d∈p.1,(d.kind==1)=false→d.cons=[]:=fun d hd hk=>by
      have hgd:=key.1 d hd;cases hgd with
      | data s vs cs _ _ h3=>cases hk
      | sig _ _ _ _=>rfl
      | bind _ _ _ _=>rfl
     have hnd:=h2q (l:=p.1) (by simpa using hc) hemp;have hcon:∀d∈p.1,d.name.length≤16∧d.cons.length≤1000000∧∀c∈d.cons,GT c.ty∧c.ty.sz<12000∧c.name.length≤16:=fun d hd=>by
      have hm:=b0a hd;have h2:=b0c d.val;have h3:=key.2;unfold De.tot at hm;obtain⟨g1,g2⟩:=g0k (key.1 d hd);refine⟨g1,by omega,fun c hcm=>?_⟩;have h1:c.ty.sz≤Ty.szs (d.cons.map Co.ty):=c2y hcm;exact⟨(g2 c hcm).2,by omega,(g2 c hcm).1⟩
     have hlen:=b3f p.1;rcases i7t hu hcon hnd with⟨e,e0,e1,e2⟩| ⟨m,out,e1,e2,e3⟩
     · rw[e1] at dn;rw[e2] at drn;unfold i7u at dn;unfold f6x at drn;simp only at dn drn;have hne:(e.2 !=0)=true:=by simpa using e0
       have hn1:(e.1 !=e.1)=false:=by simp
       have hn2:(e.2 !=e.2)=false:=by simp
       simp only[go_sem,Tryz.f5,ha,dr,dn,drn,hne,hn2];refine a0p (fun _:Nat=>True) (fun _=>⟨[(3,.bool true),(7,.nilp),(10,.slice []),(13,.int .i64 0)],[],[],1⟩) (fun _=>some (.bool true,[])) (fun i=>i) 0 trivial ?_ ?_
       · simp only[go_sem]
       · intro i _ h;simp only[go_sem]
     · rw[e1] at dn;rw[e2] at drn;unfold i7u b2o at dn;unfold f6x at drn;simp only at dn drn;have hol:out.length≤12000:=by
        have h1:=(e2a hu p.1 [] [] hcon hnd)
        have:out.length≤De.sum p.1:=by
         have hdd:g4p p.1 p.1 []=.inr out:=e2;rcases h1 with⟨e,_,_,q⟩| ⟨m2,o2,_,q,q3,_,_⟩
         · rw[hdd] at q;cases q
         · rw[hdd,List.nil_append] at q;injection q with q;subst q;have h5:=congrArg List.length q3;rw[List.length_map] at h5;have h6:∀l:List De,(c1a l).length≤De.sum l:=by
            intro l
            induction l with
            | nil=>exact Nat.zero_le _
            | cons d r ih=>
             have g1:c1a (d::r)=d.cons.map Co.name++c1a r:=rfl;have g2:De.sum (d::r)=d.tot+De.sum r:=by simp[De.sum]
             have g3:d.cons.length≤d.tot:=by unfold De.tot;omega
             rw[g1,g2,List.length_append,List.length_map];omega
           have:=h6 p.1;omega
        have:=key.2;omega
       have hne:((0:Int)!=0)=false:=rfl;have hn1:(([]:List UInt8)!=[])=false:=rfl;generalize arU p.1=ar at *;generalize csU p.1=cs at *;obtain⟨fin,hfin⟩:∃fin,fin=(some (.bool true,[]):Option (AVal×a2z)):=⟨_,rfl⟩
       rw[←hfin];simp only[go_sem,Tryz.f5,ha,dr,dn,drn,hne];refine a0p (fun i:Nat=>i≤out.length) (fun i=>⟨[(3,.bool true),(7,.ptr (.loc 29) 0),(10,.slice (out.map c1b)),(13,.int .i64 i)],[],[(29,b2o ar (b3e lsA cs) (b3e c1b m))],1⟩) (fun _=>fin) (fun i=>out.length - i) 0 (Nat.zero_le _) ?_ ?_
       · simp only[go_sem,b2o]
       · intro i hi h
         by_cases hlt:i<out.length
         · obtain⟨x,hx⟩:=a6u hlt;obtain⟨z,hz,hzx,oz,ox⟩:=e3 x (List.mem_of_getElem? hx);have w1:IntKind.i64.wrap ((i:Int)+1)=((i+1:Nat):Int):=a1c (i+1) (by omega);have hxl:(out.map c1b)[i]? =some (c1b x):=by simp[hx]
           have g1:=e2s ar (b3e lsA cs) m x.name;have g2:=d9r z oz;have g3:=f5d x ox;rw[hz] at g1;rw[f4a hzx oz ox] at g2;unfold b2o at g1;simp only[xcC] at g1 g2 g3;have hts:(e0m x !=e0m x)=false:=by simp
           simp only[go_sem,List.length_map,a0f,decide_eq_true hlt,a0c,a0i,hxl,c1b,xcC,b2o,g1,g2,g3];refine h (i+1) _ (by omega) (by omega) ?_;simp only[go_sem,w1,b2o]
         · have hie:i=out.length:=by omega
           subst hie;simp only[go_sem,List.length_map,a0f,Nat.lt_irrefl,b2o];exact hfin.symm
 · rw[h0] at dr;simp only[if_true] at dr;simp only[go_sem,Tryz.f5,ha,dr]
end Go.Proofs
