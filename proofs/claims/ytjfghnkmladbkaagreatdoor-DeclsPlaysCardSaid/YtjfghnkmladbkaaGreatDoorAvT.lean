/- What a type means: bound names by levels, free names by a table; what renaming, putting, peeling and canonical names do to it. -/
import Derived.Test.YtjfghnkmladbkaaGreatDoorAvK
import Derived.Test.YtjfghnkmladbkaaGreatDoorAvL
import Derived.Test.YtjfghnkmladbkaaGreatDoorAvR
import Derived.Test.YtjfghnkmladbkaaGreatDoorAvS
namespace Go.Proofs
open Go.Av
set_option maxHeartbeats 4000000
inductive Dt where
 | fv (s:List UInt8)
 | bl (k:Nat)
 | mt (n:Int)
 | nd (k:Int) (s:List UInt8) (l:List Dt)
abbrev b2p:=List UInt8→Dt
def upd(ρ:b2p)(a:List UInt8)(v:Dt):b2p:=fun s=>if s=a then v else ρ s
theorem a1s(ρ:b2p)(a:List UInt8)(v:Dt):upd ρ a v a=v:=if_pos rfl
theorem a2w{ρ:b2p}{a s:List UInt8}{v:Dt}(h:s≠a):upd ρ a v s=ρ s:=if_neg h
theorem d6s(ρ:b2p)(a:List UInt8)(u v:Dt):upd (upd ρ a u) a v=upd ρ a v:=by
 funext s;unfold upd;split<;>rfl
theorem d3b(ρ:b2p){a b:List UInt8}(h:a≠b)(u v:Dt):upd (upd ρ a u) b v=upd (upd ρ b v) a u:=by
 funext s;unfold upd
 by_cases h1:s=a
 · subst h1;rw[if_neg h,if_pos rfl,if_pos rfl]
 · rw[if_neg h1,if_neg h1]
mutual
def sem:Ty→b2p→(Int→Dt)→Nat→Dt
 | .mk k s n a,ρ,μ,d=>if k==1 then ρ s else if k==2 then μ n else if k==5 then .nd 5 [] (e0f a (upd ρ s (.bl d)) μ (d+1)) else .nd k s (e0f a ρ μ d)
def e0f:List Ty→b2p→(Int→Dt)→Nat→List Dt
 | [],_,_,_=>[]
 | t::r,ρ,μ,d=>sem t ρ μ d::e0f r ρ μ d
end
section
variable(ρ:b2p)(μ:Int→Dt)(d:Nat)
theorem a3d(s:List UInt8)(n:Int)(a:List Ty):sem (.mk 1 s n a) ρ μ d=ρ s:=by simp[sem]
theorem a4g(s:List UInt8)(n:Int)(a:List Ty):sem (.mk 2 s n a) ρ μ d=μ n:=by simp[sem]
theorem a5a(s:List UInt8)(n:Int)(a:List Ty):sem (.mk 3 s n a) ρ μ d=.nd 3 s (e0f a ρ μ d):=by simp[sem]
theorem a7f(s:List UInt8)(n:Int)(a:List Ty):sem (.mk 4 s n a) ρ μ d=.nd 4 s (e0f a ρ μ d):=by simp[sem]
theorem a3i(s:List UInt8)(n:Int)(a:List Ty):sem (.mk 5 s n a) ρ μ d=.nd 5 [] (e0f a (upd ρ s (.bl d)) μ (d+1)):=by simp[sem]
theorem a1o:e0f [] ρ μ d=[]:=by simp[e0f]
theorem a0r(t:Ty)(r:List Ty):e0f (t::r) ρ μ d=sem t ρ μ d::e0f r ρ μ d:=by simp[e0f]
theorem a2u(l:List Ty):e0f l ρ μ d=l.map fun t=>sem t ρ μ d:=by
 induction l with
 | nil=>exact a1o ρ μ d
 | cons t r ih=>rw[a0r,ih];rfl
end
mutual
def fvB:Ty→List UInt8→Bool
 | .mk k s _ a,x=>if k==1 then s==x else if k==5 then (d1u a x&& !(s==x)) else d1u a x
def d1u:List Ty→List UInt8→Bool
 | [],_=>false
 | t::r,x=>fvB t x||d1u r x
end
mutual
def mvB:Ty→Int→Bool
 | .mk k _ n a,x=>if k==2 then n==x else d8g a x
def d8g:List Ty→Int→Bool
 | [],_=>false
 | t::r,x=>mvB t x||d8g r x
end
section
variable(x:List UInt8)(m:Int)
theorem c8d(s:List UInt8)(n:Int)(a:List Ty):fvB (.mk 1 s n a) x=(s==x):=by simp[fvB]
theorem g0l(s:List UInt8)(n:Int):fvB (.mk 2 s n []) x=false:=by simp[fvB,d1u]
theorem c3w(s:List UInt8)(n:Int)(a:List Ty):fvB (.mk 3 s n a) x=d1u a x:=by simp[fvB]
theorem d5i(s:List UInt8)(n:Int)(a:List Ty):fvB (.mk 4 s n a) x=d1u a x:=by simp[fvB]
theorem c0w(s:List UInt8)(n:Int)(a:List Ty):fvB (.mk 5 s n a) x=(d1u a x&& !(s==x)):=by simp[fvB]
theorem a1y(t:Ty)(r:List Ty):d1u (t::r) x=(fvB t x||d1u r x):=by simp[d1u]
theorem a9q:d1u [] x=false:=by simp[d1u]
theorem d5j{l:List Ty}:d1u l x=true↔∃t,t∈l∧fvB t x=true:=by
 induction l with
 | nil=>simp[d1u]
 | cons t r ih=>rw[a1y,Bool.or_eq_true,ih];simp
theorem f6z(s:List UInt8)(n:Int):mvB (.mk 1 s n []) m=false:=by simp[mvB,d8g]
theorem d8e(s:List UInt8)(n:Int)(a:List Ty):mvB (.mk 2 s n a) m=(n==m):=by simp[mvB]
theorem e4x(s:List UInt8)(n:Int)(a:List Ty):mvB (.mk 3 s n a) m=d8g a m:=by simp[mvB]
theorem f7a(s:List UInt8)(n:Int)(a:List Ty):mvB (.mk 4 s n a) m=d8g a m:=by simp[mvB]
theorem d8f(s:List UInt8)(n:Int)(a:List Ty):mvB (.mk 5 s n a) m=d8g a m:=by simp[mvB]
theorem a5y(t:Ty)(r:List Ty):d8g (t::r) m=(mvB t m||d8g r m):=by simp[d8g]
theorem b3r:d8g [] m=false:=by simp[d8g]
theorem e4y{l:List Ty}:d8g l m=true↔∃t,t∈l∧mvB t m=true:=by
 induction l with
 | nil=>simp[d8g]
 | cons t r ih=>rw[a5y,Bool.or_eq_true,ih];simp
end
theorem b8x{t:Ty}(hg:GT t):∀ {ρ ρ':b2p} {μ μ':Int→Dt} {d:Nat},(∀s,fvB t s=true→ρ s=ρ' s)→(∀n,mvB t n=true→μ n=μ' n)→sem t ρ μ d=sem t ρ' μ' d:=by
 induction hg with
 | var s _=>intro ρ ρ' μ μ' d h1 _;rw[a3d,a3d];exact h1 s (by simp[c8d])
 | unk n _ _=>intro ρ ρ' μ μ' d _ h2;rw[a4g,a4g];exact h2 n (by simp[d8e])
 | con s a _ _ ih=>
  intro ρ ρ' μ μ' d h1 h2;rw[a5a,a5a,a2u,a2u]
  congr 1
  exact List.map_congr_left fun t ht=>ih t ht (fun s hs=>h1 s (by rw[c3w,d5j];exact⟨t,ht,hs⟩)) (fun n hn=>h2 n (by rw[e4x,e4y];exact⟨t,ht,hn⟩))
 | fn a b _ _ iha ihb=>
  intro ρ ρ' μ μ' d h1 h2;rw[a7f,a7f,a0r,a0r,a0r,a0r,a1o,a1o];rw[iha (fun s hs=>h1 s (by rw[d5i,a1y,hs];rfl)) (fun n hn=>h2 n (by rw[f7a,a5y,hn];rfl)),
   ihb (fun s hs=>h1 s (by rw[d5i,a1y,a1y,hs];simp)) (fun n hn=>h2 n (by rw[f7a,a5y,a5y,hn];simp))]
 | all s t _ _ ih=>
  intro ρ ρ' μ μ' d h1 h2;rw[a3i,a3i,a0r,a0r,a1o,a1o];rw[ih (ρ:=upd ρ s (.bl d)) (ρ':=upd ρ' s (.bl d)) (μ:=μ) (μ':=μ') (fun x hx=>?_) (fun n hn=>h2 n (by rw[d8f,a5y,hn];rfl))]
  by_cases he:x=s
  · subst he;rw[a1s,a1s]
  · rw[a2w he,a2w he];refine h1 x ?_;rw[c0w,a1y,hx];have:(s==x)=false:=beq_eq_false_iff_ne.2 fun e=>he e.symm;simp[this]
theorem e6v(l:List (List UInt8))(n x:List UInt8):x∈b2k l n↔x∈l∨x=n:=by
 unfold b2k;split
 · rename_i h;have h:n∈l:=by simpa using h
   constructor
   · exact fun hx=>.inl hx
   · rintro (hx|rfl)
     · exact hx
     · exact h
 · simp
theorem g0o{t:Ty}(hg:GT t):∀ {b acc:List (List UInt8)} {x:List UInt8},x∈a0n t b acc↔x∈acc∨(fvB t x=true∧x∉b):=by
 induction hg with
 | var s _=>
  intro b acc x;rw[a7t,c8d];simp only[Ty.args,a3h,a8w,Ty.kind,Ty.name,beq_self_eq_true,Bool.true_and];split
  · rename_i h;have h:s∉b:=by simpa using h
    rw[e6v];constructor
    · rintro (hx|rfl)
      · exact .inl hx
      · exact .inr ⟨by simp,h⟩
    · rintro (hx| ⟨hx,_⟩)
      · exact .inl hx
      · exact .inr (show s=x by simpa using hx).symm
  · rename_i h;have h:s∈b:=by simpa using h
    constructor
    · exact fun hx=>.inl hx
    · rintro (hx| ⟨hx,hb⟩)
      · exact hx
      · have:s=x:=by simpa using hx
        subst this;exact absurd h hb
 | unk n _ _=>
  intro b acc x;rw[a7t,g0l];simp[Ty.args,a3h,a8w,Ty.kind]
 | con s a _ hx ih=>
  intro b acc x;rw[a7t,c3w];simp only[Ty.args,Ty.kind,a8w,show ((3:Int)==1)=false from rfl,show ((3:Int)==5)=false from rfl,Bool.false_and,Bool.false_eq_true,if_false]
  induction a generalizing acc with
  | nil=>simp[a3h,d1u]
  | cons y r ihr=>
   rw[a3n,ihr (fun z hz=>hx z (List.mem_cons_of_mem _ hz)) (fun z hz=>ih z (List.mem_cons_of_mem _ hz)),ih y (List.mem_cons_self ..),a1y,Bool.or_eq_true];constructor
   · rintro ((h|h)|h)
     · exact .inl h
     · exact .inr ⟨.inl h.1,h.2⟩
     · exact .inr ⟨.inr h.1,h.2⟩
   · rintro (h| ⟨h|h,hb⟩)
     · exact .inl (.inl h)
     · exact .inl (.inr ⟨h,hb⟩)
     · exact .inr ⟨h,hb⟩
 | fn u v _ _ ihu ihv=>
  intro b acc x;rw[a7t,d5i];simp only[Ty.args,Ty.kind,a8w,show ((4:Int)==1)=false from rfl,show ((4:Int)==5)=false from rfl,Bool.false_and,Bool.false_eq_true,if_false];rw[a3n,a3n,a3h,ihv,ihu,a1y,a1y,a9q,Bool.or_false,Bool.or_eq_true];constructor
  · rintro ((h|h)|h)
    · exact .inl h
    · exact .inr ⟨.inl h.1,h.2⟩
    · exact .inr ⟨.inr h.1,h.2⟩
  · rintro (h| ⟨h|h,hb⟩)
    · exact .inl (.inl h)
    · exact .inl (.inr ⟨h,hb⟩)
    · exact .inr ⟨h,hb⟩
 | all s t _ _ ih=>
  intro b acc x;rw[a7t,c0w];simp only[Ty.args,Ty.kind,Ty.name,a8w,show ((5:Int)==1)=false from rfl,beq_self_eq_true,Bool.false_and,Bool.false_eq_true,if_false,if_true];rw[a3n,a3h,ih,a1y,a9q,Bool.or_false,e6v,Bool.and_eq_true];constructor
  · rintro (h| ⟨h,hb⟩)
    · exact .inl h
    · refine .inr ⟨⟨h,?_⟩,fun e=>hb (.inl e)⟩;have:s≠x:=fun e=>hb (.inr e.symm);simp[this]
  · rintro (h| ⟨⟨h,hs⟩,hb⟩)
    · exact .inl h
    · refine .inr ⟨h,?_⟩;rintro (e|e)
      · exact hb e
      · subst e;simp at hs
theorem b0x{t:Ty}(hg:GT t){x:List UInt8}:x∈a0n t [] []↔fvB t x=true:=by
 rw[g0o hg];simp
end Go.Proofs
namespace Go.Proofs
open Go.Av
set_option maxHeartbeats 4000000
mutual
def occ(x:List UInt8):Dt→Bool
 | .fv s=>s==x
 | .bl _=>false
 | .mt _=>false
 | .nd _ _ l=>g9s x l
def g9s(x:List UInt8):List Dt→Bool
 | []=>false
 | t::r=>occ x t||g9s x r
end
mutual
def omt(m:Int):Dt→Bool
 | .fv _=>false
 | .bl _=>false
 | .mt n=>n==m
 | .nd _ _ l=>g9r m l
def g9r(m:Int):List Dt→Bool
 | []=>false
 | t::r=>omt m t||g9r m r
end
theorem f6n(x:List UInt8)(k:Int)(s:List UInt8)(l:List Dt):occ x (.nd k s l)=g9s x l:=by simp[occ]
theorem c0k(x:List UInt8)(t:Dt)(r:List Dt):g9s x (t::r)=(occ x t||g9s x r):=by simp[g9s]
theorem d4i(x:List UInt8):g9s x []=false:=by simp[g9s]
theorem j7r(x:List UInt8)(k:Nat):occ x (.bl k)=false:=by simp[occ]
theorem c3u(x s:List UInt8):occ x (.fv s)=(s==x):=by simp[occ]
theorem e4q(x:List UInt8)(n:Int):occ x (.mt n)=false:=by simp[occ]
theorem f6l(m:Int)(k:Int)(s:List UInt8)(l:List Dt):omt m (.nd k s l)=g9r m l:=by simp[omt]
theorem c0j(m:Int)(t:Dt)(r:List Dt):g9r m (t::r)=(omt m t||g9r m r):=by simp[g9r]
theorem d4h(m:Int):g9r m []=false:=by simp[g9r]
theorem j7q(m:Int)(k:Nat):omt m (.bl k)=false:=by simp[omt]
theorem f6m(m:Int)(s:List UInt8):omt m (.fv s)=false:=by simp[omt]
theorem h7l(m:Int)(n:Int):omt m (.mt n)=(n==m):=by simp[omt]
theorem d4j{t:Ty}(hg:GT t){x:List UInt8}:∀ {ρ:b2p} {μ:Int→Dt} {d:Nat},occ x (sem t ρ μ d)=true↔(∃y,fvB t y=true∧occ x (ρ y)=true)∨∃n,mvB t n=true∧occ x (μ n)=true:=by
 induction hg with
 | var s _=>
  intro ρ μ d;rw[a3d];constructor
  · exact fun h=>.inl ⟨s,by simp[c8d],h⟩
  · rintro (⟨y,h1,h2⟩| ⟨n,h1,_⟩)
    · have:s=y:=by simpa [c8d] using h1
      rw[this];exact h2
    · simp[f6z] at h1
 | unk n _ _=>
  intro ρ μ d;rw[a4g];constructor
  · exact fun h=>.inr ⟨n,by simp[d8e],h⟩
  · rintro (⟨y,h1,_⟩| ⟨m,h1,h2⟩)
    · simp[g0l] at h1
    · have:n=m:=by simpa [d8e] using h1
      rw[this];exact h2
 | con s a _ _ ih=>
  intro ρ μ d;rw[a5a,f6n];have:∀l:List Ty,(∀z,z∈l→z∈a)→(g9s x (e0f l ρ μ d)=true↔(∃y,d1u l y=true∧occ x (ρ y)=true)∨∃n,d8g l n=true∧occ x (μ n)=true):=by
   intro l
   induction l with
   | nil=>intro _;simp[a1o,d4i,a9q,b3r]
   | cons z r ihr=>
    intro hl;rw[a0r,c0k,Bool.or_eq_true,ih z (hl z (List.mem_cons_self ..)),ihr fun w hw=>hl w (List.mem_cons_of_mem _ hw)];simp only[a1y,a5y,Bool.or_eq_true];constructor
    · rintro ((⟨y,h1,h2⟩| ⟨n,h1,h2⟩)|(⟨y,h1,h2⟩| ⟨n,h1,h2⟩))
      · exact .inl ⟨y,.inl h1,h2⟩
      · exact .inr ⟨n,.inl h1,h2⟩
      · exact .inl ⟨y,.inr h1,h2⟩
      · exact .inr ⟨n,.inr h1,h2⟩
    · rintro (⟨y,h1|h1,h2⟩| ⟨n,h1|h1,h2⟩)
      · exact .inl (.inl ⟨y,h1,h2⟩)
      · exact .inr (.inl ⟨y,h1,h2⟩)
      · exact .inl (.inr ⟨n,h1,h2⟩)
      · exact .inr (.inr ⟨n,h1,h2⟩)
  rw[this a fun _ h=>h];simp only[c3w,e4x]
 | fn u v _ _ ihu ihv=>
  intro ρ μ d;rw[a7f,f6n,a0r,a0r,a1o,c0k,c0k,d4i,Bool.or_false,Bool.or_eq_true,ihu,ihv];simp only[d5i,f7a,a1y,a5y,a9q,b3r,Bool.or_false,Bool.or_eq_true];constructor
  · rintro ((⟨y,h1,h2⟩| ⟨n,h1,h2⟩)|(⟨y,h1,h2⟩| ⟨n,h1,h2⟩))
    · exact .inl ⟨y,.inl h1,h2⟩
    · exact .inr ⟨n,.inl h1,h2⟩
    · exact .inl ⟨y,.inr h1,h2⟩
    · exact .inr ⟨n,.inr h1,h2⟩
  · rintro (⟨y,h1|h1,h2⟩| ⟨n,h1|h1,h2⟩)
    · exact .inl (.inl ⟨y,h1,h2⟩)
    · exact .inr (.inl ⟨y,h1,h2⟩)
    · exact .inl (.inr ⟨n,h1,h2⟩)
    · exact .inr (.inr ⟨n,h1,h2⟩)
 | all s t _ _ ih=>
  intro ρ μ d;rw[a3i,f6n,a0r,a1o,c0k,d4i,Bool.or_false,ih];simp only[c0w,d8f,a1y,a5y,a9q,b3r,Bool.or_false,Bool.and_eq_true];constructor
  · rintro (⟨y,h1,h2⟩|h)
    · by_cases he:y=s
      · subst he;rw[a1s,j7r] at h2;cases h2
      · rw[a2w he] at h2;have:(s==y)=false:=beq_eq_false_iff_ne.2 fun e=>he e.symm;exact .inl ⟨y,⟨h1,by simp[this]⟩,h2⟩
    · exact .inr h
  · rintro (⟨y,⟨h1,h3⟩,h2⟩|h)
    · refine .inl ⟨y,h1,?_⟩;rw[a2w]
      · exact h2
      · rintro rfl;simp at h3
    · exact .inr h
theorem d8y{t:Ty}(hg:GT t){x:List UInt8}:fvB t x=occ x (sem t .fv .mt 0):=by
 rw[Bool.eq_iff_iff,d4j hg];constructor
 · exact fun h=>.inl ⟨x,h,by simp[c3u]⟩
 · rintro (⟨y,h1,h2⟩| ⟨n,_,h2⟩)
   · have:y=x:=by simpa [c3u] using h2
     rw[←this];exact h1
   · simp[e4q] at h2
theorem f6p(c:UInt8)(fr:List (List UInt8))(k:Nat):∃m,k≤m∧a0y c m∉fr∧(∀j,k≤j→j<m→a0y c j∈fr)∧m≤k+fr.length:=by
 obtain⟨i,h1,h2,h3⟩:=d1z (fun i=>a0y c (k+i)) (fun i j h=>by have:=b6h c _ _ h;omega) fr;refine⟨k+i,by omega,by simpa using h2,fun j hj hlt=>?_,by omega⟩;have:=h3 (j - k) (by omega);rw[show k+(j - k)=j by omega] at this;simpa using this
noncomputable def nx (c:UInt8) (fr:List (List UInt8)) (k:Nat):Nat:=(f6p c fr k).choose
theorem f6o(c:UInt8)(fr:List (List UInt8))(k:Nat):k≤nx c fr k:=(f6p c fr k).choose_spec.1
theorem d1d(c:UInt8)(fr:List (List UInt8))(k:Nat):a0y c (nx c fr k)∉fr:=(f6p c fr k).choose_spec.2.1
theorem h7m(c:UInt8)(fr:List (List UInt8))(k:Nat):∀j,k≤j→j<nx c fr k→a0y c j∈fr:=(f6p c fr k).choose_spec.2.2.1
theorem k5k(c:UInt8)(fr:List (List UInt8))(k:Nat):nx c fr k≤k+fr.length:=(f6p c fr k).choose_spec.2.2.2
theorem j7s{c:UInt8}{fr:List (List UInt8)}{k m:Nat}(h1:k≤m)(h2:a0y c m∉fr)(h3:∀j,k≤j→j<m→a0y c j∈fr):nx c fr k=m:=by
 rcases Nat.lt_trichotomy (nx c fr k) m with h|h|h
 · exact absurd (h3 _ (f6o c fr k) h) (d1d c fr k)
 · exact h
 · exact absurd (h7m c fr k m h1 h) h2
theorem g9t{c:UInt8}{fr fr':List (List UInt8)}(h:∀x,x∈fr↔x∈fr')(k:Nat):nx c fr k=nx c fr' k:=
 j7s (f6o c fr' k) (fun e=>d1d c fr' k ((h _).1 e)) fun j h1 h2=>(h _).2 (h7m c fr' k j h1 h2)
mutual
noncomputable def nmM (c:UInt8) (fr:List (List UInt8)):Dt→List (List UInt8)→Nat→Ty×Nat
 | .fv s,_,k=>(.mk 1 s 0 [],k)
 | .bl i,env,k=>(.mk 1 (env.getD i []) 0 [],k)
 | .mt n,_,k=>(.mk 2 [] n [],k)
 | .nd kd s l,env,k=>if kd==5 then (.mk 5 (a0y c (nx c fr k)) 0 (d1h c fr l (env++[a0y c (nx c fr k)]) (nx c fr k+1)).1,(d1h c fr l (env++[a0y c (nx c fr k)]) (nx c fr k+1)).2)
  else (.mk kd s 0 (d1h c fr l env k).1,(d1h c fr l env k).2)
noncomputable def d1h (c:UInt8) (fr:List (List UInt8)):List Dt→List (List UInt8)→Nat→List Ty×Nat
 | [],_,k=>([],k)
 | t::r,env,k=>((nmM c fr t env k).1::(d1h c fr r env (nmM c fr t env k).2).1,(d1h c fr r env (nmM c fr t env k).2).2)
end
section
variable(c:UInt8)(fr:List (List UInt8))(env:List (List UInt8))(k:Nat)
theorem f6t(s:List UInt8):nmM c fr (.fv s) env k=(.mk 1 s 0 [],k):=by simp[nmM]
theorem f6u(i:Nat):nmM c fr (.bl i) env k=(.mk 1 (env.getD i []) 0 [],k):=by simp[nmM]
theorem e4u(n:Int):nmM c fr (.mt n) env k=(.mk 2 [] n [],k):=by simp[nmM]
theorem d1i(kd:Int)(s:List UInt8)(l:List Dt)(h:(kd==5)=false):nmM c fr (.nd kd s l) env k=(.mk kd s 0 (d1h c fr l env k).1,(d1h c fr l env k).2):=by simp[nmM,h]
theorem d4r(s:List UInt8)(l:List Dt):nmM c fr (.nd 5 s l) env k=(.mk 5 (a0y c (nx c fr k)) 0 (d1h c fr l (env++[a0y c (nx c fr k)]) (nx c fr k+1)).1,(d1h c fr l (env++[a0y c (nx c fr k)]) (nx c fr k+1)).2):=by simp[nmM]
theorem b7e:d1h c fr [] env k=([],k):=by simp[d1h]
theorem b3a(t:Dt)(r:List Dt):d1h c fr (t::r) env k=((nmM c fr t env k).1::(d1h c fr r env (nmM c fr t env k).2).1,(d1h c fr r env (nmM c fr t env k).2).2):=by simp[d1h]
end
mutual
theorem d7x(c:UInt8){fr fr':List (List UInt8)}(h:∀x,x∈fr↔x∈fr'):∀(D:Dt) (env:List (List UInt8)) (k:Nat),nmM c fr D env k=nmM c fr' D env k
 | .fv _,_,_=>by rw[f6t,f6t]
 | .bl _,_,_=>by rw[f6u,f6u]
 | .mt _,_,_=>by rw[e4u,e4u]
 | .nd kd s l,env,k=>by
  by_cases hk:kd=5
  · subst hk;rw[d4r,d4r,g9t h,c2i c h l]
  · have hk:(kd==5)=false:=by simpa using hk
    rw[d1i _ _ _ _ _ _ _ hk,d1i _ _ _ _ _ _ _ hk,c2i c h l]
theorem c2i(c:UInt8){fr fr':List (List UInt8)}(h:∀x,x∈fr↔x∈fr'):∀(l:List Dt) (env:List (List UInt8)) (k:Nat),d1h c fr l env k=d1h c fr' l env k
 | [],_,_=>by rw[b7e,b7e]
 | t::r,env,k=>by rw[b3a,b3a,d7x c h t,c2i c h r]
end
def e0e(env:List (List UInt8)):b2p:=fun x=>if x∈env then .bl (env.idxOf x) else .fv x
theorem e2v:e0e []=.fv:=by funext x;simp[e0e]
theorem c6o{env:List (List UInt8)}{c:List UInt8}(h:c∉env):upd (e0e env) c (.bl env.length)=e0e (env++[c]):=by
 funext x;unfold upd e0e
 by_cases hx:x=c
 · subst hx;rw[if_pos rfl,if_pos (by simp),List.idxOf_append,if_neg h];simp
 · rw[if_neg hx]
   by_cases hm:x∈env
   · rw[if_pos hm,if_pos (by simp[hm]),List.idxOf_append,if_pos hm]
   · rw[if_neg hm,if_neg (by simp[hm,hx])]
end Go.Proofs
namespace Go.Proofs
open Go.Av
set_option maxHeartbeats 16000000
set_option maxRecDepth 100000
theorem f3p{ρ ρ':b2p}{s x:List UInt8}{v:Dt}(h:x≠s→ρ x=ρ' x):upd ρ s v x=upd ρ' s v x:=by
 by_cases hx:x=s
 · subst hx;rw[a1s,a1s]
 · rw[a2w hx,a2w hx,h hx]
theorem f5j(n:Nat)(s:List UInt8)(l:List Ty)(a b:List UInt8):a9n (n+1) (.mk 3 s 0 l) a b=.mk 3 s 0 (l.map fun x=>a9n n x a b):=rfl
theorem c8f(s:List UInt8)(but:List (List UInt8)):a5z s but∉but:=by
 have:=h1f s but;simpa using this
theorem e3t{n:Nat}{t:Ty}(hn:t.sz≤n)(hg:GT t)(hb:t.sz<300000)(a b:List UInt8)(h0:b≠[])(h1:b.length≤16):GT (a9n n t a b)∧(a9n n t a b).sz=t.sz:=(c5b n t hn hg hb a b h0 h1).2
theorem e0u:∀(n:Nat) (t:Ty),t.sz≤n→GT t→t.sz<300000→∀(a b:List UInt8),b≠[]→b.length≤16→fvB t b=false→∀(ρ:b2p) (μ:Int→Dt) (d:Nat),sem (a9n n t a b) ρ μ d=sem t (upd ρ a (ρ b)) μ d:=by
 intro n
 induction n with
 | zero=>intro t h;have:=a2f t;omega
 | succ n ih=>
  intro t hn hg hb a b h0 h1 hf ρ μ d;cases hg with
  | var s hs=>
   rw[d3t];cases h:s==a
   · simp only[Bool.false_eq_true,if_false];rw[a3d,a3d,a2w (by simpa using h)]
   · simp only[if_true];have h:s=a:=by simpa using h
     rw[a3d,a3d,h,a1s]
  | unk m h1 h2=>
   have e:a9n (n+1) (.mk 2 [] m []) a b=.mk 2 [] m []:=rfl;rw[e,a4g,a4g]
  | con s l hs hl=>
   rw[a0t] at hn hb;rw[f5j,a5a,a5a,a2u,a2u,List.map_map]
   congr 1
   refine List.map_congr_left fun x hx=>?_;have:=a2i hx;exact ih x (by omega) (hl x hx) (by omega) a b h0 h1 (by
    rw[c3w] at hf;cases h:fvB x b
    · rfl
    · exact absurd ((d5j b).2 ⟨x,hx,h⟩) (by rw[hf];decide)) ρ μ d
  | fn x y hx hy=>
   rw[a0t,a1g] at hn hb;have e:a9n (n+1) (.mk 4 [] 0 [x,y]) a b=.mk 4 [] 0 [a9n n x a b,a9n n y a b]:=rfl;rw[d5i,a1y,a1y,a9q,Bool.or_false,Bool.or_eq_false_iff] at hf;rw[e,a7f,a7f,a0r,a0r,a0r,a0r,a1o,a1o,ih x (by omega) hx (by omega) a b h0 h1 hf.1,ih y (by omega) hy (by omega) a b h0 h1 hf.2]
  | all s x hs hx=>
   rw[a0t,a1e] at hn hb;rw[d3u];rw[c0w,a1y,a9q,Bool.or_false] at hf;cases ha:s==a
   · have ha':s≠a:=by simpa using ha
     simp only[Bool.false_eq_true,if_false];cases hq:s==b
     · have hq':s≠b:=by simpa using hq
       simp only[Bool.false_eq_true,if_false];rw[hq,Bool.not_false,Bool.and_true] at hf;rw[a3i,a3i,a0r,a0r,a1o,a1o,ih x (by omega) hx (by omega) a b h0 h1 hf,a2w (Ne.symm hq'),d3b ρ ha']
     · simp only[if_true];have hq':s=b:=by simpa using hq
       subst hq';have hfr:=c8f s (a0n x [] []++[a,s]);have hle:=a2v _ x (Nat.le_refl _) [] [];simp only[List.length_nil,Nat.zero_add] at hle;obtain⟨c0,c1⟩:=b7i s (a0n x [] []++[a,s]) (by simp;omega);generalize a5z s (a0n x [] []++[a,s])=c at hfr c0 c1⊢;simp only[List.mem_append,List.mem_cons,List.not_mem_nil,or_false,not_or] at hfr;obtain⟨f1,f2,f3⟩:=hfr;have f1':fvB x c=false:=by
        cases h:fvB x c
        · rfl
        · exact absurd ((b0x hx).2 h) f1
       obtain⟨g,hsz⟩:=e3t (n:=n) (t:=x) (by omega) hx (by omega) s c c0 c1;have hfb:fvB (a9n n x s c) s=false:=by
        rw[d8y g,ih x (by omega) hx (by omega) s c c0 c1 f1',Bool.eq_false_iff];intro h;rcases (d4j hx).1 h with⟨y,h2,h3⟩| ⟨m,_,h3⟩
        · by_cases hy:y=s
          · subst hy;rw[a1s,c3u] at h3;exact f3 (by simpa using h3)
          · rw[a2w hy,c3u] at h3;exact hy (by simpa using h3)
        · rw[e4q] at h3;cases h3
       rw[a3i,a3i,a0r,a0r,a1o,a1o,ih (a9n n x s c) (by omega) g (by omega) a s h0 h1 hfb,ih x (by omega) hx (by omega) s c c0 c1 f1'];rw[b8x hx (ρ:=upd (upd (upd ρ c (.bl d)) a (upd ρ c (.bl d) s)) s (upd (upd ρ c (.bl d)) a (upd ρ c (.bl d) s) c)) (ρ':=upd (upd ρ a (ρ s)) s (.bl d)) (μ:=μ) (μ':=μ) (fun y hy=>?_) (fun _ _=>rfl)]
       by_cases hys:y=s
       · subst hys;rw[a1s,a1s,a2w f2,a1s]
       · rw[a2w hys,a2w hys];have hyc:y≠c:=fun e=>by rw[e,f1'] at hy;cases hy
         by_cases hya:y=a
         · subst hya;rw[a1s,a1s,a2w (Ne.symm f3)]
         · rw[a2w hya,a2w hya,a2w hyc]
   · have ha':s=a:=by simpa using ha
     subst ha';simp only[if_true];rw[a3i,a3i,d6s]
theorem b5n:∀(n:Nat) (t:Ty),GT t→∀(a:List UInt8),a9n n t a a=t
 | 0,t,_,_=>rfl
 | n+1,t,hg,a=>by
  cases hg with
  | var s hs=>
   rw[d3t];cases h:s==a
   · simp
   · have h:s=a:=by simpa using h
     simp[h]
  | unk m h1 h2=>rfl
  | con s l hs hl=>
   rw[f5j]
   congr 1
   calc l.map (fun x=>a9n n x a a)=l.map id:=List.map_congr_left fun x hx=>b5n n x (hl x hx) a
    _=l:=List.map_id l
  | fn x y hx hy=>
   have e:a9n (n+1) (.mk 4 [] 0 [x,y]) a a=.mk 4 [] 0 [a9n n x a a,a9n n y a a]:=rfl;rw[e,b5n n x hx,b5n n y hy]
  | all s x hs hx=>
   rw[d3u];cases ha:s==a
   · simp only[Bool.false_eq_true,if_false];rw[b5n n x hx]
   · simp
def e6w(u:Ty):Prop:=(∃b,u=.mk 1 b 0 []∧b≠[]∧b.length≤16)∨∃m,u=.mk 2 [] m []
def val(u:Ty)(ρ:b2p)(μ:Int→Dt):Dt:=sem u ρ μ 0
theorem f3n{u:Ty}(hu:e6w u)(ρ:b2p)(μ:Int→Dt)(d:Nat):sem u ρ μ d=val u ρ μ:=by
 rcases hu with⟨b,rfl,_⟩| ⟨m,rfl⟩
 · unfold val;rw[a3d,a3d]
 · unfold val;rw[a4g,a4g]
theorem d3a{u:Ty}(hu:e6w u){ρ:b2p}{μ:Int→Dt}{s:List UInt8}{v:Dt}(h:(a0n u [] []).contains s=false):val u (upd ρ s v) μ=val u ρ μ:=by
 rcases hu with⟨b,rfl,_⟩| ⟨m,rfl⟩
 · unfold val;rw[a3d,a3d];refine a2w ?_;rintro rfl;rw[c4m] at h;simp at h
 · unfold val;rw[a4g,a4g]
theorem f4v{u:Ty}(hu:e6w u)(a:List UInt8):∀(n:Nat) (t:Ty),t.sz≤n→GT t→t.sz<300000→∀(ρ:b2p) (μ:Int→Dt) (d:Nat),sem (b0t n t a u) ρ μ d=sem t (upd ρ a (val u ρ μ)) μ d:=by
 intro n
 induction n with
 | zero=>intro t h;have:=a2f t;omega
 | succ n ih=>
  intro t hn hg hb ρ μ d;cases hg with
  | var s hs=>
   rw[e3y];cases h:s==a
   · simp only[Bool.false_eq_true,if_false];rw[a3d,a3d,a2w (by simpa using h)]
   · simp only[if_true];have h:s=a:=by simpa using h
     rw[a3d,h,a1s,f3n hu]
  | unk m h1 h2=>
   have e:b0t (n+1) (.mk 2 [] m []) a u=.mk 2 [] m []:=rfl;rw[e,a4g,a4g]
  | con s l hs hl=>
   rw[a0t] at hn hb;have e:b0t (n+1) (.mk 3 s 0 l) a u=.mk 3 s 0 (l.map fun x=>b0t n x a u):=rfl;rw[e,a5a,a5a,a2u,a2u,List.map_map]
   congr 1
   refine List.map_congr_left fun x hx=>?_;have:=a2i hx;exact ih x (by omega) (hl x hx) (by omega) ρ μ d
  | fn x y hx hy=>
   rw[a0t,a1g] at hn hb;have e:b0t (n+1) (.mk 4 [] 0 [x,y]) a u=.mk 4 [] 0 [b0t n x a u,b0t n y a u]:=rfl;rw[e,a7f,a7f,a0r,a0r,a0r,a0r,a1o,a1o,ih x (by omega) hx (by omega),ih y (by omega) hy (by omega)]
  | all s x hs hx=>
   rw[a0t,a1e] at hn hb;rw[e4a];cases ha:s==a
   · have ha':s≠a:=by simpa using ha
     simp only[Bool.false_eq_true,if_false];cases hq:(a0n u [] []).contains s
     · simp only[Bool.false_eq_true,if_false];rw[a3i,a3i,a0r,a0r,a1o,a1o,ih x (by omega) hx (by omega),d3a hu hq,d3b ρ ha']
     · simp only[if_true];have hfr:=c8f s (a0n u [] []++(a0n x [] []++[s,a]));have hle:=a2v _ x (Nat.le_refl _) [] [];have hlu:(a0n u [] []).length≤1:=by
        rcases hu with⟨b,rfl,_⟩| ⟨m,rfl⟩
        · exact Nat.le_refl _
        · exact Nat.zero_le _
       simp only[List.length_nil,Nat.zero_add] at hle;obtain⟨c0,c1⟩:=b7i s (a0n u [] []++(a0n x [] []++[s,a])) (by simp;omega);generalize a5z s (a0n u [] []++(a0n x [] []++[s,a]))=c at hfr c0 c1⊢;simp only[List.mem_append,List.mem_cons,List.not_mem_nil,or_false,not_or] at hfr;obtain⟨f0,f1,f2,f3⟩:=hfr;have f1':fvB x c=false:=by
        cases h:fvB x c
        · rfl
        · exact absurd ((b0x hx).2 h) f1
       obtain⟨g,hsz⟩:=e3t (n:=n) (t:=x) (by omega) hx (by omega) s c c0 c1;rw[a3i,a3i,a0r,a0r,a1o,a1o,ih (a9n n x s c) (by omega) g (by omega),d3a hu (by simpa using f0),e0u n x (by omega) hx (by omega) s c c0 c1 f1'];rw[b8x hx (ρ:=upd (upd (upd ρ c (.bl d)) a (val u ρ μ)) s (upd (upd ρ c (.bl d)) a (val u ρ μ) c)) (ρ':=upd (upd ρ a (val u ρ μ)) s (.bl d)) (μ:=μ) (μ':=μ) (fun y hy=>?_) (fun _ _=>rfl)]
       by_cases hys:y=s
       · subst hys;rw[a1s,a1s,a2w f3,a1s]
       · rw[a2w hys,a2w hys];have hyc:y≠c:=fun e=>by rw[e,f1'] at hy;cases hy
         by_cases hya:y=a
         · subst hya;rw[a1s,a1s]
         · rw[a2w hya,a2w hya,a2w hyc]
   · have ha':s=a:=by simpa using ha
     subst ha';simp only[if_true];rw[a3i,a3i,d6s]
def b8r(μ:Int→Dt)(m:Int)(v:Dt):Int→Dt:=fun x=>if x=m then v else μ x
theorem i1p{u:Ty}(hu:e6w u)(m:Int):∀(n:Nat) (t:Ty),t.sz≤n→GT t→t.sz<300000→∀(ρ:b2p) (μ:Int→Dt) (d:Nat),sem (b4r n t m u) ρ μ d=sem t ρ (b8r μ m (val u ρ μ)) d:=by
 intro n
 induction n with
 | zero=>intro t h;have:=a2f t;omega
 | succ n ih=>
  intro t hn hg hb ρ μ d;cases hg with
  | var s hs=>
   have e:b4r (n+1) (.mk 1 s 0 []) m u=.mk 1 s 0 []:=rfl;rw[e,a3d,a3d]
  | unk q h1 h2=>
   have e:b4r (n+1) (.mk 2 [] q []) m u=if q==m then u else .mk 2 [] q []:=by
    unfold b4r;cases h:q==m<;>simp
   rw[e];cases h:q==m
   · simp only[Bool.false_eq_true,if_false];rw[a4g,a4g];unfold b8r;rw[if_neg (by simpa using h)]
   · simp only[if_true];rw[a4g,f3n hu];unfold b8r;rw[if_pos (by simpa using h)]
  | con s l hs hl=>
   rw[a0t] at hn hb;have e:b4r (n+1) (.mk 3 s 0 l) m u=.mk 3 s 0 (l.map fun x=>b4r n x m u):=rfl;rw[e,a5a,a5a,a2u,a2u,List.map_map]
   congr 1
   refine List.map_congr_left fun x hx=>?_;have:=a2i hx;exact ih x (by omega) (hl x hx) (by omega) ρ μ d
  | fn x y hx hy=>
   rw[a0t,a1g] at hn hb;have e:b4r (n+1) (.mk 4 [] 0 [x,y]) m u=.mk 4 [] 0 [b4r n x m u,b4r n y m u]:=rfl;rw[e,a7f,a7f,a0r,a0r,a0r,a0r,a1o,a1o,ih x (by omega) hx (by omega),ih y (by omega) hy (by omega)]
  | all s x hs hx=>
   rw[a0t,a1e] at hn hb;rw[e5x];cases hq:(a0n u [] []).contains s
   · simp only[Bool.false_eq_true,if_false];rw[a3i,a3i,a0r,a0r,a1o,a1o,ih x (by omega) hx (by omega),d3a hu hq]
   · simp only[if_true];have hfr:=c8f s (a0n u [] []++(a0n x [] []++[s]));have hle:=a2v _ x (Nat.le_refl _) [] [];have hlu:(a0n u [] []).length≤1:=by
      rcases hu with⟨b,rfl,_⟩| ⟨m,rfl⟩
      · exact Nat.le_refl _
      · exact Nat.zero_le _
     simp only[List.length_nil,Nat.zero_add] at hle;obtain⟨c0,c1⟩:=b7i s (a0n u [] []++(a0n x [] []++[s])) (by simp;omega);generalize a5z s (a0n u [] []++(a0n x [] []++[s]))=c at hfr c0 c1⊢;simp only[List.mem_append,List.mem_cons,List.not_mem_nil,or_false,not_or] at hfr;obtain⟨f0,f1,f2⟩:=hfr;have f1':fvB x c=false:=by
      cases h:fvB x c
      · rfl
      · exact absurd ((b0x hx).2 h) f1
     obtain⟨g,hsz⟩:=e3t (n:=n) (t:=x) (by omega) hx (by omega) s c c0 c1;rw[a3i,a3i,a0r,a0r,a1o,a1o,ih (a9n n x s c) (by omega) g (by omega),d3a hu (by simpa using f0),e0u n x (by omega) hx (by omega) s c c0 c1 f1'];rw[b8x hx (ρ:=upd (upd ρ c (.bl d)) s (upd ρ c (.bl d) c)) (ρ':=upd ρ s (.bl d)) (μ:=b8r μ m (val u ρ μ)) (μ':=b8r μ m (val u ρ μ)) (fun y hy=>?_) (fun _ _=>rfl)]
     by_cases hys:y=s
     · subst hys;rw[a1s,a1s,a1s]
     · rw[a2w hys,a2w hys];have hyc:y≠c:=fun e=>by rw[e,f1'] at hy;cases hy
       rw[a2w hyc]
theorem e4v(c:UInt8)(fr:List (List UInt8))(k:Nat):a3j c fr k=nx c fr k:=by
 obtain⟨h1,_,h3,h4⟩:=a8h c fr k;exact (j7s h1 (by simpa using h3) fun j a b=>by simpa using h4 j a b).symm
theorem g9w(fr:List (List UInt8))(k:Nat):c4g fr k=nx 120 fr k:=e4v 120 fr k
def f3d(c:UInt8)(env:List (List UInt8))(k:Nat):Prop:=∀e∈env,∃j,j<k∧e=a0y c j
theorem f3d.mono{c:UInt8}{env:List (List UInt8)}{k k':Nat}(h:f3d c env k)(hk:k≤k'):f3d c env k':=fun e he=>by
 obtain⟨j,h1,h2⟩:=h e he;exact⟨j,by omega,h2⟩
theorem f3d.not{c:UInt8}{env:List (List UInt8)}{k m:Nat}(h:f3d c env k)(hk:k≤m):a0y c m∉env:=fun he=>by
 obtain⟨j,h1,h2⟩:=h _ he;have:=b6h c _ _ h2;omega
theorem f3d.snoc{c:UInt8}{env:List (List UInt8)}{k m:Nat}(h:f3d c env k)(hk:k≤m):f3d c (env++[a0y c m]) (m+1):=fun e he=>by
 rcases List.mem_append.1 he with he|he
 · obtain⟨j,h1,h2⟩:=h e he;exact⟨j,by omega,h2⟩
 · exact⟨m,by omega,by simpa using he⟩
theorem f6s(c:UInt8)(fr env:List (List UInt8))(k:Nat)(s:List UInt8):nmM c fr (e0e env s) env k=(.mk 1 s 0 [],k):=by
 unfold e0e
 by_cases h:s∈env
 · rw[if_pos h,f6u];have:env.getD (env.idxOf s) []=s:=by
    have hl:=List.idxOf_lt_length_iff.2 h;rw[List.getD_eq_getElem?_getD,List.getElem?_eq_getElem hl,Option.getD_some];exact List.getElem_idxOf hl
   rw[this]
 · rw[if_neg h,f6t]
theorem i7r(fr:List (List UInt8))(hfr:fr.length<1000000):∀(n:Nat) (t:Ty),t.sz≤n→GT t→t.sz<300000→∀(env:List (List UInt8)) (k:Nat),f3d 120 env k→(∀x,fvB t x=true→x∈fr∨x∈env)→k+t.sz*(fr.length+1)≤900000000→
 b0v fr n t k=nmM 120 fr (sem t (e0e env) .mt env.length) env k∧k≤(b0v fr n t k).2:=by
 intro n
 induction n with
 | zero=>intro t h;have:=a2f t;omega
 | succ n ih=>
  intro t hn hg hb env k he hf hk;have kids:∀l:List Ty,(∀x,x∈l→GT x)→Ty.szs l≤n→Ty.szs l<300000→(∀x,d1u l x=true→x∈fr∨x∈env)→∀k:Nat,f3d 120 env k→k+Ty.szs l*(fr.length+1)≤900000000→
   a7g (b0v fr n) l k=d1h 120 fr (l.map fun x=>sem x (e0e env) .mt env.length) env k∧k≤(a7g (b0v fr n) l k).2:=by
   intro l
   induction l with
   | nil=>intro _ _ _ _ k _ _;rw[List.map_nil,b7e];exact⟨rfl,Nat.le_refl _⟩
   | cons t l ihl=>
    intro hl h1 h2 h3 k hk hb;rw[a3b,Nat.add_mul] at hb;rw[a3b] at h1 h2;obtain⟨e1,e2⟩:=ih t (by omega) (hl t (List.mem_cons_self ..)) (by omega) env k hk (fun x hx=>h3 x (by rw[a1y,hx];rfl)) (by omega);obtain⟨_,_,_,q4⟩:=d4l fr hfr n t (by omega) (hl t (List.mem_cons_self ..)) (by omega) k (by omega);obtain⟨e3,e4⟩:=ihl (fun x hx=>hl x (List.mem_cons_of_mem _ hx)) (by omega) (by omega) (fun x hx=>h3 x (by rw[a1y,hx,Bool.or_true])) (b0v fr n t k).2 (hk.mono e2) (by omega);rw[List.map_cons,b3a,←e1,a7g];rw[←e3];exact⟨rfl,by show k≤(a7g (b0v fr n) l (b0v fr n t k).2).2;omega⟩
  cases hg with
  | var s hs=>
   rw[a3d,f6s];exact⟨rfl,Nat.le_refl _⟩
  | unk m h1 h2=>
   rw[a4g,e4u];exact⟨rfl,Nat.le_refl _⟩
  | con s l hs hl=>
   rw[a0t] at hn hb hk;rw[Nat.add_mul] at hk;obtain⟨e1,e2⟩:=kids l hl (by omega) (by omega) (fun x hx=>hf x (by rw[c3w,hx])) k he (by omega);have e:b0v fr (n+1) (.mk 3 s 0 l) k=(.mk 3 s 0 (a7g (b0v fr n) l k).1,(a7g (b0v fr n) l k).2):=rfl;rw[e,a5a,a2u,d1i _ _ _ _ _ _ _ rfl,e1];rw[e1] at e2;exact⟨rfl,e2⟩
  | fn u v hu hv=>
   rw[a0t] at hn hb hk;rw[Nat.add_mul] at hk;obtain⟨e1,e2⟩:=kids [u,v] (fun x hx=>by simp at hx;rcases hx with rfl|rfl;exact hu;exact hv) (by omega) (by omega) (fun x hx=>hf x (by rw[d5i,hx])) k he (by omega);have e:b0v fr (n+1) (.mk 4 [] 0 [u,v]) k=(.mk 4 [] 0 (a7g (b0v fr n) [u,v] k).1,(a7g (b0v fr n) [u,v] k).2):=rfl;rw[e,a7f,a2u,d1i _ _ _ _ _ _ _ rfl,e1];rw[e1] at e2;exact⟨rfl,e2⟩
  | all s x hs hx=>
   rw[a0t,a1e] at hn hb hk;rw[Nat.add_mul] at hk;have hle:=k5k 120 fr k;have hge:=f6o 120 fr k;have hno:=d1d 120 fr k;have hc1:a0y 120 (nx 120 fr k)∉env:=he.not hge;have hs2:=he.snoc hge;obtain⟨c1,c2,_⟩:=a4o (nx 120 fr k) 120 (by omega);rw[e4r,g9w,a3i,a0r,a1o,d4r,b3a,b7e];have hcx:a9a (nx 120 fr k)=a0y 120 (nx 120 fr k):=rfl;rw[hcx];generalize nx 120 fr k=m at *;obtain⟨g,hsz⟩:=e3t (n:=n) (t:=x) (by omega) hx (by omega) s (a0y 120 m) c2 c1;have hsem:sem (a9n n x s (a0y 120 m)) (e0e (env++[a0y 120 m])) .mt (env.length+1)=sem x (upd (e0e env) s (.bl env.length)) .mt (env.length+1)∧∀z,fvB (a9n n x s (a0y 120 m)) z=true→z∈fr∨z∈env++[a0y 120 m]:=by
    by_cases hsc:s=a0y 120 m
    · subst hsc;rw[b5n n x hx,←c6o hc1];refine⟨rfl,fun z hz=>?_⟩
      by_cases hzs:z=a0y 120 m
      · exact .inr (by rw[hzs];simp)
      · have:(a0y 120 m==z)=false:=beq_eq_false_iff_ne.2 fun e=>hzs e.symm;rcases hf z (by rw[c0w,a1y,hz,this];rfl) with h|h
        · exact .inl h
        · exact .inr (by simp[h])
    · have hnf:fvB x (a0y 120 m)=false:=by
       cases h:fvB x (a0y 120 m)
       · rfl
       · have:(s==a0y 120 m)=false:=beq_eq_false_iff_ne.2 hsc;rcases hf (a0y 120 m) (by rw[c0w,a1y,h,this];rfl) with h|h
         · exact absurd h hno
         · exact absurd h hc1
      have hsr:=e0u n x (by omega) hx (by omega) s (a0y 120 m) c2 c1 hnf;refine⟨?_,fun z hz=>?_⟩
      · rw[hsr,←c6o hc1,a1s];refine b8x hx (fun y hy=>f3p fun _=>?_) fun _ _=>rfl;exact a2w fun e=>by rw[e,hnf] at hy;cases hy
      · rw[d8y g,hsr] at hz;rcases (d4j hx).1 hz with⟨y,h2,h3⟩| ⟨q,_,h3⟩
        · by_cases hy:y=s
          · subst hy;rw[a1s,c3u] at h3;have:a0y 120 m=z:=by simpa using h3
            exact .inr (by rw[←this];simp)
          · rw[a2w hy,c3u] at h3;have h3:y=z:=by simpa using h3
            subst h3;have:(s==y)=false:=beq_eq_false_iff_ne.2 fun e=>hy e.symm;rcases hf y (by rw[c0w,a1y,h2,this];rfl) with h|h
            · exact .inl h
            · exact .inr (by simp[h])
        · rw[e4q] at h3;cases h3
   obtain⟨e1,e2⟩:=ih (a9n n x s (a0y 120 m)) (by omega) g (by omega) (env++[a0y 120 m]) (m+1) hs2 hsem.2 (by rw[hsz];omega);have hl:(env++[a0y 120 m]).length=env.length+1:=by simp
   rw[hl,hsem.1] at e1;rw[←e1];exact⟨rfl,by show k≤(b0v fr n _ _).2;omega⟩
theorem h2t{t:Ty}(hg:GT t)(hb:t.sz<20000):c1e t=(nmM 120 (a0n t [] []) (sem t .fv .mt 0) [] 0).1:=by
 have hle:=a2v _ t (Nat.le_refl _) [] [];simp only[List.length_nil,Nat.zero_add] at hle;have hp:t.sz*((a0n t [] []).length+1)≤20000*20001:=Nat.mul_le_mul (by omega) (by omega);have:=(i7r (a0n t [] []) (by omega) t.sz t (Nat.le_refl _) hg (by omega) [] 0 (fun e he=>by cases he) (fun x hx=>.inl ((b0x hg).2 hx)) (by omega)).1;unfold c1e;rw[this,e2v];rfl
theorem d4m(c:UInt8)(fr:List (List UInt8))(n:Nat)(s:List UInt8)(es:List (List UInt8×List UInt8))(k:Nat):a6t c fr (n+1) (.mk 1 s 0 []) es k=(.mk 1 (lkD es s) 0 [],k):=rfl
theorem d4n(c:UInt8)(fr:List (List UInt8))(n:Nat)(m:Int)(es:List (List UInt8×List UInt8))(k:Nat):a6t c fr (n+1) (.mk 2 [] m []) es k=(.mk 2 [] m [],k):=rfl
theorem d4o(c:UInt8)(fr:List (List UInt8))(n:Nat)(s:List UInt8)(l:List Ty)(es:List (List UInt8×List UInt8))(k:Nat):a6t c fr (n+1) (.mk 3 s 0 l) es k=(.mk 3 s 0 (a7g (fun t k=>a6t c fr n t es k) l k).1,(a7g (fun t k=>a6t c fr n t es k) l k).2):=rfl
theorem e1h(c:UInt8)(fr:List (List UInt8))(n:Nat)(l:List Ty)(es:List (List UInt8×List UInt8))(k:Nat):a6t c fr (n+1) (.mk 4 [] 0 l) es k=(.mk 4 [] 0 (a7g (fun t k=>a6t c fr n t es k) l k).1,(a7g (fun t k=>a6t c fr n t es k) l k).2):=rfl
theorem d4p(c:UInt8)(fr:List (List UInt8))(n:Nat)(s:List UInt8)(x:Ty)(es:List (List UInt8×List UInt8))(k:Nat):a6t c fr (n+1) (.mk 5 s 0 [x]) es k=(.mk 5 (a0y c (nx c fr k)) 0 [(a6t c fr n x ((s,a0y c (nx c fr k))::es) (nx c fr k+1)).1],(a6t c fr n x ((s,a0y c (nx c fr k))::es) (nx c fr k+1)).2):=by
 rw[←e4v,a6t];simp only[show ((5:Int)==1)=false from rfl,show ((5:Int)==5)=true from rfl,Bool.false_eq_true,if_false,if_true,a7g]
theorem b3t(p:List UInt8×List UInt8)(es:List (List UInt8×List UInt8))(s:List UInt8):lkD (p::es) s=if p.1==s then p.2 else lkD es s:=rfl
theorem d8z{s x:List UInt8}{t:Ty}(h:fvB t x=true)(hs:x≠s):fvB (.mk 5 s 0 [t]) x=true:=by
 have:(s==x)=false:=beq_eq_false_iff_ne.2 fun e=>hs e.symm;rw[c0w,a1y,h,this];rfl
theorem i7s(c:UInt8)(fr:List (List UInt8)):∀(n:Nat) (t:Ty),t.sz≤n→GT t→∀(es:List (List UInt8×List UInt8)) (env:List (List UInt8)) (k:Nat),f3d c env k→(∀x,fvB t x=true→lkD es x∈fr∨lkD es x∈env)→
 a6t c fr n t es k=nmM c fr (sem t (fun y=>e0e env (lkD es y)) .mt env.length) env k∧k≤(a6t c fr n t es k).2:=by
 intro n
 induction n with
 | zero=>intro t h;have:=a2f t;omega
 | succ n ih=>
  intro t hn hg es env k he hf;have kids:∀l:List Ty,(∀x,x∈l→GT x)→Ty.szs l≤n→(∀x,d1u l x=true→lkD es x∈fr∨lkD es x∈env)→∀k:Nat,f3d c env k→
   a7g (fun t k=>a6t c fr n t es k) l k=d1h c fr (l.map fun x=>sem x (fun y=>e0e env (lkD es y)) .mt env.length) env k∧k≤(a7g (fun t k=>a6t c fr n t es k) l k).2:=by
   intro l
   induction l with
   | nil=>intro _ _ _ k _;rw[List.map_nil,b7e];exact⟨rfl,Nat.le_refl _⟩
   | cons t l ihl=>
    intro hl h1 h3 k hk;rw[a3b] at h1;obtain⟨e1,e2⟩:=ih t (by omega) (hl t (List.mem_cons_self ..)) es env k hk (fun x hx=>h3 x (by rw[a1y,hx];rfl));obtain⟨e3,e4⟩:=ihl (fun x hx=>hl x (List.mem_cons_of_mem _ hx)) (by omega) (fun x hx=>h3 x (by rw[a1y,hx,Bool.or_true])) (a6t c fr n t es k).2 (hk.mono e2);rw[List.map_cons,b3a,←e1,a7g];rw[←e3];exact⟨rfl,by show k≤(a7g (fun t k=>a6t c fr n t es k) l (a6t c fr n t es k).2).2;omega⟩
  cases hg with
  | var s hs=>
   rw[a3d,f6s,d4m];exact⟨rfl,Nat.le_refl _⟩
  | unk m h1 h2=>
   rw[a4g,e4u,d4n];exact⟨rfl,Nat.le_refl _⟩
  | con s l hs hl=>
   rw[a0t] at hn;obtain⟨e1,e2⟩:=kids l hl (by omega) (fun x hx=>hf x (by rw[c3w,hx])) k he;rw[d4o,a5a,a2u,d1i _ _ _ _ _ _ _ rfl,e1];rw[e1] at e2;exact⟨rfl,e2⟩
  | fn u v hu hv=>
   rw[a0t] at hn;obtain⟨e1,e2⟩:=kids [u,v] (fun x hx=>by simp at hx;rcases hx with rfl|rfl;exact hu;exact hv) (by omega) (fun x hx=>hf x (by rw[d5i,hx])) k he;rw[e1h,a7f,a2u,d1i _ _ _ _ _ _ _ rfl,e1];rw[e1] at e2;exact⟨rfl,e2⟩
  | all s x hs hx=>
   rw[a0t,a1e] at hn;have hge:=f6o c fr k;have hno:=d1d c fr k;have hc1:a0y c (nx c fr k)∉env:=he.not hge;have hs2:=he.snoc hge;rw[d4p,a3i,a0r,a1o,d4r,b3a,b7e];generalize nx c fr k=m at *;have key:∀y,fvB x y=true→y≠s→lkD es y≠a0y c m:=fun y hy hys e=>by
    rcases hf y (d8z hy hys) with h|h
    · exact hno (e▸h)
    · exact hc1 (e▸h)
   obtain⟨e1,e2⟩:=ih x (by omega) hx ((s,a0y c m)::es) (env++[a0y c m]) (m+1) hs2 (fun y hy=>by
    rw[b3t]
    by_cases hys:y=s
    · subst hys;simp
    · have:(s==y)=false:=beq_eq_false_iff_ne.2 fun e=>hys e.symm;simp only[this,Bool.false_eq_true,if_false];rcases hf y (d8z hy hys) with h|h
      · exact .inl h
      · exact .inr (by simp[h]))
   have hl:(env++[a0y c m]).length=env.length+1:=by simp
   have hsem:sem x (fun y=>e0e (env++[a0y c m]) (lkD ((s,a0y c m)::es) y)) .mt (env.length+1)=sem x (upd (fun y=>e0e env (lkD es y)) s (.bl env.length)) .mt (env.length+1):=by
    refine b8x hx (fun y hy=>?_) fun _ _=>rfl;rw[b3t,←c6o hc1]
    by_cases hys:y=s
    · subst hys;simp only[beq_self_eq_true,if_true];rw[a1s,a1s]
    · have:(s==y)=false:=beq_eq_false_iff_ne.2 fun e=>hys e.symm;simp only[this,Bool.false_eq_true,if_false];rw[a2w hys,a2w (key y hy hys)]
   rw[hl,hsem] at e1;rw[←e1];exact⟨rfl,by show k≤(a6t c fr n x _ _).2;omega⟩
def d2s(t:Ty):Ty:=(a6t 120 (a0n t [] []) t.sz t [] 0).1
theorem g3o{t:Ty}(hg:GT t):d2s t=(nmM 120 (a0n t [] []) (sem t .fv .mt 0) [] 0).1:=by
 unfold d2s;rw[(i7s 120 (a0n t [] []) t.sz t (Nat.le_refl _) hg [] [] 0 (fun e he=>by cases he) (fun x hx=>.inl ((b0x hg).2 hx))).1];have:(fun y=>e0e [] (lkD [] y))=.fv:=by funext y;rw[e2v];rfl
 rw[this];rfl
theorem e2d{t u:Ty}(ht:GT t)(hu:GT u)(hub:u.sz<20000)(h:sem t .fv .mt 0=sem u .fv .mt 0):d2s t=c1e u:=by
 rw[g3o ht,h2t hu hub,h];rw[d7x 120 (fr:=a0n t [] []) (fr':=a0n u [] []) fun x=>by rw[b0x ht,b0x hu,d8y ht,d8y hu,h]]
theorem i1o(c:UInt8)(fr:List (List UInt8)):∀(n:Nat) (t:Ty),t.sz≤n→GT t→∀(es:List (List UInt8×List UInt8)) (k:Nat),(∀x,fvB t x=true→lkD es x∈fr∨∃j,j<k∧lkD es x=a0y c j)→
 (∀(ρ:b2p) (μ:Int→Dt) (d:Nat),sem (a6t c fr n t es k).1 ρ μ d=sem t (fun y=>ρ (lkD es y)) μ d)∧k≤(a6t c fr n t es k).2:=by
 intro n
 induction n with
 | zero=>intro t h;have:=a2f t;omega
 | succ n ih=>
  intro t hn hg es k hf;have kids:∀l:List Ty,(∀x,x∈l→GT x)→Ty.szs l≤n→∀k:Nat,(∀x,d1u l x=true→lkD es x∈fr∨∃j,j<k∧lkD es x=a0y c j)→
   (∀(ρ:b2p) (μ:Int→Dt) (d:Nat),e0f (a7g (fun t k=>a6t c fr n t es k) l k).1 ρ μ d=e0f l (fun y=>ρ (lkD es y)) μ d)∧k≤(a7g (fun t k=>a6t c fr n t es k) l k).2:=by
   intro l
   induction l with
   | nil=>intro _ _ k _;exact⟨fun ρ μ d=>by rw[a7g,a1o,a1o],Nat.le_refl _⟩
   | cons t l ihl=>
    intro hl h1 k h3;rw[a3b] at h1;obtain⟨e1,e2⟩:=ih t (by omega) (hl t (List.mem_cons_self ..)) es k (fun x hx=>h3 x (by rw[a1y,hx];rfl));obtain⟨e3,e4⟩:=ihl (fun x hx=>hl x (List.mem_cons_of_mem _ hx)) (by omega) (a6t c fr n t es k).2 (fun x hx=>by
     rcases h3 x (by rw[a1y,hx,Bool.or_true]) with h| ⟨j,hj,h⟩
     · exact .inl h
     · exact .inr ⟨j,by omega,h⟩)
    exact⟨fun ρ μ d=>by rw[a7g,a0r,a0r,e1,e3],by show k≤(a7g (fun t k=>a6t c fr n t es k) l (a6t c fr n t es k).2).2;omega⟩
  cases hg with
  | var s hs=>exact⟨fun ρ μ d=>by rw[d4m,a3d,a3d],Nat.le_refl _⟩
  | unk m h1 h2=>exact⟨fun ρ μ d=>by rw[d4n,a4g,a4g],Nat.le_refl _⟩
  | con s l hs hl=>
   rw[a0t] at hn;obtain⟨e1,e2⟩:=kids l hl (by omega) k (fun x hx=>hf x (by rw[c3w,hx]));exact⟨fun ρ μ d=>by rw[d4o,a5a,a5a,e1],e2⟩
  | fn u v hu hv=>
   rw[a0t] at hn;obtain⟨e1,e2⟩:=kids [u,v] (fun x hx=>by simp at hx;rcases hx with rfl|rfl;exact hu;exact hv) (by omega) k (fun x hx=>hf x (by rw[d5i,hx]));exact⟨fun ρ μ d=>by rw[e1h,a7f,a7f,e1],e2⟩
  | all s x hs hx=>
   rw[a0t,a1e] at hn;have hge:=f6o c fr k;have hno:=d1d c fr k;rw[d4p];generalize nx c fr k=m at *;have key:∀y,fvB x y=true→y≠s→lkD es y≠a0y c m:=fun y hy hys e=>by
    rcases hf y (d8z hy hys) with h| ⟨j,hj,h⟩
    · exact hno (e▸h)
    · rw[e] at h;have:=b6h c _ _ h;omega
   obtain⟨e1,e2⟩:=ih x (by omega) hx ((s,a0y c m)::es) (m+1) (fun y hy=>by
    rw[b3t]
    by_cases hys:y=s
    · subst hys;exact .inr ⟨m,by omega,by simp⟩
    · have:(s==y)=false:=beq_eq_false_iff_ne.2 fun e=>hys e.symm;simp only[this,Bool.false_eq_true,if_false];rcases hf y (d8z hy hys) with h| ⟨j,hj,h⟩
      · exact .inl h
      · exact .inr ⟨j,by omega,h⟩)
   refine⟨fun ρ μ d=>?_,by show k≤(a6t c fr n x _ _).2;omega⟩;rw[a3i,a3i,a0r,a0r,a1o,a1o,e1];rw[b8x hx (ρ:=fun y=>upd ρ (a0y c m) (.bl d) (lkD ((s,a0y c m)::es) y)) (ρ':=upd (fun y=>ρ (lkD es y)) s (.bl d)) (μ:=μ) (μ':=μ) (fun y hy=>?_) fun _ _=>rfl];rw[b3t]
   by_cases hys:y=s
   · subst hys;simp only[beq_self_eq_true,if_true];rw[a1s,a1s]
   · have:(s==y)=false:=beq_eq_false_iff_ne.2 fun e=>hys e.symm;simp only[this,Bool.false_eq_true,if_false];rw[a2w hys,a2w (key y hy hys)]
theorem f4w{t u:Ty}(ht:GT t)(n:List UInt8)(ρ:b2p)(μ:Int→Dt)(d:Nat):sem (b6n t u n) ρ μ d=sem t ρ μ d:=by
 unfold b6n;rw[(i1o 121 (n::(a0n u [] []++a0n t [] [])) t.sz t (Nat.le_refl _) ht [] 0 (fun x hx=>.inl (by
  have:=(b0x ht).2 hx;simp only[List.mem_cons,List.mem_append];exact .inr (.inr this)))).1]
 rfl
mutual
def bnB:Ty→List UInt8→Bool
 | .mk k s _ a,x=>(k==5&&s==x)||g4q a x
def g4q:List Ty→List UInt8→Bool
 | [],_=>false
 | t::r,x=>bnB t x||g4q r x
end
theorem e0b(k:Int)(s:List UInt8)(m:Int)(a:List Ty)(x:List UInt8):bnB (.mk k s m a) x=((k==5&&s==x)||g4q a x):=by simp[bnB]
theorem b7t(t:Ty)(r:List Ty)(x:List UInt8):g4q (t::r) x=(bnB t x||g4q r x):=by simp[g4q]
theorem c3e(x:List UInt8):g4q [] x=false:=by simp[g4q]
theorem g3z{l:List Ty}{x:List UInt8}(h:g4q l x=false){t:Ty}(ht:t∈l):bnB t x=false:=by
 induction l with
 | nil=>cases ht
 | cons y r ih=>
  rw[b7t,Bool.or_eq_false_iff] at h;rcases List.mem_cons.1 ht with rfl|ht
  · exact h.1
  · exact ih h.2 ht
theorem h7z(c:UInt8)(fr:List (List UInt8)){x:List UInt8}(hx:x∈fr):∀(n:Nat) (t:Ty),t.sz≤n→GT t→∀(es:List (List UInt8×List UInt8)) (k:Nat),bnB (a6t c fr n t es k).1 x=false:=by
 intro n
 induction n with
 | zero=>intro t h;have:=a2f t;omega
 | succ n ih=>
  intro t hn hg es k;have kids:∀l:List Ty,(∀x,x∈l→GT x)→Ty.szs l≤n→∀k:Nat,g4q (a7g (fun t k=>a6t c fr n t es k) l k).1 x=false:=by
   intro l
   induction l with
   | nil=>intro _ _ k;rw[a7g,c3e]
   | cons t l ihl=>
    intro hl h1 k;rw[a3b] at h1;rw[a7g,b7t,ih t (by omega) (hl t (List.mem_cons_self ..)) es k,ihl (fun x hx=>hl x (List.mem_cons_of_mem _ hx)) (by omega)];rfl
  cases hg with
  | var s hs=>rw[d4m,e0b,c3e];rfl
  | unk m h1 h2=>rw[d4n,e0b,c3e];rfl
  | con s l hs hl=>
   rw[a0t] at hn;rw[d4o,e0b,kids l hl (by omega)];rfl
  | fn u v hu hv=>
   rw[a0t] at hn;rw[e1h,e0b,kids [u,v] (fun x hx=>by simp at hx;rcases hx with rfl|rfl;exact hu;exact hv) (by omega)];rfl
  | all s y hs hy=>
   rw[a0t,a1e] at hn;have hno:=d1d c fr k;rw[d4p,e0b,b7t,c3e,ih y (by omega) hy];have:(a0y c (nx c fr k)==x)=false:=beq_eq_false_iff_ne.2 fun e=>hno (e▸hx);rw[this];rfl
theorem g5b(n:Nat)(s a b:List UInt8):b8t (n+1) (.mk 1 s 0 []) a (.mk 1 b 0 [])=if s==a then .mk 1 b 0 [] else .mk 1 s 0 []:=by
 rw[d6y];cases h:s==a<;>simp
theorem i1n(a b:List UInt8):∀(n:Nat) (t:Ty),t.sz≤n→GT t→bnB t a=false→bnB t b=false→∀(ρ:b2p) (μ:Int→Dt) (d:Nat),sem (b8t n t a (.mk 1 b 0 [])) ρ μ d=sem t (upd ρ a (ρ b)) μ d:=by
 intro n
 induction n with
 | zero=>intro t h;have:=a2f t;omega
 | succ n ih=>
  intro t hn hg ha hb ρ μ d;cases hg with
  | var s hs=>
   rw[g5b];cases h:s==a
   · simp only[Bool.false_eq_true,if_false];rw[a3d,a3d,a2w (by simpa using h)]
   · simp only[if_true];have h:s=a:=by simpa using h
     rw[a3d,a3d,h,a1s]
  | unk m h1 h2=>
   have e:b8t (n+1) (.mk 2 [] m []) a (.mk 1 b 0 [])=.mk 2 [] m []:=rfl;rw[e,a4g,a4g]
  | con s l hs hl=>
   rw[a0t] at hn;rw[e0b,Bool.or_eq_false_iff] at ha hb;have e:b8t (n+1) (.mk 3 s 0 l) a (.mk 1 b 0 [])=.mk 3 s 0 (l.map fun x=>b8t n x a (.mk 1 b 0 [])):=rfl;rw[e,a5a,a5a,a2u,a2u,List.map_map]
   congr 1
   refine List.map_congr_left fun x hx=>?_;have:=a2i hx;exact ih x (by omega) (hl x hx) (g3z ha.2 hx) (g3z hb.2 hx) ρ μ d
  | fn x y hx hy=>
   rw[a0t,a1g] at hn;rw[e0b,Bool.or_eq_false_iff,b7t,b7t,c3e,Bool.or_false,Bool.or_eq_false_iff] at ha hb;have e:b8t (n+1) (.mk 4 [] 0 [x,y]) a (.mk 1 b 0 [])=.mk 4 [] 0 [b8t n x a (.mk 1 b 0 []),b8t n y a (.mk 1 b 0 [])]:=rfl;rw[e,a7f,a7f,a0r,a0r,a0r,a0r,a1o,a1o,ih x (by omega) hx ha.2.1 hb.2.1,ih y (by omega) hy ha.2.2 hb.2.2]
  | all s x hs hx=>
   rw[a0t,a1e] at hn;rw[e0b,Bool.or_eq_false_iff,b7t,c3e,Bool.or_false] at ha hb;have e:b8t (n+1) (.mk 5 s 0 [x]) a (.mk 1 b 0 [])=.mk 5 s 0 [b8t n x a (.mk 1 b 0 [])]:=rfl;have hsa:s≠a:=by simpa using ha.1
   have hsb:s≠b:=by simpa using hb.1
   rw[e,a3i,a3i,a0r,a0r,a1o,a1o,ih x (by omega) hx ha.2 hb.2,a2w (Ne.symm hsb),d3b ρ hsa]
theorem e3h{t:Ty}(ht:GT t)(hb:t.sz<20000)(a b:List UInt8)(h16:b.length≤16)(ρ:b2p)(μ:Int→Dt)(d:Nat):sem (putD t a (.mk 1 b 0 [])) ρ μ d=sem t (upd ρ a (ρ b)) μ d:=by
 obtain⟨_,g1,s1⟩:=c3h ht (.var b h16) hb (by rw[b8d];omega) a;unfold putD;rw[i1n a b _ _ (Nat.le_refl _) g1,f4w ht]
 · exact h7z 121 _ (by simp) _ t (Nat.le_refl _) ht _ _
 · exact h7z 121 _ (by rw[c4m];simp) _ t (Nat.le_refl _) ht _ _
theorem e3g{t:Ty}(ht:GT t)(hb:t.sz<300000)(a b:List UInt8)(h0:b≠[])(h16:b.length≤16)(ρ:b2p)(μ:Int→Dt)(d:Nat):sem (b0t t.sz t a (.mk 1 b 0 [])) ρ μ d=sem t (upd ρ a (ρ b)) μ d:=by
 rw[f4v (u:=.mk 1 b 0 []) (.inl ⟨b,rfl,h0,h16⟩) a t.sz t (Nat.le_refl _) ht hb];have:val (.mk 1 b 0 []) ρ μ=ρ b:=by unfold val;rw[a3d]
 rw[this]
mutual
def dm(v:Dt):Dt→Dt
 | .fv s=>.fv s
 | .bl k=>if k==0 then v else .bl (k - 1)
 | .mt n=>.mt n
 | .nd k s l=>.nd k s (dms v l)
def dms(v:Dt):List Dt→List Dt
 | []=>[]
 | t::r=>dm v t::dms v r
end
theorem i9h(v:Dt)(k:Int)(s:List UInt8)(l:List Dt):dm v (.nd k s l)=.nd k s (dms v l):=by simp[dm]
theorem d5r(v:Dt):∀l:List Dt,dms v l=l.map (dm v)
 | []=>by simp[dms]
 | t::r=>by rw[List.map_cons,←d5r v r];simp[dms]
theorem h7g(v:Dt){t:Ty}(hg:GT t):∀(ρ:b2p) (μ:Int→Dt) (d:Nat),dm v (sem t ρ μ (d+1))=sem t (fun s=>dm v (ρ s)) (fun n=>dm v (μ n)) d:=by
 induction hg with
 | var s _=>intro ρ μ d;rw[a3d,a3d]
 | unk n _ _=>intro ρ μ d;rw[a4g,a4g]
 | con s a _ _ ih=>
  intro ρ μ d;rw[a5a,a5a,i9h,d5r,a2u,a2u,List.map_map]
  congr 1
  exact List.map_congr_left fun t ht=>ih t ht ρ μ d
 | fn a b _ _ iha ihb=>
  intro ρ μ d;rw[a7f,a7f,i9h,d5r,a2u,a2u,List.map_map];simp only[List.map_cons,List.map_nil,Function.comp_apply,iha,ihb]
 | all s t _ _ ih=>
  intro ρ μ d;rw[a3i,a3i,i9h,d5r,a2u,a2u,List.map_map];simp only[List.map_cons,List.map_nil,Function.comp_apply,ih];have:(fun x=>dm v (upd ρ s (.bl (d+1)) x))=upd (fun x=>dm v (ρ x)) s (.bl d):=by
   funext x
   by_cases h:x=s
   · subst h;rw[a1s,a1s];simp[dm]
   · rw[a2w h,a2w h]
  rw[this]
theorem f6h{t u:Ty}(ht:GT t)(hu:GT u){s s':List UInt8}(c:List UInt8)(h:sem t (upd .fv s (.bl 0)) .mt 1=sem u (upd .fv s' (.bl 0)) .mt 1):sem t (upd .fv s (.fv c)) .mt 0=sem u (upd .fv s' (.fv c)) .mt 0:=by
 have e:∀s:List UInt8,(fun x=>dm (.fv c) (upd .fv s (.bl 0) x))=upd .fv s (.fv c):=fun s=>by
  funext x
  by_cases hx:x=s
  · subst hx;rw[a1s,a1s];simp[dm]
  · rw[a2w hx,a2w hx];simp[dm]
 have e2:(fun n=>dm (.fv c) (.mt n))=Dt.mt:=by funext n;simp[dm]
 have h1:=h7g (.fv c) ht (upd .fv s (.bl 0)) .mt 0;have h2:=h7g (.fv c) hu (upd .fv s' (.bl 0)) .mt 0;rw[e,e2] at h1 h2;rw[←h1,←h2,h]
abbrev sm(t:Ty):Dt:=sem t .fv .mt 0
theorem c0r{t u:Ty}(ht:GT t)(hu:GT u)(h:sm t=sm u):t.kind=u.kind:=by
 cases ht<;>cases hu<;>simp only[sm,a3d,a4g,a5a,a7f,a3i,Dt.nd.injEq] at h<;>first|rfl|(exact absurd h.1 (by decide))|cases h
theorem all_inv{s s':List UInt8}{t u:Ty}(h:sm (.mk 5 s 0 [t])=sm (.mk 5 s' 0 [u])):sem t (upd .fv s (.bl 0)) .mt 1=sem u (upd .fv s' (.bl 0)) .mt 1:=by
 simp only[sm,a3i,a0r,a1o] at h;simpa using h
theorem i8t{a b a' b':Ty}(h:sm (.mk 4 [] 0 [a,b])=sm (.mk 4 [] 0 [a',b'])):sm a=sm a'∧sm b=sm b':=by
 simp only[sm,a7f,a0r,a1o] at h;simpa using h
theorem h2n{s s':List UInt8}{l l':List Ty}(h:sm (.mk 3 s 0 l)=sm (.mk 3 s' 0 l')):s=s'∧l.map sm=l'.map sm:=by
 rw[sm,sm,a5a,a5a,a2u,a2u] at h;simpa using h
theorem d7t(c:UInt8)(but:List (List UInt8)):∀(n:Nat) (t u:Ty) (i:Nat),GT t→GT u→t.sz≤n→u.sz≤n→t.sz<20000→u.sz<20000→i+n*(but.length+1)≤900000000→sm t=sm u→(a7y c but n t i).1=(b0g c but n u i).1∧sm (a7y c but n t i).2=sm (b0g c but n u i).2
 | 0,t,u,i,_,_,h,_,_,_,_,_=>by have:=a2f t;omega
 | n+1,t,u,i,ht,hu,hn,hn',hb,hb',hi,h=>by
  have hk:=c0r ht hu h;cases h5:t.kind==5
  · rw[b5r c but _ _ _ h5,b7c c but _ _ _ (by rw[←hk];exact h5)];exact⟨rfl,h⟩
  · obtain⟨s,x,rfl,hs,hx⟩:=ht.all_inv h5;obtain⟨s',y,rfl,hs',hy⟩:=hu.all_inv (by rw[←hk];exact h5);rw[a0t,a1e] at hn hn' hb hb';rw[c0h,c7f];obtain⟨q1,q2,_,_⟩:=a8h c but i;have e:(n+1)*(but.length+1)=n*(but.length+1)+(but.length+1):=by rw[Nat.add_mul];omega
    obtain⟨c1,c2,_⟩:=a4o (a3j c but i) c (by omega);obtain⟨_,g,hsz⟩:=c5d hx (by omega) s (a0y c (a3j c but i)) c2 c1;obtain⟨_,g',hsz'⟩:=b2z hy (by omega) s' (a0y c (a3j c but i)) c1;have hh:=f6h hx hy (a0y c (a3j c but i)) (all_inv h);obtain⟨r1,r2⟩:=d7t c but n _ _ (a3j c but i+1) g g' (by omega) (by omega) (by omega) (by omega) (by omega) (by
     show sem _ _ _ _=sem _ _ _ _
     rw[e3g hx (by omega) _ _ c2 c1,e3h hy (by omega) _ _ c1];exact hh)
    exact⟨by rw[r1],r2⟩
theorem f4j:∀(n:Nat) (t u:Ty) (acc acc':List Ty),GT t→GT u→sm t=sm u→acc.map sm=acc'.map sm→(spF n t acc).1.map sm=(spF n u acc').1.map sm∧sm (spF n t acc).2=sm (spF n u acc').2
 | 0,t,u,_,_,_,_,h,h2=>⟨h2,h⟩
 | n+1,t,u,acc,acc',ht,hu,h,h2=>by
  have hk:=c0r ht hu h;cases h4:t.kind==4
  · rw[a8r _ _ _ h4,a8r _ _ _ (by rw[←hk];exact h4)];exact⟨h2,h⟩
  · obtain⟨a,b,rfl,ha,hb⟩:=ht.fn_inv h4;obtain⟨a',b',rfl,ha',hb'⟩:=hu.fn_inv (by rw[←hk];exact h4);rw[b9z,b9z];obtain⟨e1,e2⟩:=i8t h;exact f4j n b b' _ _ hb hb' e2 (by rw[List.map_append,List.map_append,h2,List.map_cons,List.map_cons,e1])
theorem e3f:∀(l:List (List UInt8×List UInt8)) (t:Ty),GT t→t.sz<20000→(∀p∈l,p.2.length≤16)→(∀p∈l,∀q∈l,p.2≠q.1)→∀(ρ:b2p) (μ:Int→Dt) (d:Nat),sem (c0c l t) ρ μ d=sem t (fun x=>ρ (lkD l x)) μ d
 | [],t,_,_,_,_,ρ,μ,d=>rfl
 | p::r,t,hg,hb,h1,h2,ρ,μ,d=>by
  obtain⟨_,g,s⟩:=b2z hg hb p.1 p.2 (h1 p (List.mem_cons_self ..));rw[c0c,e3f r _ g (by omega) (fun q hq=>h1 q (List.mem_cons_of_mem _ hq)) (fun q hq q' hq'=>h2 q (List.mem_cons_of_mem _ hq) q' (List.mem_cons_of_mem _ hq')),e3h hg hb _ _ (h1 p (List.mem_cons_self ..))];have key:∀l:List (List UInt8×List UInt8),(∀q∈l,p.2≠q.1)→lkD l p.2=p.2:=by
   intro l
   induction l with
   | nil=>intro _;rfl
   | cons q l ih=>
    intro h;rw[b3t];have:(q.1==p.2)=false:=beq_eq_false_iff_ne.2 (Ne.symm (h q (List.mem_cons_self ..)));rw[this];simp only[Bool.false_eq_true,if_false];exact ih fun q' hq'=>h q' (List.mem_cons_of_mem _ hq')
  have e:upd (fun x=>ρ (lkD r x)) p.1 (ρ (lkD r p.2))=fun x=>ρ (lkD (p::r) x):=by
   funext x;rw[key r fun q hq=>h2 p (List.mem_cons_self ..) q (List.mem_cons_of_mem _ hq),b3t]
   by_cases hx:x=p.1
   · subst hx;rw[a1s];simp
   · rw[a2w hx];have:(p.1==x)=false:=beq_eq_false_iff_ne.2 (Ne.symm hx);simp[this]
  rw[e]
def upN(μ:Int→Dt):List (List UInt8)→Nat→b2p→b2p
 | [],_,ρ=>ρ
 | n::r,i,ρ=>upd (upN μ r (i+1) ρ) n (μ ((900000+i:Nat):Int))
def upM(called:List (List UInt8×List UInt8))(ρ:b2p):List (List UInt8)→Nat→(Int→Dt)→Int→Dt
 | [],_,μ=>μ
 | n::r,i,μ=>b8r (upM called ρ r (i+1) μ) ((900000+i:Nat):Int) (ρ ((a2a n called).getD []))
theorem e3i:∀(l:List (List UInt8)) (i:Nat) (t:Ty),GT t→t.sz<300000→i+l.length≤100000→∀(ρ:b2p) (μ:Int→Dt) (d:Nat),sem (g6c l i t) ρ μ d=sem t (upN μ l i ρ) μ d
 | [],i,t,_,_,_,ρ,μ,d=>rfl
 | n::r,i,t,hg,hb,hi,ρ,μ,d=>by
  simp only[List.length_cons] at hi;obtain⟨_,g,hs⟩:=d3y hg hb n i (by omega);rw[g6c,e3i r (i+1) _ g (by omega) (by omega),f4v (u:=b9e i) (.inr ⟨_,rfl⟩) n t.sz t (Nat.le_refl _) hg hb];have:∀ρ,val (b9e i) ρ μ=μ ((900000+i:Nat):Int):=fun ρ=>by unfold val b9e;rw[a4g]
  rw[this];rfl
theorem e3j(called:List (List UInt8×List UInt8)):∀(l:List (List UInt8)) (i:Nat) (t:Ty),(∀n∈l,(a2a n called).getD []≠[]∧((a2a n called).getD []).length≤16)→GT t→t.sz<300000→∀(ρ:b2p) (μ:Int→Dt) (d:Nat),sem (f3b called l i t) ρ μ d=sem t ρ (upM called ρ l i μ) d
 | [],i,t,_,_,_,ρ,μ,d=>rfl
 | n::r,i,t,hc,hg,hb,ρ,μ,d=>by
  obtain⟨c1,c2⟩:=hc n (by simp);obtain⟨_,g,hs⟩:=d5n hg hb ((900000+i:Nat):Int) _ c1 c2;rw[f3b,e3j called r (i+1) _ (fun m hm=>hc m (by simp[hm])) g (by omega),i1p (u:=.mk 1 ((a2a n called).getD []) 0 []) (.inl ⟨_,rfl,c1,c2⟩) _ t.sz t (Nat.le_refl _) hg hb];have:∀μ,val (.mk 1 ((a2a n called).getD []) 0 []) ρ μ=ρ ((a2a n called).getD []):=fun μ=>by unfold val;rw[a3d]
  rw[this];rfl
theorem h6x(called:List (List UInt8×List UInt8))(σ ρ:b2p)(μ:Int→Dt):∀(l:List (List UInt8)) (i:Nat) (ν:Int→Dt),(∀j:Nat,i≤j→ν ((900000+j:Nat):Int)=upM called σ l i μ ((900000+j:Nat):Int))→∀x,upN ν l i ρ x=if x∈l then σ ((a2a x called).getD []) else ρ x
 | [],_,_,_,x=>by simp[upN]
 | n::r,i,ν,h,x=>by
  rw[upN];have h0:=h i (Nat.le_refl _);rw[upM] at h0;unfold b8r at h0;rw[if_pos rfl] at h0
  by_cases hx:x=n
  · subst hx;rw[a1s,h0];simp
  · rw[a2w hx,h6x called σ ρ μ r (i+1) ν (fun j hj=>by
     rw[h j (by omega),upM];unfold b8r;rw[if_neg (by omega)])]
    simp[hx]
theorem g5o(called:List (List UInt8×List UInt8))(names:List (List UInt8)){t:Ty}(hn:names.length≤99999)(hc:∀n∈names,(a2a n called).getD []≠[]∧((a2a n called).getD []).length≤16)(hg:GT t)(hb:t.sz<300000)(hm:∀m,mvB t m=false)(ρ:b2p)(μ:Int→Dt)(d:Nat):sem (b0k called names t) ρ μ d=sem t (fun x=>if x∈names then ρ ((a2a x called).getD []) else ρ x) μ d:=by
 obtain⟨g1,s1⟩:=e1d names 0 t hg hb (by omega);unfold b0k;rw[e3j called names 0 _ hc g1 (by omega),e3i names 0 t hg hb (by omega)];refine b8x hg (fun x _=>h6x called ρ ρ μ names 0 _ (fun j _=>rfl) x) fun m h=>by rw[hm m] at h;cases h
end Go.Proofs
