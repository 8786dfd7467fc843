/- What a type means: bound names by levels, free names by a table; what renaming, putting and peeling do to it. -/
import Derived.Test.YtjfghnkmladbkaaGreatDoorAvK
import Derived.Test.YtjfghnkmladbkaaGreatDoorAvL
import Derived.Test.YtjfghnkmladbkaaGreatDoorAvR
import Derived.Test.YtjfghnkmladbkaaGreatDoorAvP
namespace Go.Proofs
open Go.Av
set_option maxHeartbeats 4000000
inductive Dt where
 | fv (s:List UInt8)
 | bl (k:Nat)
 | mt (n:Int)
 | nd (k:Int) (s:List UInt8) (l:List Dt)
abbrev b1s:=List UInt8→Dt
def upd(ρ:b1s)(a:List UInt8)(v:Dt):b1s:=fun s=>if s=a then v else ρ s
theorem a1l(ρ:b1s)(a:List UInt8)(v:Dt):upd ρ a v a=v:=if_pos rfl
theorem a2g{ρ:b1s}{a s:List UInt8}{v:Dt}(h:s≠a):upd ρ a v s=ρ s:=if_neg h
theorem c6b(ρ:b1s)(a:List UInt8)(u v:Dt):upd (upd ρ a u) a v=upd ρ a v:=by
 funext s;unfold upd;split<;>rfl
theorem d2p(ρ:b1s){a b:List UInt8}(h:a≠b)(u v:Dt):upd (upd ρ a u) b v=upd (upd ρ b v) a u:=by
 funext s;unfold upd
 by_cases h1:s=a
 · subst h1;rw[if_neg h,if_pos rfl,if_pos rfl]
 · rw[if_neg h1,if_neg h1]
mutual
def sem:Ty→b1s→(Int→Dt)→Nat→Dt
 | .mk k s n a,ρ,μ,d=>if k==1 then ρ s else if k==2 then μ n else if k==5 then .nd 5 [] (d9u a (upd ρ s (.bl d)) μ (d+1)) else .nd k s (d9u a ρ μ d)
def d9u:List Ty→b1s→(Int→Dt)→Nat→List Dt
 | [],_,_,_=>[]
 | t::r,ρ,μ,d=>sem t ρ μ d::d9u r ρ μ d
end
section
variable(ρ:b1s)(μ:Int→Dt)(d:Nat)
theorem a1z(s:List UInt8)(n:Int)(a:List Ty):sem (.mk 1 s n a) ρ μ d=ρ s:=by simp[sem]
theorem a3c(s:List UInt8)(n:Int)(a:List Ty):sem (.mk 2 s n a) ρ μ d=μ n:=by simp[sem]
theorem a3m(s:List UInt8)(n:Int)(a:List Ty):sem (.mk 3 s n a) ρ μ d=.nd 3 s (d9u a ρ μ d):=by simp[sem]
theorem a5o(s:List UInt8)(n:Int)(a:List Ty):sem (.mk 4 s n a) ρ μ d=.nd 4 s (d9u a ρ μ d):=by simp[sem]
theorem a2a(s:List UInt8)(n:Int)(a:List Ty):sem (.mk 5 s n a) ρ μ d=.nd 5 [] (d9u a (upd ρ s (.bl d)) μ (d+1)):=by simp[sem]
theorem a0z:d9u [] ρ μ d=[]:=by simp[d9u]
theorem a0n(t:Ty)(r:List Ty):d9u (t::r) ρ μ d=sem t ρ μ d::d9u r ρ μ d:=by simp[d9u]
theorem a2c(l:List Ty):d9u l ρ μ d=l.map fun t=>sem t ρ μ d:=by
 induction l with
 | nil=>exact a0z ρ μ d
 | cons t r ih=>rw[a0n,ih];rfl
end
mutual
def fvB:Ty→List UInt8→Bool
 | .mk k s _ a,x=>if k==1 then s==x else if k==5 then (d8a a x&& !(s==x)) else d8a a x
def d8a:List Ty→List UInt8→Bool
 | [],_=>false
 | t::r,x=>fvB t x||d8a r x
end
mutual
def mvB:Ty→Int→Bool
 | .mk k _ n a,x=>if k==2 then n==x else d7d a x
def d7d:List Ty→Int→Bool
 | [],_=>false
 | t::r,x=>mvB t x||d7d r x
end
mutual
def npB:Ty→Bool
 | .mk k _ _ a=> !(k==5)&&h4s a
def h4s:List Ty→Bool
 | []=>true
 | t::r=>npB t&&h4s r
end
section
variable(x:List UInt8)(m:Int)
theorem c0x(s:List UInt8)(n:Int)(a:List Ty):fvB (.mk 1 s n a) x=(s==x):=by simp[fvB]
theorem e4r(s:List UInt8)(n:Int):fvB (.mk 2 s n []) x=false:=by simp[fvB,d8a]
theorem c7x(s:List UInt8)(n:Int)(a:List Ty):fvB (.mk 3 s n a) x=d8a a x:=by simp[fvB]
theorem d7z(s:List UInt8)(n:Int)(a:List Ty):fvB (.mk 4 s n a) x=d8a a x:=by simp[fvB]
theorem c4a(s:List UInt8)(n:Int)(a:List Ty):fvB (.mk 5 s n a) x=(d8a a x&& !(s==x)):=by simp[fvB]
theorem a2w(t:Ty)(r:List Ty):d8a (t::r) x=(fvB t x||d8a r x):=by simp[d8a]
theorem a7k:d8a [] x=false:=by simp[d8a]
theorem b7j{l:List Ty}:d8a l x=true↔∃t,t∈l∧fvB t x=true:=by
 induction l with
 | nil=>simp[d8a]
 | cons t r ih=>rw[a2w,Bool.or_eq_true,ih];simp
theorem f4p(s:List UInt8)(n:Int):mvB (.mk 1 s n []) m=false:=by simp[mvB,d7d]
theorem d7c(s:List UInt8)(n:Int)(a:List Ty):mvB (.mk 2 s n a) m=(n==m):=by simp[mvB]
theorem e3x(s:List UInt8)(n:Int)(a:List Ty):mvB (.mk 3 s n a) m=d7d a m:=by simp[mvB]
theorem f4q(s:List UInt8)(n:Int)(a:List Ty):mvB (.mk 4 s n a) m=d7d a m:=by simp[mvB]
theorem d1a(s:List UInt8)(n:Int)(a:List Ty):mvB (.mk 5 s n a) m=d7d a m:=by simp[mvB]
theorem a5d(t:Ty)(r:List Ty):d7d (t::r) m=(mvB t m||d7d r m):=by simp[d7d]
theorem b3r:d7d [] m=false:=by simp[d7d]
theorem e3y{l:List Ty}:d7d l m=true↔∃t,t∈l∧mvB t m=true:=by
 induction l with
 | nil=>simp[d7d]
 | cons t r ih=>rw[a5d,Bool.or_eq_true,ih];simp
end
theorem b2j{t:Ty}(hg:GT t):∀ {ρ ρ':b1s} {μ μ':Int→Dt} {d:Nat},(∀s,fvB t s=true→ρ s=ρ' s)→(∀n,mvB t n=true→μ n=μ' n)→sem t ρ μ d=sem t ρ' μ' d:=by
 induction hg with
 | var s _=>intro ρ ρ' μ μ' d h1 _;rw[a1z,a1z];exact h1 s (by simp[c0x])
 | unk n _ _=>intro ρ ρ' μ μ' d _ h2;rw[a3c,a3c];exact h2 n (by simp[d7c])
 | con s a _ _ ih=>
  intro ρ ρ' μ μ' d h1 h2;rw[a3m,a3m,a2c,a2c]
  congr 1
  exact List.map_congr_left fun t ht=>ih t ht (fun s hs=>h1 s (by rw[c7x,b7j];exact⟨t,ht,hs⟩)) (fun n hn=>h2 n (by rw[e3x,e3y];exact⟨t,ht,hn⟩))
 | fn a b _ _ iha ihb=>
  intro ρ ρ' μ μ' d h1 h2;rw[a5o,a5o,a0n,a0n,a0n,a0n,a0z,a0z];rw[iha (fun s hs=>h1 s (by rw[d7z,a2w,hs];rfl)) (fun n hn=>h2 n (by rw[f4q,a5d,hn];rfl)),
   ihb (fun s hs=>h1 s (by rw[d7z,a2w,a2w,hs];simp)) (fun n hn=>h2 n (by rw[f4q,a5d,a5d,hn];simp))]
 | all s t _ _ ih=>
  intro ρ ρ' μ μ' d h1 h2;rw[a2a,a2a,a0n,a0n,a0z,a0z];rw[ih (ρ:=upd ρ s (.bl d)) (ρ':=upd ρ' s (.bl d)) (μ:=μ) (μ':=μ') (fun x hx=>?_) (fun n hn=>h2 n (by rw[d1a,a5d,hn];rfl))]
  by_cases he:x=s
  · subst he;rw[a1l,a1l]
  · rw[a2g he,a2g he];refine h1 x ?_;rw[c4a,a2w,hx];have:(s==x)=false:=beq_eq_false_iff_ne.2 fun e=>he e.symm;simp[this]
theorem j2k{t:Ty}(hg:GT t):npB t=true→∀ {ρ:b1s} {μ:Int→Dt} {d d':Nat},sem t ρ μ d=sem t ρ μ d':=by
 induction hg with
 | var s _=>intro _ ρ μ d d';rw[a1z,a1z]
 | unk n _ _=>intro _ ρ μ d d';rw[a3c,a3c]
 | con s a _ hx ih=>
  intro h ρ μ d d';rw[a3m,a3m,a2c,a2c]
  congr 1
  have h:h4s a=true:=by simpa [npB] using h
  refine List.map_congr_left fun t ht=>ih t ht ?_;clear ih
  induction a with
  | nil=>cases ht
  | cons y r ihr=>
   simp only[h4s,Bool.and_eq_true] at h;rcases List.mem_cons.1 ht with rfl|ht
   · exact h.1
   · exact ihr (fun z hz=>hx z (List.mem_cons_of_mem _ hz)) (by simpa [npB] using h.2) h.2 ht
 | fn a b _ _ iha ihb=>
  intro h ρ μ d d';have h:npB a=true∧npB b=true:=by simpa [npB,h4s] using h
  rw[a5o,a5o,a0n,a0n,a0n,a0n,a0z,a0z,iha h.1 (d:=d) (d':=d'),ihb h.2 (d:=d) (d':=d')]
 | all s t _ _ ih=>intro h;simp[npB] at h
theorem e5w(l:List (List UInt8))(n x:List UInt8):x∈b4k l n↔x∈l∨x=n:=by
 unfold b4k;split
 · rename_i h;have h:n∈l:=by simpa using h
   constructor
   · exact fun hx=>.inl hx
   · rintro (hx|rfl)
     · exact hx
     · exact h
 · simp
theorem f7m{t:Ty}(hg:GT t):∀ {b acc:List (List UInt8)} {x:List UInt8},x∈a0m t b acc↔x∈acc∨(fvB t x=true∧x∉b):=by
 induction hg with
 | var s _=>
  intro b acc x;rw[a7y,c0x];simp only[Ty.args,a4q,a9d,Ty.kind,Ty.name,beq_self_eq_true,Bool.true_and];split
  · rename_i h;have h:s∉b:=by simpa using h
    rw[e5w];constructor
    · rintro (hx|rfl)
      · exact .inl hx
      · exact .inr ⟨by simp,h⟩
    · rintro (hx| ⟨hx,_⟩)
      · exact .inl hx
      · exact .inr (show s=x by simpa using hx).symm
  · rename_i h;have h:s∈b:=by simpa using h
    constructor
    · exact fun hx=>.inl hx
    · rintro (hx| ⟨hx,hb⟩)
      · exact hx
      · have:s=x:=by simpa using hx
        subst this;exact absurd h hb
 | unk n _ _=>
  intro b acc x;rw[a7y,e4r];simp[Ty.args,a4q,a9d,Ty.kind]
 | con s a _ hx ih=>
  intro b acc x;rw[a7y,c7x];simp only[Ty.args,Ty.kind,a9d,show ((3:Int)==1)=false from rfl,show ((3:Int)==5)=false from rfl,Bool.false_and,Bool.false_eq_true,if_false]
  induction a generalizing acc with
  | nil=>simp[a4q,d8a]
  | cons y r ihr=>
   rw[a4s,ihr (fun z hz=>hx z (List.mem_cons_of_mem _ hz)) (fun z hz=>ih z (List.mem_cons_of_mem _ hz)),ih y (List.mem_cons_self ..),a2w,Bool.or_eq_true];constructor
   · rintro ((h|h)|h)
     · exact .inl h
     · exact .inr ⟨.inl h.1,h.2⟩
     · exact .inr ⟨.inr h.1,h.2⟩
   · rintro (h| ⟨h|h,hb⟩)
     · exact .inl (.inl h)
     · exact .inl (.inr ⟨h,hb⟩)
     · exact .inr ⟨h,hb⟩
 | fn u v _ _ ihu ihv=>
  intro b acc x;rw[a7y,d7z];simp only[Ty.args,Ty.kind,a9d,show ((4:Int)==1)=false from rfl,show ((4:Int)==5)=false from rfl,Bool.false_and,Bool.false_eq_true,if_false];rw[a4s,a4s,a4q,ihv,ihu,a2w,a2w,a7k,Bool.or_false,Bool.or_eq_true];constructor
  · rintro ((h|h)|h)
    · exact .inl h
    · exact .inr ⟨.inl h.1,h.2⟩
    · exact .inr ⟨.inr h.1,h.2⟩
  · rintro (h| ⟨h|h,hb⟩)
    · exact .inl (.inl h)
    · exact .inl (.inr ⟨h,hb⟩)
    · exact .inr ⟨h,hb⟩
 | all s t _ _ ih=>
  intro b acc x;rw[a7y,c4a];simp only[Ty.args,Ty.kind,Ty.name,a9d,show ((5:Int)==1)=false from rfl,beq_self_eq_true,Bool.false_and,Bool.false_eq_true,if_false,if_true];rw[a4s,a4q,ih,a2w,a7k,Bool.or_false,e5w,Bool.and_eq_true];constructor
  · rintro (h| ⟨h,hb⟩)
    · exact .inl h
    · refine .inr ⟨⟨h,?_⟩,fun e=>hb (.inl e)⟩;have:s≠x:=fun e=>hb (.inr e.symm);simp[this]
  · rintro (h| ⟨⟨h,hs⟩,hb⟩)
    · exact .inl h
    · refine .inr ⟨h,?_⟩;rintro (e|e)
      · exact hb e
      · subst e;simp at hs
theorem a7x{t:Ty}(hg:GT t){x:List UInt8}:x∈a0m t [] []↔fvB t x=true:=by
 rw[f7m hg];simp
end Go.Proofs
namespace Go.Proofs
open Go.Av
set_option maxHeartbeats 4000000
mutual
def occ(x:List UInt8):Dt→Bool
 | .fv s=>s==x
 | .bl _=>false
 | .mt _=>false
 | .nd _ _ l=>g6t x l
def g6t(x:List UInt8):List Dt→Bool
 | []=>false
 | t::r=>occ x t||g6t x r
end
mutual
def omt(m:Int):Dt→Bool
 | .fv _=>false
 | .bl _=>false
 | .mt n=>n==m
 | .nd _ _ l=>g6s m l
def g6s(m:Int):List Dt→Bool
 | []=>false
 | t::r=>omt m t||g6s m r
end
theorem f4j(x:List UInt8)(k:Int)(s:List UInt8)(l:List Dt):occ x (.nd k s l)=g6t x l:=by simp[occ]
theorem c0l(x:List UInt8)(t:Dt)(r:List Dt):g6t x (t::r)=(occ x t||g6t x r):=by simp[g6t]
theorem d3y(x:List UInt8):g6t x []=false:=by simp[g6t]
theorem j3x(x:List UInt8)(k:Nat):occ x (.bl k)=false:=by simp[occ]
theorem c0m(x s:List UInt8):occ x (.fv s)=(s==x):=by simp[occ]
theorem d6t(x:List UInt8)(n:Int):occ x (.mt n)=false:=by simp[occ]
theorem f4i(m:Int)(k:Int)(s:List UInt8)(l:List Dt):omt m (.nd k s l)=g6s m l:=by simp[omt]
theorem c0k(m:Int)(t:Dt)(r:List Dt):g6s m (t::r)=(omt m t||g6s m r):=by simp[g6s]
theorem d3x(m:Int):g6s m []=false:=by simp[g6s]
theorem j3w(m:Int)(k:Nat):omt m (.bl k)=false:=by simp[omt]
theorem e3t(m:Int)(s:List UInt8):omt m (.fv s)=false:=by simp[omt]
theorem h4p(m:Int)(n:Int):omt m (.mt n)=(n==m):=by simp[omt]
theorem c2o{t:Ty}(hg:GT t){x:List UInt8}:∀ {ρ:b1s} {μ:Int→Dt} {d:Nat},occ x (sem t ρ μ d)=true↔(∃y,fvB t y=true∧occ x (ρ y)=true)∨∃n,mvB t n=true∧occ x (μ n)=true:=by
 induction hg with
 | var s _=>
  intro ρ μ d;rw[a1z];constructor
  · exact fun h=>.inl ⟨s,by simp[c0x],h⟩
  · rintro (⟨y,h1,h2⟩| ⟨n,h1,_⟩)
    · have:s=y:=by simpa [c0x] using h1
      rw[this];exact h2
    · simp[f4p] at h1
 | unk n _ _=>
  intro ρ μ d;rw[a3c];constructor
  · exact fun h=>.inr ⟨n,by simp[d7c],h⟩
  · rintro (⟨y,h1,_⟩| ⟨m,h1,h2⟩)
    · simp[e4r] at h1
    · have:n=m:=by simpa [d7c] using h1
      rw[this];exact h2
 | con s a _ _ ih=>
  intro ρ μ d;rw[a3m,f4j];have:∀l:List Ty,(∀z,z∈l→z∈a)→(g6t x (d9u l ρ μ d)=true↔(∃y,d8a l y=true∧occ x (ρ y)=true)∨∃n,d7d l n=true∧occ x (μ n)=true):=by
   intro l
   induction l with
   | nil=>intro _;simp[a0z,d3y,a7k,b3r]
   | cons z r ihr=>
    intro hl;rw[a0n,c0l,Bool.or_eq_true,ih z (hl z (List.mem_cons_self ..)),ihr fun w hw=>hl w (List.mem_cons_of_mem _ hw)];simp only[a2w,a5d,Bool.or_eq_true];constructor
    · rintro ((⟨y,h1,h2⟩| ⟨n,h1,h2⟩)|(⟨y,h1,h2⟩| ⟨n,h1,h2⟩))
      · exact .inl ⟨y,.inl h1,h2⟩
      · exact .inr ⟨n,.inl h1,h2⟩
      · exact .inl ⟨y,.inr h1,h2⟩
      · exact .inr ⟨n,.inr h1,h2⟩
    · rintro (⟨y,h1|h1,h2⟩| ⟨n,h1|h1,h2⟩)
      · exact .inl (.inl ⟨y,h1,h2⟩)
      · exact .inr (.inl ⟨y,h1,h2⟩)
      · exact .inl (.inr ⟨n,h1,h2⟩)
      · exact .inr (.inr ⟨n,h1,h2⟩)
  rw[this a fun _ h=>h];simp only[c7x,e3x]
 | fn u v _ _ ihu ihv=>
  intro ρ μ d;rw[a5o,f4j,a0n,a0n,a0z,c0l,c0l,d3y,Bool.or_false,Bool.or_eq_true,ihu,ihv];simp only[d7z,f4q,a2w,a5d,a7k,b3r,Bool.or_false,Bool.or_eq_true];constructor
  · rintro ((⟨y,h1,h2⟩| ⟨n,h1,h2⟩)|(⟨y,h1,h2⟩| ⟨n,h1,h2⟩))
    · exact .inl ⟨y,.inl h1,h2⟩
    · exact .inr ⟨n,.inl h1,h2⟩
    · exact .inl ⟨y,.inr h1,h2⟩
    · exact .inr ⟨n,.inr h1,h2⟩
  · rintro (⟨y,h1|h1,h2⟩| ⟨n,h1|h1,h2⟩)
    · exact .inl (.inl ⟨y,h1,h2⟩)
    · exact .inr (.inl ⟨y,h1,h2⟩)
    · exact .inl (.inr ⟨n,h1,h2⟩)
    · exact .inr (.inr ⟨n,h1,h2⟩)
 | all s t _ _ ih=>
  intro ρ μ d;rw[a2a,f4j,a0n,a0z,c0l,d3y,Bool.or_false,ih];simp only[c4a,d1a,a2w,a5d,a7k,b3r,Bool.or_false,Bool.and_eq_true];constructor
  · rintro (⟨y,h1,h2⟩|h)
    · by_cases he:y=s
      · subst he;rw[a1l,j3x] at h2;cases h2
      · rw[a2g he] at h2;have:(s==y)=false:=beq_eq_false_iff_ne.2 fun e=>he e.symm;exact .inl ⟨y,⟨h1,by simp[this]⟩,h2⟩
    · exact .inr h
  · rintro (⟨y,⟨h1,h3⟩,h2⟩|h)
    · refine .inl ⟨y,h1,?_⟩;rw[a2g]
      · exact h2
      · rintro rfl;simp at h3
    · exact .inr h
theorem d7y{t:Ty}(hg:GT t){x:List UInt8}:fvB t x=occ x (sem t .fv .mt 0):=by
 rw[Bool.eq_iff_iff,c2o hg];constructor
 · exact fun h=>.inl ⟨x,h,by simp[c0m]⟩
 · rintro (⟨y,h1,h2⟩| ⟨n,_,h2⟩)
   · have:y=x:=by simpa [c0m] using h2
     rw[←this];exact h1
   · simp[d6t] at h2
section
variable(c:UInt8)(fr:List (List UInt8))(env:List (List UInt8))(k:Nat)
end
end Go.Proofs
namespace Go.Proofs
open Go.Av
set_option maxHeartbeats 64000000
set_option maxRecDepth 100000
theorem i3d(n:Nat)(s:List UInt8)(l:List Ty)(a b:List UInt8):b1i (n+1) (.mk 3 s 0 l) a b=.mk 3 s 0 (l.map fun x=>b1i n x a b):=rfl
theorem c0z(s:List UInt8)(but:List (List UInt8)):a5p s but∉but:=by
 have:=g8g s but;simpa using this
theorem e2v{n:Nat}{t:Ty}(hn:t.sz≤n)(hg:GT t)(hb:t.sz<300000)(a b:List UInt8)(h0:b≠[])(h1:b.length≤16):GT (b1i n t a b)∧(b1i n t a b).sz=t.sz:=(c5d n t hn hg hb a b h0 h1).2
theorem d9v:∀(n:Nat) (t:Ty),t.sz≤n→GT t→t.sz<300000→∀(a b:List UInt8),b≠[]→b.length≤16→fvB t b=false→∀(ρ:b1s) (μ:Int→Dt) (d:Nat),sem (b1i n t a b) ρ μ d=sem t (upd ρ a (ρ b)) μ d:=by
 intro n
 induction n with
 | zero=>intro t h;have:=a3g t;omega
 | succ n ih=>
  intro t hn hg hb a b h0 h1 hf ρ μ d;cases hg with
  | var s hs=>
   rw[e2w];cases h:s==a
   · simp only[Bool.false_eq_true,if_false];rw[a1z,a1z,a2g (by simpa using h)]
   · simp only[if_true];have h:s=a:=by simpa using h
     rw[a1z,a1z,h,a1l]
  | unk m h1 h2=>
   have e:b1i (n+1) (.mk 2 [] m []) a b=.mk 2 [] m []:=rfl;rw[e,a3c,a3c]
  | con s l hs hl=>
   rw[a0x] at hn hb;rw[i3d,a3m,a3m,a2c,a2c,List.map_map]
   congr 1
   refine List.map_congr_left fun x hx=>?_;have:=a2p hx;exact ih x (by omega) (hl x hx) (by omega) a b h0 h1 (by
    rw[c7x] at hf;cases h:fvB x b
    · rfl
    · exact absurd ((b7j b).2 ⟨x,hx,h⟩) (by rw[hf];decide)) ρ μ d
  | fn x y hx hy=>
   rw[a0x,a1u] at hn hb;have e:b1i (n+1) (.mk 4 [] 0 [x,y]) a b=.mk 4 [] 0 [b1i n x a b,b1i n y a b]:=rfl;rw[d7z,a2w,a2w,a7k,Bool.or_false,Bool.or_eq_false_iff] at hf;rw[e,a5o,a5o,a0n,a0n,a0n,a0n,a0z,a0z,ih x (by omega) hx (by omega) a b h0 h1 hf.1,ih y (by omega) hy (by omega) a b h0 h1 hf.2]
  | all s x hs hx=>
   rw[a0x,a1o] at hn hb;rw[e2x];rw[c4a,a2w,a7k,Bool.or_false] at hf;cases ha:s==a
   · have ha':s≠a:=by simpa using ha
     simp only[Bool.false_eq_true,if_false];cases hq:s==b
     · have hq':s≠b:=by simpa using hq
       simp only[Bool.false_eq_true,if_false];rw[hq,Bool.not_false,Bool.and_true] at hf;rw[a2a,a2a,a0n,a0n,a0z,a0z,ih x (by omega) hx (by omega) a b h0 h1 hf,a2g (Ne.symm hq'),d2p ρ ha']
     · simp only[if_true];have hq':s=b:=by simpa using hq
       subst hq';have hfr:=c0z s (a0m x [] []++[a,s]);have hle:=a2o _ x (Nat.le_refl _) [] [];simp only[List.length_nil,Nat.zero_add] at hle;obtain⟨c0,c1⟩:=b3w s (a0m x [] []++[a,s]) (by simp;omega);generalize a5p s (a0m x [] []++[a,s])=c at hfr c0 c1⊢;simp only[List.mem_append,List.mem_cons,List.not_mem_nil,or_false,not_or] at hfr;obtain⟨f1,f2,f3⟩:=hfr;have f1':fvB x c=false:=by
        cases h:fvB x c
        · rfl
        · exact absurd ((a7x hx).2 h) f1
       obtain⟨g,hsz⟩:=e2v (n:=n) (t:=x) (by omega) hx (by omega) s c c0 c1;have hfb:fvB (b1i n x s c) s=false:=by
        rw[d7y g,ih x (by omega) hx (by omega) s c c0 c1 f1',Bool.eq_false_iff];intro h;rcases (c2o hx).1 h with⟨y,h2,h3⟩| ⟨m,_,h3⟩
        · by_cases hy:y=s
          · subst hy;rw[a1l,c0m] at h3;exact f3 (by simpa using h3)
          · rw[a2g hy,c0m] at h3;exact hy (by simpa using h3)
        · rw[d6t] at h3;cases h3
       rw[a2a,a2a,a0n,a0n,a0z,a0z,ih (b1i n x s c) (by omega) g (by omega) a s h0 h1 hfb,ih x (by omega) hx (by omega) s c c0 c1 f1'];rw[b2j hx (ρ:=upd (upd (upd ρ c (.bl d)) a (upd ρ c (.bl d) s)) s (upd (upd ρ c (.bl d)) a (upd ρ c (.bl d) s) c)) (ρ':=upd (upd ρ a (ρ s)) s (.bl d)) (μ:=μ) (μ':=μ) (fun y hy=>?_) (fun _ _=>rfl)]
       by_cases hys:y=s
       · subst hys;rw[a1l,a1l,a2g f2,a1l]
       · rw[a2g hys,a2g hys];have hyc:y≠c:=fun e=>by rw[e,f1'] at hy;cases hy
         by_cases hya:y=a
         · subst hya;rw[a1l,a1l,a2g (Ne.symm f3)]
         · rw[a2g hya,a2g hya,a2g hyc]
   · have ha':s=a:=by simpa using ha
     subst ha';simp only[if_true];rw[a2a,a2a,c6b]
def e5x(u:Ty):Prop:=(∃b,u=.mk 1 b 0 []∧b≠[]∧b.length≤16)∨∃m,u=.mk 2 [] m []
def val(u:Ty)(ρ:b1s)(μ:Int→Dt):Dt:=sem u ρ μ 0
theorem f1y{u:Ty}(hu:e5x u)(ρ:b1s)(μ:Int→Dt)(d:Nat):sem u ρ μ d=val u ρ μ:=by
 rcases hu with⟨b,rfl,_⟩| ⟨m,rfl⟩
 · unfold val;rw[a1z,a1z]
 · unfold val;rw[a3c,a3c]
theorem d2o{u:Ty}(hu:e5x u){ρ:b1s}{μ:Int→Dt}{s:List UInt8}{v:Dt}(h:(a0m u [] []).contains s=false):val u (upd ρ s v) μ=val u ρ μ:=by
 rcases hu with⟨b,rfl,_⟩| ⟨m,rfl⟩
 · unfold val;rw[a1z,a1z];refine a2g ?_;rintro rfl;rw[c4q] at h;simp at h
 · unfold val;rw[a3c,a3c]
theorem f3d{u:Ty}(hu:e5x u)(a:List UInt8):∀(n:Nat) (t:Ty),t.sz≤n→GT t→t.sz<300000→∀(ρ:b1s) (μ:Int→Dt) (d:Nat),sem (a8n n t a u) ρ μ d=sem t (upd ρ a (val u ρ μ)) μ d:=by
 intro n
 induction n with
 | zero=>intro t h;have:=a3g t;omega
 | succ n ih=>
  intro t hn hg hb ρ μ d;cases hg with
  | var s hs=>
   rw[d3m];cases h:s==a
   · simp only[Bool.false_eq_true,if_false];rw[a1z,a1z,a2g (by simpa using h)]
   · simp only[if_true];have h:s=a:=by simpa using h
     rw[a1z,h,a1l,f1y hu]
  | unk m h1 h2=>
   have e:a8n (n+1) (.mk 2 [] m []) a u=.mk 2 [] m []:=rfl;rw[e,a3c,a3c]
  | con s l hs hl=>
   rw[a0x] at hn hb;have e:a8n (n+1) (.mk 3 s 0 l) a u=.mk 3 s 0 (l.map fun x=>a8n n x a u):=rfl;rw[e,a3m,a3m,a2c,a2c,List.map_map]
   congr 1
   refine List.map_congr_left fun x hx=>?_;have:=a2p hx;exact ih x (by omega) (hl x hx) (by omega) ρ μ d
  | fn x y hx hy=>
   rw[a0x,a1u] at hn hb;have e:a8n (n+1) (.mk 4 [] 0 [x,y]) a u=.mk 4 [] 0 [a8n n x a u,a8n n y a u]:=rfl;rw[e,a5o,a5o,a0n,a0n,a0n,a0n,a0z,a0z,ih x (by omega) hx (by omega),ih y (by omega) hy (by omega)]
  | all s x hs hx=>
   rw[a0x,a1o] at hn hb;rw[d3n];cases ha:s==a
   · have ha':s≠a:=by simpa using ha
     simp only[Bool.false_eq_true,if_false];cases hq:(a0m u [] []).contains s
     · simp only[Bool.false_eq_true,if_false];rw[a2a,a2a,a0n,a0n,a0z,a0z,ih x (by omega) hx (by omega),d2o hu hq,d2p ρ ha']
     · simp only[if_true];have hfr:=c0z s (a0m u [] []++(a0m x [] []++[s,a]));have hle:=a2o _ x (Nat.le_refl _) [] [];have hlu:(a0m u [] []).length≤1:=by
        rcases hu with⟨b,rfl,_⟩| ⟨m,rfl⟩
        · exact Nat.le_refl _
        · exact Nat.zero_le _
       simp only[List.length_nil,Nat.zero_add] at hle;obtain⟨c0,c1⟩:=b3w s (a0m u [] []++(a0m x [] []++[s,a])) (by simp;omega);generalize a5p s (a0m u [] []++(a0m x [] []++[s,a]))=c at hfr c0 c1⊢;simp only[List.mem_append,List.mem_cons,List.not_mem_nil,or_false,not_or] at hfr;obtain⟨f0,f1,f2,f3⟩:=hfr;have f1':fvB x c=false:=by
        cases h:fvB x c
        · rfl
        · exact absurd ((a7x hx).2 h) f1
       obtain⟨g,hsz⟩:=e2v (n:=n) (t:=x) (by omega) hx (by omega) s c c0 c1;rw[a2a,a2a,a0n,a0n,a0z,a0z,ih (b1i n x s c) (by omega) g (by omega),d2o hu (by simpa using f0),d9v n x (by omega) hx (by omega) s c c0 c1 f1'];rw[b2j hx (ρ:=upd (upd (upd ρ c (.bl d)) a (val u ρ μ)) s (upd (upd ρ c (.bl d)) a (val u ρ μ) c)) (ρ':=upd (upd ρ a (val u ρ μ)) s (.bl d)) (μ:=μ) (μ':=μ) (fun y hy=>?_) (fun _ _=>rfl)]
       by_cases hys:y=s
       · subst hys;rw[a1l,a1l,a2g f3,a1l]
       · rw[a2g hys,a2g hys];have hyc:y≠c:=fun e=>by rw[e,f1'] at hy;cases hy
         by_cases hya:y=a
         · subst hya;rw[a1l,a1l]
         · rw[a2g hya,a2g hya,a2g hyc]
   · have ha':s=a:=by simpa using ha
     subst ha';simp only[if_true];rw[a2a,a2a,c6b]
def b8o(μ:Int→Dt)(m:Int)(v:Dt):Int→Dt:=fun x=>if x=m then v else μ x
theorem h8u{u:Ty}(hu:e5x u)(m:Int):∀(n:Nat) (t:Ty),t.sz≤n→GT t→t.sz<300000→∀(ρ:b1s) (μ:Int→Dt) (d:Nat),sem (b4u n t m u) ρ μ d=sem t ρ (b8o μ m (val u ρ μ)) d:=by
 intro n
 induction n with
 | zero=>intro t h;have:=a3g t;omega
 | succ n ih=>
  intro t hn hg hb ρ μ d;cases hg with
  | var s hs=>
   have e:b4u (n+1) (.mk 1 s 0 []) m u=.mk 1 s 0 []:=rfl;rw[e,a1z,a1z]
  | unk q h1 h2=>
   have e:b4u (n+1) (.mk 2 [] q []) m u=if q==m then u else .mk 2 [] q []:=by
    unfold b4u;cases h:q==m<;>simp
   rw[e];cases h:q==m
   · simp only[Bool.false_eq_true,if_false];rw[a3c,a3c];unfold b8o;rw[if_neg (by simpa using h)]
   · simp only[if_true];rw[a3c,f1y hu];unfold b8o;rw[if_pos (by simpa using h)]
  | con s l hs hl=>
   rw[a0x] at hn hb;have e:b4u (n+1) (.mk 3 s 0 l) m u=.mk 3 s 0 (l.map fun x=>b4u n x m u):=rfl;rw[e,a3m,a3m,a2c,a2c,List.map_map]
   congr 1
   refine List.map_congr_left fun x hx=>?_;have:=a2p hx;exact ih x (by omega) (hl x hx) (by omega) ρ μ d
  | fn x y hx hy=>
   rw[a0x,a1u] at hn hb;have e:b4u (n+1) (.mk 4 [] 0 [x,y]) m u=.mk 4 [] 0 [b4u n x m u,b4u n y m u]:=rfl;rw[e,a5o,a5o,a0n,a0n,a0n,a0n,a0z,a0z,ih x (by omega) hx (by omega),ih y (by omega) hy (by omega)]
  | all s x hs hx=>
   rw[a0x,a1o] at hn hb;rw[e4y];cases hq:(a0m u [] []).contains s
   · simp only[Bool.false_eq_true,if_false];rw[a2a,a2a,a0n,a0n,a0z,a0z,ih x (by omega) hx (by omega),d2o hu hq]
   · simp only[if_true];have hfr:=c0z s (a0m u [] []++(a0m x [] []++[s]));have hle:=a2o _ x (Nat.le_refl _) [] [];have hlu:(a0m u [] []).length≤1:=by
      rcases hu with⟨b,rfl,_⟩| ⟨m,rfl⟩
      · exact Nat.le_refl _
      · exact Nat.zero_le _
     simp only[List.length_nil,Nat.zero_add] at hle;obtain⟨c0,c1⟩:=b3w s (a0m u [] []++(a0m x [] []++[s])) (by simp;omega);generalize a5p s (a0m u [] []++(a0m x [] []++[s]))=c at hfr c0 c1⊢;simp only[List.mem_append,List.mem_cons,List.not_mem_nil,or_false,not_or] at hfr;obtain⟨f0,f1,f2⟩:=hfr;have f1':fvB x c=false:=by
      cases h:fvB x c
      · rfl
      · exact absurd ((a7x hx).2 h) f1
     obtain⟨g,hsz⟩:=e2v (n:=n) (t:=x) (by omega) hx (by omega) s c c0 c1;rw[a2a,a2a,a0n,a0n,a0z,a0z,ih (b1i n x s c) (by omega) g (by omega),d2o hu (by simpa using f0),d9v n x (by omega) hx (by omega) s c c0 c1 f1'];rw[b2j hx (ρ:=upd (upd ρ c (.bl d)) s (upd ρ c (.bl d) c)) (ρ':=upd ρ s (.bl d)) (μ:=b8o μ m (val u ρ μ)) (μ':=b8o μ m (val u ρ μ)) (fun y hy=>?_) (fun _ _=>rfl)]
     by_cases hys:y=s
     · subst hys;rw[a1l,a1l,a1l]
     · rw[a2g hys,a2g hys];have hyc:y≠c:=fun e=>by rw[e,f1'] at hy;cases hy
       rw[a2g hyc]
def j4z(c:UInt8)(env:List (List UInt8))(k:Nat):Prop:=∀e∈env,∃j,j<k∧e=a5l c j
theorem j4z.mono{c:UInt8}{env:List (List UInt8)}{k k':Nat}(h:j4z c env k)(hk:k≤k'):j4z c env k':=fun e he=>by
 obtain⟨j,h1,h2⟩:=h e he;exact⟨j,by omega,h2⟩
theorem j4z.not{c:UInt8}{env:List (List UInt8)}{k m:Nat}(h:j4z c env k)(hk:k≤m):a5l c m∉env:=fun he=>by
 obtain⟨j,h1,h2⟩:=h _ he;have:=b6k c _ _ h2;omega
theorem f7i{s x:List UInt8}{t:Ty}(h:fvB t x=true)(hs:x≠s):fvB (.mk 5 s 0 [t]) x=true:=by
 have:(s==x)=false:=beq_eq_false_iff_ne.2 fun e=>hs e.symm;rw[c4a,a2w,h,this];rfl
theorem e2i{t:Ty}(ht:GT t)(hb:t.sz<300000)(a b:List UInt8)(h0:b≠[])(h16:b.length≤16)(ρ:b1s)(μ:Int→Dt)(d:Nat):sem (a8n t.sz t a (.mk 1 b 0 [])) ρ μ d=sem t (upd ρ a (ρ b)) μ d:=by
 rw[f3d (u:=.mk 1 b 0 []) (.inl ⟨b,rfl,h0,h16⟩) a t.sz t (Nat.le_refl _) ht hb];have:val (.mk 1 b 0 []) ρ μ=ρ b:=by unfold val;rw[a1z]
 rw[this]
mutual
def dm(v:Dt):Dt→Dt
 | .fv s=>.fv s
 | .bl k=>if k==0 then v else .bl (k - 1)
 | .mt n=>.mt n
 | .nd k s l=>.nd k s (dms v l)
def dms(v:Dt):List Dt→List Dt
 | []=>[]
 | t::r=>dm v t::dms v r
end
theorem i6k(v:Dt)(k:Int)(s:List UInt8)(l:List Dt):dm v (.nd k s l)=.nd k s (dms v l):=by simp[dm]
theorem d4v(v:Dt):∀l:List Dt,dms v l=l.map (dm v)
 | []=>by simp[dms]
 | t::r=>by rw[List.map_cons,←d4v v r];simp[dms]
theorem h4j(v:Dt){t:Ty}(hg:GT t):∀(ρ:b1s) (μ:Int→Dt) (d:Nat),dm v (sem t ρ μ (d+1))=sem t (fun s=>dm v (ρ s)) (fun n=>dm v (μ n)) d:=by
 induction hg with
 | var s _=>intro ρ μ d;rw[a1z,a1z]
 | unk n _ _=>intro ρ μ d;rw[a3c,a3c]
 | con s a _ _ ih=>
  intro ρ μ d;rw[a3m,a3m,i6k,d4v,a2c,a2c,List.map_map]
  congr 1
  exact List.map_congr_left fun t ht=>ih t ht ρ μ d
 | fn a b _ _ iha ihb=>
  intro ρ μ d;rw[a5o,a5o,i6k,d4v,a2c,a2c,List.map_map];simp only[List.map_cons,List.map_nil,Function.comp_apply,iha,ihb]
 | all s t _ _ ih=>
  intro ρ μ d;rw[a2a,a2a,i6k,d4v,a2c,a2c,List.map_map];simp only[List.map_cons,List.map_nil,Function.comp_apply,ih];have:(fun x=>dm v (upd ρ s (.bl (d+1)) x))=upd (fun x=>dm v (ρ x)) s (.bl d):=by
   funext x
   by_cases h:x=s
   · subst h;rw[a1l,a1l];simp[dm]
   · rw[a2g h,a2g h]
  rw[this]
abbrev sm(t:Ty):Dt:=sem t .fv .mt 0
theorem all_inv{s s':List UInt8}{t u:Ty}(h:sm (.mk 5 s 0 [t])=sm (.mk 5 s' 0 [u])):sem t (upd .fv s (.bl 0)) .mt 1=sem u (upd .fv s' (.bl 0)) .mt 1:=by
 simp only[sm,a2a,a0n,a0z] at h;simpa using h
def upN(μ:Int→Dt):List (List UInt8)→Nat→b1s→b1s
 | [],_,ρ=>ρ
 | n::r,i,ρ=>upd (upN μ r (i+1) ρ) n (μ ((900000+i:Nat):Int))
def upM(called:List (List UInt8×List UInt8))(ρ:b1s):List (List UInt8)→Nat→(Int→Dt)→Int→Dt
 | [],_,μ=>μ
 | n::r,i,μ=>b8o (upM called ρ r (i+1) μ) ((900000+i:Nat):Int) (ρ ((a1i n called).getD []))
theorem e2j:∀(l:List (List UInt8)) (i:Nat) (t:Ty),GT t→t.sz<300000→i+l.length≤100000→∀(ρ:b1s) (μ:Int→Dt) (d:Nat),sem (g2x l i t) ρ μ d=sem t (upN μ l i ρ) μ d
 | [],i,t,_,_,_,ρ,μ,d=>rfl
 | n::r,i,t,hg,hb,hi,ρ,μ,d=>by
  simp only[List.length_cons] at hi;obtain⟨_,g,hs⟩:=d3l hg hb n i (by omega);rw[g2x,e2j r (i+1) _ g (by omega) (by omega),f3d (u:=b9a i) (.inr ⟨_,rfl⟩) n t.sz t (Nat.le_refl _) hg hb];have:∀ρ,val (b9a i) ρ μ=μ ((900000+i:Nat):Int):=fun ρ=>by unfold val b9a;rw[a3c]
  rw[this];rfl
theorem e2k(called:List (List UInt8×List UInt8)):∀(l:List (List UInt8)) (i:Nat) (t:Ty),(∀n∈l,(a1i n called).getD []≠[]∧((a1i n called).getD []).length≤16)→GT t→t.sz<300000→∀(ρ:b1s) (μ:Int→Dt) (d:Nat),sem (f1n called l i t) ρ μ d=sem t ρ (upM called ρ l i μ) d
 | [],i,t,_,_,_,ρ,μ,d=>rfl
 | n::r,i,t,hc,hg,hb,ρ,μ,d=>by
  obtain⟨c1,c2⟩:=hc n (by simp);obtain⟨_,g,hs⟩:=d4q hg hb ((900000+i:Nat):Int) _ c1 c2;rw[f1n,e2k called r (i+1) _ (fun m hm=>hc m (by simp[hm])) g (by omega),h8u (u:=.mk 1 ((a1i n called).getD []) 0 []) (.inl ⟨_,rfl,c1,c2⟩) _ t.sz t (Nat.le_refl _) hg hb];have:∀μ,val (.mk 1 ((a1i n called).getD []) 0 []) ρ μ=ρ ((a1i n called).getD []):=fun μ=>by unfold val;rw[a1z]
  rw[this];rfl
theorem h4e(called:List (List UInt8×List UInt8))(σ ρ:b1s)(μ:Int→Dt):∀(l:List (List UInt8)) (i:Nat) (ν:Int→Dt),(∀j:Nat,i≤j→ν ((900000+j:Nat):Int)=upM called σ l i μ ((900000+j:Nat):Int))→∀x,upN ν l i ρ x=if x∈l then σ ((a1i x called).getD []) else ρ x
 | [],_,_,_,x=>by simp[upN]
 | n::r,i,ν,h,x=>by
  rw[upN];have h0:=h i (Nat.le_refl _);rw[upM] at h0;unfold b8o at h0;rw[if_pos rfl] at h0
  by_cases hx:x=n
  · subst hx;rw[a1l,h0];simp
  · rw[a2g hx,h4e called σ ρ μ r (i+1) ν (fun j hj=>by
     rw[h j (by omega),upM];unfold b8o;rw[if_neg (by omega)])]
    simp[hx]
theorem g2j(called:List (List UInt8×List UInt8))(names:List (List UInt8)){t:Ty}(hn:names.length≤99999)(hc:∀n∈names,(a1i n called).getD []≠[]∧((a1i n called).getD []).length≤16)(hg:GT t)(hb:t.sz<300000)(hm:∀m,mvB t m=false)(ρ:b1s)(μ:Int→Dt)(d:Nat):sem (a6o called names t) ρ μ d=sem t (fun x=>if x∈names then ρ ((a1i x called).getD []) else ρ x) μ d:=by
 obtain⟨g1,s1⟩:=e0d names 0 t hg hb (by omega);unfold a6o;rw[e2k called names 0 _ hc g1 (by omega),e2j names 0 t hg hb (by omega)];refine b2j hg (fun x _=>h4e called ρ ρ μ names 0 _ (fun j _=>rfl) x) fun m h=>by rw[hm m] at h;cases h
theorem e0g{t:Ty}(hg:GT t){m:Int}:∀ {ρ:b1s} {μ:Int→Dt} {d:Nat},omt m (sem t ρ μ d)=true↔(∃y,fvB t y=true∧omt m (ρ y)=true)∨∃n,mvB t n=true∧omt m (μ n)=true:=by
 induction hg with
 | var s _=>
  intro ρ μ d;rw[a1z];constructor
  · exact fun h=>.inl ⟨s,by simp[c0x],h⟩
  · rintro (⟨y,h1,h2⟩| ⟨n,h1,_⟩)
    · have:s=y:=by simpa [c0x] using h1
      rw[this];exact h2
    · simp[f4p] at h1
 | unk n _ _=>
  intro ρ μ d;rw[a3c];constructor
  · exact fun h=>.inr ⟨n,by simp[d7c],h⟩
  · rintro (⟨y,h1,_⟩| ⟨q,h1,h2⟩)
    · simp[e4r] at h1
    · have:n=q:=by simpa [d7c] using h1
      rw[this];exact h2
 | con s a _ _ ih=>
  intro ρ μ d;rw[a3m,f4i];have:∀l:List Ty,(∀z,z∈l→z∈a)→(g6s m (d9u l ρ μ d)=true↔(∃y,d8a l y=true∧omt m (ρ y)=true)∨∃n,d7d l n=true∧omt m (μ n)=true):=by
   intro l
   induction l with
   | nil=>intro _;simp[a0z,d3x,a7k,b3r]
   | cons z r ihr=>
    intro hl;rw[a0n,c0k,Bool.or_eq_true,ih z (hl z (List.mem_cons_self ..)),ihr fun w hw=>hl w (List.mem_cons_of_mem _ hw)];simp only[a2w,a5d,Bool.or_eq_true];constructor
    · rintro ((⟨y,h1,h2⟩| ⟨n,h1,h2⟩)|(⟨y,h1,h2⟩| ⟨n,h1,h2⟩))
      · exact .inl ⟨y,.inl h1,h2⟩
      · exact .inr ⟨n,.inl h1,h2⟩
      · exact .inl ⟨y,.inr h1,h2⟩
      · exact .inr ⟨n,.inr h1,h2⟩
    · rintro (⟨y,h1|h1,h2⟩| ⟨n,h1|h1,h2⟩)
      · exact .inl (.inl ⟨y,h1,h2⟩)
      · exact .inr (.inl ⟨y,h1,h2⟩)
      · exact .inl (.inr ⟨n,h1,h2⟩)
      · exact .inr (.inr ⟨n,h1,h2⟩)
  rw[this a fun _ h=>h];simp only[c7x,e3x]
 | fn u v _ _ ihu ihv=>
  intro ρ μ d;rw[a5o,f4i,a0n,a0n,a0z,c0k,c0k,d3x,Bool.or_false,Bool.or_eq_true,ihu,ihv];simp only[d7z,f4q,a2w,a5d,a7k,b3r,Bool.or_false,Bool.or_eq_true];constructor
  · rintro ((⟨y,h1,h2⟩| ⟨n,h1,h2⟩)|(⟨y,h1,h2⟩| ⟨n,h1,h2⟩))
    · exact .inl ⟨y,.inl h1,h2⟩
    · exact .inr ⟨n,.inl h1,h2⟩
    · exact .inl ⟨y,.inr h1,h2⟩
    · exact .inr ⟨n,.inr h1,h2⟩
  · rintro (⟨y,h1|h1,h2⟩| ⟨n,h1|h1,h2⟩)
    · exact .inl (.inl ⟨y,h1,h2⟩)
    · exact .inr (.inl ⟨y,h1,h2⟩)
    · exact .inl (.inr ⟨n,h1,h2⟩)
    · exact .inr (.inr ⟨n,h1,h2⟩)
 | all s t _ _ ih=>
  intro ρ μ d;rw[a2a,f4i,a0n,a0z,c0k,d3x,Bool.or_false,ih];simp only[c4a,d1a,a2w,a5d,a7k,b3r,Bool.or_false,Bool.and_eq_true];constructor
  · rintro (⟨y,h1,h2⟩|h)
    · by_cases he:y=s
      · subst he;rw[a1l,j3w] at h2;cases h2
      · rw[a2g he] at h2;have:(s==y)=false:=beq_eq_false_iff_ne.2 fun e=>he e.symm;exact .inl ⟨y,⟨h1,by simp[this]⟩,h2⟩
    · exact .inr h
  · rintro (⟨y,⟨h1,h3⟩,h2⟩|h)
    · refine .inl ⟨y,h1,?_⟩;rw[a2g]
      · exact h2
      · rintro rfl;simp at h3
    · exact .inr h
theorem h4v{t:Ty}(hg:GT t){m:Int}:mvB t m=omt m (sm t):=by
 rw[Bool.eq_iff_iff,e0g hg];constructor
 · exact fun h=>.inr ⟨m,h,by simp[h4p]⟩
 · rintro (⟨y,_,h2⟩| ⟨n,h1,h2⟩)
   · simp[e3t] at h2
   · have:n=m:=by simpa [h4p] using h2
     rw[←this];exact h1
structure Cl (S:List (List UInt8)) (t:Ty):Prop where
 fv:∀y,fvB t y=true→y∈S
 mv:∀m,mvB t m=false
theorem i4z{l:List Ty}{m:Int}(h:d7d l m=false){t:Ty}(ht:t∈l):mvB t m=false:=by
 cases hq:mvB t m
 · rfl
 · exact absurd ((e3y m).2 ⟨t,ht,hq⟩) (by rw[h];decide)
theorem Cl.kid{S:List (List UInt8)}{k:Int}{s:List UInt8}{n:Int}{l:List Ty}(h:Cl S (.mk k s n l))(h1:(k==1)=false)(h2:(k==2)=false)(h5:(k==5)=false){t:Ty}(ht:t∈l):Cl S t:=by
 refine⟨fun y hy=>h.fv y ?_,fun m=>i4z ?_ ht⟩
 · rw[fvB,h1,h5];simp only[Bool.false_eq_true,if_false];exact (b7j y).2 ⟨t,ht,hy⟩
 · have:=h.mv m;rw[mvB,h2] at this;simpa using this
theorem Cl.con{S:List (List UInt8)}{s:List UInt8}{l:List Ty}(h:Cl S (.mk 3 s 0 l)){t:Ty}(ht:t∈l):Cl S t:=h.kid rfl rfl rfl ht
theorem Cl.fn{S:List (List UInt8)}{a b:Ty}(h:Cl S (.mk 4 [] 0 [a,b])):Cl S a∧Cl S b:=⟨h.kid rfl rfl rfl (by simp),h.kid rfl rfl rfl (by simp)⟩
theorem c2l(c:UInt8)(but:List (List UInt8)):∀(n:Nat) (t:Ty) (i:Nat) (S:List (List UInt8)),GT t→t.sz≤n→t.sz<20000→i+n*(but.length+1)≤900000000→Cl S t→Cl (S++(a3h c but n t i).1) (a3h c but n t i).2∧(∀x∈(a3h c but n t i).1,∃j,i≤j∧x=a5l c j)∧(a3h c but n t i).1.Nodup
 | 0,t,i,S,_,h,_,_,_=>by have:=a3g t;omega
 | n+1,t,i,S,ht,hn,hb,hi,h=>by
  cases h5:t.kind==5
  · rw[b2z c but _ _ _ h5,List.append_nil];exact⟨h,fun x hx=>(by cases hx),List.nodup_nil⟩
  · obtain⟨s,x,rfl,hs,hx⟩:=ht.all_inv h5;rw[a0x,a1o] at hn hb;rw[b3a];obtain⟨q1,q2,_,_⟩:=b0x c but i;have e:(n+1)*(but.length+1)=n*(but.length+1)+(but.length+1):=by rw[Nat.add_mul];omega
    obtain⟨c1,c2,_⟩:=a8z (a5b c but i) c (by omega);obtain⟨_,g,hsz⟩:=b7b hx (by omega) s (a5l c (a5b c but i)) c2 c1;have hsm:=e2i hx (by omega) s (a5l c (a5b c but i)) c2 c1 .fv .mt 0;have hcl:Cl (S++[a5l c (a5b c but i)]) (a8n x.sz x s (.mk 1 (a5l c (a5b c but i)) 0 [])):=by
     refine⟨fun y hy=>?_,fun m=>?_⟩
     · rw[d7y g,hsm] at hy;rcases (c2o hx).1 hy with⟨z,h2,h3⟩| ⟨q,_,h3⟩
       · by_cases hz:z=s
         · subst hz;rw[a1l,c0m] at h3;have:a5l c (a5b c but i)=y:=by simpa using h3
           rw[←this];simp
         · rw[a2g hz,c0m] at h3;have h3:z=y:=by simpa using h3
           subst h3;have:=h.fv z (f7i h2 hz);simp[this]
       · rw[d6t] at h3;cases h3
     · cases hq:mvB (a8n x.sz x s (.mk 1 (a5l c (a5b c but i)) 0 [])) m
       · rfl
       · rw[h4v g] at hq;unfold sm at hq;rw[hsm] at hq;rcases (e0g hx).1 hq with⟨z,_,h3⟩| ⟨q,h2,h3⟩
         · by_cases hz:z=s
           · subst hz;rw[a1l,e3t] at h3;cases h3
           · rw[a2g hz,e3t] at h3;cases h3
         · have:=h.mv q;rw[d1a,a5d,h2] at this;cases this
    obtain⟨r1,r2,r3⟩:=c2l c but n _ (a5b c but i+1) _ g (by omega) (by omega) (by omega) hcl;refine⟨by simpa using r1,fun y hy=>?_,List.nodup_cons.2 ⟨fun hm=>?_,r3⟩⟩
    · rcases List.mem_cons.1 hy with rfl|hy
      · exact⟨_,q1,rfl⟩
      · obtain⟨j,hj,e⟩:=r2 y hy;exact⟨j,by omega,e⟩
    · obtain⟨j,hj,e⟩:=r2 _ hm;have:=b6k c _ _ e;omega
theorem j2j{S:List (List UInt8)}:∀(n:Nat) (t:Ty) (acc:List Ty),GT t→Cl S t→(∀x∈acc,Cl S x)→(∀x∈(spF n t acc).1,Cl S x)∧Cl S (spF n t acc).2
 | 0,t,acc,_,h,ha=>⟨ha,h⟩
 | n+1,t,acc,ht,h,ha=>by
  cases h4:t.kind==4
  · rw[b1w _ _ _ h4];exact⟨ha,h⟩
  · obtain⟨a,b,rfl,hga,hgb⟩:=ht.fn_inv h4;rw[c3s];exact j2j n b _ hgb h.fn.2 fun x hx=>by
     rcases List.mem_append.1 hx with hx|hx
     · exact ha x hx
     · rw[List.mem_singleton.1 hx];exact h.fn.1
theorem i5v(ar:List (List UInt8×Int)){t:Ty}(hg:GT t):b0j ar t=true→∀m,mvB t m=false:=by
 have L:∀(l:List Ty),(∀x∈l,b0j ar x=true→∀m,mvB x m=false)→c4m ar l=true→∀m,d7d l m=false:=by
  intro l
  induction l with
  | nil=>intro _ _ m;rw[b3r]
  | cons x r ihr=>
   intro h1 h2 m;rw[a7l,Bool.and_eq_true] at h2;rw[a5d,h1 x (List.mem_cons_self ..) h2.1,ihr (fun y hy=>h1 y (List.mem_cons_of_mem _ hy)) h2.2];rfl
 induction hg with
 | var s _=>intro _ m;rw[f4p]
 | unk n _ _=>intro h;rw[a6z] at h;simp[Ty.kind] at h
 | con s a _ _ ih=>
  intro h m;rw[a6z,Bool.and_eq_true] at h;rw[e3x,L a ih h.2]
 | fn a b _ _ iha ihb=>
  intro h m;rw[a6z,Bool.and_eq_true] at h;rw[f4q,L [a,b] (fun x hx=>by simp at hx;rcases hx with rfl|rfl;exact iha;exact ihb) h.2]
 | all s t _ _ ih=>
  intro h m;rw[a6z,Bool.and_eq_true] at h;rw[d1a,L [t] (fun x hx=>by rw[List.mem_singleton.1 hx];exact ih) h.2]
theorem i5o(ar:List (List UInt8×Int)){t:Ty}(hg:GT t)(h:b3v ar t=0):Cl [] t:=by
 unfold b3v at h;split at h
 · rename_i hf;split at h
   · rename_i he;refine⟨fun y hy=>?_,i5v ar hg hf⟩;have:=(a7x hg).2 hy;rw[he] at this;exact this
   · cases h
 · cases h
def Agr(names:List (List UInt8))(c:Cal)(c':List (List UInt8)):Prop:=c'.length=names.length∧∀(i:Nat) (x:List UInt8),names[i]? =some x→c'.getD i []=(a1i x c).getD []
theorem Agr.upd{names:List (List UInt8)}(hnd:names.Nodup){c:Cal}{c':List (List UInt8)}(h:Agr names c c'){i:Nat}{x v:List UInt8}(hx:names[i]? =some x):Agr names (b2n x v c) (c'.set i v):=by
 refine⟨by rw[List.length_set];exact h.1,fun j y hy=>?_⟩;have hil:=(List.getElem?_eq_some_iff.1 hx).1;rw[a6n]
 by_cases hji:j=i
 · subst hji;rw[hx] at hy;injection hy with hy;rw[if_pos hy.symm,List.getD_eq_getElem?_getD,List.getElem?_set_self (by rw[h.1];exact hil),Option.getD_some]
 · have hyx:y≠x:=fun e=>by
    rw[e,←hx] at hy;have hjl:=(List.getElem?_eq_some_iff.1 (hy.trans hx)).1;exact hji ((List.getElem?_inj hjl hnd).1 hy)
   rw[if_neg hyx,←h.2 j y hy,List.getD_eq_getElem?_getD,List.getD_eq_getElem?_getD,List.getElem?_set_ne (Ne.symm hji)]
def HV(v:List UInt8):Prop:=(∃i,v=a4i i)∨∃i,v=b4s i
def j5a(c:Cal):Prop:=∀p∈c,HV p.2
theorem j5a.upd{c:Cal}(h:j5a c){k v:List UInt8}(hv:HV v):j5a (b2n k v c):=by
 induction c with
 | nil=>intro p hp;simp[b2n] at hp;subst hp;exact hv
 | cons a r ih=>
  intro p hp;rw[b2n] at hp;split at hp
  · rcases List.mem_cons.1 hp with rfl|hp
    · exact hv
    · exact h p (List.mem_cons_of_mem _ hp)
  · rcases List.mem_cons.1 hp with rfl|hp
    · exact h _ (List.mem_cons_self ..)
    · exact ih (fun q hq=>h q (List.mem_cons_of_mem _ hq)) p hp
theorem j5a.look{c:Cal}(h:j5a c){k v:List UInt8}(hk:a1i k c=some v):HV v:=by
 induction c with
 | nil=>cases hk
 | cons a r ih=>
  rw[a1i] at hk;split at hk
  · injection hk with hk;subst hk;exact h a (List.mem_cons_self ..)
  · exact ih (fun q hq=>h q (List.mem_cons_of_mem _ hq)) hk
mutual
def df(τ:b1s):Dt→Dt
 | .fv s=>τ s
 | .bl k=>.bl k
 | .mt n=>.mt n
 | .nd k s l=>.nd k s (dfs τ l)
def dfs(τ:b1s):List Dt→List Dt
 | []=>[]
 | t::r=>df τ t::dfs τ r
end
theorem i6l(τ:b1s)(k:Int)(s:List UInt8)(l:List Dt):df τ (.nd k s l)=.nd k s (dfs τ l):=by simp[df]
theorem d4w(τ:b1s):∀l:List Dt,dfs τ l=l.map (df τ)
 | []=>by simp[dfs]
 | t::r=>by rw[List.map_cons,←d4w τ r];simp[dfs]
theorem e2l(τ:b1s){t:Ty}(hg:GT t):∀(ρ:b1s) (μ:Int→Dt) (d:Nat),df τ (sem t ρ μ d)=sem t (fun s=>df τ (ρ s)) (fun n=>df τ (μ n)) d:=by
 induction hg with
 | var s _=>intro ρ μ d;rw[a1z,a1z]
 | unk n _ _=>intro ρ μ d;rw[a3c,a3c]
 | con s a _ _ ih=>
  intro ρ μ d;rw[a3m,a3m,i6l,d4w,a2c,a2c,List.map_map]
  congr 1
  exact List.map_congr_left fun t ht=>ih t ht ρ μ d
 | fn a b _ _ iha ihb=>
  intro ρ μ d;rw[a5o,a5o,i6l,d4w,a2c,a2c,List.map_map];simp only[List.map_cons,List.map_nil,Function.comp_apply,iha,ihb]
 | all s t _ _ ih=>
  intro ρ μ d;rw[a2a,a2a,i6l,d4w,a2c,a2c,List.map_map];simp only[List.map_cons,List.map_nil,Function.comp_apply,ih];have:(fun x=>df τ (upd ρ s (.bl d) x))=upd (fun x=>df τ (ρ x)) s (.bl d):=by
   funext x
   by_cases h:x=s
   · subst h;rw[a1l,a1l];simp[df]
   · rw[a2g h,a2g h]
  rw[this]
theorem g1v{t u:Ty}(ht:GT t)(hu:GT u)(h:sm t=sm u)(τ:b1s):sem t τ .mt 0=sem u τ .mt 0:=by
 have h1:=e2l τ ht .fv .mt 0;have h2:=e2l τ hu .fv .mt 0;have e1:(fun s=>df τ (.fv s))=τ:=by funext s;simp[df]
 have e2:(fun n=>df τ (.mt n))=Dt.mt:=by funext n;simp[df]
 rw[e1,e2] at h1 h2;rw[←h1,←h2];exact congrArg (df τ) h
theorem GT.con_inv{t:Ty}(h:GT t)(hk:(t.kind==3)=true):∃s l,t=.mk 3 s 0 l∧∀x∈l,GT x:=by
 cases h with
 | con s l hs hl=>exact⟨s,l,rfl,hl⟩
 | _=>simp[Ty.kind] at hk
def c9v(l:List De):List (List UInt8):=l.flatMap fun d=>d.cons.map Co.name
theorem h4f{o:List (List UInt8)}{all:List (List UInt8)}:∀(r:List (List UInt8)) (i:Nat),all.drop i=r→(twR all o r i).2=false→∀(j:Nat) (x:List UInt8),i≤j→all[j]? =some x→x∉all.take j∧x∉o
 | [],i,hd,_,j,x,hj,hx=>by
  have h1:=(List.getElem?_eq_some_iff.1 hx).1;have:=congrArg List.length hd;simp at this;omega
 | y::r,i,hd,h,j,x,hj,hx=>by
  have hy:all[i]? =some y:=by
   have:=congrArg (fun l=>l[0]?) hd;simpa using this
  have hd2:all.drop (i+1)=r:=by
   have:=congrArg List.tail hd;simpa using this
  unfold twR at h;split at h
  · cases h
  · rename_i hc
    by_cases hji:j=i
    · subst hji;rw[hx] at hy;injection hy with hy;subst hy;simpa using hc
    · exact h4f r (i+1) hd2 h j x (by omega) hx
theorem g1r{o all:List (List UInt8)}(h:(twR all o all 0).2=false):all.Nodup∧∀x∈all,x∉o:=by
 have k:=h4f all 0 (by simp) h;refine⟨?_,fun x hx=>?_⟩
 · refine List.pairwise_iff_getElem.2 fun i j hi hj hij e=>?_;exact (k j all[j] (Nat.zero_le _) (List.getElem?_eq_getElem hj)).1 (List.mem_take_iff_getElem.2 ⟨i,by omega,e⟩)
 · obtain⟨i,hi⟩:=c7o hx;exact (k i x (Nat.zero_le _) hi).2
theorem f9x:∀(l:List De) (T T':Tab),(∀d∈l,(d.kind==1)=false→d.cons=[])→b6h T l=.ok T'→(c9v l).Nodup∧∀x∈c9v l,x∉T.cons
 | [],_,_,_,_=>⟨List.nodup_nil,fun x hx=>(by cases hx)⟩
 | d::r,T,T',hk,h=>by
  rw[b6h] at h;split at h
  · cases h
  · rename_i hc;obtain⟨i1,i2⟩:=f9x r _ _ (fun e he=>hk e (List.mem_cons_of_mem _ he)) h;have e:c9v (d::r)=d.cons.map Co.name++c9v r:=rfl;rw[e];cases k1:d.kind==1
    · have hd:=hk d (List.mem_cons_self ..) k1;have hT:∀x∈T.cons,x∈(b3e T d).2.cons:=fun x hx=>by
       unfold b3e;split
       · exact hx
       · split
         · exact hx
         · split
           · exact hx
           · split
             · exact hx
             · exact List.mem_append_left _ hx
      rw[hd,List.map_nil,List.nil_append];exact⟨i1,fun x hx hm=>i2 x hx (hT x hm)⟩
    · have k2:(d.kind==2)=false:=by
       have:d.kind=1:=by simpa using k1
       rw[this];rfl
      have k3:(d.kind==3)=false:=by
       have:d.kind=1:=by simpa using k1
       rw[this];rfl
      unfold b3e at hc i2;rw[k2,k3] at hc i2;simp only[Bool.false_eq_true,if_false] at hc i2;split at hc
      · rename_i h3;exact absurd h3 (by simpa using hc)
      · rename_i h3;rw[if_neg h3] at i2;split at hc
        · rename_i h6;exact absurd h6 (by simpa using hc)
        · rename_i h6;rw[if_neg h6] at i2;obtain⟨t1,t2⟩:=g1r (by simpa using hc:(twR (d.cons.map Co.name) T.cons (d.cons.map Co.name) 0).2=false);refine⟨List.nodup_append.2 ⟨t1,i1,fun x hx y hy hxy=>?_⟩,fun x hx=>?_⟩
          · subst hxy;exact i2 x hy (List.mem_append_right _ hx)
          · rcases List.mem_append.1 hx with hx|hx
            · exact t2 x hx
            · exact fun hm=>i2 x hx (List.mem_append_left _ hm)
theorem g9u{l:List De}(h:(g9v l).2=0)(hk:∀d∈l,(d.kind==1)=false→d.cons=[]):(c9v l).Nodup:=by
 unfold g9v h5j at h;split at h
 · exact absurd h (by simp)
 · rename_i T hT;exact (f9x l _ _ hk hT).1
end Go.Proofs
