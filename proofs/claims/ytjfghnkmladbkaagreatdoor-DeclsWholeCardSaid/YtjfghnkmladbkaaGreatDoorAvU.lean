/- Matching finds what is there; what a constructor is, put together again, is an instance of its type, and that of it. -/
import Derived.Test.YtjfghnkmladbkaaGreatDoorAvT
import Derived.Test.YtjfghnkmladbkaaGreatDoorAvP
namespace Go.Proofs
open Go.Av
set_option maxHeartbeats 4000000
abbrev Prs:=List (List UInt8×List UInt8)
def plN(q:List UInt8×List UInt8→Bool)(b:Prs):Nat→Int
 | 0=> -1
 | n+1=>match b[n]? with
  | some x=>if q x then (n:Int) else plN q b n
  | none=>plN q b n
def plF(q:List UInt8×List UInt8→Bool)(b:Prs):Int:=plN q b b.length
theorem c0h{q:List UInt8×List UInt8→Bool}{b:Prs}{n:Nat}{x:List UInt8×List UInt8}(h:b[n]? =some x):plN q b (n+1)=if q x then (n:Int) else plN q b n:=by rw[plN,h]
def inP(n:List UInt8)(x:List UInt8×List UInt8):Bool:=x.1==n
def inT(n:List UInt8)(x:List UInt8×List UInt8):Bool:=x.2==n
def h4n(t:Ty)(b:Prs):Bool:= !b1j t&& !(a0m t [] []).any fun n=>decide (0≤plF (inT n) b)
abbrev FM:=List (List UInt8×Ty)
def FOk(F:FM):Prop:=∀e∈F,GT e.2∧e.2.sz<20000
theorem FOk.look{F:FM}(h:FOk F){k:List UInt8}{u:Ty}(hk:a1i k F=some u):GT u∧u.sz<20000:=by
 induction F with
 | nil=>cases hk
 | cons a r ih=>
  rw[a1i] at hk;split at hk
  · injection hk with hk;subst hk;exact h a (List.mem_cons_self ..)
  · exact ih (fun q hq=>h q (List.mem_cons_of_mem _ hq)) hk
theorem FOk.upd{F:FM}(h:FOk F){k:List UInt8}{u:Ty}(hu:GT u∧u.sz<20000):FOk (b2n k u F):=by
 induction F with
 | nil=>intro p hp;simp[b2n] at hp;subst hp;exact hu
 | cons a r ih=>
  intro p hp;rw[b2n] at hp;split at hp
  · rcases List.mem_cons.1 hp with rfl|hp
    · exact hu
    · exact h p (List.mem_cons_of_mem _ hp)
  · rcases List.mem_cons.1 hp with rfl|hp
    · exact h _ (List.mem_cons_self ..)
    · exact ih (fun q hq=>h q (List.mem_cons_of_mem _ hq)) p hp
def g1f(vars:List (List UInt8))(p t:Ty)(b:Prs)(F:FM):Bool×FM:=
 if decide (plF (inP p.name) b<0)&&vars.contains p.name then
  (match a1i p.name F with
  | some u=>(cS u==cS t&&h4n t b,F)
  | none=>(h4n t b,b2n p.name t F))
 else (t.kind==1&&(plF (inP p.name) b==plF (inT t.name) b)&&(decide (0≤plF (inP p.name) b)||p.name==t.name),F)
theorem h5t{vars:List (List UInt8)}{p t:Ty}{b:Prs}{F:FM}(hF:FOk F)(ht:GT t∧t.sz<20000):FOk (g1f vars p t b F).2:=by
 unfold g1f;split
 · split
   · exact hF
   · exact hF.upd ht
 · exact hF
def b1m(g:Ty→Ty→FM→Bool×FM):List Ty→List Ty→FM→Bool×FM
 | p::ps,t::ts,F=>if (g p t F).1 then b1m g ps ts (g p t F).2 else (false,(g p t F).2)
 | _,_,F=>(true,F)
def bdT(p t:Ty)(b:Prs):Prs:=if p.kind==5 then b++[(p.name,t.name)] else b
def e7b(p t:Ty):Bool:=(p.kind !=t.kind||(p.args.length:Int)!=(t.args.length:Int))||p.n !=t.n||(p.kind==3&&p.name !=t.name)
def a6l(vars:List (List UInt8)):Nat→Ty→Ty→Prs→FM→Bool×FM
 | 0,_,_,_,F=>(false,F)
 | n+1,p,t,b,F=>if p.kind==1 then g1f vars p t b F else if e7b p t then (false,F) else b1m (fun x y F=>a6l vars n x y (bdT p t b) F) p.args t.args F
theorem b9b(vars:List (List UInt8))(n:Nat)(p t:Ty)(b:Prs)(F:FM):a6l vars (n+1) p t b F=if p.kind==1 then g1f vars p t b F else if e7b p t then (false,F) else b1m (fun x y F=>a6l vars n x y (bdT p t b) F) p.args t.args F:=rfl
theorem b1l(g:Ty→Ty→FM→Bool×FM)(p:Ty)(ps:List Ty)(t:Ty)(ts:List Ty)(F:FM):b1m g (p::ps) (t::ts) F=if (g p t F).1 then b1m g ps ts (g p t F).2 else (false,(g p t F).2):=rfl
theorem b3b(g:Ty→Ty→FM→Bool×FM)(ts:List Ty)(F:FM):b1m g [] ts F=(true,F):=by cases ts<;>rfl
theorem d7f{g:Ty→Ty→FM→Bool×FM}:∀(ps ts:List Ty) (F:FM),FOk F→(∀p t F,t∈ts→FOk F→FOk (g p t F).2)→FOk (b1m g ps ts F).2
 | [],ts,F,h,_=>by rw[b3b];exact h
 | _::_,[],F,h,_=>h
 | p::ps,t::ts,F,h,hg=>by
  rw[b1l];have h1:=hg p t F (List.mem_cons_self ..) h;split
  · exact d7f ps ts _ h1 fun p t F ht=>hg p t F (List.mem_cons_of_mem _ ht)
  · exact h1
theorem c0q(vars:List (List UInt8)):∀(n:Nat) (p t:Ty) (b:Prs) (F:FM),GT t∧t.sz<20000→FOk F→FOk (a6l vars n p t b F).2
 | 0,_,_,_,_,_,h=>h
 | n+1,p,t,b,F,ht,h=>by
  rw[b9b];split
  · exact h5t h ht
  · split
    · exact h
    · have hsz:=a3g t;exact d7f _ _ _ h fun x y F hy hF=>c0q vars n x y _ F ⟨ht.1.args y hy,by have:=a2p hy;omega⟩ hF
structure NP (u:Ty):Prop where
 g:GT u
 np:npB u=true
 sz:u.sz<300000
theorem j3z{u:Ty}(hu:NP u)(ρ:b1s)(μ:Int→Dt)(d:Nat):sem u ρ μ d=val u ρ μ:=j2k hu.g hu.np
theorem h4q{u:Ty}(hu:NP u){ρ:b1s}{μ:Int→Dt}{s:List UInt8}{v:Dt}(h:(a0m u [] []).contains s=false):val u (upd ρ s v) μ=val u ρ μ:=
 b2j hu.g (fun y hy=>a2g (by rintro rfl;have:=(a7x hu.g).2 hy;simp[this] at h)) fun _ _=>rfl
theorem g2i{u:Ty}(hu:NP u)(a:List UInt8):∀(n:Nat) (t:Ty),t.sz≤n→GT t→t.sz<300000→∀(ρ:b1s) (μ:Int→Dt) (d:Nat),sem (a8n n t a u) ρ μ d=sem t (upd ρ a (val u ρ μ)) μ d:=by
 intro n
 induction n with
 | zero=>intro t h;have:=a3g t;omega
 | succ n ih=>
  intro t hn hg hb ρ μ d;cases hg with
  | var s hs=>
   rw[d3m];cases h:s==a
   · simp only[Bool.false_eq_true,if_false];rw[a1z,a1z,a2g (by simpa using h)]
   · simp only[if_true];have h:s=a:=by simpa using h
     rw[a1z,h,a1l,j3z hu]
  | unk m h1 h2=>
   have e:a8n (n+1) (.mk 2 [] m []) a u=.mk 2 [] m []:=rfl;rw[e,a3c,a3c]
  | con s l hs hl=>
   rw[a0x] at hn hb;have e:a8n (n+1) (.mk 3 s 0 l) a u=.mk 3 s 0 (l.map fun x=>a8n n x a u):=rfl;rw[e,a3m,a3m,a2c,a2c,List.map_map]
   congr 1
   refine List.map_congr_left fun x hx=>?_;have:=a2p hx;exact ih x (by omega) (hl x hx) (by omega) ρ μ d
  | fn x y hx hy=>
   rw[a0x,a1u] at hn hb;have e:a8n (n+1) (.mk 4 [] 0 [x,y]) a u=.mk 4 [] 0 [a8n n x a u,a8n n y a u]:=rfl;rw[e,a5o,a5o,a0n,a0n,a0n,a0n,a0z,a0z,ih x (by omega) hx (by omega),ih y (by omega) hy (by omega)]
  | all s x hs hx=>
   rw[a0x,a1o] at hn hb;rw[d3n];cases ha:s==a
   · have ha':s≠a:=by simpa using ha
     simp only[Bool.false_eq_true,if_false];cases hq:(a0m u [] []).contains s
     · simp only[Bool.false_eq_true,if_false];rw[a2a,a2a,a0n,a0n,a0z,a0z,ih x (by omega) hx (by omega),h4q hu hq,d2p ρ ha']
     · simp only[if_true];have hfr:=c0z s (a0m u [] []++(a0m x [] []++[s,a]));have hle:=a2o _ x (Nat.le_refl _) [] [];have hlu:=a2o _ u (Nat.le_refl _) [] [];have hus:=hu.sz;simp only[List.length_nil,Nat.zero_add] at hle hlu;obtain⟨c0,c1⟩:=b3w s (a0m u [] []++(a0m x [] []++[s,a])) (by simp;omega);generalize a5p s (a0m u [] []++(a0m x [] []++[s,a]))=c at hfr c0 c1⊢;simp only[List.mem_append,List.mem_cons,List.not_mem_nil,or_false,not_or] at hfr;obtain⟨f0,f1,f2,f3⟩:=hfr;have f1':fvB x c=false:=by
        cases h:fvB x c
        · rfl
        · exact absurd ((a7x hx).2 h) f1
       obtain⟨g,hsz⟩:=e2v (n:=n) (t:=x) (by omega) hx (by omega) s c c0 c1;rw[a2a,a2a,a0n,a0n,a0z,a0z,ih (b1i n x s c) (by omega) g (by omega),h4q hu (by simpa using f0),d9v n x (by omega) hx (by omega) s c c0 c1 f1'];rw[b2j hx (ρ:=upd (upd (upd ρ c (.bl d)) a (val u ρ μ)) s (upd (upd ρ c (.bl d)) a (val u ρ μ) c)) (ρ':=upd (upd ρ a (val u ρ μ)) s (.bl d)) (μ:=μ) (μ':=μ) (fun y hy=>?_) (fun _ _=>rfl)]
       by_cases hys:y=s
       · subst hys;rw[a1l,a1l,a2g f3,a1l]
       · rw[a2g hys,a2g hys];have hyc:y≠c:=fun e=>by rw[e,f1'] at hy;cases hy
         by_cases hya:y=a
         · subst hya;rw[a1l,a1l]
         · rw[a2g hya,a2g hya,a2g hyc]
   · have ha':s=a:=by simpa using ha
     subst ha';simp only[if_true];rw[a2a,a2a,c6b]
mutual
def dsz:Dt→Nat
 | .fv _=>1
 | .bl _=>1
 | .mt _=>1
 | .nd _ _ l=>h5g l+1
def h5g:List Dt→Nat
 | []=>0
 | t::r=>dsz t+h5g r
end
theorem f8c(k:Int)(s:List UInt8)(l:List Dt):dsz (.nd k s l)=h5g l+1:=by simp[dsz]
theorem c1b(t:Dt)(r:List Dt):h5g (t::r)=dsz t+h5g r:=by simp[h5g]
theorem d4s:h5g []=0:=by simp[h5g]
theorem i6j{t:Ty}(hg:GT t):∀ {ρ:b1s} {μ:Int→Dt} {d:Nat},(∀x,dsz (ρ x)=1)→(∀n,dsz (μ n)=1)→dsz (sem t ρ μ d)=t.sz:=by
 induction hg with
 | var s _=>intro ρ μ d h _;rw[a1z,h];rfl
 | unk n _ _=>intro ρ μ d _ h;rw[a3c,h];rfl
 | con s a _ hx ih=>
  intro ρ μ d h1 h2;rw[a3m,f8c,a0x]
  congr 1
  induction a with
  | nil=>rw[a0z,d4s];rfl
  | cons x r ihr=>rw[a0n,c1b,a6w,ih x (List.mem_cons_self ..) h1 h2,ihr (fun y hy=>hx y (List.mem_cons_of_mem _ hy)) (fun y hy=>ih y (List.mem_cons_of_mem _ hy))]
 | fn a b _ _ iha ihb=>
  intro ρ μ d h1 h2;rw[a5o,f8c,a0x,a1u,a0n,a0n,a0z,c1b,c1b,d4s,iha h1 h2,ihb h1 h2];rfl
 | all s t _ _ ih=>
  intro ρ μ d h1 h2;rw[a2a,f8c,a0x,a1o,a0n,a0z,c1b,d4s,ih (fun x=>by
   by_cases h:x=s
   · rw[h,a1l];simp[dsz]
   · rw[a2g h];exact h1 x) h2]
theorem h5h{t:Ty}(hg:GT t):dsz (sm t)=t.sz:=i6j hg (fun x=>by simp[dsz]) (fun n=>by simp[dsz])
theorem e3o(q:List UInt8×List UInt8→Bool)(b:Prs)(x:List UInt8×List UInt8):∀n,n≤b.length→plN q (b++[x]) n=plN q b n
 | 0,_=>rfl
 | n+1,h=>by
  obtain⟨y,hy⟩:=a7p (l:=b) (i:=n) (by omega);have hy2:(b++[x])[n]? =some y:=by rw[List.getElem?_append_left (by omega)];exact hy
  rw[c0h hy,c0h hy2,e3o q b x n (by omega)]
theorem d3u(q:List UInt8×List UInt8→Bool)(b:Prs)(x:List UInt8×List UInt8):plF q (b++[x])=if q x then (b.length:Int) else plF q b:=by
 unfold plF;rw[List.length_append,List.length_singleton,c0h (x:=x) (by simp),e3o q b x _ (Nat.le_refl _)]
def rP(b:Prs)(σ:List UInt8→List UInt8):b1s:=fun x=>if 0≤plF (inP x) b then .bl (plF (inP x) b).toNat else .fv (σ x)
def rT(b:Prs):b1s:=fun x=>if 0≤plF (inT x) b then .bl (plF (inT x) b).toNat else .fv x
theorem i3h(b:Prs)(σ:List UInt8→List UInt8)(p t:List UInt8):rP (b++[(p,t)]) σ=upd (rP b σ) p (.bl b.length):=by
 funext x;unfold rP;rw[d3u]
 by_cases h:x=p
 · subst h;rw[a1l];have:inP x (x,t)=true:=by simp[inP]
   rw[this];simp
 · rw[a2g h];have:inP x (p,t)=false:=by simpa [inP] using fun e=>h e.symm
   rw[this];simp only[Bool.false_eq_true,if_false]
theorem i3f(b:Prs)(p t:List UInt8):rT (b++[(p,t)])=upd (rT b) t (.bl b.length):=by
 funext x;unfold rT;rw[d3u]
 by_cases h:x=t
 · subst h;rw[a1l];have:inT x (p,x)=true:=by simp[inT]
   rw[this];simp
 · rw[a2g h];have:inT x (p,t)=false:=by simpa [inT] using fun e=>h e.symm
   rw[this];simp only[Bool.false_eq_true,if_false]
def FS(σ:List UInt8→List UInt8)(F:FM):Prop:=∀x u,a1i x F=some u→u=.mk 1 (σ x) 0 []
theorem i8o{t:Ty}(ht:GT t){ρ:b1s}{d:Nat}{s:List UInt8}(h:sem t ρ .mt d=.fv s):∃y,t=.mk 1 y 0 []∧ρ y=.fv s:=by
 cases ht with
 | var y _=>rw[a1z] at h;exact⟨y,rfl,h⟩
 | unk n _ _=>rw[a3c] at h;cases h
 | con s a _ _=>rw[a3m] at h;cases h
 | fn a b _ _=>rw[a5o] at h;cases h
 | all s a _ _=>rw[a2a] at h;cases h
theorem i8p{t:Ty}(ht:GT t){ρ:b1s}{d:Nat}{k:Nat}(h:sem t ρ .mt d=.bl k):∃y,t=.mk 1 y 0 []∧ρ y=.bl k:=by
 cases ht with
 | var y _=>rw[a1z] at h;exact⟨y,rfl,h⟩
 | unk n _ _=>rw[a3c] at h;cases h
 | con s a _ _=>rw[a3m] at h;cases h
 | fn a b _ _=>rw[a5o] at h;cases h
 | all s a _ _=>rw[a2a] at h;cases h
theorem g1l(vars:List (List UInt8))(x:List UInt8)(t:Ty)(b:Prs)(F:FM):g1f vars (.mk 1 x 0 []) t b F=if decide (plF (inP x) b<0)&&vars.contains x then
 (match a1i x F with
 | some u=>(cS u==cS t&&h4n t b,F)
 | none=>(h4n t b,b2n x t F))
 else (t.kind==1&&(plF (inP x) b==plF (inT t.name) b)&&(decide (0≤plF (inP x) b)||x==t.name),F):=rfl
theorem g1k{σ:List UInt8→List UInt8}{vars:List (List UInt8)}{x:List UInt8}{t:Ty}(ht:GT t){b:Prs}{F:FM}(h:rP b σ x=sem t (rT b) .mt b.length)(hv:x∈vars∨0≤plF (inP x) b)(hF:FS σ F):
 (g1f vars (.mk 1 x 0 []) t b F).1=true∧FS σ (g1f vars (.mk 1 x 0 []) t b F).2:=by
 rw[g1l]
 by_cases ha:0≤plF (inP x) b
 · have h0:decide (plF (inP x) b<0)=false:=by simpa using ha
   rw[h0,Bool.false_and];simp only[Bool.false_eq_true,if_false];unfold rP at h;rw[if_pos ha] at h;obtain⟨y,rfl,hy⟩:=i8p ht h.symm;unfold rT at hy;split at hy
   · rename_i hb;injection hy with hy;have:plF (inP x) b=plF (inT y) b:=by omega
     refine⟨?_,hF⟩;simp only[Ty.kind,Ty.name,beq_self_eq_true,Bool.true_and,Bool.and_eq_true,Bool.or_eq_true,decide_eq_true_eq,beq_iff_eq];exact⟨this,.inl ha⟩
   · cases hy
 · have h0:decide (plF (inP x) b<0)=true:=by simp;omega
   have hx:vars.contains x=true:=by
    rcases hv with hv|hv
    · simpa using hv
    · exact absurd hv ha
   rw[h0,hx];simp only[Bool.and_self,if_true];unfold rP at h;rw[if_neg ha] at h;obtain⟨y,rfl,hy⟩:=i8o ht h.symm;unfold rT at hy;split at hy
   · cases hy
   · rename_i hb;injection hy with hy;subst hy;have how:h4n (.mk 1 (σ x) 0 []) b=true:=by
      unfold h4n;rw[c4q];have e1:b1j (.mk 1 (σ x) 0 [])=false:=rfl;have e2:decide (0≤plF (inT (σ x)) b)=false:=by simpa using hb
      rw[e1,List.any_cons,List.any_nil,e2];rfl
     cases hk:a1i x F with
     | some u=>
      have:=hF x u hk;subst this;simp only[how,Bool.and_true,beq_self_eq_true];exact⟨trivial,hF⟩
     | none=>
      refine⟨how,fun z u hz=>?_⟩;rw[a6n] at hz
      by_cases hzx:z=x
      · subst hzx;rw[if_pos rfl] at hz;injection hz with hz;exact hz.symm
      · rw[if_neg hzx] at hz;exact hF z u hz
theorem d7q{t u:Ty}(ht:GT t)(hu:GT u){ρ ρ':b1s}{d d':Nat}(hk:(t.kind==1)=false)(hl:∀y,∃v,ρ' y=v∧((∃s,v=.fv s)∨∃k,v=.bl k))(h:sem t ρ .mt d=sem u ρ' .mt d'):t.kind=u.kind:=by
 have hno:∀(y:List UInt8) (D:Dt),ρ' y=D→(∃s,D=.fv s)∨∃k,D=.bl k:=fun y D e=>by
  obtain⟨v,h1,h2⟩:=hl y;rw[←e,h1];exact h2
 cases ht<;>cases hu<;>simp only[a1z,a3c,a3m,a5o,a2a] at h<;>first
  | rfl
  | (simp[Ty.kind] at hk;done)
  | (rcases hno _ _ h.symm with⟨s,e⟩| ⟨s,e⟩<;>cases e;done)
  | (simp only[Dt.nd.injEq] at h;exact absurd h.1 (by decide))
  | cases h
theorem i3g(b:Prs)(y:List UInt8):∃v,rT b y=v∧((∃s,v=.fv s)∨∃k,v=.bl k):=by
 refine⟨_,rfl,?_⟩;unfold rT;split
 · exact .inr ⟨_,rfl⟩
 · exact .inl ⟨_,rfl⟩
theorem b3s{σ:List UInt8→List UInt8}{g:Ty→Ty→FM→Bool×FM}{f f':Ty→Dt}:∀(l l':List Ty) (F:FM),l.map f=l'.map f'→FS σ F→(∀x∈l,∀y∈l',∀F,f x=f' y→FS σ F→(g x y F).1=true∧FS σ (g x y F).2)→(b1m g l l' F).1=true∧FS σ (b1m g l l' F).2
 | [],l',F,_,h,_=>by rw[b3b];exact⟨rfl,h⟩
 | _::_,[],F,e,_,_=>by simp at e
 | x::l,y::l',F,e,h,hg=>by
  rw[List.map_cons,List.map_cons] at e;injection e with e1 e2;obtain⟨h1,h2⟩:=hg x (List.mem_cons_self ..) y (List.mem_cons_self ..) F e1 h;rw[b1l,h1];simp only[if_true];exact b3s l l' _ e2 h2 fun a ha b hb=>hg a (List.mem_cons_of_mem _ ha) b (List.mem_cons_of_mem _ hb)
theorem e7h{σ:List UInt8→List UInt8}{vars:List (List UInt8)}:∀(n:Nat) (p t:Ty) (b:Prs) (F:FM),p.sz≤n→GT p→GT t→sem p (rP b σ) .mt b.length=sem t (rT b) .mt b.length→(∀x,fvB p x=true→x∈vars∨0≤plF (inP x) b)→FS σ F→
 (a6l vars n p t b F).1=true∧FS σ (a6l vars n p t b F).2:=by
 intro n
 induction n with
 | zero=>intro p t b F h;have:=a3g p;omega
 | succ n ih=>
  intro p t b F hn hp ht h hv hF;rw[b9b];cases k1:p.kind==1
  rotate_left
  · simp only[if_true];cases hp with
    | var x _=>rw[a1z] at h;exact g1k ht h (hv x (by rw[c0x];simp)) hF
    | _=>simp[Ty.kind] at k1
  simp only[Bool.false_eq_true,if_false];have hk:=d7q hp ht k1 (i3g b) h;cases hp with
  | var x _=>simp[Ty.kind] at k1
  | unk m h1 h2=>
   cases ht with
   | unk m' h3 h4=>
    rw[a3c,a3c] at h;injection h with h;subst h;have e:e7b (.mk 2 [] m []) (.mk 2 [] m [])=false:=by simp[e7b,Ty.kind,Ty.args,Ty.n]
    rw[e];exact⟨rfl,hF⟩
   | _=>cases hk
  | con s l hs hl=>
   cases ht with
   | con s' l' hs' hl'=>
    rw[a3m,a3m,a2c,a2c] at h;simp only[Dt.nd.injEq,true_and] at h;obtain⟨rfl,h⟩:=h;have hll:l.length=l'.length:=by have:=congrArg List.length h;simpa using this
    have e:e7b (.mk 3 s 0 l) (.mk 3 s 0 l')=false:=by simp[e7b,Ty.kind,Ty.args,Ty.n,Ty.name,hll]
    rw[e];rw[a0x] at hn;exact b3s l l' F h hF fun x hx y hy F he hF=>by
     have:=a2p hx;exact ih x y b F (by omega) (hl x hx) (hl' y hy) he (fun z hz=>hv z (by rw[c7x,b7j];exact⟨x,hx,hz⟩)) hF
   | _=>cases hk
  | fn x y hx hy=>
   cases ht with
   | fn x' y' hx' hy'=>
    rw[a5o,a5o,a2c,a2c] at h;simp only[Dt.nd.injEq,true_and] at h;have e:e7b (.mk 4 [] 0 [x,y]) (.mk 4 [] 0 [x',y'])=false:=by simp[e7b,Ty.kind,Ty.args,Ty.n]
    rw[e];rw[a0x,a1u] at hn;exact b3s [x,y] [x',y'] F h hF fun z hz z' hz' F he hF=>by
     have h1:GT z:=by simp at hz;rcases hz with rfl|rfl;exact hx;exact hy
     have h2:GT z':=by simp at hz';rcases hz' with rfl|rfl;exact hx';exact hy'
     have:=a2p hz;rw[a1u] at this;exact ih z z' b F (by omega) h1 h2 he (fun w hw=>hv w (by rw[d7z,b7j];exact⟨z,hz,hw⟩)) hF
   | _=>cases hk
  | all s x hs hx=>
   cases ht with
   | all s' x' hs' hx'=>
    rw[a2a,a2a,a0n,a0n,a0z,a0z] at h;simp only[Dt.nd.injEq,true_and,List.cons.injEq,and_true] at h;have e:e7b (.mk 5 s 0 [x]) (.mk 5 s' 0 [x'])=false:=by simp[e7b,Ty.kind,Ty.args,Ty.n]
    rw[e];rw[a0x,a1o] at hn;show (b1m (fun x y F=>a6l vars n x y (b++[(s,s')]) F) [x] [x'] F).1=true∧FS σ (b1m (fun x y F=>a6l vars n x y (b++[(s,s')]) F) [x] [x'] F).2
    have hl:(b++[(s,s')]).length=b.length+1:=by simp
    exact b3s (f:=fun z=>sem z (rP (b++[(s,s')]) σ) .mt (b.length+1)) (f':=fun z=>sem z (rT (b++[(s,s')])) .mt (b.length+1)) [x] [x'] F (by rw[i3h,i3f];simp only[List.map_cons,List.map_nil,h]) hF fun z hz z' hz' F he hF=>by
     rw[List.mem_singleton] at hz hz';subst hz;subst hz';exact ih z z' _ F (by omega) hx hx' (by rw[hl];exact he) (fun w hw=>by
      rw[d3u]
      by_cases hws:w=s
      · subst hws
        right
        have:inP w (w,s')=true:=by simp[inP]
        rw[this];simp
      · have:inP w (s,s')=false:=by simpa [inP] using fun e=>hws e.symm
        rw[this];simp only[Bool.false_eq_true,if_false];exact hv w (f7i hw hws)) hF
   | _=>cases hk
def a5h:List (List UInt8)→Ty→Ty
 | [],W=>W
 | f::fs,W=>.mk 5 f 0 [a5h fs W]
def b2p(τ:List UInt8→List UInt8):b1s:=fun x=>.fv (τ x)
def d9g(τ:List UInt8→List UInt8)(f c:List UInt8):List UInt8→List UInt8:=fun x=>if x=f then c else τ x
def e1u(τ:List UInt8→List UInt8):List (List UInt8)→List (List UInt8)→List UInt8→List UInt8
 | f::fs,n::ns=>e1u (d9g τ f n) fs ns
 | _,_=>τ
theorem h8p(τ:List UInt8→List UInt8)(f c:List UInt8):upd (b2p τ) f (.fv c)=b2p (d9g τ f c):=by
 funext x;unfold upd b2p d9g;split<;>rfl
theorem d5k{W:Ty}(hW:GT W):∀fs:List (List UInt8),(∀f∈fs,f.length≤16)→GT (a5h fs W)
 | [],_=>hW
 | f::fs,h=>.all f _ (h f (List.mem_cons_self ..)) (d5k hW fs fun g hg=>h g (List.mem_cons_of_mem _ hg))
theorem e1o(W:Ty):∀fs:List (List UInt8),(a5h fs W).sz=W.sz+fs.length
 | []=>rfl
 | f::fs=>by rw[a5h,a0x,a1o,e1o W fs,List.length_cons];omega
theorem b5r(c:UInt8)(but:List (List UInt8)):∀(fs:List (List UInt8)) (W t:Ty) (n i:Nat) (τ:List UInt8→List UInt8),GT W→(W.kind==5)=false→(∀f∈fs,f.length≤16)→GT t→t.sz≤n→t.sz<20000→i+n*(but.length+1)≤900000000→sm t=sem (a5h fs W) (b2p τ) .mt 0→
 (a3h c but n t i).1.length=fs.length∧sm (a3h c but n t i).2=sem W (b2p (e1u τ fs (a3h c but n t i).1)) .mt 0
 | [],W,t,n,i,τ,hW,h5,_,ht,_,_,_,h=>by
  have hk:(t.kind==5)=false:=by
   cases ht with
   | all s x _ _=>
    simp only[a5h,sm,a2a] at h;cases hW with
    | var s _=>rw[a1z] at h;cases h
    | unk n _ _=>rw[a3c] at h;cases h
    | con s a _ _=>rw[a3m] at h;simp only[Dt.nd.injEq] at h;exact absurd h.1 (by decide)
    | fn a b _ _=>rw[a5o] at h;simp only[Dt.nd.injEq] at h;exact absurd h.1 (by decide)
    | all s x _ _=>simp[Ty.kind] at h5
   | _=>rfl
  rw[b2z c but _ _ _ hk];exact⟨rfl,h⟩
 | f::fs,W,t,0,i,τ,_,_,_,_,hn,_,_,_=>by have:=a3g t;omega
 | f::fs,W,t,n+1,i,τ,hW,h5,hf,ht,hn,hb,hi,h=>by
  rw[a5h,a2a] at h;cases ht with
  | var s _=>simp only[sm,a1z] at h;cases h
  | unk n _ _=>simp only[sm,a3c] at h;cases h
  | con s a _ _=>simp only[sm,a3m,Dt.nd.injEq] at h;exact absurd h.1 (by decide)
  | fn a b _ _=>simp only[sm,a5o,Dt.nd.injEq] at h;exact absurd h.1 (by decide)
  | all s x hs hx=>
   simp only[sm,a2a,Dt.nd.injEq,a0n,a0z,List.cons.injEq,and_true,true_and] at h;rw[a0x,a1o] at hn hb;rw[b3a];obtain⟨q1,q2,_,_⟩:=b0x c but i;have e:(n+1)*(but.length+1)=n*(but.length+1)+(but.length+1):=by rw[Nat.add_mul];omega
   obtain⟨c1,c2,_⟩:=a8z (a5b c but i) c (by omega);obtain⟨_,g,hsz⟩:=b7b hx (by omega) s (a5l c (a5b c but i)) c2 c1;generalize a5l c (a5b c but i)=cN at *;have hg:=d5k hW fs fun z hz=>hf z (List.mem_cons_of_mem _ hz);have h1:=h4j (.fv cN) hx (upd .fv s (.bl 0)) .mt 0;have h2:=h4j (.fv cN) hg (upd (b2p τ) f (.bl 0)) .mt 0;have e1:(fun y=>dm (.fv cN) (upd .fv s (.bl 0) y))=upd .fv s (.fv cN):=by
    funext y
    by_cases hy:y=s
    · subst hy;rw[a1l,a1l];simp[dm]
    · rw[a2g hy,a2g hy];simp[dm]
   have e2:(fun y=>dm (.fv cN) (upd (b2p τ) f (.bl 0) y))=b2p (d9g τ f cN):=by
    rw[←h8p];funext y
    by_cases hy:y=f
    · subst hy;rw[a1l,a1l];simp[dm]
    · rw[a2g hy,a2g hy];simp[dm,b2p]
   have e3:(fun n=>dm (.fv cN) (.mt n))=Dt.mt:=by funext n;simp[dm]
   rw[e1,e3] at h1;rw[e2,e3] at h2;have h3:sem x (upd .fv s (.fv cN)) .mt 0=sem (a5h fs W) (b2p (d9g τ f cN)) .mt 0:=by rw[←h1,←h2,h]
   obtain⟨r1,r2⟩:=b5r c but fs W _ n (a5b c but i+1) (d9g τ f cN) hW h5 (fun z hz=>hf z (List.mem_cons_of_mem _ hz)) g (by omega) (by omega) (by omega) (by
    show sem _ _ _ _=_
    rw[e2i hx (by omega) _ _ c2 c1];exact h3)
   exact⟨by rw[List.length_cons,List.length_cons,r1],r2⟩
theorem i7z{t:Ty}(ht:GT t):∃fs W,t=a5h fs W∧GT W∧(W.kind==5)=false∧∀f∈fs,f.length≤16:=by
 induction ht with
 | var s h=>exact⟨[],_,rfl,.var s h,rfl,fun f hf=>(by cases hf)⟩
 | unk n h1 h2=>exact⟨[],_,rfl,.unk n h1 h2,rfl,fun f hf=>(by cases hf)⟩
 | con s a h1 h2 _=>exact⟨[],_,rfl,.con s a h1 h2,rfl,fun f hf=>(by cases hf)⟩
 | fn a b h1 h2 _ _=>exact⟨[],_,rfl,.fn a b h1 h2,rfl,fun f hf=>(by cases hf)⟩
 | all s x hs hx ih=>
  obtain⟨fs,W,rfl,h1,h2,h3⟩:=ih;exact⟨s::fs,W,rfl,h1,h2,fun f hf=>by
   rcases List.mem_cons.1 hf with rfl|hf
   · exact hs
   · exact h3 f hf⟩
def d7v(g s:Ty):Bool:=(a6l (a3h 113 (a0m g [] []++a0m s [] []) g.sz g 0).1 (a3h 113 (a0m g [] []++a0m s [] []) g.sz g 0).2.sz (a3h 113 (a0m g [] []++a0m s [] []) g.sz g 0).2 (a3h 112 (a0m g [] []++a0m s [] []) s.sz s 0).2 [] []).1
theorem j3q(σ:List UInt8→List UInt8):rP [] σ=b2p σ:=by
 funext x;unfold rP b2p;rw[if_neg (by show ¬(0:Int)≤ -1;decide)]
theorem j3p:rT []=.fv:=by
 funext x;unfold rT;rw[if_neg (by show ¬(0:Int)≤ -1;decide)]
theorem e1f{t:Ty}(ht:GT t)(h:Cl [] t):a0m t [] []=[]:=by
 cases hf:a0m t [] [] with
 | nil=>rfl
 | cons x r=>
  have:x∈a0m t [] []:=by rw[hf];simp
  exact absurd (h.fv x ((a7x ht).1 this)) (by simp)
theorem d7u{g s:Ty}(hg:GT g)(hs:GT s)(hgb:g.sz<20000)(hsb:s.sz<20000)(cg:Cl [] g)(cs:Cl [] s){σ:List UInt8→List UInt8}(h:sem (a3h 113 [] g.sz g 0).2 (b2p σ) .mt 0=sm (a3h 112 [] s.sz s 0).2):d7v g s=true:=by
 unfold d7v;rw[e1f hg cg,e1f hs cs,List.append_nil];obtain⟨g1,_,_,_⟩:=a9l 113 [] g.sz g 0 (Nat.le_refl _) hg (by omega) (by simp;omega);obtain⟨g2,_,_,_⟩:=a9l 112 [] s.sz s 0 (Nat.le_refl _) hs (by omega) (by simp;omega);obtain⟨c1,_,_⟩:=c2l 113 [] g.sz g 0 [] hg (Nat.le_refl _) hgb (by simp;omega) cg;exact (e7h (σ:=σ) _ _ _ [] [] (Nat.le_refl _) g1 g2 (by rw[j3q,j3p];exact h) (fun x hx=>.inl (by simpa using c1.fv x hx)) (fun x u hu=>by cases hu)).1
theorem b9z{t u:Ty}(ht:GT t)(hu:GT u){τ:List UInt8→List UInt8}(h:sm t=sem u (b2p τ) .mt 0)(ω:List UInt8→List UInt8):sem t (b2p ω) .mt 0=sem u (b2p fun x=>ω (τ x)) .mt 0:=by
 have h1:=e2l (b2p ω) ht .fv .mt 0;have h2:=e2l (b2p ω) hu (b2p τ) .mt 0;have e1:(fun s=>df (b2p ω) (.fv s))=b2p ω:=by funext s;simp[df]
 have e2:(fun s=>df (b2p ω) (b2p τ s))=b2p fun x=>ω (τ x):=by funext s;simp[df,b2p]
 have e3:(fun n=>df (b2p ω) (.mt n))=Dt.mt:=by funext n;simp[df]
 rw[e1,e3] at h1;rw[e2,e3] at h2;rw[←h1,←h2];exact congrArg (df (b2p ω)) h
theorem c6c:∀(fs ns ms:List (List UInt8)) (τ τ':List UInt8→List UInt8) (x:List UInt8),ns.length=fs.length→ms.length=fs.length→(x∈fs∧∃i:Nat,ns[i]? =some (e1u τ fs ns x)∧ms[i]? =some (e1u τ' fs ms x))∨(x∉fs∧e1u τ fs ns x=τ x∧e1u τ' fs ms x=τ' x)
 | [],ns,ms,τ,τ',x,_,_=>.inr ⟨by simp,by simp[e1u],by simp[e1u]⟩
 | f::fs,[],_,_,_,_,h,_=>by simp at h
 | f::fs,_::_,[],_,_,_,_,h=>by simp at h
 | f::fs,n::ns,m::ms,τ,τ',x,h1,h2=>by
  rw[e1u,e1u];rcases c6c fs ns ms (d9g τ f n) (d9g τ' f m) x (by simpa using h1) (by simpa using h2) with⟨q1,i,q2,q3⟩| ⟨q1,q2,q3⟩
  · exact .inl ⟨List.mem_cons_of_mem _ q1,i+1,by simpa using q2,by simpa using q3⟩
  · by_cases hx:x=f
    · subst hx;refine .inl ⟨List.mem_cons_self ..,0,?_,?_⟩
      · rw[q2];simp[d9g]
      · rw[q3];simp[d9g]
    · refine .inr ⟨by simp[hx,q1],?_,?_⟩
      · rw[q2];simp[d9g,hx]
      · rw[q3];simp[d9g,hx]
theorem d6u{ns ms:List (List UInt8)}(hn:ns.Nodup)(hl:ms.length=ns.length):∃σ:List UInt8→List UInt8,∀(i:Nat) (x y:List UInt8),ns[i]? =some x→ms[i]? =some y→σ x=y:=by
 refine⟨fun x=>(ms[ns.idxOf x]?).getD [],fun i x y hx hy=>?_⟩;have hi:=(List.getElem?_eq_some_iff.1 hx).1;have hm:x∈ns:=List.mem_of_getElem? hx;have hi2:=List.idxOf_lt_length_iff.2 hm;have e:ns.idxOf x=i:=by
  have h1:ns[ns.idxOf x]? =some x:=by rw[List.getElem?_eq_getElem hi2];exact congrArg some (List.getElem_idxOf hi2)
  exact (List.getElem?_inj hi2 hn).1 (h1.trans hx.symm)
 show (ms[ns.idxOf x]?).getD []=y
 rw[e,hy];rfl
theorem g0m{c W:Ty}(hc:GT c)(hW:GT W)(hcb:c.sz<12000)(hWb:W.sz<12000)(cc:Cl [] c)(hk:(W.kind==5)=false)(hw16:∀f∈a0m W [] [],f.length≤16)(hmv:∀m,mvB W m=false)
 {τ:List UInt8→List UInt8} (h:sm W=sem (a3h 112 [] c.sz c 0).2 (b2p τ) .mt 0) (hinj:∀x y,fvB (a3h 112 [] c.sz c 0).2 x=true→fvB (a3h 112 [] c.sz c 0).2 y=true→τ x=τ y→x=y)
 (hfree:W.sz+(a0m W [] []).length<20000):d7v (a5h (a0m W [] []) W) c=true∧d7v c (a5h (a0m W [] []) W)=true:=by
 have hA:=d5k hW (a0m W [] []) hw16;have hAs:=e1o W (a0m W [] []);have hmvA:∀(fs:List (List UInt8)) m,mvB (a5h fs W) m=false:=by
  intro fs
  induction fs with
  | nil=>exact hmv
  | cons f fs ih=>intro m;rw[a5h,d1a,a5d,ih m];rfl
 have hfvA:∀(fs:List (List UInt8)) x,fvB (a5h fs W) x=true→fvB W x=true∧x∉fs:=by
  intro fs
  induction fs with
  | nil=>intro x hx;exact⟨hx,by simp⟩
  | cons f fs ih=>
   intro x hx;rw[a5h,c4a,a2w,a7k,Bool.or_false,Bool.and_eq_true] at hx;obtain⟨h1,h2⟩:=ih x hx.1;refine⟨h1,?_⟩;have:f≠x:=by simpa using hx.2
   simp[h2,Ne.symm this]
 have cA:Cl [] (a5h (a0m W [] []) W):=⟨fun y hy=>by
  obtain⟨h1,h2⟩:=hfvA _ y hy;exact absurd ((a7x hW).2 h1) h2,hmvA _⟩
 have hz:(∀x:List UInt8,Dt.fv x=b2p id x):=fun x=>rfl;have hid:(Dt.fv:List UInt8→Dt)=b2p id:=rfl;obtain⟨gc1,sc1,_,_⟩:=a9l 112 [] c.sz c 0 (Nat.le_refl _) hc (by omega) (by simp;omega);obtain⟨gq1,sq1,_,_⟩:=a9l 113 [] c.sz c 0 (Nat.le_refl _) hc (by omega) (by simp;omega);obtain⟨gA1,_,_,_⟩:=a9l 113 [] _ _ 0 (Nat.le_refl _) hA (by omega) (by simp;omega);obtain⟨gA2,_,_,_⟩:=a9l 112 [] _ _ 0 (Nat.le_refl _) hA (by omega) (by simp;omega);obtain⟨a1,a2⟩:=b5r 113 [] (a0m W [] []) W (a5h (a0m W [] []) W) _ 0 id hW hk hw16 hA (Nat.le_refl _) (by omega) (by simp;omega) rfl;obtain⟨b1,b2⟩:=b5r 112 [] (a0m W [] []) W (a5h (a0m W [] []) W) _ 0 id hW hk hw16 hA (Nat.le_refl _) (by omega) (by simp;omega) rfl;obtain⟨_,_,an⟩:=c2l 113 [] _ _ 0 [] hA (Nat.le_refl _) (by omega) (by simp;omega) cA;obtain⟨_,_,bn⟩:=c2l 112 [] _ _ 0 [] hA (Nat.le_refl _) (by omega) (by simp;omega) cA;obtain⟨fs,V,hcV,hV,hVk,hf16⟩:=i7z hc;obtain⟨p1,p2⟩:=b5r 112 [] fs V c _ 0 id hV hVk hf16 hc (Nat.le_refl _) (by omega) (by simp;omega) (by rw[←hid,←hcV]);obtain⟨q1,q2⟩:=b5r 113 [] fs V c _ 0 id hV hVk hf16 hc (Nat.le_refl _) (by omega) (by simp;omega) (by rw[←hid,←hcV]);obtain⟨_,_,qn⟩:=c2l 113 [] c.sz c 0 [] hc (Nat.le_refl _) (by omega) (by simp;omega) cc;have hWV:=b9z hW gc1 h
 classical
 constructor
 · -- general:the whole;special:its type
   obtain⟨g1,hg1⟩:∃g1:List UInt8→List UInt8,g1=e1u id (a0m W [] []) (a3h 113 [] (a5h (a0m W [] []) W).sz (a5h (a0m W [] []) W) 0).1:=⟨_,rfl⟩
   rw[←hg1] at a2;have hinj1:∀x y,x∈a0m W [] []→y∈a0m W [] []→g1 x=g1 y→x=y:=by
    intro x y hx hy e;obtain⟨σ,hσ⟩:=d6u an (ms:=a0m W [] []) a1.symm;have key:∀z,z∈a0m W [] []→∃i:Nat,(a0m W [] [])[i]? =some z∧(a3h 113 [] (a5h (a0m W [] []) W).sz (a5h (a0m W [] []) W) 0).1[i]? =some (g1 z):=by
     intro z hz;have hzn:∀(fs ns:List (List UInt8)) (τ:List UInt8→List UInt8),ns.length=fs.length→z∈fs→∃i:Nat,fs[i]? =some z∧ns[i]? =some (e1u τ fs ns z):=by
      intro fs
      induction fs with
      | nil=>intro ns τ _ h;cases h
      | cons f fs ih=>
       intro ns τ hl hm;cases ns with
       | nil=>simp at hl
       | cons n ns=>
        rw[e1u]
        by_cases hzf:z∈fs
        · obtain⟨i,i1,i2⟩:=ih ns (d9g τ f n) (by simpa using hl) hzf;exact⟨i+1,by simpa using i1,by simpa using i2⟩
        · have:z=f:=by
           rcases List.mem_cons.1 hm with h|h
           · exact h
           · exact absurd h hzf
          subst this;refine⟨0,rfl,?_⟩;rcases c6c fs ns ns (d9g τ z n) (d9g τ z n) z (by simpa using hl) (by simpa using hl) with⟨w1,_⟩| ⟨_,w2,_⟩
          · exact absurd w1 hzf
          · rw[w2];simp[d9g]
     obtain⟨i,i1,i2⟩:=hzn (a0m W [] []) _ id a1 hz;exact⟨i,i1,by rw[i2,hg1]⟩
    obtain⟨i,i1,i2⟩:=key x hx;obtain⟨j,j1,j2⟩:=key y hy;have e1:=hσ i _ _ i2 i1;have e2:=hσ j _ _ j2 j1;rw[←e1,←e2,e]
   refine d7u hA hc (by omega) (by omega) cA cc (σ:=fun y=>if hy:∃x,fvB (a3h 112 [] c.sz c 0).2 x=true∧g1 (τ x)=y then hy.choose else y) ?_;rw[b9z gA1 hW a2,hWV];refine b2j gc1 (fun x hx=>?_) fun _ _=>rfl;unfold b2p
   congr 1
   have hy:∃z,fvB (a3h 112 [] c.sz c 0).2 z=true∧g1 (τ z)=g1 (τ x):=⟨x,hx,rfl⟩
   show (if hy:∃z,fvB (a3h 112 [] c.sz c 0).2 z=true∧g1 (τ z)=g1 (τ x) then hy.choose else g1 (τ x))=x
   rw[dif_pos hy];have hs:=hy.choose_spec;have hfw:∀z,fvB (a3h 112 [] c.sz c 0).2 z=true→τ z∈a0m W [] []:=fun z hz=>by
    rw[a7x hW,d7y hW];show occ (τ z) (sm W)=true
    rw[h];exact (c2o gc1).2 (.inl ⟨z,hz,by simp[b2p,c0m]⟩)
   exact hinj _ _ hs.1 hx (hinj1 _ _ (hfw _ hs.1) (hfw _ hx) hs.2)
 · -- general:its type;special:the whole
   obtain⟨g2,hg2⟩:∃g2:List UInt8→List UInt8,g2=e1u id (a0m W [] []) (a3h 112 [] (a5h (a0m W [] []) W).sz (a5h (a0m W [] []) W) 0).1:=⟨_,rfl⟩
   rw[←hg2] at b2;obtain⟨σ,hσ⟩:=d6u qn (ms:=(a3h 112 [] c.sz c 0).1) (by rw[p1,q1]);refine d7u hc hA (by omega) (by omega) cc cA (σ:=fun y=>g2 (τ (σ y))) ?_;rw[b9z gq1 hV q2];have hbW:=hWV g2;rw[b2,hbW,b9z gc1 hV p2];refine b2j hV (fun x hx=>?_) fun _ _=>rfl;unfold b2p
   congr 1
   rcases c6c fs (a3h 113 [] c.sz c 0).1 (a3h 112 [] c.sz c 0).1 id id x q1 p1 with⟨_,i,i1,i2⟩| ⟨w1,w2,w3⟩
   · exact congrArg (fun z=>g2 (τ z)) (hσ i _ _ i1 i2)
   · exfalso;have hcl:fvB c x=true:=by
      rw[hcV];have:∀(fs:List (List UInt8)),x∉fs→fvB (a5h fs V) x=true:=by
       intro fs
       induction fs with
       | nil=>intro _;exact hx
       | cons f fs ih=>
        intro hm;rw[List.mem_cons,not_or] at hm;exact f7i (ih hm.2) hm.1
      exact this fs w1
     exact absurd (cc.fv x hcl) (by simp)
def c1r:List Ty→Ty→Ty
 | [],r=>r
 | a::al,r=>.mk 4 [] 0 [a,c1r al r]
def k2l:List Dt→Dt→Dt
 | [],r=>r
 | a::al,r=>.nd 4 [] [a,k2l al r]
theorem c0y(r:Ty)(ρ:b1s)(μ:Int→Dt)(d:Nat):∀al:List Ty,sem (c1r al r) ρ μ d=k2l (al.map fun a=>sem a ρ μ d) (sem r ρ μ d)
 | []=>rfl
 | a::al=>by rw[c1r,a5o,a0n,a0n,a0z,c0y r ρ μ d al];rfl
theorem f7k{r:Ty}(hr:GT r):∀al:List Ty,(∀a∈al,GT a)→GT (c1r al r)
 | [],_=>hr
 | a::al,h=>.fn _ _ (h a (List.mem_cons_self ..)) (f7k hr al fun b hb=>h b (List.mem_cons_of_mem _ hb))
theorem f7j{F:Ty→Ty}{r r':Ty}(hr:r.sz≤r'.sz):∀al:List Ty,(∀a∈al,(F a).sz≤a.sz)→(c1r (al.map F) r).sz≤(c1r al r').sz
 | [],_=>hr
 | a::al,h=>by
  rw[List.map_cons,c1r,c1r,a0x,a0x,a1u,a1u];have h1:=h a (List.mem_cons_self ..);have h2:=f7j hr al fun b hb=>h b (List.mem_cons_of_mem _ hb);omega
theorem f2s:∀(n:Nat) (t:Ty) (acc:List Ty),t.sz≤n→GT t→∃al,(spF n t acc).1=acc++al∧t=c1r al (spF n t acc).2
 | 0,t,acc,h,_=>by have:=a3g t;omega
 | n+1,t,acc,hn,hg=>by
  cases hk:t.kind==4
  · rw[b1w _ _ _ hk];exact⟨[],by simp,rfl⟩
  · obtain⟨u,v,rfl,hu,hv⟩:=hg.fn_inv hk;rw[a0x,a1u] at hn;rw[c3s];obtain⟨al,h1,h2⟩:=f2s n v (acc++[u]) (by omega) hv;exact⟨u::al,by rw[h1,List.append_assoc,List.singleton_append],by rw[c1r,←h2]⟩
def whQ:List (List UInt8×Ty)→Ty→Ty
 | [],w=>w
 | g::gs,w=>a8n (whQ gs w).sz (whQ gs w) g.1 g.2
def gvP(g:Gv):List UInt8×Ty:=(g.l.name,g.r)
def wh0(x:CX):Ty:=c1r x.args (.mk 3 x.data 0 (x.univ.map fun u=>.mk 1 u 0 []))
def wh1(x:CX):Ty:=whQ (x.givens.map gvP) (wh0 x)
def wh2(x:CX):Ty:=a5h (a0m (wh1 x) [] []) (wh1 x)
theorem fv16{t:Ty}(hg:GT t){s:List UInt8}:fvB t s=true→s.length≤16:=by
 induction hg with
 | var x h=>
  intro hs;rw[c0x] at hs;have:x=s:=by simpa using hs
  rw[←this];exact h
 | unk n _ _=>intro hs;rw[e4r] at hs;cases hs
 | con x a _ _ ih=>intro hs;rw[c7x,b7j] at hs;obtain⟨t,ht,h⟩:=hs;exact ih t ht h
 | fn a b _ _ iha ihb=>
  intro hs;rw[d7z,a2w,a2w,a7k,Bool.or_false,Bool.or_eq_true] at hs;rcases hs with h|h
  · exact iha h
  · exact ihb h
 | all x t _ _ ih=>intro hs;rw[c4a,a2w,a7k,Bool.or_false,Bool.and_eq_true] at hs;exact ih hs.1
def b6o(R:Nat→Ty)(n:Nat)(S:List Nat):List Ty:=(List.range n).map fun j=>if j∈S then R j else .mk 1 (a4i j) 0 []
theorem b9r{i j:Nat}(h:a4i i=a4i j):i=j:=b6k 117 i j h
theorem d8j{i j:Nat}(h:b4s i=b4s j):i=j:=b6k 101 i j h
theorem c6d{i j:Nat}(h:a4i i=b4s j):False:=by unfold a4i b4s at h;injection h with h _;cases h
theorem i3j{u t:Ty}(hu:NP u)(hun:∀s,(a0m u [] []).contains s=true→s≠[])(ht:GT t)(hb:t.sz<300000)(a:List UInt8):GT (a8n t.sz t a u):=
 (c0d u hu.g hu.sz hun a t.sz t (Nat.le_refl _) ht hb).2.1
theorem h5s{al:List Ty}{s:List UInt8}{R:Nat→Ty}{n B:Nat}{IX:List Nat}(hs:s.length≤16)(hn:n<100000000)(hA:∀a∈al,GT a)(hR:∀k,k<n→NP (R k)∧∀x,(a0m (R k) [] []).contains x=true→x≠[])
 (hfa:∀a∈al,∀k∈IX,fvB a (a4i k)=false) (hfR:∀j,j<n→∀k∈IX,fvB (R j) (a4i k)=false) (hB:∀S,(c1r al (.mk 3 s 0 (b6o R n S))).sz≤B) (hB2:B<300000):
 ∀S:List Nat,S.Nodup→(∀k∈S,k∈IX∧k<n)→GT (whQ (S.map fun k=>(a4i k,R k)) (c1r al (.mk 3 s 0 (b6o R n []))))∧(whQ (S.map fun k=>(a4i k,R k)) (c1r al (.mk 3 s 0 (b6o R n [])))).sz≤B∧
  sm (whQ (S.map fun k=>(a4i k,R k)) (c1r al (.mk 3 s 0 (b6o R n []))))=sm (c1r al (.mk 3 s 0 (b6o R n S))):=by
 have gT:∀S,GT (c1r al (.mk 3 s 0 (b6o R n S))):=fun S=>f7k (.con s _ hs fun y hy=>by
  obtain⟨j,hj,rfl⟩:=List.mem_map.1 hy;have hj:=List.mem_range.1 hj;split
  · exact (hR j hj).1.g
  · exact .var _ (b0h 117 j (by omega)).1) al hA
 intro S
 induction S with
 | nil=>intro _ _;exact⟨gT [],hB [],rfl⟩
 | cons k S ih=>
  intro hnd hS;rw[List.nodup_cons] at hnd;obtain⟨i1,i2,i3⟩:=ih hnd.2 fun j hj=>hS j (List.mem_cons_of_mem _ hj);obtain⟨k1,k2⟩:=hS k (List.mem_cons_self ..);obtain⟨r1,r2⟩:=hR k k2;rw[List.map_cons,whQ];simp only;generalize whQ (S.map fun k=>(a4i k,R k)) (c1r al (.mk 3 s 0 (b6o R n [])))=W at *;have g:=i3j r1 r2 i1 (by omega) (a4i k);have e:sm (a8n W.sz W (a4i k) (R k))=sm (c1r al (.mk 3 s 0 (b6o R n (k::S)))):=by
   show sem _ _ _ _=_
   rw[g2i r1 (a4i k) W.sz W (Nat.le_refl _) i1 (by omega),g1v i1 (gT S) i3];show _=sem _ _ _ _
   rw[c0y,c0y]
   congr 1
   · exact List.map_congr_left fun a ha=>b2j (hA a ha) (fun y hy=>a2g (by rintro rfl;rw[hfa a ha k k1] at hy;cases hy)) fun _ _=>rfl
   · rw[a3m,a3m,a2c,a2c]
     congr 1
     unfold b6o;rw[List.map_map,List.map_map];refine List.map_congr_left fun j hj=>?_;have hj:=List.mem_range.1 hj;simp only[Function.comp_apply]
     by_cases hjk:j=k
     · subst hjk;rw[if_neg hnd.1,if_pos (List.mem_cons_self ..),a1z,a1l];rfl
     · by_cases hjS:j∈S
       · rw[if_pos hjS,if_pos (List.mem_cons_of_mem _ hjS)];exact b2j (hR j hj).1.g (fun y hy=>a2g (by rintro rfl;rw[hfR j hj k k1] at hy;cases hy)) fun _ _=>rfl
       · rw[if_neg hjS,if_neg (by simp[hjk,hjS]),a1z,a1z,a2g (fun e=>hjk (b9r e))]
  refine⟨g,?_,e⟩;have:=h5h g;rw[e,h5h (gT (k::S))] at this;have:=hB (k::S);omega
structure L1 (C:Cal) (IX:List Nat) (i:Nat):Prop where
 val:∀x v,a1i x C=some v→∃j,j<i∧j∉IX∧v=a4i j
 inj:∀x y v,a1i x C=some v→a1i y C=some v→x=y
 ix:∀k∈IX,k<i
 nd:IX.Nodup
theorem e0l:∀(l:List Ty) (i:Nat) (C:Cal) (IX:List Nat),L1 C IX i→L1 (lp1 l i C IX).1 (lp1 l i C IX).2 (i+l.length)
 | [],_,_,_,h=>h
 | t::r,i,C,IX,h=>by
  rw[b7g,List.length_cons,show i+(r.length+1)=i+1+r.length by omega];split
  · rename_i hc;refine e0l r (i+1) _ IX ⟨fun x v hx=>?_,fun x y v hx hy=>?_,fun k hk=>by have:=h.ix k hk;omega,h.nd⟩
    · rw[a6n] at hx;split at hx
      · injection hx with hx;exact⟨i,by omega,fun hm=>by have:=h.ix i hm;omega,hx.symm⟩
      · obtain⟨j,h1,h2,h3⟩:=h.val x v hx;exact⟨j,by omega,h2,h3⟩
    · rw[a6n] at hx hy;split at hx<;>split at hy
      · rename_i e1 e2;rw[e1,e2]
      · injection hx with hx;obtain⟨j,h1,_,h3⟩:=h.val y v hy;rw[←hx] at h3;have:=b9r h3;omega
      · injection hy with hy;obtain⟨j,h1,_,h3⟩:=h.val x v hx;rw[←hy] at h3;have:=b9r h3;omega
      · exact h.inj x y v hx hy
  · refine e0l r (i+1) C (IX++[i]) ⟨fun x v hx=>?_,h.inj,fun k hk=>?_,?_⟩
    · obtain⟨j,h1,h2,h3⟩:=h.val x v hx;exact⟨j,by omega,by simp[h2];omega,h3⟩
    · rcases List.mem_append.1 hk with hk|hk
      · have:=h.ix k hk;omega
      · simp at hk;omega
    · rw[List.nodup_append];exact⟨h.nd,by simp,fun a ha b hb=>by
       have:=h.ix a ha;simp at hb;omega⟩
theorem d4h:∀(l:List Ty) (i:Nat) (C:Cal) (IX:List Nat) (x v:List UInt8),a1i x C=some v→a1i x (lp1 l i C IX).1=some v
 | [],_,_,_,_,_,h=>h
 | t::r,i,C,IX,x,v,h=>by
  rw[b7g];split
  · rename_i hc;refine d4h r _ _ _ x v ?_;rw[a6n,if_neg]
    · exact h
    · rintro rfl;rw[Bool.and_eq_true,h] at hc;cases hc.2
  · exact d4h r _ _ _ x v h
theorem e0k:∀(l:List Ty) (i:Nat) (C:Cal) (IX:List Nat) (k:Nat),k∈IX→k∈(lp1 l i C IX).2
 | [],_,_,_,_,h=>h
 | t::r,i,C,IX,k,h=>by
  rw[b7g];split
  · exact e0k r _ _ _ k h
  · exact e0k r _ _ _ k (List.mem_append_left _ h)
theorem f5i:∀(l:List Ty) (i:Nat) (C:Cal) (IX:List Nat) (j:Nat) (t:Ty),l[j]? =some t→i+j∉(lp1 l i C IX).2→t.kind=1∧a1i t.name (lp1 l i C IX).1=some (a4i (i+j))
 | [],_,_,_,j,_,h,_=>by simp at h
 | t::r,i,C,IX,0,u,h,hn=>by
  simp only[List.getElem?_cons_zero,Option.some.injEq] at h;subst h;rw[b7g] at hn⊢;split at hn
  · rename_i hc;rw[if_pos hc];rw[Bool.and_eq_true] at hc;refine⟨by simpa using hc.1,d4h r _ _ _ _ _ ?_⟩;rw[a6n,if_pos rfl,Nat.add_zero]
  · rw[Nat.add_zero] at hn;exact absurd (e0k r (i+1) C (IX++[i]) i (List.mem_append_right _ (by simp))) hn
 | t::r,i,C,IX,j+1,u,h,hn=>by
  rw[b7g] at hn⊢;split at hn
  · rename_i hc;rw[if_pos hc];have:=f5i r (i+1) _ IX j u (by simpa using h) (by rw[show i+1+j=i+(j+1) by omega];exact hn)
    rwa[show i+1+j=i+(j+1) by omega] at this
  · rename_i hc;rw[if_neg hc];have:=f5i r (i+1) C (IX++[i]) j u (by simpa using h) (by rw[show i+1+j=i+(j+1) by omega];exact hn)
    rwa[show i+1+j=i+(j+1) by omega] at this
structure L2 (C:Cal) (IX:List Nat) (m:Nat):Prop where
 val:∀x v,a1i x C=some v→(∃j,j∉IX∧v=a4i j)∨∃j,j<m∧v=b4s j
 inj:∀x y v,a1i x C=some v→a1i y C=some v→x=y
theorem e0j{IX:List Nat}:∀(l:List (List UInt8)) (C:Cal) (ex:List (List UInt8)),L2 C IX ex.length→L2 (lp2 l C ex).1 IX (lp2 l C ex).2.length
 | [],_,_,h=>h
 | n::r,C,ex,h=>by
  rw[c5j];split
  · refine e0j r _ _ ⟨fun x v hx=>?_,fun x y v hx hy=>?_⟩
    · rw[a6n] at hx;split at hx
      · injection hx with hx;exact .inr ⟨ex.length,by simp,hx.symm⟩
      · rcases h.val x v hx with h1| ⟨j,h1,h2⟩
        · exact .inl h1
        · exact .inr ⟨j,by simp;omega,h2⟩
    · rw[a6n] at hx hy;split at hx<;>split at hy
      · rename_i e1 e2;rw[e1,e2]
      · injection hx with hx;rcases h.val y v hy with⟨j,_,h3⟩| ⟨j,h1,h3⟩
        · rw[←hx] at h3;exact (c6d h3.symm).elim
        · rw[←hx] at h3;have:=d8j h3;omega
      · injection hy with hy;rcases h.val x v hx with⟨j,_,h3⟩| ⟨j,h1,h3⟩
        · rw[←hy] at h3;exact (c6d h3.symm).elim
        · rw[←hy] at h3;have:=d8j h3;omega
      · exact h.inj x y v hx hy
  · exact e0j r _ _ h
theorem d4g:∀(l:List (List UInt8)) (C:Cal) (ex:List (List UInt8)) (x v:List UInt8),a1i x C=some v→a1i x (lp2 l C ex).1=some v
 | [],_,_,_,_,h=>h
 | n::r,C,ex,x,v,h=>by
  rw[c5j];split
  · rename_i hc;refine d4g r _ _ x v ?_;rw[a6n,if_neg]
    · exact h
    · rintro rfl;rw[h] at hc;cases hc
  · exact d4g r _ _ x v h
theorem f5h(C:Cal)(names:List (List UInt8))(ts:List Ty):∀(ks:List Nat) (acc:List Gv),(lp3 C names ts ks acc).map gvP=acc.map gvP++ks.map fun k=>(a4i k,a6o C names (ts.getD k zTy))
 | [],acc=>by simp[lp3]
 | k::r,acc=>by
  rw[d4f,f5h C names ts r,List.map_append,List.map_cons,List.append_assoc];rfl
theorem i8b{l:List (List UInt8)}(h:l.Nodup)(n:List UInt8):(b4k l n).Nodup:=by
 unfold b4k;split
 · exact h
 · rename_i hc;rw[List.nodup_append];exact⟨h,by simp,fun a ha b hb=>by
    simp at hb;subst hb;rintro rfl;exact hc (by simpa using ha)⟩
theorem g8i{t:Ty}(hg:GT t):∀ {b acc:List (List UInt8)},acc.Nodup→(a0m t b acc).Nodup:=by
 induction hg with
 | var s _=>
  intro b acc h;rw[a7y];simp only[Ty.args,a4q,a9d,Ty.kind,Ty.name,beq_self_eq_true,Bool.true_and];split
  · exact i8b h s
  · exact h
 | unk n _ _=>intro b acc h;rw[a7y];simpa [Ty.args,a4q,a9d,Ty.kind] using h
 | con s a _ hx ih=>
  intro b acc h;rw[a7y];simp only[Ty.args,Ty.kind,a9d,show ((3:Int)==1)=false from rfl,show ((3:Int)==5)=false from rfl,Bool.false_and,Bool.false_eq_true,if_false]
  induction a generalizing acc with
  | nil=>rw[a4q];exact h
  | cons y r ihr=>
   rw[a4s];exact ihr (fun z hz=>hx z (List.mem_cons_of_mem _ hz)) (fun z hz=>ih z (List.mem_cons_of_mem _ hz)) (ih y (List.mem_cons_self ..) h)
 | fn u v _ _ ihu ihv=>
  intro b acc h;rw[a7y];simp only[Ty.args,Ty.kind,a9d,show ((4:Int)==1)=false from rfl,show ((4:Int)==5)=false from rfl,Bool.false_and,Bool.false_eq_true,if_false];rw[a4s,a4s,a4q];exact ihv (ihu h)
 | all s t _ _ ih=>
  intro b acc h;rw[a7y];simp only[Ty.args,Ty.kind,Ty.name,a9d,show ((5:Int)==1)=false from rfl,beq_self_eq_true,Bool.false_and,Bool.false_eq_true,if_false,if_true];rw[a4s,a4q];exact ih h
theorem j4b:∀(l m:List (List UInt8)),l.Nodup→(∀x∈l,x∈m)→l.length≤m.length
 | [],_,_,_=>Nat.zero_le _
 | x::l,m,h,hs=>by
  rw[List.nodup_cons] at h;have hx:=hs x (List.mem_cons_self ..);have:=j4b l (m.erase x) h.2 fun y hy=>(List.mem_erase_of_ne (by rintro rfl;exact h.1 hy)).2 (hs y (List.mem_cons_of_mem _ hy));rw[List.length_erase_of_mem hx] at this;have:=List.length_pos_of_mem hx;rw[List.length_cons];omega
theorem i4n(c:UInt8)(but:List (List UInt8)):∀(n:Nat) (t:Ty) (i:Nat),t.sz≤n→GT t→t.sz<300000→i+n*(but.length+1)≤900000000→(a3h c but n t i).2.sz+(a3h c but n t i).1.length≤t.sz:=by
 intro n
 induction n with
 | zero=>intro t i h;have:=a3g t;omega
 | succ n ih=>
  intro t i hn hg hb hi;cases hk:t.kind==5
  · rw[b2z c but _ t i hk];exact Nat.le_refl _
  · obtain⟨s,x,rfl,hs,hx⟩:=hg.all_inv hk;rw[a0x,a1o] at hn hb⊢;rw[b3a];obtain⟨q1,q2,_,_⟩:=b0x c but i;have e:(n+1)*(but.length+1)=n*(but.length+1)+(but.length+1):=by rw[Nat.add_mul];omega
    obtain⟨c1,c2,_⟩:=a8z (a5b c but i) c (by omega);obtain⟨_,g,hsz⟩:=b7b hx (by omega) s (a5l c (a5b c but i)) c2 c1;have:=ih _ (a5b c but i+1) (by omega) g (by omega) (by omega);simp only[List.length_cons];omega
mutual
def c4i:Dt→Bool
 | .nd k _ l=>k==5||c0g l
 | _=>false
def c0g:List Dt→Bool
 | []=>false
 | t::r=>c4i t||c0g r
end
theorem d3t(k:Int)(s:List UInt8)(l:List Dt):c4i (.nd k s l)=(k==5||c0g l):=by simp[c4i]
theorem b8w(t:Dt)(r:List Dt):c0g (t::r)=(c4i t||c0g r):=by simp[c0g]
theorem d0o:c0g []=false:=by simp[c0g]
theorem e3n{t:Ty}(hg:GT t):∀ {ρ:b1s} {μ:Int→Dt} {d:Nat},(∀x,c4i (ρ x)=false)→(∀n,c4i (μ n)=false)→c4i (sem t ρ μ d)=b1j t∧npB t= !b1j t:=by
 induction hg with
 | var s _=>intro ρ μ d h _;rw[a1z,h];exact⟨rfl,rfl⟩
 | unk n _ _=>intro ρ μ d _ h;rw[a3c,h];exact⟨rfl,rfl⟩
 | con s a _ hx ih=>
  intro ρ μ d h1 h2;rw[a3m,d3t,d3s];have:c0g (d9u a ρ μ d)=b7y a∧h4s a= !b7y a:=by
   induction a with
   | nil=>rw[a0z,d0o];exact⟨rfl,rfl⟩
   | cons x r ihr=>
    obtain⟨e1,e2⟩:=ihr (fun y hy=>hx y (List.mem_cons_of_mem _ hy)) (fun y hy=>ih y (List.mem_cons_of_mem _ hy));obtain⟨e3,e4⟩:=ih x (List.mem_cons_self ..) (d:=d) h1 h2;rw[a0n,b8w,b7e,e1,e3,h4s,e2,e4,Bool.not_or];exact⟨rfl,rfl⟩
  rw[this.1];exact⟨rfl,by rw[npB,this.2];cases b7y a<;>rfl⟩
 | fn a b _ _ iha ihb=>
  intro ρ μ d h1 h2;obtain⟨e1,e2⟩:=iha (d:=d) h1 h2;obtain⟨e3,e4⟩:=ihb (d:=d) h1 h2;rw[a5o,d3t,d3s,a0n,a0n,a0z,b8w,b8w,d0o,b7e,b7e,e1,e3];exact⟨rfl,by simp only[npB,h4s,e2,e4];cases b1j a<;>cases b1j b<;>rfl⟩
 | all s t _ _ ih=>intro ρ μ d h1 h2;rw[a2a,d3t,d3s];exact⟨rfl,rfl⟩
theorem f2k:∀(l l':List Ty),l.length=l'.length→(∀(i:Nat) (x y:Ty),l[i]? =some x→l'[i]? =some y→x.sz≤y.sz)→Ty.szs l≤Ty.szs l'
 | [],_,_,_=>Nat.zero_le _
 | x::l,[],h,_=>by simp at h
 | x::l,y::l',h,hp=>by
  rw[a6w,a6w];have h1:=hp 0 x y rfl rfl;have h2:=f2k l l' (by simpa using h) fun i a b ha hb=>hp (i+1) a b (by simpa using ha) (by simpa using hb);omega
theorem e9c(l:List Ty):l=(List.range l.length).map fun j=>l.getD j zTy:=by
 apply List.ext_getElem?;intro i;rw[List.getElem?_map]
 by_cases h:i<l.length
 · rw[List.getElem?_range h,Option.map_some,List.getD_eq_getElem?_getD,List.getElem?_eq_getElem h];rfl
 · rw[List.getElem?_eq_none (by omega),List.getElem?_eq_none (by simp;omega)];rfl
structure WH (t:Ty) (x:CX):Prop where
 ty:x.ty=t
 ags:∀a∈x.args,GT a
 gs:∀k,GT (whQ ((x.givens.map gvP).drop k) (wh0 x))∧(whQ ((x.givens.map gvP).drop k) (wh0 x)).sz<12000
 gr:∀g∈x.givens,GT g.r∧g.r.sz<12000∧∀s,(a0m g.r [] []).contains s=true→s≠[]
 both:d7v (wh2 x) x.ty=true∧d7v x.ty (wh2 x)=true
 two:GT (wh2 x)∧(wh2 x).sz<12000
 lens:x.univ.length<12000∧x.args.length<12000∧x.givens.length<12000
theorem g1j(d:De)(c:Co)(hg:GT c.ty)(hb:c.ty.sz<12000)(hcl:Cl [] c.ty)(hd:d.name.length≤16){x:CX}(hm:b3t d c=some x):WH c.ty x:=by
 have hfr:=e1f hg hcl;obtain⟨g1,s1,n1,o1⟩:=a9l 112 [] c.ty.sz c.ty 0 (Nat.le_refl _) hg (by omega) (by simp;omega);obtain⟨cl1,nm1,nd1⟩:=c2l 112 [] c.ty.sz c.ty 0 [] hg (Nat.le_refl _) (by omega) (by simp;omega) hcl;have ps:=i4n 112 [] c.ty.sz c.ty 0 (Nat.le_refl _) hg (by omega) (by simp;omega);unfold b3t at hm;simp only at hm;rw[hfr] at hm;have hbi:∀(W:Ty) (hW:GT W) (hWb:W.sz<12000) (hk:(W.kind==5)=false) (hw16:∀f∈a0m W [] [],f.length≤16) (hmv:∀m,mvB W m=false) (τ:List UInt8→List UInt8),_→_→_→_:=
  fun W hW hWb hk hw16 hmv τ h h2 h3=>g0m (τ:=τ) hg hW hb hWb hcl hk hw16 hmv h h2 h3
 generalize a3h 112 [] c.ty.sz c.ty 0=p at *;obtain⟨names,body⟩:=p;simp only at g1 s1 n1 o1 cl1 nm1 nd1 ps hm hbi;rw[List.nil_append] at cl1;obtain⟨cl2,cl3⟩:=j2j body.sz body [] g1 cl1 (fun x hx=>by cases hx);obtain⟨h1,z1,a1,l1⟩:=d6c body.sz body [] (Nat.le_refl _) g1 (fun x hx=>by cases hx) (by omega);have b1:=f2t body.sz body [] g1;obtain⟨as0,e0,eb⟩:=f2s body.sz body [] (Nat.le_refl _) g1;generalize spF body.sz body []=a at *;obtain⟨ap,rt⟩:=a;simp only at cl2 cl3 h1 z1 a1 l1 b1 e0 eb hm;rw[List.nil_append] at e0;subst e0;split at hm
 case isFalse=>cases hm
 rename_i hc;simp only[Bool.and_eq_true] at hc;obtain⟨hc1,hc2,hc3⟩:=hc;obtain⟨s,l,rfl,hl⟩:=h1.con_inv hc1;simp only[Ty.args,Ty.name] at hm hc2 hc3;have hsd:s=d.name:=by simpa using hc2
 have hp0:b7y l=false:=by simpa using hc3
 rw[a0x] at z1;have hll:=a6h (.mk 3 s 0 l);rw[a0x] at hll;simp only[Ty.args] at hll;have clA:∀t∈l,Cl names t:=fun t ht=>cl3.con ht;have hI1:=e0l l 0 [] [] ⟨fun x v h=>(by cases h),fun x y v h=>(by cases h),fun k hk=>(by cases hk),List.nodup_nil⟩;rw[Nat.zero_add] at hI1;have hng:=f5i l 0 [] [];obtain⟨w1o,w1i,w1l⟩:=d7i l 0 [] [] (fun p hp=>by cases hp) (by omega) (fun k hk=>by cases hk);generalize lp1 l 0 [] []=r1 at *;obtain⟨C1,IX⟩:=r1;simp only at hm hI1 hng w1o w1i w1l;have hI2:=e0j (IX:=IX) names C1 [] ⟨fun x v h=>by
  obtain⟨j,_,h2,h3⟩:=hI1.val x v h;exact .inl ⟨j,h2,h3⟩,hI1.inj⟩
 have hkp:=d4g names C1 [];obtain⟨w2o,w2n,_,w2l⟩:=d7h names C1 [] w1o (by simp;omega);generalize lp2 names C1 []=r2 at *;obtain⟨C2,EX⟩:=r2;simp only at hm hI2 hkp w2o w2n w2l;have hcal:∀n∈names,(a1i n C2).getD []≠[]∧((a1i n C2).getD []).length≤16:=fun n hn=>by
  have h1:=w2n n hn;cases h2:a1i n C2 with
  | none=>rw[h2] at h1;cases h1
  | some v=>exact w2o.look h2
 have hdr:∀t:Ty,GT t→t.sz<12000→GT (a6o C2 names t)∧(a6o C2 names t).sz≤t.sz:=fun t ht hts=>(c1c C2 names t (by omega) hcal ht (by omega)).2;obtain⟨τ,hτ⟩:∃τ:List UInt8→List UInt8,τ=fun x=>if x∈names then (a1i x C2).getD [] else x:=⟨_,rfl⟩
 have hds:∀t:Ty,GT t→t.sz<12000→Cl names t→sm (a6o C2 names t)=sem t (b2p τ) .mt 0:=fun t ht hts hc=>by
  show sem _ _ _ _=_
  rw[g2j C2 names (by omega) hcal ht (by omega) hc.mv]
  congr 1
  funext y;rw[hτ];unfold b2p
  by_cases hy:y∈names
  · simp only[hy,if_true]
  · simp only[hy,if_false]
 have hfv:∀t:Ty,GT t→t.sz<12000→Cl names t→∀y,fvB (a6o C2 names t) y=true→∃x∈names,a1i x C2=some y:=fun t ht hts hc y hy=>by
  rw[d7y (hdr t ht hts).1] at hy;have hy:occ y (sm (a6o C2 names t))=true:=hy;rw[hds t ht hts hc] at hy;rcases (c2o ht).1 hy with⟨z,h2,h3⟩| ⟨q,_,h3⟩
  · have hz:=hc.fv z h2;unfold b2p at h3;rw[c0m,hτ] at h3;simp only[hz,if_true] at h3;refine⟨z,hz,?_⟩;have h4:=w2n z hz;cases h5:a1i z C2 with
    | none=>rw[h5] at h4;cases h4
    | some v=>
     rw[h5] at h3;have:v=y:=by simpa using h3
     rw[this]
  · rw[d6t] at h3;cases h3
 have lz:∀t∈l,t.sz<12000:=fun t ht=>by have:=a2p ht;omega
 have az:∀t∈ap,t.sz<12000:=fun t ht=>by
  rcases b1 t ht with h|h
  · cases h
  · omega
 have hno:∀t:Ty,GT t→t.sz<12000→Cl names t→∀k∈IX,fvB (a6o C2 names t) (a4i k)=false:=fun t ht hts hc k hk=>by
  cases hq:fvB (a6o C2 names t) (a4i k)
  · rfl
  · obtain⟨z,_,hz⟩:=hfv t ht hts hc _ hq;rcases hI2.val z _ hz with⟨j,h2,h3⟩| ⟨j,_,h3⟩
    · rw[b9r h3] at hk;exact absurd hk h2
    · exact (c6d h3).elim
 obtain⟨R,hR⟩:∃R:Nat→Ty,R=fun k=>a6o C2 names (l.getD k zTy):=⟨_,rfl⟩
 have hget:∀k,k<l.length→l.getD k zTy∈l:=fun k hk=>by
  rw[List.getD_eq_getElem?_getD,List.getElem?_eq_getElem hk];exact List.getElem_mem hk
 have hRk:∀k,k<l.length→NP (R k)∧∀x,(a0m (R k) [] []).contains x=true→x≠[]:=fun k hk=>by
  have hm:=hget k hk;rw[hR];simp only;obtain⟨q1,q2⟩:=hdr _ (hl _ hm) (lz _ hm);have hz:=lz _ hm;have hpl:b1j (l.getD k zTy)=false:=by
   cases hq:b1j (l.getD k zTy)
   · rfl
   · have:l.any b1j=true:=List.any_eq_true.2 ⟨_,hm,hq⟩;rw[←c6y,hp0] at this;cases this
  have hnp:=(e3n q1 (ρ:=.fv) (μ:=.mt) (d:=0) (fun x=>by simp[c4i]) (fun n=>by simp[c4i]))
  have hps:=(e3n (hl _ hm) (ρ:=b2p τ) (μ:=.mt) (d:=0) (fun x=>by simp[b2p,c4i]) (fun n=>by simp[c4i])).1;have e:=hds _ (hl _ hm) (lz _ hm) (clA _ hm);have hpd:b1j (a6o C2 names (l.getD k zTy))=false:=by
   rw[←hnp.1];show c4i (sm _)=false
   rw[e,hps,hpl]
  refine⟨⟨q1,by rw[hnp.2,hpd];rfl,by omega⟩,fun y hy=>?_⟩;have hy:y∈a0m (a6o C2 names (l.getD k zTy)) [] []:=by simpa using hy
  obtain⟨z,hz,hzy⟩:=hfv _ (hl _ hm) (lz _ hm) (clA _ hm) y ((a7x q1).1 hy);have:=(hcal z hz).1;rw[hzy] at this;exact this
 have hs16:s.length≤16:=by rw[hsd];exact hd
 have hBs:∀S,(c1r (ap.map (a6o C2 names)) (.mk 3 s 0 (b6o R l.length S))).sz≤body.sz:=fun S=>by
  rw[eb];refine f7j ?_ ap fun a ha=>(hdr a (a1 a ha).1 (az a ha)).2;rw[a0x,a0x];have:=f2k (b6o R l.length S) l (by simp[b6o]) fun i u v hu hv=>by
   have hi:=(List.getElem?_eq_some_iff.1 hv).1;unfold b6o at hu;rw[List.getElem?_map,List.getElem?_range hi,Option.map_some] at hu;injection hu with hu;have hvm:=List.mem_of_getElem? hv;have hgv:l.getD i zTy=v:=by rw[List.getD_eq_getElem?_getD,hv];rfl
   split at hu
   · subst hu;rw[hR];simp only[hgv];exact (hdr v (hl v hvm) (lz v hvm)).2
   · subst hu;rw[c5z];have:=a3g v;omega
  omega
 have key:=h5s (al:=ap.map (a6o C2 names)) (s:=s) (R:=R) (n:=l.length) (B:=body.sz) (IX:=IX) hs16 (by omega) (fun a ha=>by
  obtain⟨y,hy,rfl⟩:=List.mem_map.1 ha;exact (hdr y (a1 y hy).1 (az y hy)).1) hRk (fun a ha k hk=>by
  obtain⟨y,hy,rfl⟩:=List.mem_map.1 ha;exact hno y (a1 y hy).1 (az y hy) (cl2 y hy) k hk) (fun j hj k hk=>by
  rw[hR];exact hno _ (hl _ (hget j hj)) (lz _ (hget j hj)) (clA _ (hget j hj)) k hk) hBs (by omega)
 injection hm with hm;have ew0:wh0 x=c1r (ap.map (a6o C2 names)) (.mk 3 s 0 (b6o R l.length [])):=by
  rw[←hm];unfold wh0 b6o;simp only[List.map_map,List.not_mem_nil,if_false,hsd];rfl
 have egv:x.givens.map gvP=IX.map fun k=>(a4i k,R k):=by
  rw[←hm];simp only;rw[f5h,List.map_nil,List.nil_append,hR]
 have hIXn:∀k∈IX,k<l.length:=hI1.ix;have hw1:wh1 x=whQ (IX.map fun k=>(a4i k,R k)) (c1r (ap.map (a6o C2 names)) (.mk 3 s 0 (b6o R l.length []))):=by
  unfold wh1;rw[egv,ew0]
 obtain⟨k1,k2,k3⟩:=key IX hI1.nd fun k hk=>⟨hk,hIXn k hk⟩
 rw[←hw1] at k1 k2 k3;have hfin:sm (wh1 x)=sem body (b2p τ) .mt 0:=by
  rw[k3,eb];show sem _ _ _ _=_
  rw[c0y,c0y,List.map_map]
  congr 1
  · exact List.map_congr_left fun a ha=>hds a (a1 a ha).1 (az a ha) (cl2 a ha)
  · rw[a3m,a3m,a2c,a2c]
    congr 1
    unfold b6o
    conv=>rhs;rw[e9c l]
    rw[List.map_map,List.map_map];refine List.map_congr_left fun j hj=>?_;have hj:=List.mem_range.1 hj;simp only[Function.comp_apply];have hm:=hget j hj;split
    · rw[hR];exact hds _ (hl _ hm) (lz _ hm) (clA _ hm)
    · rename_i hjn;have hgj:l[j]? =some (l.getD j zTy):=by rw[List.getD_eq_getElem?_getD,List.getElem?_eq_getElem hj];rfl
      obtain⟨q1,q2⟩:=hng j _ hgj (by rw[Nat.zero_add];exact hjn);rw[Nat.zero_add] at q2;have hgt:=hl _ hm;have hclm:=clA _ hm;generalize l.getD j zTy=u at *;cases hgt with
      | var z hz=>
       have hzn:=hclm.fv z (by rw[c0x];simp);rw[a1z,a1z];unfold b2p;rw[hτ];simp only[hzn,if_true];have:=hkp z _ q2;rw[this];rfl
      | _=>cases q1
 have hfvb:∀z,fvB body z=true→z∈names:=cl1.fv;have hinj:∀y z,fvB body y=true→fvB body z=true→τ y=τ z→y=z:=fun y z hy hz e=>by
  have hy:=hfvb y hy;have hz:=hfvb z hz;rw[hτ] at e;simp only[hy,hz,if_true] at e;have v1:=w2n y hy;have v2:=w2n z hz;cases e1:a1i y C2 with
  | none=>rw[e1] at v1;cases v1
  | some v=>
   cases e2:a1i z C2 with
   | none=>rw[e2] at v2;cases v2
   | some v'=>
    rw[e1,e2] at e;have:v=v':=e;subst this;exact hI2.inj y z v e1 e2
 have hbk:(body.kind==1)=false∧(body.kind==5)=false:=by
  rw[eb];cases ap<;>exact⟨rfl,rfl⟩
 have hwk:body.kind=(wh1 x).kind:=d7q g1 k1 hbk.1 (fun y=>⟨_,rfl,.inl ⟨y,rfl⟩⟩) hfin.symm;have hw5:((wh1 x).kind==5)=false:=by rw[←hwk];exact hbk.2
 have hmv:∀m,mvB (wh1 x) m=false:=fun m=>by
  cases hq:mvB (wh1 x) m
  · rfl
  · rw[h4v k1,hfin] at hq;rcases (e0g g1).1 hq with⟨z,_,h3⟩| ⟨q,h2,_⟩
    · simp[b2p,e3t] at h3
    · rw[cl1.mv q] at h2;cases h2
 have h16:∀f∈a0m (wh1 x) [] [],f.length≤16:=fun f hf=>fv16 k1 ((a7x k1).1 hf);have hfl:(a0m (wh1 x) [] []).length≤names.length:=by
  have:=j4b (a0m (wh1 x) [] []) (names.map τ) (g8i k1 List.nodup_nil) fun f hf=>by
   have h2:=(a7x k1).1 hf;rw[d7y k1] at h2;have h2:occ f (sm (wh1 x))=true:=h2;rw[hfin] at h2;rcases (c2o g1).1 h2 with⟨z,h3,h4⟩| ⟨q,_,h4⟩
   · unfold b2p at h4;rw[c0m] at h4;exact List.mem_map.2 ⟨z,hfvb z h3,by simpa using h4⟩
   · rw[d6t] at h4;cases h4
  rwa[List.length_map] at this
 have hty:x.ty=c.ty:=by rw[←hm]
 have hbo:=hbi (wh1 x) k1 (by omega) hw5 h16 hmv τ hfin hinj (by omega);refine⟨hty,fun a ha=>?_,fun k=>?_,fun g hg=>?_,by rw[hty];exact hbo,⟨d5k k1 _ h16,by unfold wh2;rw[e1o];omega⟩,?_⟩
 · rw[←hm] at ha;obtain⟨y,hy,rfl⟩:=List.mem_map.1 ha;exact (hdr y (a1 y hy).1 (az y hy)).1
 · rw[egv,ew0,←List.map_drop];obtain⟨q1,q2,_⟩:=key (IX.drop k) (hI1.nd.sublist (List.drop_sublist k IX)) fun j hj=>⟨List.mem_of_mem_drop hj,hIXn j (List.mem_of_mem_drop hj)⟩
   exact⟨q1,by omega⟩
 · have:gvP g∈IX.map fun k=>(a4i k,R k):=by rw[←egv];exact List.mem_map.2 ⟨g,hg,rfl⟩
   obtain⟨k,hk,e⟩:=List.mem_map.1 this;have e2:R k=g.r:=congrArg Prod.snd e;obtain⟨q1,q2⟩:=hRk k (hIXn k hk);rw[←e2];refine⟨q1.g,?_,q2⟩;rw[hR];have:=(hdr _ (hl _ (hget k (hIXn k hk))) (lz _ (hget k (hIXn k hk)))).2;have:=lz _ (hget k (hIXn k hk));simp only;omega
 · have hlg:x.givens.length=IX.length:=by have:=congrArg List.length egv;simpa using this
   simp only[List.length_nil] at w1l l1;refine⟨?_,?_,by rw[hlg];omega⟩
   · rw[←hm];simp;omega
   · rw[←hm];simp;omega
theorem d8v(ar:List (List UInt8×Int))(d:De):∀(cs:List Co) (i:Nat) (m m':c3p),b9j ar d cs i m=.inr m'→(∀n,n∉cs.map Co.name→a1i n m'=a1i n m)∧
 ((cs.map Co.name).Nodup→∀(k:Nat) (c:Co),cs[k]? =some c→∃x,b3t d c=some x∧b3v ar c.ty=0∧a1i c.name m'=some {x with tag:=((i+k:Nat):Int)})
 | [],i,m,m',h=>by
  have h:(.inr m:(List UInt8×Int) ⊕ c3p)=.inr m':=h;injection h with h;subst h;exact⟨fun _ _=>rfl,fun _ k c hk=>by simp at hk⟩
 | c::r,i,m,m',h=>by
  rw[b7n] at h;split at h
  · rename_i hz;cases hmd:b3t d c with
    | none=>rw[hmd] at h;simp only at h;cases h
    | some x=>
     rw[hmd] at h;simp only at h;obtain⟨e1,e2⟩:=d8v ar d r (i+1) _ m' h;refine⟨fun n hn=>?_,fun hnd k c' hk=>?_⟩
     · rw[List.map_cons,List.mem_cons,not_or] at hn;rw[e1 n hn.2,a6n,if_neg hn.1]
     · rw[List.map_cons,List.nodup_cons] at hnd;cases k with
       | zero=>
        simp only[List.getElem?_cons_zero,Option.some.injEq] at hk;subst hk;exact⟨x,hmd,by simpa using hz,by rw[e1 _ hnd.1,a6n,if_pos rfl,Nat.add_zero]⟩
       | succ k=>
        obtain⟨y,y1,y2,y3⟩:=e2 hnd.2 k c' (by simpa using hk);exact⟨y,y1,y2,by rw[y3,show i+1+k=i+(k+1) by omega]⟩
  · cases h
theorem e5d(ar:List (List UInt8×Int)):∀(l:List De) (m m':c3p),g9k ar l m=.inr m'→(c9v l).Nodup→(∀n,n∉c9v l→a1i n m'=a1i n m)∧
 ∀d∈l,∀(k:Nat) (c:Co),d.cons[k]? =some c→∃x,b3t d c=some x∧b3v ar c.ty=0∧a1i c.name m'=some {x with tag:=(k:Int)}
 | [],m,m',h,_=>by
  have h:(.inr m:(List UInt8×Int) ⊕ c3p)=.inr m':=h;injection h with h;subst h;exact⟨fun _ _=>rfl,fun d hd=>by cases hd⟩
 | d::r,m,m',h,hnd=>by
  have hc:c9v (d::r)=d.cons.map Co.name++c9v r:=rfl;rw[hc] at hnd⊢;obtain⟨n1,n2,n3⟩:=List.nodup_append.1 hnd;rw[c8i] at h;split at h
  · cases h
  · cases hcf:b9j ar d d.cons 0 m with
    | inl e=>rw[hcf] at h;simp only at h;cases h
    | inr m2=>
     rw[hcf] at h;simp only at h;obtain⟨e1,e2⟩:=d8v ar d d.cons 0 m m2 hcf;obtain⟨f1,f2⟩:=e5d ar r m2 m' h n2;refine⟨fun n hn=>?_,fun d' hd k c hk=>?_⟩
     · rw[List.mem_append,not_or] at hn;rw[f1 n hn.2,e1 n hn.1]
     · rcases List.mem_cons.1 hd with rfl|hd
       · obtain⟨x,x1,x2,x3⟩:=e2 n1 k c hk;refine⟨x,x1,x2,?_⟩;rw[Nat.zero_add] at x3;rw[←x3];have hcn:c.name∈d'.cons.map Co.name:=List.mem_map.2 ⟨c,List.mem_of_getElem? hk,rfl⟩;exact f1 _ fun hm=>n3 _ hcn _ hm rfl
       · exact f2 d' hd k c hk
theorem f7p(ar:List (List UInt8×Int)){t:Ty}(hg:GT t):b0j ar (skT t)=b0j ar t:=by
 induction hg with
 | var s _=>rfl
 | unk n _ _=>rfl
 | con s a _ hx ih=>
  have e:skT (.mk 3 s 0 a)=.mk 3 s 0 (skL a):=rfl;rw[e,a6z,a6z];have hl:(skL a).length=a.length:=by rw[d9q,List.length_map]
  have hf:c4m ar (skL a)=c4m ar a:=by
   induction a with
   | nil=>rfl
   | cons x r ihr=>rw[b1x,a7l,a7l,ih x (List.mem_cons_self ..),ihr (fun y hy=>hx y (List.mem_cons_of_mem _ hy)) (fun y hy=>ih y (List.mem_cons_of_mem _ hy)) rfl (by rw[d9q,List.length_map])]
  simp only[Ty.kind,Ty.name,Ty.args,hl,hf]
 | fn a b _ _ iha ihb=>
  have e:skT (.mk 4 [] 0 [a,b])=.mk 4 [] 0 [skT a,skT b]:=rfl;rw[e,a6z,a6z];simp only[Ty.kind,Ty.name,Ty.args,a7l,iha,ihb];rfl
 | all s t _ _ ih=>
  have e:skT (.mk 5 s 0 [t])=.mk 5 [] 0 [skT t]:=rfl;rw[e,a6z,a6z];simp only[Ty.kind,Ty.name,Ty.args,a7l,ih];rfl
theorem d8e(ar:List (List UInt8×Int))(c:UInt8)(but:List (List UInt8)):∀(n:Nat) (t:Ty) (i:Nat),GT t→t.sz≤n→t.sz<300000→i+n*(but.length+1)≤900000000→b0j ar t=true→b0j ar (a3h c but n t i).2=true
 | 0,t,i,_,h,_,_,_=>by have:=a3g t;omega
 | n+1,t,i,ht,hn,hb,hi,h=>by
  cases hk:t.kind==5
  · rw[b2z c but _ t i hk];exact h
  · obtain⟨s,x,rfl,hs,hx⟩:=ht.all_inv hk;rw[a0x,a1o] at hn hb;rw[b3a];obtain⟨q1,q2,_,_⟩:=b0x c but i;have e:(n+1)*(but.length+1)=n*(but.length+1)+(but.length+1):=by rw[Nat.add_mul];omega
    obtain⟨c1,c2,_⟩:=a8z (a5b c but i) c (by omega);obtain⟨_,g,hsz⟩:=b7b hx (by omega) s (a5l c (a5b c but i)) c2 c1;refine d8e ar c but n _ (a5b c but i+1) g (by omega) (by omega) (by omega) ?_;rw[←f7p ar g,f2u,f7p ar hx];rw[a6z,Bool.and_eq_true] at h;have h2:c4m ar [x]=true:=h.2;rw[a7l,Bool.and_eq_true] at h2;exact h2.1
theorem f7o(ar:List (List UInt8×Int)):∀(n:Nat) (t:Ty) (acc:List Ty),GT t→b0j ar t=true→b0j ar (spF n t acc).2=true
 | 0,_,_,_,h=>h
 | n+1,t,acc,hg,h=>by
  cases hk:t.kind==4
  · rw[b1w _ _ _ hk];exact h
  · obtain⟨u,v,rfl,hu,hv⟩:=hg.fn_inv hk;rw[c3s];rw[a6z,Bool.and_eq_true] at h;have h2:c4m ar [u,v]=true:=h.2;rw[a7l,a7l,Bool.and_eq_true,Bool.and_eq_true] at h2;exact f7o ar n v _ hv h2.2.1
theorem f5d(ar:List (List UInt8×Int))(d:De)(c:Co)(hg:GT c.ty)(hb:c.ty.sz<12000)(hgd:b3v ar c.ty=0){x:CX}(hm:b3t d c=some x):a1i d.name ar=some (x.univ.length:Int)∧x.data=d.name:=by
 have hfl:=a2o _ c.ty (Nat.le_refl _) [] [];simp only[List.length_nil,Nat.zero_add] at hfl;have hbd:c.ty.sz*((a0m c.ty [] []).length+1)≤900000000:=Nat.le_trans (Nat.mul_le_mul (show c.ty.sz≤12000 by omega) (show _≤12001 by omega)) (by omega);have hf:b0j ar c.ty=true:=by
  unfold b3v at hgd;split at hgd
  · rename_i h;exact h
  · cases hgd
 have h1:=d8e ar 112 (a0m c.ty [] []) c.ty.sz c.ty 0 hg (Nat.le_refl _) (by omega) (by omega) hf;obtain⟨g1,s1,_,_⟩:=a9l 112 (a0m c.ty [] []) c.ty.sz c.ty 0 (Nat.le_refl _) hg (by omega) (by omega);unfold b3t at hm;simp only at hm;generalize a3h 112 (a0m c.ty [] []) c.ty.sz c.ty 0=p at *;have h2:=f7o ar p.2.sz p.2 [] g1 h1;generalize spF p.2.sz p.2 []=q at *;split at hm
 case isFalse=>cases hm
 rename_i hc;simp only[Bool.and_eq_true] at hc;obtain⟨hc1,hc2,_⟩:=hc;injection hm with hm;rw[a6z,Bool.and_eq_true,hc1] at h2;have h3:j4x ar q.2.name q.2.args.length=false:=by
  have:=h2.1;simp only[Bool.true_and,Bool.not_eq_true',Bool.or_eq_false_iff] at this;exact this.2
 have hn:q.2.name=d.name:=by simpa using hc2
 unfold j4x at h3;rw[hn] at h3;subst hm;simp only[List.length_map,List.length_range];split at h3
 · cases h3
 · rename_i v hv;refine⟨?_,trivial⟩;rw[hv];have:v=(q.2.args.length:Int):=by simpa using h3
   rw[this]
end Go.Proofs
