/- The readers of types of the program and of the document agree. -/
import Derived.Test.YtjfghnkmladbkaaGreatDoorAvF
namespace Go.Proofs
open Go.Av
set_option maxHeartbeats 8000000
set_option maxRecDepth 100000
inductive Ty where
 | mk (kind:Int) (name:List UInt8) (n:Int) (args:List Ty)
def Ty.kind:Ty→Int| .mk k _ _ _=>k
def Ty.name:Ty→List UInt8| .mk _ s _ _=>s
def Ty.n:Ty→Int| .mk _ _ n _=>n
def Ty.args:Ty→List Ty| .mk _ _ _ a=>a
mutual
def tyV:Ty→AVal
 | .mk k s n a=>.agg [.int .i64 k,.str s,.int .i64 n,.slice (a3a a)]
def a3a:List Ty→List AVal
 | []=>[]
 | t::r=>tyV t::a3a r
end
theorem a0a(t:Ty):tyV t=.agg [.int .i64 t.kind,.str t.name,.int .i64 t.n,.slice (a3a t.args)]:=by cases t;simp[tyV,Ty.kind,Ty.name,Ty.n,Ty.args]
theorem a4n(k:Int)(s:List UInt8)(n:Int)(a:List Ty):tyV (.mk k s n a)=.agg [.int .i64 k,.str s,.int .i64 n,.slice (a3a a)]:=by simp[tyV]
theorem c4r(l:List Ty):a3a l=l.map tyV:=by induction l<;>simp_all [a3a]
theorem a0h:a3a []=[]:=by simp[a3a]
theorem a1c(t:Ty)(r:List Ty):a3a (t::r)=tyV t::a3a r:=by simp[a3a]
theorem a9f(l r:List Ty):a3a (l++r)=a3a l++a3a r:=by simp[c4r]
theorem a2m(l:List Ty):(a3a l).length=l.length:=by simp[c4r]
def zTy:Ty:=.mk 0 [] 0 []
theorem d2l:tyV zTy=.agg [.int .i64 0,.str [],.int .i64 0,.slice []]:=by simp[zTy,tyV,a3a]
theorem b2t:a2j []=[]:=rfl
theorem a4o(t:Tok)(r:List Tok):a2j (t::r)=.agg [.int .i64 t.kind,.str t.text,.int .i64 t.pos]::a2j r:=rfl
theorem a0y(l:List Tok):(a2j l).length=l.length:=by simp[a2j]
def a2n(l:List Tok)(kind:Int)(text:List UInt8):Bool:=
 match l with
 | []=>false
 | t::_=>t.kind==kind&&(text==[]||t.text==text)
def b2u(l:List Tok):List UInt8:=
 match l with
 | []=>[]
 | t::_=>t.text
theorem b5a(l:List Tok)(kind:Int)(text:List UInt8):den E 246 [.ptr (.par 0) 0,.int .i64 kind,.str text] [[.slice (a2j l)]]=some (.bool (a2n l kind text),[[.slice (a2j l)]]):=by
 rw[a0d g3j,h0q];cases l with
 | nil=>simp only[go_sem,Tryz.f246,b2t,a2n,show decide ((0:Int)>0)=false from rfl]
 | cons t r=>
  have hl:decide ((((a2j r).length+1:Nat):Int)>0)=true:=by simp
  cases h1:t.kind==kind
  · simp only[go_sem,Tryz.f246,a4o,hl,a2n,h1,Int.le_refl,Int.toNat_zero,List.length_cons]
  · cases h2:text==[]
    · cases h3:t.text==text<;>simp only[go_sem,Tryz.f246,a4o,hl,a2n,h1,h2,h3,Int.le_refl,Int.toNat_zero,List.length_cons]
    · simp only[go_sem,Tryz.f246,a4o,hl,a2n,h1,h2,Int.le_refl,Int.toNat_zero,List.length_cons]
theorem a8g{l:List Tok}{kind:Int}{text:List UInt8}(h:a2n l kind text=true):∃t r,l=t::r:=by
 cases l with
 | nil=>cases h
 | cons t r=>exact⟨t,r,rfl⟩
theorem a6q(l:List Tok)(kind:Int)(text:List UInt8):den E 215 [.ptr (.par 0) 0,.int .i64 kind,.str text] [[.slice (a2j l)]]=
 some (if a2n l kind text then .tup [.str (b2u l),.bool true] else .tup [.str [],.bool false],[[.slice (a2j (if a2n l kind text then l.tail else l))]]):=by
 rw[a0d g4e,h1l];have hs:=b5a l kind text;cases h:a2n l kind text
 · rw[h] at hs;simp only[go_sem,Tryz.f215,hs]
 · obtain⟨t,r,rfl⟩:=a8g h;rw[h,a4o] at hs;simp only[go_sem,Tryz.f215,hs,a4o,b2u,Int.le_refl,Int.toNat_zero,List.tail_cons,List.length_cons,Nat.le_refl,Int.toNat_one,Nat.le_add_left,Int.zero_le_ofNat,List.take_length]
def c1x(t:Tok):Prop:=t.kind=5→∃c r n,t.text=c::r∧r.length≤18∧Lib.atoi r=some n
def d7e(s:List UInt8):Int:=(Lib.atoi s.tail).getD 0
inductive TM where
 | typ
 | all
 | app
 | atom
 | loop (name:List UInt8) (acc:List Ty)
def a4d:List Tok→List (List UInt8)
 | []=>[]
 | t::r=>if t.kind==1 then t.text::a4d r else []
def tyR:Nat→TM→List Tok→Option (Ty×Bool×List Tok)
 | 0,_,_=>none
 | f+1,m,l=>match m with
  | .typ=>if a2n l 3 [102,111,114,97,108,108] then tyR f .all l.tail else
   match tyR f .app l with
   | none=>none
   | some (a,ok,l1)=>if ok then (if a2n l1 6 [45,62] then (match tyR f .typ l1.tail with
    | none=>none
    | some (b,ok2,l2)=>some (.mk 4 [] 0 [a,b],ok2,l2)) else some (a,true,l1)) else some (zTy,false,l1)
  | .all=>if a2n (l.drop (a4d l).length) 6 [46] then (match a4d l with
   | []=>some (zTy,false,l.tail)
   | n::ns=>match tyR f .typ ((l.drop (a4d l).length).tail) with
    | none=>none
    | some (t,ok,l2)=>some ((n::ns).foldr (fun n t=>.mk 5 n 0 [t]) t,ok,l2)) else some (zTy,false,l.drop (a4d l).length)
  | .app=>if a2n l 2 [] then tyR f (.loop (b2u l) []) l.tail else tyR f .atom l
  | .loop name acc=>if a2n l 1 []||(a2n l 5 []||(a2n l 2 []||a2n l 6 [40])) then (match tyR f .atom l with
   | none=>none
   | some (x,ok,l1)=>if ok then tyR f (.loop name (acc++[x])) l1 else some (zTy,false,l1)) else some (.mk 3 name 0 acc,true,l)
  | .atom=>if a2n l 1 [] then some (.mk 1 (b2u l) 0 [],true,l.tail) else if a2n l 2 [] then some (.mk 3 (b2u l) 0 [],true,l.tail) else
   if a2n l 5 [] then some (.mk 2 [] (d7e (b2u l)) [],true,l.tail) else if a2n l 6 [40] then (match tyR f .typ l.tail with
    | none=>none
    | some (t,ok,l1)=>if ok then some (t,a2n l1 6 [41],if a2n l1 6 [41] then l1.tail else l1) else some (zTy,false,l1)) else some (zTy,false,l)
theorem a3s(l:List Tok):l.tail<:+l:=List.tail_suffix l
theorem a9g:∀(f:Nat) (m:TM) (l:List Tok) (t:Ty) (ok:Bool) (l':List Tok),tyR f m l=some (t,ok,l')→l'<:+l:=by
 intro f
 induction f with
 | zero=>intro m l t ok l' h;cases h
 | succ f ih=>
  intro m l t ok l' h;have fin:∀ {t1 t2:Ty} {o1 o2:Bool} {l1 l2:List Tok},some (t1,o1,l1)=some (t2,o2,l2)→l1<:+l→l2<:+l:=fun h1 h2=>by
   simp only[Option.some.injEq,Prod.mk.injEq] at h1;obtain⟨_,_,rfl⟩:=h1;exact h2
  cases m with
  | typ=>
   simp only[tyR] at h;split at h
   · exact (ih _ _ _ _ _ h).trans (a3s l)
   · split at h
     · cases h
     · rename_i a ok1 l1 h1;have s1:=ih _ _ _ _ _ h1;split at h
       · split at h
         · split at h
           · cases h
           · rename_i b ok2 l2 h2;exact fin h ((ih _ _ _ _ _ h2).trans ((a3s l1).trans s1))
         · exact fin h s1
       · exact fin h s1
  | all=>
   simp only[tyR] at h;split at h
   · split at h
     · exact fin h (a3s l)
     · split at h
       · cases h
       · rename_i t2 ok2 l2 h2;exact fin h ((ih _ _ _ _ _ h2).trans ((a3s _).trans (List.drop_suffix _ _)))
   · exact fin h (List.drop_suffix _ _)
  | app=>
   simp only[tyR] at h;split at h
   · exact (ih _ _ _ _ _ h).trans (a3s l)
   · exact ih _ _ _ _ _ h
  | loop name acc=>
   simp only[tyR] at h;split at h
   · split at h
     · cases h
     · rename_i a ok1 l1 h1;split at h
       · exact (ih _ _ _ _ _ h).trans (ih _ _ _ _ _ h1)
       · exact fin h (ih _ _ _ _ _ h1)
   · exact fin h (List.suffix_refl _)
  | atom=>
   simp only[tyR] at h;split at h
   · exact fin h (a3s l)
   · split at h
     · exact fin h (a3s l)
     · split at h
       · exact fin h (a3s l)
       · split at h
         · split at h
           · cases h
           · rename_i t2 ok2 l2 h2;have s2:=(ih _ _ _ _ _ h2).trans (a3s l);split at h
             · refine fin h ?_;split
               · exact (a3s l2).trans s2
               · exact s2
             · exact fin h s2
         · exact fin h (List.suffix_refl _)
theorem a5v{l:List Tok}{k:Int}{s:List UInt8}(h:a2n l k s=true):l.tail.length<l.length:=by
 obtain⟨t,r,rfl⟩:=a8g h;simp
theorem c3j{f:Nat}{l:List Tok}{t:Ty}{l':List Tok}(h:tyR f .atom l=some (t,true,l')):l'.length<l.length:=by
 cases f with
 | zero=>cases h
 | succ f=>
  simp only[tyR] at h;have fin:∀ {t1 t2:Ty} {o1 o2:Bool} {l1 l2:List Tok},some (t1,o1,l1)=some (t2,o2,l2)→l1.length<l.length→l2.length<l.length:=fun h1 h2=>by
   simp only[Option.some.injEq,Prod.mk.injEq] at h1;obtain⟨_,_,rfl⟩:=h1;exact h2
  split at h
  · exact fin h (a5v (by assumption))
  · split at h
    · exact fin h (a5v (by assumption))
    · split at h
      · exact fin h (a5v (by assumption))
      · split at h
        · rename_i h6;have:=a5v h6;split at h
          · cases h
          · rename_i t2 ok2 l2 h2;have s2:=(a9g _ _ _ _ _ _ h2).length_le;split at h
            · refine fin h ?_;split
              · have:=(a3s l2).length_le;omega
              · omega
            · exact fin h (by omega)
        · simp at h
def b7m(r:Ty×Bool×List Tok):Option (AVal×a3e):=some (.tup [tyV r.1,.bool r.2.1],[[.slice (a2j r.2.2)]])
def f1i:TM→List Tok→Ty×Bool×List Tok→Prop
 | .typ,l,r=>den E 153 [.ptr (.par 0) 0] [[.slice (a2j l)]]=b7m r
 | .all,l,r=>den E 216 [.ptr (.par 0) 0] [[.slice (a2j l)]]=b7m r
 | .app,l,r=>den E 217 [.ptr (.par 0) 0] [[.slice (a2j l)]]=b7m r
 | .atom,l,r=>den E 247 [.ptr (.par 0) 0] [[.slice (a2j l)]]=b7m r
 | .loop _ _,_,_=>True
theorem h5x:∀(f:Nat) (m:TM) (l:List Tok) (r:Ty×Bool×List Tok),(∀t∈l,c1x t)→l.length<1000000→tyR f m l=some r→f1i m l r:=by
 intro f
 induction f using Nat.strongRecOn with
 | _ f ih=>
 intro m l r hok hlen h;cases f with
 | zero=>cases h
 | succ f=>
 cases m with
 | typ=>
  simp only[f1i];simp only[tyR] at h;rw[a0d g5q,h2w];have t0:=a6q l 3 [102,111,114,97,108,108];cases b0:a2n l 3 [102,111,114,97,108,108]
  · rw[b0] at h t0;simp only[Bool.false_eq_true,if_false] at h t0;split at h
    · cases h
    · rename_i a ok l1 h1;have i1:=ih f (by omega) .app l _ hok hlen h1;simp only[f1i,b7m,a0a] at i1;cases ok
      · simp only[Bool.false_eq_true,if_false] at h;injection h with h;subst h;simp only[go_sem,Tryz.f153,t0,i1,b7m,d2l]
      · simp only[if_true] at h;have t1:=a6q l1 6 [45,62];cases b1:a2n l1 6 [45,62]
        · rw[b1] at h t1;simp only[Bool.false_eq_true,if_false] at h t1;injection h with h;subst h;simp only[go_sem,Tryz.f153,t0,i1,t1,b7m,a0a]
        · rw[b1] at h t1;simp only[if_true] at h t1;split at h
          · cases h
          · rename_i b ok2 l2 h2;have sub:=(a3s l1).trans (a9g _ _ _ _ _ _ h1);have i2:=ih f (by omega) .typ l1.tail _ (fun t ht=>hok t (sub.subset ht)) (Nat.lt_of_le_of_lt sub.length_le hlen) h2;simp only[f1i,b7m,a0a] at i2;injection h with h;subst h;simp only[go_sem,Tryz.f153,t0,i1,t1,i2,b7m,a0h,a1c,a0a,Ty.kind,Ty.name,Ty.n,Ty.args]
  · rw[b0] at h t0;simp only[if_true] at h t0;have sub:=a3s l;have i1:=ih f (by omega) .all l.tail _ (fun t ht=>hok t (sub.subset ht)) (Nat.lt_of_le_of_lt sub.length_le hlen) h;simp only[f1i,b7m,a0a] at i1;simp only[go_sem,Tryz.f153,t0,i1,b7m,a0a]
 | all=>
  simp only[f1i];rw[a0d g4d,h1k];simp only[go_sem,Tryz.f216];refine a0p (fun x:List (List UInt8)×List Tok=>x.2=l.drop x.1.length∧a4d l=x.1++a4d x.2∧x.1.length+x.2.length≤l.length) (fun x=>⟨[(0,.ptr (.par 0) 0),(2,.ptr (.loc 2) 0),(4,.own 9 0 (x.1.map .str))],[[.slice (a2j x.2)]],[(2,[.int .i64 0,.str [],.int .i64 0,.own 25 0 []])],1⟩)
   (fun _=>b7m r) (fun x=>x.2.length) ([],l) ⟨by simp,by simp,by simp⟩ ?_ ?_
  · simp only[go_sem,List.map_nil]
  · rintro⟨names,lx⟩ ⟨hdrop,hnames,hle⟩ hrun;simp only at hdrop hnames hle hrun⊢;have t1:=a6q lx 1 [];cases b1:a2n lx 1 []
    · -- no more names
      have hnx:a4d lx=[]:=by
       cases lx with
       | nil=>rfl
       | cons t q=>simp only[a2n] at b1;simp only[a4d];rw[show (t.kind==1)=false by simpa using b1];rfl
      rw[hnx,List.append_nil] at hnames;simp only[tyR,hnames,←hdrop] at h;rw[b1] at t1;simp only[Bool.false_eq_true,if_false] at t1;have t6:=a6q lx 6 [46];cases b6:a2n lx 6 [46]
      · rw[b6] at h t6;simp only[Bool.false_eq_true,if_false] at h t6;injection h with h;subst h;simp only[go_sem,t1,t6,b7m,d2l]
      · rw[b6] at h t6;simp only[if_true] at h t6;cases names with
        | nil=>
         simp only[List.length_nil,List.drop_zero] at hdrop;subst hdrop;simp only at h;injection h with h;subst h;simp only[go_sem,t1,t6,b7m,d2l,List.map_nil]
        | cons n0 ns=>
         simp only at h;split at h
         · cases h
         · rename_i t ok l2 h2;injection h with h;have sub:lx.tail<:+l:=(a3s lx).trans (hdrop▸List.drop_suffix _ _);have i1:=ih f (by omega) .typ lx.tail _ (fun t ht=>hok t (sub.subset ht)) (Nat.lt_of_le_of_lt sub.length_le hlen) h2;simp only[f1i,b7m,a0a] at i1;generalize hN:n0::ns=N at *;have hN0:((((N.map AVal.str).length:Nat):Int)==0)=false:=by
            rw[←hN,b5v];simp
           have hNl:N.length<1000000:=by omega
           have w1:IntKind.i64.wrap (((N.map AVal.str).length:Int) - 1)=(N.length:Int) - 1:=by
            rw[List.length_map];exact IntWalk.i64_in _ (by omega)
           simp only[go_sem,t1,t6,hN0,i1,w1];refine (a0p (fun k:Nat=>k≤N.length) (fun k=>⟨[(2,.ptr (.loc 2) 0),(4,.own 9 0 (N.map .str)),(9,.ptr (.loc 9) 0),(10,.bool ok),(11,.int .i64 ((k:Int) - 1))],[[.slice (a2j l2)]],
            [(2,[.int .i64 0,.str [],.int .i64 0,.own 25 0 []]),(9,[.int .i64 ((N.drop k).foldr (fun n t=>Ty.mk 5 n 0 [t]) t).kind,.str ((N.drop k).foldr (fun n t=>Ty.mk 5 n 0 [t]) t).name,.int .i64 ((N.drop k).foldr (fun n t=>Ty.mk 5 n 0 [t]) t).n,.slice (a3a ((N.drop k).foldr (fun n t=>Ty.mk 5 n 0 [t]) t).args)])],1⟩)
            (fun _=>b7m r) (fun k=>k) N.length (Nat.le_refl _) ?_ ?_)
           · simp only[go_sem,List.drop_length,List.foldr_nil]
           · intro k hk hrun2;cases k with
             | zero=>
              simp only[go_sem,List.drop_zero,Int.zero_sub,show decide ((-1:Int)≥0)=false from rfl];rw[←h];simp only[b7m,a0a]
             | succ k=>
              have hk2:k<N.length:=by omega
              have e1:((k+1:Nat):Int) - 1=(k:Int):=by omega
              have ge:decide ((k:Int)≥0)=true:=by simp
              have hg:(N.map AVal.str)[k]? =some (.str N[k]):=by rw[List.getElem?_map,List.getElem?_eq_getElem hk2];rfl
              have w2:IntKind.i64.wrap ((k:Int) - 1)=(k:Int) - 1:=IntWalk.i64_in _ (by omega);have hd:N.drop k=N[k]::N.drop (k+1):=List.drop_eq_getElem_cons hk2;simp only[go_sem,e1,a0c,a0j,hg,w2];refine hrun2 k _ (by omega) (by omega) ?_;simp only[go_sem,hd,List.foldr_cons,Ty.kind,Ty.name,Ty.n,Ty.args,a1c,a0h,a0a]
    · obtain⟨tk,q,rfl⟩:=a8g b1;have hk:(tk.kind==1)=true:=by simpa [a2n] using b1
      have hnx:a4d (tk::q)=tk.text::a4d q:=by simp only[a4d,hk,if_true]
      rw[b1] at t1;simp only[if_true,b2u,List.tail_cons] at t1;have hap:(names.map AVal.str).length+1≤a0s:=by
       rw[List.length_map];simp only[List.length_cons] at hle;unfold a0s;omega
      have hmap:names.map AVal.str++[.str tk.text]=(names++[tk.text]).map AVal.str:=by simp
      simp only[go_sem,t1,hap,hmap];refine hrun (names++[tk.text],q) _ ⟨?_,?_,?_⟩ ?_ ?_
      · simp only[List.length_append,List.length_singleton];rw[←List.drop_drop,←hdrop];rfl
      · simp only[hnames,hnx,List.append_assoc,List.singleton_append]
      · simp only[List.length_append,List.length_singleton];simp only[List.length_cons] at hle;omega
      · simp
      · simp only[go_sem]
 | app=>
  simp only[f1i];simp only[tyR] at h;rw[a0d g4c,h1j];have t1:=a6q l 2 [];cases b1:a2n l 2 []
  · rw[b1] at h t1;simp only[Bool.false_eq_true,if_false] at h t1;have i1:=ih f (by omega) .atom l _ hok hlen h;simp only[f1i,b7m,a0a] at i1;simp only[go_sem,Tryz.f217,t1,i1,b7m,a0a]
  · rw[b1] at h t1;simp only[if_true] at h t1;simp only[go_sem,Tryz.f217,t1];generalize hname:b2u l=name at *;refine a0p (fun x:Nat×List Ty×List Tok=>x.1≤f∧x.2.2<:+l∧x.2.1.length+x.2.2.length≤l.length∧tyR x.1 (.loop name x.2.1) x.2.2=some r) (fun x=>⟨[(0,.ptr (.par 0) 0),(2,.ptr (.loc 2) 0),(6,.ptr (.loc 6) 0)],[[.slice (a2j x.2.2)]],[(2,[.int .i64 0,.str [],.int .i64 0,.own 25 0 []]),(6,[.int .i64 3,.str name,.int .i64 0,.own 25 0 (a3a x.2.1)])],1⟩)
     (fun _=>b7m r) (fun x=>x.1) (f,[],l.tail) ⟨Nat.le_refl _,a3s l,by simp,h⟩ ?_ ?_
    · simp only[go_sem,a0h]
    · rintro⟨g,acc,lx⟩ ⟨hg,hsf,hal,hx⟩ hrun;simp only at hg hsf hal hx hrun⊢;have s1:=b5a lx 1 [];have s5:=b5a lx 5 [];have s2:=b5a lx 2 [];have s6:=b5a lx 6 [40];cases g with
      | zero=>cases hx
      | succ g=>
       simp only[tyR] at hx;have step:(a2n lx 1 []||(a2n lx 5 []||(a2n lx 2 []||a2n lx 6 [40])))=true→∃x ok l1,tyR g .atom lx=some (x,ok,l1)∧(if ok=true then tyR g (.loop name (acc++[x])) l1 else some (zTy,false,l1))=some r:=fun hb=>by
        rw[hb] at hx;simp only[if_true] at hx;split at hx
        · cases hx
        · rename_i x ok l1 h1;exact⟨x,ok,l1,h1,hx⟩
       have more:∀x ok l1,tyR g .atom lx=some (x,ok,l1)→den E 247 [.ptr (.par 0) 0] [[.slice (a2j lx)]]=some (.tup [.agg [.int .i64 x.kind,.str x.name,.int .i64 x.n,.slice (a3a x.args)],.bool ok],[[.slice (a2j l1)]]):=fun x ok l1 h1=>by
        have i1:=ih g (by omega) .atom lx _ (fun t ht=>hok t (hsf.subset ht)) (Nat.lt_of_le_of_lt hsf.length_le hlen) h1;simpa only[f1i,b7m,a0a] using i1
       have go:∀x l1,tyR g .atom lx=some (x,true,l1)→tyR g (.loop name (acc++[x])) l1=some r→(a3a acc).length+1≤a0s∧a3a acc++[.agg [.int .i64 x.kind,.str x.name,.int .i64 x.n,.slice (a3a x.args)]]=a3a (acc++[x])∧
        (g≤f∧l1<:+l∧(acc++[x]).length+l1.length≤l.length∧tyR g (.loop name (acc++[x])) l1=some r):=fun x l1 h1 h2=>by
        have hlt:=c3j h1;refine⟨?_,?_,by omega,(a9g _ _ _ _ _ _ h1).trans hsf,?_,h2⟩
        · rw[a2m];unfold a0s;omega
        · rw[a9f,a1c,a0h,a0a]
        · simp only[List.length_append,List.length_singleton];omega
       cases b1:a2n lx 1 []
       · cases b5:a2n lx 5 []
         · cases b2:a2n lx 2 []
           · cases b6:a2n lx 6 [40]
             · rw[b1,b5,b2,b6] at hx;simp only[Bool.or_false,Bool.false_eq_true,if_false] at hx;injection hx with hx;subst hx;simp only[go_sem,s1,s2,s5,s6,b1,b5,b2,b6,b7m,a4n]
             · obtain⟨x,ok,l1,h1,h2⟩:=step (by simp[b1,b5,b2,b6]);have m1:=more x ok l1 h1;cases ok
               · simp only[Bool.false_eq_true,if_false] at h2;injection h2 with h2;subst h2;simp only[go_sem,s1,s2,s5,s6,b1,b5,b2,b6,m1,b7m,d2l]
               · simp only[if_true] at h2;obtain⟨q1,q2,q3⟩:=go x l1 h1 h2;simp only[go_sem,s1,s2,s5,s6,b1,b5,b2,b6,m1,q1,q2];exact hrun (g,acc++[x],l1) _ q3 (by simp only;omega) (by simp only[go_sem])
           · obtain⟨x,ok,l1,h1,h2⟩:=step (by simp[b1,b5,b2]);have m1:=more x ok l1 h1;cases ok
             · simp only[Bool.false_eq_true,if_false] at h2;injection h2 with h2;subst h2;simp only[go_sem,s1,s2,s5,b1,b5,b2,m1,b7m,d2l]
             · simp only[if_true] at h2;obtain⟨q1,q2,q3⟩:=go x l1 h1 h2;simp only[go_sem,s1,s2,s5,b1,b5,b2,m1,q1,q2];exact hrun (g,acc++[x],l1) _ q3 (by simp only;omega) (by simp only[go_sem])
         · obtain⟨x,ok,l1,h1,h2⟩:=step (by simp[b1,b5]);have m1:=more x ok l1 h1;cases ok
           · simp only[Bool.false_eq_true,if_false] at h2;injection h2 with h2;subst h2;simp only[go_sem,s1,s5,b1,b5,m1,b7m,d2l]
           · simp only[if_true] at h2;obtain⟨q1,q2,q3⟩:=go x l1 h1 h2;simp only[go_sem,s1,s5,b1,b5,m1,q1,q2];exact hrun (g,acc++[x],l1) _ q3 (by simp only;omega) (by simp only[go_sem])
       · obtain⟨x,ok,l1,h1,h2⟩:=step (by simp[b1]);have m1:=more x ok l1 h1;cases ok
         · simp only[Bool.false_eq_true,if_false] at h2;injection h2 with h2;subst h2;simp only[go_sem,s1,b1,m1,b7m,d2l]
         · simp only[if_true] at h2;obtain⟨q1,q2,q3⟩:=go x l1 h1 h2;simp only[go_sem,s1,b1,m1,q1,q2];exact hrun (g,acc++[x],l1) _ q3 (by simp only;omega) (by simp only[go_sem])
 | loop name acc=>trivial
 | atom=>
  simp only[f1i];simp only[tyR] at h;rw[a0d g3i,h0p];have t1:=a6q l 1 [];cases b1:a2n l 1 []
  · rw[b1] at h t1;simp only[Bool.false_eq_true,if_false] at h t1;have t2:=a6q l 2 [];cases b2:a2n l 2 []
    · rw[b2] at h t2;simp only[Bool.false_eq_true,if_false] at h t2;have t3:=a6q l 5 [];cases b3:a2n l 5 []
      · rw[b3] at h t3;simp only[Bool.false_eq_true,if_false] at h t3;have t4:=a6q l 6 [40];cases b4:a2n l 6 [40]
        · rw[b4] at h t4;simp only[Bool.false_eq_true,if_false] at h t4;injection h with h;subst h;simp only[go_sem,Tryz.f247,t1,t2,t3,t4,b7m,d2l]
        · rw[b4] at h t4;simp only[if_true] at h t4;split at h
          · cases h
          · rename_i t ok l1 h1;have sub:=a3s l;have i1:=ih f (by omega) .typ l.tail _ (fun t ht=>hok t (sub.subset ht)) (Nat.lt_of_le_of_lt sub.length_le hlen) h1;simp only[f1i,b7m,a0a] at i1;cases ok
            · simp only[Bool.false_eq_true,if_false] at h;injection h with h;subst h;simp only[go_sem,Tryz.f247,t1,t2,t3,t4,i1,b7m,d2l]
            · simp only[if_true] at h;have t5:=a6q l1 6 [41];injection h with h;subst h;cases b5:a2n l1 6 [41]<;>
              · rw[b5] at t5;simp only[Bool.false_eq_true,if_false,if_true] at t5;simp only[go_sem,Tryz.f247,t1,t2,t3,t4,i1,t5,b7m,a0a]
      · rw[b3] at h t3;simp only[if_true] at h t3;injection h with h;subst h;obtain⟨tk,r,rfl⟩:=a8g b3;have hk:tk.kind=5:=by simpa [a2n] using b3
        obtain⟨c,ds,n,e1,e2,e3⟩:=hok tk (by simp) hk;have hA:den E 229 [.str ds] []=some (.tup [.int .i64 n,.nilf],[]):=by
         have hne:ds≠[]:=fun h0=>by rw[h0] at e3;cases e3
         rw[a9r g3y];simp[e1i,e2,e3,hne]
        have hm:d7e tk.text=n:=by simp[d7e,e1,e3]
        simp only[b2u,e1] at t3;simp only[go_sem,Tryz.f247,t1,t2,t3,b7m,a4n,a0h,b2u,hm,hA,List.length_cons,Int.toNat_one,Int.zero_le_ofNat,Nat.le_refl,Nat.le_add_left,List.take_length]
    · rw[b2] at h t2;simp only[if_true] at h t2;injection h with h;subst h;simp only[go_sem,Tryz.f247,t1,t2,b7m,a4n,a0h]
  · rw[b1] at h t1;simp only[if_true] at h t1;injection h with h;subst h;simp only[go_sem,Tryz.f247,t1,b7m,a4n,a0h]
def c9p(s:List UInt8):Nat:=s.foldl (fun n c=>10*n+(c.toNat - 48)) 0
theorem f4k(s:List UInt8)(c:UInt8):c9p (s++[c])=10*c9p s+(c.toNat - 48):=by simp[c9p]
theorem b3y{c:UInt8}(h:a1v c=true):48≤c.toNat∧c.toNat≤57:=by
 unfold a1v at h;simp only[Bool.and_eq_true,decide_eq_true_eq] at h;omega
theorem f4l:∀(s:List UInt8),(∀c∈s,a1v c=true)→c9p s<10 ^ s.length:=by
 intro s
 suffices h:∀(s:List UInt8) (a:Nat),(∀c∈s,a1v c=true)→s.foldl (fun n c=>10*n+(c.toNat - 48)) a<(a+1)*10 ^ s.length by
  intro hd;have:=h s 0 hd;simpa [c9p] using this
 intro s
 induction s with
 | nil=>intro a _;simp
 | cons c r ih=>
  intro a hd;have hc:=b3y (hd c (by simp));have:=ih (10*a+(c.toNat - 48)) (fun x hx=>hd x (by simp[hx]));simp only[List.foldl_cons,List.length_cons];refine Nat.lt_of_lt_of_le this ?_;rw[Nat.pow_succ,Nat.mul_comm (10 ^ r.length) 10,←Nat.mul_assoc];exact Nat.mul_le_mul_right _ (by omega)
theorem e0h(s:List UInt8)(hd:∀c∈s,a1v c=true)(hl:s.length≤6):den E 248 [.str s] []=some (.int .i64 (c9p s),[]):=by
 rw[a0d g3h,h0o];simp only[go_sem,Tryz.f248];refine a4j (fun i=>⟨[(0,.str s),(3,.int .i64 (c9p (s.take i))),(4,.int .i64 i)],[],[],1⟩) s.length ?_ ?_ ?_
 · simp only[go_sem,List.take_zero,show c9p []=0 from rfl]
 · intro i hi h;have hlt:decide (i<s.length)=true:=by simpa using hi
   obtain⟨c,hc,hdd⟩:=a7z hi;have hcd:=b3y (hd c (List.mem_of_getElem? hc));have hb:c9p (s.take i)<1000000:=by
    have h1:=f4l (s.take i) (fun x hx=>hd x (List.mem_of_mem_take hx));refine Nat.lt_of_lt_of_le h1 ?_;exact Nat.le_trans (Nat.pow_le_pow_right (by omega) (show (s.take i).length≤6 by simp;omega)) (by decide)
   have w1:IntKind.i64.wrap (10*((c9p (s.take i):Nat):Int))=((10*c9p (s.take i):Nat):Int):=by
    rw[show (10*((c9p (s.take i):Nat):Int))=((10*c9p (s.take i):Nat):Int) by omega];exact a1e _ (by omega)
   have w2:IntKind.u8.wrap ((c.toNat:Int) - 48)=((c.toNat - 48:Nat):Int):=by
    rw[IntWalk.u8_in _ (by omega)];omega
   have w3:IntKind.i64.wrap ((c.toNat - 48:Nat):Int)=((c.toNat - 48:Nat):Int):=a1e _ (by omega);have w4:IntKind.i64.wrap (((10*c9p (s.take i):Nat):Int)+((c.toNat - 48:Nat):Int))=((10*c9p (s.take i)+(c.toNat - 48):Nat):Int):=a1e (10*c9p (s.take i)+(c.toNat - 48)) (by omega);have w5:IntKind.i64.wrap ((i:Int)+1)=((i+1:Nat):Int):=a1e (i+1) (by omega);have e:c9p (s.take (i+1))=10*c9p (s.take i)+(c.toNat - 48):=by
    rw[←f4k]
    congr 1
    rw[List.take_succ_eq_append_getElem hi]
    congr 1
    rw[List.getElem?_eq_getElem hi] at hc;injection hc with hc;rw[hc]
   simp only[go_sem,a0g,hlt,a0c,a0j,hc,w1,w2,w3,w4];refine h _ ?_;simp only[go_sem,w5,e]
 · simp only[go_sem,a0g,show decide (s.length<s.length)=false by simp,List.take_length]
theorem c8o:∀(s:List UInt8) (a:Nat),(∀c∈s,a1v c=true)→Lib.decFrom a s=some (s.foldl (fun n c=>10*n+(c.toNat - 48)) a)
 | [],a,_=>rfl
 | c::r,a,hd=>by
  have hc:=b3y (hd c (by simp));simp only[Lib.decFrom,Lib.digitVal,hc,and_self,if_true,List.foldl_cons];rw[c8o r _ (fun x hx=>hd x (by simp[hx])),Nat.mul_comm]
theorem d5f{s:List UInt8}(hd:∀c∈s,a1v c=true)(hne:s≠[]):Lib.atoi s=some (c9p s:Int):=by
 cases s with
 | nil=>exact absurd rfl hne
 | cons c r=>
  have hc:=b3y (hd c (by simp));have h1:(c==45)=false:=by rw[beq_eq_false_iff_ne];intro e;subst e;simp at hc
  have h2:(c==43)=false:=by rw[beq_eq_false_iff_ne];intro e;subst e;simp at hc
  have h3:Lib.decNat (c::r)=some (c9p (c::r)):=by
   unfold Lib.decNat
   rw[c8o _ _ hd];rfl
  simp only[Lib.atoi,h1,h2,Bool.false_eq_true,if_false,h3,Option.map_some]
def b9t(t:Tok):Prop:=(t.kind=5→∃c r,t.text=c::r∧r≠[]∧r.length≤6∧∀x∈r,a1v x=true)∧(t.text=[40]→t.kind=6)
theorem b9t.one{t:Tok}(h:b9t t):c1x t:=fun hk=>by
 obtain⟨c,r,h1,h2,h3,h4⟩:=h.1 hk;exact⟨c,r,_,h1,by omega,d5f h4 h2⟩
theorem a1f(l:List Tok)(i:Nat):(a2j l)[i]? =(l[i]?).map b2o:=by simp[a2j]
theorem b0u{full:List Tok}{i:Nat}{t:Tok}{q:List Tok}(h:full.drop i=t::q):full[i]? =some t∧i<full.length∧full.drop (i+1)=q:=by
 have h1:(full.drop i)[0]? =some t:=by rw[h];rfl
 rw[List.getElem?_drop] at h1;refine⟨by simpa using h1,?_,?_⟩
 · rcases Nat.lt_or_ge i full.length with h2|h2
   · exact h2
   · rw[List.drop_eq_nil_of_le h2] at h;cases h
 · rw[←List.drop_drop,h];rfl
theorem d1e(full:List Tok)(i:Nat)(kind:Int)(text:List UInt8):den E 130 [.slice (a2j full),.int .i64 i,.int .i64 kind,.str text] []=some (.bool (a2n (full.drop i) kind text),[]):=by
 rw[a0d g6b,h3h]
 by_cases hlt:i<full.length
 · obtain⟨t,hg⟩:∃t,full[i]? =some t:=⟨full[i],List.getElem?_eq_getElem hlt⟩
   have hd:full.drop i=t::full.drop (i+1):=by
    rw[List.drop_eq_getElem_cons hlt];rw[List.getElem?_eq_getElem hlt] at hg;injection hg with hg;rw[hg]
   rw[hd];cases h1:t.kind==kind
   · simp only[go_sem,Tryz.f130,a0g,a0y,decide_eq_true hlt,a0c,a0j,a1f,hg,b2o,h1,a2n]
   · cases h2:text==[]
     · cases h3:t.text==text<;>simp only[go_sem,Tryz.f130,a0g,a0y,decide_eq_true hlt,a0c,a0j,a1f,hg,b2o,h1,h2,h3,a2n]
     · simp only[go_sem,Tryz.f130,a0g,a0y,decide_eq_true hlt,a0c,a0j,a1f,hg,b2o,h1,h2,a2n]
 · rw[List.drop_eq_nil_of_le (by omega)];simp only[go_sem,Tryz.f130,a0g,a0y,decide_eq_false hlt,a2n]
theorem a6x{l' full:List Tok}(h:l'<:+full):full.drop (full.length - l'.length)=l':=(List.suffix_iff_eq_drop.1 h).symm
def RR(full:List Tok)(r:Ty×Bool×List Tok)(t':Ty)(j:Int):Prop:=if r.2.1=true then t'=r.1∧j=((full.length - r.2.2.length:Nat):Int) else j= -1
def j5m(full:List Tok)(i:Nat)(r:Ty×Bool×List Tok):TM→Prop
 | .typ=>∃t' j,den E 94 [.slice (a2j full),.int .i64 i] []=some (.tup [tyV t',.int .i64 j],[])∧RR full r t' j
 | .app=>∃t' j,den E 157 [.slice (a2j full),.int .i64 i] []=some (.tup [tyV t',.int .i64 j],[])∧RR full r t' j
 | .atom=>∃t' j,den E 219 [.slice (a2j full),.int .i64 i] []=some (.tup [tyV t',.int .i64 j],[])∧RR full r t' j
 | _=>True
theorem d5n{full:List Tok}{t:Ty}{l':List Tok}{t':Ty}{j:Int}(h:RR full (t,true,l') t' j):t'=t∧j=((full.length - l'.length:Nat):Int):=by simpa [RR] using h
theorem c3m{full:List Tok}{t:Ty}{l':List Tok}{t':Ty}{j:Int}(h:RR full (t,false,l') t' j):j= -1:=by simpa [RR] using h
theorem a9w{l:List Tok}{k:Int}{s:List UInt8}{t:Tok}{q:List Tok}(hl:l=t::q):a2n l k s=(t.kind==k&&(s==[]||t.text==s)):=by subst hl;rfl
theorem d6y:∀ {l:List Tok} {j:Nat},j<(a4d l).length→∃t,l[j]? =some t∧(t.kind==1)=true∧(a4d l)[j]? =some t.text
 | [],j,h=>by simp[a4d] at h
 | t::r,j,h=>by
  simp only[a4d] at h⊢;split at h
  · rename_i hk;cases j with
    | zero=>exact⟨t,rfl,hk,by rw[if_pos hk];rfl⟩
    | succ j=>
     obtain⟨t',h1,h2,h3⟩:=d6y (l:=r) (j:=j) (by simpa using h);exact⟨t',h1,h2,by rw[if_pos hk];exact h3⟩
  · simp at h
theorem d6z:∀ {l:List Tok},(a4d l).length<l.length→∃t,l[(a4d l).length]? =some t∧(t.kind==1)=false
 | [],h=>by simp at h
 | t::r,h=>by
  simp only[a4d] at h⊢;split
  · rename_i hk;rw[if_pos hk] at h;exact d6z (l:=r) (by simpa using h)
  · rename_i hk;exact⟨t,rfl,by simpa using hk⟩
theorem c7l:∀(l:List Tok),(a4d l).length≤l.length
 | []=>by simp[a4d]
 | t::r=>by
  simp only[a4d];split
  · have:=c7l r;simp;omega
  · simp
theorem h5w(full:List Tok)(hok:∀t∈full,b9t t)(hlen:full.length<1000000):∀(f:Nat) (m:TM) (i:Nat) (r:Ty×Bool×List Tok),i≤full.length→tyR f m (full.drop i)=some r→j5m full i r m:=by
 intro f
 induction f using Nat.strongRecOn with
 | _ f ih=>
 intro m i r hi h;cases f with
 | zero=>cases h
 | succ f=>
 cases m with
 | all=>trivial
 | loop _ _=>trivial
 | atom=>
  simp only[j5m];simp only[tyR] at h;cases hl:full.drop i with
  | nil=>
   rw[hl] at h;simp only[a2n,Bool.false_eq_true,if_false] at h;injection h with h;subst h;have hge:decide ((i:Int)≥full.length)=true:=by
    have:full.length≤i:=by rw[List.drop_eq_nil_iff] at hl;exact hl
    simpa using this
   refine⟨zTy,-1,?_,by simp[RR]⟩;rw[a0d b1z,b2h];simp only[go_sem,Tryz.f219,a0y,hge,d2l]
  | cons t q=>
   obtain⟨hg,hlt,hq⟩:=b0u hl;have hge:decide ((i:Int)≥full.length)=false:=by simp;omega
   have w1:IntKind.i64.wrap ((i:Int)+1)=((i+1:Nat):Int):=a1e (i+1) (by omega);have hqi:i+1=full.length - q.length:=by
    have:=congrArg List.length hq;simp at this;omega
   have htok:=hok t (List.mem_of_getElem? hg);rw[a9w hl,a9w hl,a9w hl,a9w hl,hl] at h;simp only[beq_self_eq_true,Bool.true_or,Bool.and_true,List.tail_cons,b2u] at h;cases b1:t.kind==1
   · cases b2:t.kind==2
     · cases b5:t.kind==5
       · simp only[b1,b2,b5,Bool.false_eq_true,if_false] at h;have e40:(t.kind==6&&(([40]:List UInt8)==[]||t.text==[40]))=(t.text==[40]):=by
          cases ht:t.text==[40]
          · simp
          · have:=htok.2 (by simpa using ht);simp[this]
         rw[e40] at h;cases ht:t.text==[40]
         · rw[ht] at h;simp only[Bool.false_eq_true,if_false] at h;injection h with h;subst h;refine⟨zTy,-1,?_,by simp[RR]⟩;rw[a0d b1z,b2h];simp only[go_sem,Tryz.f219,a0y,hge,a0c,a0j,a1f,hg,b2o,b1,b2,b5,ht,d2l]
         · rw[ht] at h;simp only[if_true] at h;split at h
           · cases h
           · rename_i t2 ok l1 h1;rw[←hq] at h1;obtain⟨t',j,d1,r1⟩:=ih f (by omega) .typ (i+1) _ (by omega) h1;rw[a0a] at d1;have sf:=a9g _ _ _ _ _ _ h1;cases ok
             · have:=c3m r1;subst this;simp only[Bool.false_eq_true,if_false] at h;injection h with h;subst h;refine⟨zTy,-1,?_,by simp[RR]⟩;rw[a0d b1z,b2h];simp only[go_sem,Tryz.f219,a0y,hge,a0c,a0j,a1f,hg,b2o,b1,b2,b5,ht,w1,d1,d2l]
             · obtain⟨rfl,rfl⟩:=d5n r1;simp only[if_true] at h;injection h with h;subst h;have hsuf:l1<:+full:=sf.trans (List.drop_suffix _ _);have hneg:decide (((full.length - l1.length:Nat):Int)<0)=false:=by simp
               have his:=d1e full (full.length - l1.length) 6 [41];rw[a6x hsuf] at his;have w2:IntKind.i64.wrap (((full.length - l1.length:Nat):Int)+1)=((full.length - l1.length+1:Nat):Int):=a1e (full.length - l1.length+1) (by omega);cases b7:a2n l1 6 [41]
               · rw[b7] at his;refine⟨zTy,-1,?_,by simp[RR]⟩;rw[a0d b1z,b2h];simp only[go_sem,Tryz.f219,a0y,hge,a0c,a0j,a1f,hg,b2o,b1,b2,b5,ht,w1,d1,hneg,his,d2l]
               · rw[b7] at his;have hlt7:=a5v b7;have hsl:=hsuf.length_le;refine⟨t',((full.length - l1.length+1:Nat):Int),?_,?_⟩
                 · rw[a0d b1z,b2h];simp only[go_sem,Tryz.f219,a0y,hge,a0c,a0j,a1f,hg,b2o,b1,b2,b5,ht,w1,d1,hneg,his,w2,a0a]
                 · simp only[RR,if_true,true_and];have:l1.tail.length=l1.length - 1:=by simp
                   omega
       · simp only[b1,b2,b5,Bool.false_eq_true,if_false,if_true] at h;injection h with h;subst h;obtain⟨c,ds,e1,e2,e3,e4⟩:=htok.1 (by simpa using b5);have hn:=e0h ds e4 e3;have hm:d7e t.text=(c9p ds:Int):=by simp[d7e,e1,d5f e4 e2]
         refine⟨_,((i+1:Nat):Int),?_,by simp only[RR,if_true];exact⟨rfl,by omega⟩⟩;rw[a0d b1z,b2h,hm];simp only[go_sem,Tryz.f219,a0y,hge,a0c,a0j,a1f,hg,b2o,b1,b2,b5,w1,e1,List.length_cons,Int.toNat_one,Int.zero_le_ofNat,Nat.le_refl,Nat.le_add_left,List.take_length,hn,a4n,a0h]
     · simp only[b1,b2,Bool.false_eq_true,if_false,if_true] at h;injection h with h;subst h;refine⟨_,((i+1:Nat):Int),?_,by simp only[RR,if_true];exact⟨rfl,by omega⟩⟩;rw[a0d b1z,b2h];simp only[go_sem,Tryz.f219,a0y,hge,a0c,a0j,a1f,hg,b2o,b1,b2,w1,a4n,a0h]
   · simp only[b1,if_true] at h;injection h with h;subst h;refine⟨_,((i+1:Nat):Int),?_,by simp only[RR,if_true];exact⟨rfl,by omega⟩⟩;rw[a0d b1z,b2h];simp only[go_sem,Tryz.f219,a0y,hge,a0c,a0j,a1f,hg,b2o,b1,w1,a4n,a0h]
 | app=>
  simp only[j5m];simp only[tyR] at h;have t1:=d1e full i 2 [];cases b1:a2n (full.drop i) 2 []
  · rw[b1] at h t1;simp only[Bool.false_eq_true,if_false] at h;obtain⟨t',j,d1,r1⟩:=ih f (by omega) .atom i _ hi h;rw[a0a] at d1;refine⟨t',j,?_,r1⟩;rw[a0d e3h,e5q];simp only[go_sem,Tryz.f157,t1,d1,a0a]
  · rw[b1] at h t1;simp only[if_true] at h;obtain⟨t,q,hl⟩:=a8g b1;obtain⟨hg,hlt,hq⟩:=b0u hl;rw[hl] at h;simp only[b2u,List.tail_cons] at h;rw[←hq] at h;have w1:IntKind.i64.wrap ((i:Int)+1)=((i+1:Nat):Int):=a1e (i+1) (by omega)
    -- the result,whatever it is
    suffices hmain:∃t' j,den E 157 [.slice (a2j full),.int .i64 i] []=some (.tup [.agg [.int .i64 t'.kind,.str t'.name,.int .i64 t'.n,.slice (a3a t'.args)],.int .i64 j],[])∧RR full r t' j by
     obtain⟨t',j,k1,k2⟩:=hmain;exact⟨t',j,by rw[a0a];exact k1,k2⟩
    have hres:∃(t':Ty) (j:Int),RR full r t' j∧(r.2.1=false→t'=zTy):=by
     cases hr:r.2.1
     · exact⟨zTy,-1,by simp[RR,hr],fun _=>rfl⟩
     · exact⟨r.1,((full.length - r.2.2.length:Nat):Int),by simp[RR,hr],fun e=>by cases e⟩
    obtain⟨t',j,hRR,hz⟩:=hres;refine⟨t',j,?_,hRR⟩;rw[a0d e3h,e5q];simp only[go_sem,Tryz.f157,t1,a0c,a0j,a1f,hg,b2o,w1];generalize hname:t.text=name at *;refine a0p (fun x:Nat×List Ty×Nat=>x.1≤f∧i+1≤x.2.2∧x.2.2≤full.length∧x.2.1.length≤x.2.2∧tyR x.1 (.loop name x.2.1) (full.drop x.2.2)=some r) (fun x=>⟨[(0,.slice (a2j full)),(4,.ptr (.loc 4) 0),(7,.ptr (.loc 7) 0),(8,.int .i64 x.2.2)],[],[(4,[.int .i64 0,.str [],.int .i64 0,.own 38 0 []]),(7,[.int .i64 3,.str name,.int .i64 0,.own 38 0 (a3a x.2.1)])],1⟩)
     (fun _=>some (.tup [.agg [.int .i64 t'.kind,.str t'.name,.int .i64 t'.n,.slice (a3a t'.args)],.int .i64 j],[])) (fun x=>x.1) (f,[],i+1) ⟨Nat.le_refl _,Nat.le_refl _,show i+1≤full.length by omega,Nat.zero_le _,h⟩ ?_ ?_
    · simp only[go_sem,a0h]
    · rintro⟨g,acc,k⟩ ⟨hgf,hik,hkl,hak,hx⟩ hrun;simp only at hgf hik hkl hak hx hrun⊢;cases g with
      | zero=>cases hx
      | succ g=>
      simp only[tyR] at hx;have fin:(Ty.mk 3 name 0 acc,true,full.drop k)=r→t'=Ty.mk 3 name 0 acc∧j=(k:Int):=fun e=>by
       subst e;simp only[RR,if_true] at hRR;refine⟨hRR.1,?_⟩;rw[hRR.2];simp;omega
      by_cases hlk:k<full.length
      · obtain⟨tk,qk,hlk2⟩:∃tk qk,full.drop k=tk::qk:=⟨full[k],full.drop (k+1),List.drop_eq_getElem_cons hlk⟩
        obtain⟨hgk,_,hqk⟩:=b0u hlk2;have htok:=hok tk (List.mem_of_getElem? hgk);have e40:(tk.kind==6&&(([40]:List UInt8)==[]||tk.text==[40]))=(tk.text==[40]):=by
         cases ht:tk.text==[40]
         · simp
         · have:=htok.2 (by simpa using ht);simp[this]
        rw[a9w hlk2,a9w hlk2,a9w hlk2,a9w hlk2,e40] at hx;simp only[beq_self_eq_true,Bool.true_or,Bool.and_true] at hx;have lt1:decide (k<full.length)=true:=decide_eq_true hlk;have step:(tk.kind==1||(tk.kind==5||(tk.kind==2||tk.text==[40])))=true→∃x ok l1,tyR g .atom (full.drop k)=some (x,ok,l1)∧(if ok=true then tyR g (.loop name (acc++[x])) l1 else some (zTy,false,l1))=some r:=fun hb=>by
         rw[hb] at hx;simp only[if_true] at hx;split at hx
         · cases hx
         · rename_i x ok l1 h1;exact⟨x,ok,l1,h1,hx⟩
        have stop:(tk.kind==1||(tk.kind==5||(tk.kind==2||tk.text==[40])))=false→t'=Ty.mk 3 name 0 acc∧j=(k:Int):=fun hb=>by
         rw[hb] at hx;simp only[Bool.false_eq_true,if_false] at hx;injection hx with hx;exact fin hx
        cases b1:tk.kind==1
        · cases b5:tk.kind==5
          · cases b2:tk.kind==2
            · cases b6:tk.text==[40]
              · obtain⟨rfl,rfl⟩:=stop (by simp[b1,b5,b2,b6]);simp only[go_sem,a0g,a0y,lt1,a0c,a0j,a1f,hgk,b2o,b1,b5,b2,b6,Ty.kind,Ty.name,Ty.n,Ty.args]
              · obtain⟨x,ok,l1,h1,h2⟩:=step (by simp[b1,b5,b2,b6]);obtain⟨x',jx,d1,r1⟩:=ih g (by omega) .atom k _ hkl h1;rw[a0a] at d1;cases ok
                · have:=c3m r1;subst this;simp only[Bool.false_eq_true,if_false] at h2;injection h2 with h2;subst h2;have hz':=hz rfl;have hj:=c3m hRR;subst hz';subst hj;simp only[go_sem,a0g,a0y,lt1,a0c,a0j,a1f,hgk,b2o,b1,b5,b2,b6,d1,zTy,Ty.kind,Ty.name,Ty.n,Ty.args,a0h]
                · obtain⟨rfl,rfl⟩:=d5n r1;simp only[if_true] at h2;have hal:=c3j h1;have sf:=a9g _ _ _ _ _ _ h1;have hsuf:l1<:+full:=sf.trans (List.drop_suffix _ _);have hl1:=hsuf.length_le;simp only[List.length_drop] at hal;have hneg:decide (((full.length - l1.length:Nat):Int)<0)=false:=by simp
                  have hap:acc.length+1≤a0s:=by unfold a0s;omega
                  have htv:a3a acc++[.agg [.int .i64 x'.kind,.str x'.name,.int .i64 x'.n,.slice (a3a x'.args)]]=a3a (acc++[x']):=by rw[a9f,a1c,a0h,a0a]
                  simp only[go_sem,a0g,a0y,lt1,a0c,a0j,a1f,hgk,b2o,b1,b5,b2,b6,d1,hneg,a2m,hap,htv];refine hrun (g,acc++[x'],full.length - l1.length) _ ⟨by omega,by simp only;omega,by simp only;omega,?_,?_⟩ (by simp only;omega) (by simp only[go_sem])
                  · simp only[List.length_append,List.length_singleton];omega
                  · simp only[a6x hsuf];exact h2
            · obtain⟨x,ok,l1,h1,h2⟩:=step (by simp[b1,b5,b2]);obtain⟨x',jx,d1,r1⟩:=ih g (by omega) .atom k _ hkl h1;rw[a0a] at d1;cases ok
              · have:=c3m r1;subst this;simp only[Bool.false_eq_true,if_false] at h2;injection h2 with h2;subst h2;have hz':=hz rfl;have hj:=c3m hRR;subst hz';subst hj;simp only[go_sem,a0g,a0y,lt1,a0c,a0j,a1f,hgk,b2o,b1,b5,b2,d1,zTy,Ty.kind,Ty.name,Ty.n,Ty.args,a0h]
              · obtain⟨rfl,rfl⟩:=d5n r1;simp only[if_true] at h2;have hal:=c3j h1;have sf:=a9g _ _ _ _ _ _ h1;have hsuf:l1<:+full:=sf.trans (List.drop_suffix _ _);have hl1:=hsuf.length_le;simp only[List.length_drop] at hal;have hneg:decide (((full.length - l1.length:Nat):Int)<0)=false:=by simp
                have hap:acc.length+1≤a0s:=by unfold a0s;omega
                have htv:a3a acc++[.agg [.int .i64 x'.kind,.str x'.name,.int .i64 x'.n,.slice (a3a x'.args)]]=a3a (acc++[x']):=by rw[a9f,a1c,a0h,a0a]
                simp only[go_sem,a0g,a0y,lt1,a0c,a0j,a1f,hgk,b2o,b1,b5,b2,d1,hneg,a2m,hap,htv];refine hrun (g,acc++[x'],full.length - l1.length) _ ⟨by omega,by simp only;omega,by simp only;omega,?_,?_⟩ (by simp only;omega) (by simp only[go_sem])
                · simp only[List.length_append,List.length_singleton];omega
                · simp only[a6x hsuf];exact h2
          · obtain⟨x,ok,l1,h1,h2⟩:=step (by simp[b1,b5]);obtain⟨x',jx,d1,r1⟩:=ih g (by omega) .atom k _ hkl h1;rw[a0a] at d1;cases ok
            · have:=c3m r1;subst this;simp only[Bool.false_eq_true,if_false] at h2;injection h2 with h2;subst h2;have hz':=hz rfl;have hj:=c3m hRR;subst hz';subst hj;simp only[go_sem,a0g,a0y,lt1,a0c,a0j,a1f,hgk,b2o,b1,b5,d1,zTy,Ty.kind,Ty.name,Ty.n,Ty.args,a0h]
            · obtain⟨rfl,rfl⟩:=d5n r1;simp only[if_true] at h2;have hal:=c3j h1;have sf:=a9g _ _ _ _ _ _ h1;have hsuf:l1<:+full:=sf.trans (List.drop_suffix _ _);have hl1:=hsuf.length_le;simp only[List.length_drop] at hal;have hneg:decide (((full.length - l1.length:Nat):Int)<0)=false:=by simp
              have hap:acc.length+1≤a0s:=by unfold a0s;omega
              have htv:a3a acc++[.agg [.int .i64 x'.kind,.str x'.name,.int .i64 x'.n,.slice (a3a x'.args)]]=a3a (acc++[x']):=by rw[a9f,a1c,a0h,a0a]
              simp only[go_sem,a0g,a0y,lt1,a0c,a0j,a1f,hgk,b2o,b1,b5,d1,hneg,a2m,hap,htv];refine hrun (g,acc++[x'],full.length - l1.length) _ ⟨by omega,by simp only;omega,by simp only;omega,?_,?_⟩ (by simp only;omega) (by simp only[go_sem])
              · simp only[List.length_append,List.length_singleton];omega
              · simp only[a6x hsuf];exact h2
        · obtain⟨x,ok,l1,h1,h2⟩:=step (by simp[b1]);obtain⟨x',jx,d1,r1⟩:=ih g (by omega) .atom k _ hkl h1;rw[a0a] at d1;cases ok
          · have:=c3m r1;subst this;simp only[Bool.false_eq_true,if_false] at h2;injection h2 with h2;subst h2;have hz':=hz rfl;have hj:=c3m hRR;subst hz';subst hj;simp only[go_sem,a0g,a0y,lt1,a0c,a0j,a1f,hgk,b2o,b1,d1,zTy,Ty.kind,Ty.name,Ty.n,Ty.args,a0h]
          · obtain⟨rfl,rfl⟩:=d5n r1;simp only[if_true] at h2;have hal:=c3j h1;have sf:=a9g _ _ _ _ _ _ h1;have hsuf:l1<:+full:=sf.trans (List.drop_suffix _ _);have hl1:=hsuf.length_le;simp only[List.length_drop] at hal;have hneg:decide (((full.length - l1.length:Nat):Int)<0)=false:=by simp
            have hap:acc.length+1≤a0s:=by unfold a0s;omega
            have htv:a3a acc++[.agg [.int .i64 x'.kind,.str x'.name,.int .i64 x'.n,.slice (a3a x'.args)]]=a3a (acc++[x']):=by rw[a9f,a1c,a0h,a0a]
            simp only[go_sem,a0g,a0y,lt1,a0c,a0j,a1f,hgk,b2o,b1,d1,hneg,a2m,hap,htv];refine hrun (g,acc++[x'],full.length - l1.length) _ ⟨by omega,by simp only;omega,by simp only;omega,?_,?_⟩ (by simp only;omega) (by simp only[go_sem])
            · simp only[List.length_append,List.length_singleton];omega
            · simp only[a6x hsuf];exact h2
      · have hdn:full.drop k=[]:=List.drop_eq_nil_of_le (by omega);rw[hdn] at hx;simp only[a2n,Bool.or_false,Bool.false_eq_true,if_false] at hx;injection hx with hx;rw[←hdn] at hx;obtain⟨rfl,rfl⟩:=fin hx;simp only[go_sem,a0g,a0y,decide_eq_false hlk,Ty.kind,Ty.name,Ty.n,Ty.args]
 | typ=>
  simp only[j5m];simp only[tyR] at h;have t0:=d1e full i 3 [102,111,114,97,108,108];cases b0:a2n (full.drop i) 3 [102,111,114,97,108,108]
  · rw[b0] at h t0;simp only[Bool.false_eq_true,if_false] at h;split at h
    · cases h
    · rename_i a ok l1 h1;obtain⟨a',ja,d1,r1⟩:=ih f (by omega) .app i _ hi h1;rw[a0a] at d1;have hsuf:l1<:+full:=(a9g _ _ _ _ _ _ h1).trans (List.drop_suffix _ _);have hl1:=hsuf.length_le;cases ok
      · have:=c3m r1;subst this;simp only[Bool.false_eq_true,if_false] at h;injection h with h;subst h;refine⟨zTy,-1,?_,by simp[RR]⟩;rw[a0d c2j,c3g];simp only[go_sem,Tryz.f94,t0,d1,d2l]
      · obtain⟨rfl,rfl⟩:=d5n r1;simp only[if_true] at h;have hneg:decide (((full.length - l1.length:Nat):Int)<0)=false:=by simp
        have t1:=d1e full (full.length - l1.length) 6 [45,62];rw[a6x hsuf] at t1;cases b1:a2n l1 6 [45,62]
        · rw[b1] at h t1;simp only[Bool.false_eq_true,if_false] at h;injection h with h;subst h;refine⟨a',((full.length - l1.length:Nat):Int),?_,by simp[RR]⟩;rw[a0d c2j,c3g];simp only[go_sem,Tryz.f94,t0,d1,hneg,t1,a0a]
        · rw[b1] at h t1;simp only[if_true] at h;have hlt:=a5v b1;split at h
          · cases h
          · rename_i b ok2 l2 h2;injection h with h;subst h;have w1:IntKind.i64.wrap (((full.length - l1.length:Nat):Int)+1)=((full.length - l1.length+1:Nat):Int):=a1e (full.length - l1.length+1) (by omega);have e1:full.drop (full.length - l1.length+1)=l1.tail:=by
             rw[←List.drop_drop,a6x hsuf];simp
            rw[←e1] at h2;obtain⟨b',jb,d2,r2⟩:=ih f (by omega) .typ _ _ (by omega) h2;rw[a0a] at d2;refine⟨.mk 4 [] 0 [a',b'],jb,?_,?_⟩
            · rw[a0d c2j,c3g];simp only[go_sem,Tryz.f94,t0,d1,hneg,t1,w1,d2,a0a,Ty.kind,Ty.name,Ty.n,Ty.args,a1c,a0h]
            · cases ok2
              · simpa [RR] using c3m r2
              · obtain⟨rfl,rfl⟩:=d5n r2;simp[RR]
  · rw[b0] at h t0;simp only[if_true] at h;obtain⟨tf,qf,hlf⟩:=a8g b0;obtain⟨_,hltf,hqf⟩:=b0u hlf;have e1:(full.drop i).tail=full.drop (i+1):=by rw[hlf,hqf];rfl
    rw[e1] at h;cases f with
    | zero=>cases h
    | succ g=>
    simp only[tyR] at h;have w1:IntKind.i64.wrap ((i:Int)+1)=((i+1:Nat):Int):=a1e (i+1) (by omega);have hnle:=c7l (full.drop (i+1));simp only[List.length_drop] at hnle;generalize hn:(a4d (full.drop (i+1))).length=n at *;have hK:(full.drop (i+1)).drop n=full.drop (i+1+n):=by rw[List.drop_drop]
    rw[hK] at h;have td:=d1e full (i+1+n) 6 [46]
    -- the names,from their end on
    suffices hmain:∃t' j,den E 94 [.slice (a2j full),.int .i64 i] []=some (.tup [.agg [.int .i64 t'.kind,.str t'.name,.int .i64 t'.n,.slice (a3a t'.args)],.int .i64 j],[])∧RR full r t' j by
     obtain⟨t',j,k1,k2⟩:=hmain;exact⟨t',j,by rw[a0a];exact k1,k2⟩
    have i8f:∀(j:Nat),j<n→∃t,full[i+1+j]? =some t∧(t.kind==1)=true∧(a4d (full.drop (i+1)))[j]? =some t.text:=fun j hj=>by
     obtain⟨t,h1,h2,h3⟩:=d6y (l:=full.drop (i+1)) (j:=j) (by omega);rw[List.getElem?_drop] at h1;exact⟨t,h1,h2,h3⟩
    have j5c:i+1+n<full.length→∃t,full[i+1+n]? =some t∧(t.kind==1)=false:=fun hlt=>by
     obtain⟨t,h1,h2⟩:=d6z (l:=full.drop (i+1)) (by rw[hn];simp;omega)
     rw[hn,List.getElem?_drop] at h1;exact⟨t,h1,h2⟩
    have eqn:(((i+1+n:Nat):Int)==((i+1:Nat):Int))=decide (n=0):=by
     rw[d0y];by_cases h0:n=0<;>simp[h0]
    cases bd:a2n (full.drop (i+1+n)) 6 [46]
    · rw[bd] at h td;simp only[Bool.false_eq_true,if_false] at h;injection h with h;subst h;refine⟨zTy,-1,?_,by simp[RR]⟩;rw[a0d c2j,c3g];simp only[go_sem,Tryz.f94,t0,w1];refine a4j (fun j=>⟨[(0,.slice (a2j full)),(1,.int .i64 i),(4,.ptr (.loc 4) 0),(7,.int .i64 ((i+1+j:Nat):Int))],[],[(4,[.int .i64 0,.str [],.int .i64 0,.own 38 0 []])],1⟩) n ?_ ?_ ?_
      · simp only[go_sem,Nat.add_zero]
      · intro j hj hh;obtain⟨tj,hj1,hj2,_⟩:=i8f j hj;have ltj:decide (i+1+j<full.length)=true:=by simp;omega
        have wj:IntKind.i64.wrap (((i+1+j:Nat):Int)+1)=((i+1+(j+1):Nat):Int):=a1e (i+1+(j+1)) (by omega);simp only[go_sem,a0g,a0y,ltj,a0c,a0j,a1f,hj1,hj2,b2o];refine hh _ ?_;simp only[go_sem,wj]
      · by_cases hlt:i+1+n<full.length
        · obtain⟨tx,hx,hp⟩:=j5c hlt;simp only[go_sem,a0g,a0y,decide_eq_true hlt,a0c,a0j,a1f,hx,hp,b2o,td,zTy,Ty.kind,Ty.name,Ty.n,Ty.args,a0h]
        · simp only[go_sem,a0g,a0y,decide_eq_false hlt,td,zTy,Ty.kind,Ty.name,Ty.n,Ty.args,a0h]
    · rw[bd] at h td;simp only[if_true] at h;have hltd:=a5v bd;simp only[List.length_tail,List.length_drop] at hltd;have hKl:i+1+n<full.length:=by omega
      obtain⟨tx,hx,hp⟩:=j5c hKl
      by_cases h0:n=0
      · have hnil:a4d (full.drop (i+1))=[]:=List.eq_nil_of_length_eq_zero (by omega);rw[hnil] at h;simp only at h;injection h with h;subst h;refine⟨zTy,-1,?_,by simp[RR]⟩;rw[a0d c2j,c3g];simp only[go_sem,Tryz.f94,t0,w1];refine a4j (fun j=>⟨[(0,.slice (a2j full)),(1,.int .i64 i),(4,.ptr (.loc 4) 0),(7,.int .i64 ((i+1+j:Nat):Int))],[],[(4,[.int .i64 0,.str [],.int .i64 0,.own 38 0 []])],1⟩) n ?_ ?_ ?_
        · simp only[go_sem,Nat.add_zero]
        · intro j hj hh;obtain⟨tj,hj1,hj2,_⟩:=i8f j hj;have ltj:decide (i+1+j<full.length)=true:=by simp;omega
          have wj:IntKind.i64.wrap (((i+1+j:Nat):Int)+1)=((i+1+(j+1):Nat):Int):=a1e (i+1+(j+1)) (by omega);simp only[go_sem,a0g,a0y,ltj,a0c,a0j,a1f,hj1,hj2,b2o];refine hh _ ?_;simp only[go_sem,wj]
        · simp only[go_sem,a0g,a0y,decide_eq_true hKl,a0c,a0j,a1f,hx,hp,b2o,td,w1,eqn,decide_eq_true h0,zTy,Ty.kind,Ty.name,Ty.n,Ty.args,a0h]
      · cases hN:a4d (full.drop (i+1)) with
        | nil=>rw[hN] at hn;simp at hn;omega
        | cons n0 ns=>
        rw[hN] at h;simp only at h;split at h
        · cases h
        · rename_i t ok l2 h2;injection h with h;have e2:(full.drop (i+1+n)).tail=full.drop (i+1+n+1):=by simp
          rw[e2] at h2;obtain⟨t',jt,d2,r2⟩:=ih g (by omega) .typ _ _ (by omega) h2;rw[a0a] at d2;rw[←hN] at h;generalize hNN:a4d (full.drop (i+1))=N at *;have w2:IntKind.i64.wrap (((i+1+n:Nat):Int)+1)=((i+1+n+1:Nat):Int):=a1e (i+1+n+1) (by omega);have w3:IntKind.i64.wrap (((i+1+n:Nat):Int) - 1)=((i+n:Nat):Int):=by
           rw[show (((i+1+n:Nat):Int) - 1)=((i+n:Nat):Int) by omega];exact a1e _ (by omega)
          refine⟨N.foldr (fun n t=>Ty.mk 5 n 0 [t]) t',jt,?_,?_⟩
          · rw[a0d c2j,c3g];simp only[go_sem,Tryz.f94,t0,w1];refine a4j (fun j=>⟨[(0,.slice (a2j full)),(1,.int .i64 i),(4,.ptr (.loc 4) 0),(7,.int .i64 ((i+1+j:Nat):Int))],[],[(4,[.int .i64 0,.str [],.int .i64 0,.own 38 0 []])],1⟩) n ?_ ?_ ?_
            · simp only[go_sem,Nat.add_zero]
            · intro j hj hh;obtain⟨tj,hj1,hj2,_⟩:=i8f j hj;have ltj:decide (i+1+j<full.length)=true:=by simp;omega
              have wj:IntKind.i64.wrap (((i+1+j:Nat):Int)+1)=((i+1+(j+1):Nat):Int):=a1e (i+1+(j+1)) (by omega);simp only[go_sem,a0g,a0y,ltj,a0c,a0j,a1f,hj1,hj2,b2o];refine hh _ ?_;simp only[go_sem,wj]
            · simp only[go_sem,a0g,a0y,decide_eq_true hKl,a0c,a0j,a1f,hx,hp,b2o,td,w1,eqn,h0,w2,d2,w3];refine (a0p (fun k:Nat=>k≤n) (fun k=>⟨[(0,.slice (a2j full)),(1,.int .i64 i),(4,.ptr (.loc 4) 0),(9,.ptr (.loc 9) 0),(10,.int .i64 jt),(11,.int .i64 ((i+k:Nat):Int))],[],
               [(4,[.int .i64 0,.str [],.int .i64 0,.own 38 0 []]),(9,[.int .i64 ((N.drop k).foldr (fun n t=>Ty.mk 5 n 0 [t]) t').kind,.str ((N.drop k).foldr (fun n t=>Ty.mk 5 n 0 [t]) t').name,.int .i64 ((N.drop k).foldr (fun n t=>Ty.mk 5 n 0 [t]) t').n,.slice (a3a ((N.drop k).foldr (fun n t=>Ty.mk 5 n 0 [t]) t').args)])],1⟩)
               (fun _=>some (.tup [.agg [.int .i64 (N.foldr (fun n t=>Ty.mk 5 n 0 [t]) t').kind,.str (N.foldr (fun n t=>Ty.mk 5 n 0 [t]) t').name,.int .i64 (N.foldr (fun n t=>Ty.mk 5 n 0 [t]) t').n,.slice (a3a (N.foldr (fun n t=>Ty.mk 5 n 0 [t]) t').args)],.int .i64 jt],[])) (fun k=>k) n (Nat.le_refl _) ?_ ?_)
              · simp only[go_sem,←hn,List.drop_length,List.foldr_nil]
              · intro k hk hrun2;have gt:decide (((i+k:Nat):Int)>i)=decide (0<k):=by simp;omega
                cases k with
                | zero=>
                 simp only[go_sem,gt,Nat.lt_irrefl,List.drop_zero]
                | succ k=>
                 obtain⟨tk,hk1,hk2,hk3⟩:=i8f k (by omega);have hki:i+(k+1)=i+1+k:=by omega
                 have hkN:k<N.length:=by omega
                 have hd:N.drop k=tk.text::N.drop (k+1):=by
                  rw[List.drop_eq_getElem_cons hkN];rw[List.getElem?_eq_getElem hkN] at hk3;injection hk3 with hk3;rw[hk3]
                 have wk:IntKind.i64.wrap (((i+(k+1):Nat):Int) - 1)=((i+k:Nat):Int):=by
                  rw[show (((i+(k+1):Nat):Int) - 1)=((i+k:Nat):Int) by omega];exact a1e _ (by omega)
                 have hg2:full[i+(k+1)]? =some tk:=by rw[hki];exact hk1
                 simp only[go_sem,gt,Nat.zero_lt_succ,a0c,a0j,a1f,hg2,b2o,wk];refine hrun2 k _ (by omega) (by omega) ?_;simp only[go_sem,hd,List.foldr_cons,Ty.kind,Ty.name,Ty.n,Ty.args,a1c,a0h,a0a]
          · rw[←h];cases ok
            · simpa [RR] using c3m r2
            · obtain⟨rfl,rfl⟩:=d5n r2;simp[RR]
mutual
def Ty.depth:Ty→Nat
 | .mk _ _ _ a=>Ty.depths a+1
def Ty.depths:List Ty→Nat
 | []=>0
 | t::r=>max (Ty.depth t) (Ty.depths r)
end
mutual
def Ty.sz:Ty→Nat
 | .mk _ _ _ a=>Ty.szs a+1
def Ty.szs:List Ty→Nat
 | []=>0
 | t::r=>Ty.sz t+Ty.szs r
end
theorem c5p(t:Ty):t.depth=Ty.depths t.args+1:=by cases t;simp[Ty.depth,Ty.args]
theorem a3g(t:Ty):t.sz=Ty.szs t.args+1:=by cases t;simp[Ty.sz,Ty.args]
theorem c8j(l:List Ty)(t:Ty):Ty.depths (l++[t])=max (Ty.depths l) t.depth:=by
 induction l with
 | nil=>simp[Ty.depths]
 | cons a l ih=>simp only[List.cons_append,Ty.depths,ih];omega
theorem a2p{l:List Ty}{t:Ty}(h:t∈l):t.sz≤Ty.szs l:=by
 induction l with
 | nil=>cases h
 | cons a l ih=>
  simp only[Ty.szs];rcases List.mem_cons.1 h with rfl|h
  · omega
  · have:=ih h;omega
theorem d2w(l:List Ty):l.length≤Ty.szs l:=by
 induction l with
 | nil=>simp
 | cons a l ih=>
  simp only[Ty.szs,List.length_cons];have:=a3g a;omega
theorem c8k(l:List Ty):Ty.depths l≤Ty.szs l:=by
 suffices h:∀n,(∀t:Ty,t.sz≤n→t.depth≤t.sz) by
  induction l with
  | nil=>simp[Ty.depths]
  | cons a l ih=>
   simp only[Ty.depths,Ty.szs];have:=h a.sz a (Nat.le_refl _);omega
 intro n
 induction n with
 | zero=>intro t ht;have:=a3g t;omega
 | succ n ih=>
  intro t ht;rw[c5p,a3g] at *;have:∀l:List Ty,Ty.szs l≤n→Ty.depths l≤Ty.szs l:=by
   intro l
   induction l with
   | nil=>intro _;simp[Ty.depths]
   | cons a l ih2=>
    intro hl;simp only[Ty.depths,Ty.szs] at hl⊢;have h1:=ih a (by omega);have h2:=ih2 (by omega);omega
  have:=this t.args (by omega);omega
theorem d2q(l:List Ty)(i:Nat):(a3a l)[i]? =(l[i]?).map tyV:=by simp[c4r]
theorem c7p(a b:Nat):(if ((b:Int)>a) then (b:Int) else a)=((max a b:Nat):Int):=by
 split<;>omega
theorem a6k{α:Type}{l:List α}{i:Nat}{x:α}(h:l[i]? =some x):l.take (i+1)=l.take i++[x]:=by
 obtain⟨hi,he⟩:=List.getElem?_eq_some_iff.1 h;rw[List.take_succ_eq_append_getElem hi,he]
theorem c1z:∀(n:Nat) (t:Ty),t.sz≤n→t.sz<1000000→den E 88 [tyV t] []=some (.int .i64 t.depth,[]):=by
 intro n
 induction n with
 | zero=>intro t ht;have:=a3g t;omega
 | succ n ih=>
  intro t ht hs;rw[a3g] at ht hs;have hl:=d2w t.args;have hdl:=c8k t.args;rw[a0d i3r,i7b,a0a,c5p];simp only[go_sem,Tryz.f88,a2m];refine a4j (fun i=>⟨[(3,.int .i64 (Ty.depths (t.args.take i))),(7,.slice (a3a t.args)),(8,.int .i64 t.args.length),(9,.int .i64 i)],[],[],1⟩) t.args.length ?_ ?_ ?_
  · simp only[go_sem,List.take_zero,Ty.depths]
  · intro i hi h;obtain⟨x,hx⟩:∃x,t.args[i]? =some x:=⟨t.args[i],List.getElem?_eq_getElem hi⟩
    have hd:=ih x (by have:=a2p (List.mem_of_getElem? hx);omega) (by have:=a2p (List.mem_of_getElem? hx);omega);rw[a0a] at hd;have w1:IntKind.i64.wrap ((i:Int)+1)=((i+1:Nat):Int):=a1e (i+1) (by omega);simp only[go_sem,a0g,decide_eq_true hi,a0c,a0j,d2q,hx,a0a,hd,c7p];refine h _ ?_;simp only[go_sem,w1,a6k hx,c8j]
  · have w1:IntKind.i64.wrap ((Ty.depths t.args:Int)+1)=((Ty.depths t.args+1:Nat):Int):=a1e (Ty.depths t.args+1) (by omega);simp only[go_sem,a0g,Nat.lt_irrefl,List.take_length,w1]
theorem c2i:∀(n:Nat) (t:Ty),t.sz≤n→t.sz<1000000→den E 95 [tyV t] []=some (.int .i64 t.depth,[]):=by
 intro n
 induction n with
 | zero=>intro t ht;have:=a3g t;omega
 | succ n ih=>
  intro t ht hs;rw[a3g] at ht hs;have hl:=d2w t.args;have hdl:=c8k t.args;rw[a0d i3n,i6x,a0a,c5p];simp only[go_sem,Tryz.f95];refine a4j (fun i=>⟨[(1,.ptr (.loc 1) 0),(3,.int .i64 (Ty.depths (t.args.take i))),(4,.int .i64 i)],[],[(1,[.int .i64 t.kind,.str t.name,.int .i64 t.n,.slice (a3a t.args)])],1⟩) t.args.length ?_ ?_ ?_
  · simp only[go_sem,List.take_zero,Ty.depths]
  · intro i hi h;obtain⟨x,hx⟩:∃x,t.args[i]? =some x:=⟨t.args[i],List.getElem?_eq_getElem hi⟩
    have hd:=ih x (by have:=a2p (List.mem_of_getElem? hx);omega) (by have:=a2p (List.mem_of_getElem? hx);omega);rw[a0a] at hd;have w1:IntKind.i64.wrap ((i:Int)+1)=((i+1:Nat):Int):=a1e (i+1) (by omega);simp only[go_sem,a0g,a2m,decide_eq_true hi,a0c,a0j,d2q,hx,a0a,hd,c7p];refine h _ ?_;simp only[go_sem,w1,a6k hx,c8j]
  · have w1:IntKind.i64.wrap ((Ty.depths t.args:Int)+1)=((Ty.depths t.args+1:Nat):Int):=a1e (Ty.depths t.args+1) (by omega);simp only[go_sem,a0g,a2m,Nat.lt_irrefl,List.take_length,w1]
theorem f2b(l:List Tok)(f:Nat)(r:Ty×Bool×List Tok)(hok:∀t∈l,c1x t)(hlen:l.length<1000000)(h:tyR f .typ l=some r):den E 87 [.slice (a2j l)] []=
 some (if r.2.1=true then .tup [tyV r.1,.slice (a2j r.2.2),.bool true] else .tup [tyV zTy,.slice [],.bool false],[]):=by
 have h1:=h5x f .typ l r hok hlen h;simp only[f1i,b7m,a0a] at h1;rw[a0d i3s,i7c];cases hr:r.2.1
 · rw[hr] at h1;simp only[go_sem,Tryz.f87,h1,d2l]
 · rw[hr] at h1;simp only[go_sem,Tryz.f87,h1,a0a]
theorem d4k(n:Nat):Lib.itoa (n:Int)=Lib.decDigits n:=by
 unfold Lib.itoa;rw[if_neg (by omega)];simp
theorem c8g(n:Nat)(h:n<10):Lib.itoa (n:Int)=[UInt8.ofNat (48+n)]:=by
 rw[d4k,Lib.decDigits,dif_pos h]
theorem d1y(n:Nat)(h:10≤n):Lib.itoa (n:Int)=Lib.itoa ((n / 10:Nat):Int)++[UInt8.ofNat (48+n % 10)]:=by
 rw[d4k,d4k,Lib.decDigits,dif_neg (by omega)]
theorem b0t:∀(k n:Nat),n<10 ^ (k+1)→(Lib.itoa (n:Int)).length≤k+1
 | 0,n,h=>by rw[c8g n (by simpa using h)];simp
 | k+1,n,h=>by
  by_cases h10:n<10
  · rw[c8g n h10];simp
  · rw[d1y n (by omega)];have:=b0t k (n / 10) (by rw[Nat.pow_succ] at h;omega);simp only[List.length_append,List.length_singleton];omega
theorem c8n:∀(n:Nat),n<1000000000→den E 84 [.int .i64 n] []=some (.str (Lib.itoa n),[]):=by
 intro n
 induction n using Nat.strongRecOn with
 | _ n ih=>
 intro hn;rw[a0d i3u,i7e];have e1:decide ((n:Int)<10)=decide (n<10):=by simp;omega
 by_cases h:n<10
 · have w1:IntKind.i64.wrap (48+(n:Int))=((48+n:Nat):Int):=a1e (48+n) (by omega);have w2:IntKind.u8.wrap ((48+n:Nat):Int)=((48+n:Nat):Int):=IntWalk.u8_in _ (by omega);simp only[go_sem,Tryz.f84,e1,decide_eq_true h,w1,w2,bytesOf,a0j,c8g n h]
 · have w0:IntKind.i64.wrap ((n:Int).tdiv 10)=((n / 10:Nat):Int):=by
    rw[show ((n:Int).tdiv 10)=((n / 10:Nat):Int) by simp];exact a1e _ (by omega)
   have w0':(n:Int).tmod 10=((n % 10:Nat):Int):=rfl;have w1:IntKind.i64.wrap (48+((n % 10:Nat):Int))=((48+n % 10:Nat):Int):=a1e (48+n % 10) (by omega);have w2:IntKind.u8.wrap ((48+n % 10:Nat):Int)=((48+n % 10:Nat):Int):=IntWalk.u8_in _ (by omega);have hd:=ih (n / 10) (by omega) (by omega);have hl:(Lib.itoa ((n / 10:Nat):Int)).length+1≤a1y:=by
    have:=b0t 8 (n / 10) (by omega);unfold a1y;omega
   simp only[go_sem,Tryz.f84,e1,decide_eq_false h,w0,w0',w1,w2,bytesOf,a0j,hd,d1y n (by omega),hl]
inductive PM where
 | pr
 | tail
 | arg
 | left
def kids2:List Ty→Option (Ty×Ty)
 | [x,y]=>some (x,y)
 | _=>none
def e9h:List Ty→Option Ty
 | [x]=>some x
 | _=>none
def lim:Nat:=1000000000
def c2d(s:List UInt8):Option (List UInt8):=if s.length≤lim then some s else none
def e1j(f:Ty→Option (List UInt8)):List Ty→Option (List (List UInt8))
 | []=>some []
 | t::r=>match f t with
  | none=>none
  | some s=>match e1j f r with
   | none=>none
   | some ss=>some (s::ss)
def c3i(t:Ty):Bool:=t.kind==1||(t.kind==2||(t.kind==3&&t.args.length==0))
def prR:Nat→PM→Ty→Option (List UInt8)
 | 0,_,_=>none
 | f+1,m,t=>match m with
  | .pr=>if t.kind==2 then (if 0≤t.n∧t.n<1000000000 then c2d (63::Lib.itoa t.n) else none)
   else if t.kind==3 then (match e1j (prR f .arg) t.args with
    | none=>none
    | some ss=>c2d (Lib.join (t.name::ss) [32]))
   else if t.kind==4 then (match kids2 t.args with
    | none=>none
    | some (x,y)=>match prR f .left x with
     | none=>none
     | some a=>match prR f .pr y with
      | none=>none
      | some b=>c2d (a++[32,45,62,32]++b))
   else if t.kind==5 then (match e9h t.args with
    | none=>none
    | some x=>match prR f .tail x with
     | none=>none
     | some a=>c2d ([102,111,114,97,108,108,32]++t.name++a))
   else if t.kind==1 then c2d t.name else none
  | .arg=>if t.kind==1||(t.kind==2||(t.kind==3||(t.kind==4||t.kind==5))) then (match prR f .pr t with
   | none=>none
   | some a=>if c3i t then some a else c2d ([40]++a++[41])) else none
  | .left=>if t.kind==1||(t.kind==2||(t.kind==3||(t.kind==4||t.kind==5))) then (match prR f .pr t with
   | none=>none
   | some a=>if decide (t.kind<4) then some a else c2d ([40]++a++[41])) else none
  | .tail=>if t.kind==5 then (match e9h t.args with
   | none=>none
   | some x=>match prR f .tail x with
    | none=>none
    | some a=>c2d ([32]++t.name++a))
   else (match prR f .pr t with
    | none=>none
    | some a=>c2d ([46,32]++a))
theorem a6r{s r:List UInt8}(h:c2d s=some r):r=s∧s.length≤lim:=by
 unfold c2d at h;split at h
 · injection h with h;exact⟨h.symm,by assumption⟩
 · cases h
theorem d9d{f:Ty→Option (List UInt8)}:∀ {l:List Ty} {ss:List (List UInt8)},e1j f l=some ss→ss.length=l.length∧∀(i:Nat) (t:Ty),l[i]? =some t→∃s,f t=some s∧ss[i]? =some s
 | [],ss,h=>by simp only[e1j,Option.some.injEq] at h;subst h;exact⟨rfl,fun i t ht=>by simp at ht⟩
 | t::r,ss,h=>by
  simp only[e1j] at h;split at h
  · cases h
  · rename_i s hs;split at h
    · cases h
    · rename_i ss' hss;injection h with h;subst h;obtain⟨h1,h2⟩:=d9d hss;refine⟨by simp[h1],fun i x hx=>?_⟩;cases i with
      | zero=>simp at hx;subst hx;exact⟨s,hs,rfl⟩
      | succ i=>exact h2 i x (by simpa using hx)
theorem e9g{l:List Ty}{p:Ty×Ty}(h:kids2 l=some p):l=[p.1,p.2]:=by
 unfold kids2 at h;split at h
 · injection h with h;subst h;rfl
 · cases h
theorem d1d{l:List Ty}{p:Ty}(h:e9h l=some p):l=[p]:=by
 unfold e9h at h;split at h
 · injection h with h;subst h;rfl
 · cases h
theorem f1e(t:Ty):den E 122 [tyV t] []=some (.bool (c3i t),[]):=by
 rw[a0d g6c,h3i,a0a];unfold c3i;cases h1:t.kind==1
 · cases h2:t.kind==2
   · cases h3:t.kind==3
     · simp only[go_sem,Tryz.f122,h1,h2,h3]
     · have e0:((t.args.length:Int)==0)=(t.args.length==0):=by rw[b5v];rfl
       simp only[go_sem,Tryz.f122,h1,h2,h3,a2m,e0]
   · simp only[go_sem,Tryz.f122,h1,h2]
 · simp only[go_sem,Tryz.f122,h1]
theorem d2c(t:Ty)(a:List UInt8)(b:Bool)(h:den E 58 [tyV t] []=some (.str a,[]))(hl:a.length≤lim):den E 121 [tyV t,.bool b] []=some (.str (if b then a else [40]++a++[41]),[]):=by
 rw[a0a] at h⊢;rw[a0d g6d,h3j];unfold lim at hl;have l1:1+a.length≤a1y:=by unfold a1y;omega
 have l2:a.length+1+1≤a1y:=by unfold a1y;omega
 cases b<;>simp only[go_sem,Tryz.f121,h,Nat.zero_add,l1,l2]
theorem f3y:∀ {f:Nat} {m:PM} {t:Ty} {s:List UInt8},prR f m t=some s→s.length≤lim:=by
 intro f
 induction f with
 | zero=>intro m t s h;cases h
 | succ f ih=>
  intro m t s h;cases m<;>simp only[prR] at h<;>(repeat' (split at h))<;>first
   | (cases h;done)
   | (obtain⟨rfl,h2⟩:=a6r h;exact h2)
   | (injection h with h;subst h;exact ih (by assumption))
theorem g7r(x:List UInt8)(r:List (List UInt8)):(x::r).length≤(Lib.join (x::r) [32]).length+1:=by
 rw[Lib.join_length];simp only[List.length_cons,List.length_nil];omega
theorem g1w(l:List (List UInt8)):b9v (l.map AVal.str)=some l:=by
 induction l with
 | nil=>rfl
 | cons a l ih=>simp[b9v,ih]
theorem e5z:∀(f:Nat) (t:Ty) (s:List UInt8),t.sz<1000000→prR f .pr t=some s→den E 58 [tyV t] []=some (.str s,[]):=by
 intro f
 induction f using Nat.strongRecOn with
 | _ f ih=>
 intro t s hsz h;cases f with
 | zero=>cases h
 | succ f=>
 have hsz':=a3g t;have harg:∀g x a,g≤f→x.sz<1000000→prR g .arg x=some a→den E 121 [tyV x,.bool (c3i x)] []=some (.str a,[]):=by
  intro g x a hg hx hp;cases g with
  | zero=>cases hp
  | succ g=>
   simp only[prR] at hp;split at hp
   · split at hp
     · cases hp
     · rename_i b hb;have h1:=d2c x b (c3i x) (ih g (by omega) x b hx hb) (f3y hb);rw[h1];split at hp
       · injection hp with hp;subst hp;rename_i hat;rw[hat];rfl
       · rename_i hat
         obtain⟨rfl,_⟩:=a6r hp;rw[Bool.not_eq_true] at hat;rw[hat];rfl
   · cases hp
 have hleft:∀g x a,g≤f→x.sz<1000000→prR g .left x=some a→den E 121 [tyV x,.bool (decide (x.kind<4))] []=some (.str a,[]):=by
  intro g x a hg hx hp;cases g with
  | zero=>cases hp
  | succ g=>
   simp only[prR] at hp;split at hp
   · split at hp
     · cases hp
     · rename_i b hb;have h1:=d2c x b (decide (x.kind<4)) (ih g (by omega) x b hx hb) (f3y hb);rw[h1];split at hp
       · injection hp with hp;subst hp;rename_i hat;rw[hat];rfl
       · rename_i hat
         obtain⟨rfl,_⟩:=a6r hp;rw[Bool.not_eq_true] at hat;rw[hat];rfl
   · cases hp
 have hlen:=f3y h;unfold lim at hlen;simp only[prR] at h;rw[a0d i4b,i7j,a0a];cases k2:t.kind==2
 · cases k3:t.kind==3
   · cases k4:t.kind==4
     · cases k5:t.kind==5
       · cases k1:t.kind==1
         · simp only[k1,k2,k3,k4,k5,Bool.false_eq_true,if_false] at h;cases h
         · simp only[k1,k2,k3,k4,k5,Bool.false_eq_true,if_false,if_true] at h;obtain⟨rfl,_⟩:=a6r h;simp only[go_sem,Tryz.f58,k2,k3,k4,k5]
       · -- for all
         simp only[k2,k3,k4,k5,Bool.false_eq_true,if_false,if_true] at h;split at h
         · cases h
         · rename_i x hx;have hargs:=d1d hx;split at h
           · cases h
           · rename_i a ha;obtain⟨rfl,_⟩:=a6r h;simp only[List.length_append,List.length_cons,List.length_nil] at hlen;have l1:7+t.name.length≤a1y:=by unfold a1y;omega
             have hxs:x.sz<1000000:=by rw[hargs] at hsz';simp[Ty.szs] at hsz';omega
             simp only[go_sem,Tryz.f58,k2,k3,k4,k5,hargs,a1c,a0h,a0a,Int.le_refl,Int.toNat_zero,l1,Nat.zero_add,List.length_cons,List.length_nil];refine a0p (fun y:Nat×Ty×List UInt8=>y.1≤f∧y.2.1.sz<1000000∧∃rest,prR y.1 .tail y.2.1=some rest∧y.2.2++rest=[102,111,114,97,108,108,32]++t.name++a)
              (fun y=>⟨[(6,.str y.2.2),(7,.ptr (.loc 7) 0)],[],[(7,[.int .i64 y.2.1.kind,.str y.2.1.name,.int .i64 y.2.1.n,.slice (a3a y.2.1.args)])],1⟩)
              (fun _=>some (.str ([102,111,114,97,108,108,32]++t.name++a),[])) (fun y=>y.1) (f,x,[102,111,114,97,108,108,32]++t.name) ⟨Nat.le_refl _,hxs,a,ha,rfl⟩ ?_ ?_
             · simp only[go_sem]
             · rintro⟨g,y,acc⟩ ⟨hg,hy,rest,hr,hfull⟩ hrun;simp only at hg hy hr hfull hrun⊢;have hfl:=congrArg List.length hfull;simp only[List.length_append,List.length_cons,List.length_nil] at hfl;have hysz:=a3g y;cases g with
               | zero=>cases hr
               | succ g=>
               simp only[prR] at hr;cases y5:y.kind==5
               · simp only[y5,Bool.false_eq_true,if_false] at hr;split at hr
                 · cases hr
                 · rename_i b hb;obtain⟨rfl,_⟩:=a6r hr;have d1:=ih g (by omega) y b hy hb;rw[a0a] at d1;simp only[List.length_append,List.length_cons,List.length_nil] at hfl;have l2:acc.length+2≤a1y:=by unfold a1y;omega
                   have l3:acc.length+2+b.length≤a1y:=by unfold a1y;omega
                   rw[←hfull];simp only[go_sem,y5,d1,l2,l3,List.length_append,List.length_cons,List.length_nil,Nat.zero_add,List.append_assoc]
               · simp only[y5,if_true] at hr;split at hr
                 · cases hr
                 · rename_i z hz;have hya:=d1d hz;split at hr
                   · cases hr
                   · rename_i b hb;obtain⟨rfl,_⟩:=a6r hr;simp only[List.length_append,List.length_cons,List.length_nil] at hfl;have l2:1+y.name.length≤a1y:=by unfold a1y;omega
                     have l3:acc.length+(y.name.length+1)≤a1y:=by unfold a1y;omega
                     have hzs:z.sz<1000000:=by rw[hya] at hysz;simp[Ty.szs] at hysz;omega
                     simp only[go_sem,y5,l2,l3,hya,a1c,a0h,a0a,Int.le_refl,Int.toNat_zero,List.length_cons,List.length_nil,Nat.zero_add];refine hrun (g,z,acc++([32]++y.name)) _ ⟨by omega,hzs,b,hb,by rw[←hfull];simp⟩ (by simp only;omega) ?_;simp only[go_sem]
     · -- functions
       simp only[k2,k3,k4,Bool.false_eq_true,if_false,if_true] at h;split at h
       · cases h
       · rename_i x y hxy;have hargs:=e9g hxy;split at h
         · cases h
         · rename_i a ha;split at h
           · cases h
           · rename_i b hb;obtain⟨rfl,_⟩:=a6r h;simp only[List.length_append,List.length_cons,List.length_nil] at hlen;have hxs:x.sz<1000000∧y.sz<1000000:=by rw[hargs] at hsz';simp[Ty.szs] at hsz';omega
             have d1:=hleft f x a (Nat.le_refl _) hxs.1 ha;have d2:=ih f (by omega) y b hxs.2 hb;rw[a0a] at d1 d2;have l1:a.length+4≤a1y:=by unfold a1y;omega
             have l2:a.length+4+b.length≤a1y:=by unfold a1y;omega
             simp only[go_sem,Tryz.f58,k2,k3,k4,hargs,a1c,a0h,a0a,Int.le_refl,Int.toNat_zero,Int.toNat_one,Int.zero_le_ofNat,d1,d2,l1,l2,List.length_append,List.length_cons,List.length_nil,Nat.zero_add]
   · -- constructors
     simp only[k2,k3,Bool.false_eq_true,if_false,if_true] at h;split at h
     · cases h
     · rename_i ss hss;obtain⟨rfl,_⟩:=a6r h;obtain⟨hsl,hsg⟩:=d9d hss;have hal:=d2w t.args;have hjl:=g7r t.name ss;simp only[List.length_cons] at hjl;simp only[go_sem,Tryz.f58,k2,k3,a2m];refine a4j (fun i=>⟨[(3,.own 9 0 ((t.name::ss.take i).map .str)),(22,.slice (a3a t.args)),(23,.int .i64 t.args.length),(24,.int .i64 i)],[],[],1⟩) t.args.length ?_ ?_ ?_
       · simp only[go_sem,List.take_zero]
       · intro i hi hr;obtain⟨x,hx⟩:∃x,t.args[i]? =some x:=⟨t.args[i],List.getElem?_eq_getElem hi⟩
         obtain⟨sx,hpx,hsx⟩:=hsg i x hx;have hxs:=a2p (List.mem_of_getElem? hx);have d1:=f1e x;have d2:=harg f x sx (Nat.le_refl _) (by omega) hpx;rw[a0a] at d1 d2;have w1:IntKind.i64.wrap ((i:Int)+1)=((i+1:Nat):Int):=a1e (i+1) (by omega);have hap:((ss.take i).map AVal.str).length+1+1≤a0s:=by simp;unfold a0s;omega
         have hmap:(ss.take i).map AVal.str++[.str sx]=(ss.take (i+1)).map AVal.str:=by rw[a6k hsx];simp
         simp only[go_sem,a0g,decide_eq_true hi,a0c,a0j,d2q,hx,a0a,d1,d2,hap,hmap];refine hr _ ?_;simp only[go_sem,w1]
       · have hj:den E 61 [.slice (.str t.name::ss.map AVal.str),.str [32]] []=some (.str (Lib.join (t.name::ss) [32]),[]):=by
          rw[a9r i4a];simp only[e0n,b9v,g1w,Option.bind_some,Option.map_some];rw[if_pos ⟨by omega,by simp;omega⟩]
         have htk:ss.take t.args.length=ss:=by rw[←hsl];exact List.take_length
         simp only[go_sem,a0g,Nat.lt_irrefl,htk,hj]
 · simp only[k2,if_true] at h;split at h
   · rename_i hn;obtain⟨rfl,_⟩:=a6r h;have hd:den E 120 [.int .i64 t.n] []=some (.str (Lib.itoa t.n),[]):=by
      rw[a9r e3m];simp only[d7s];rw[if_pos (by omega)]
     have l1:1+(Lib.itoa t.n).length≤a1y:=by simp only[List.length_cons] at hlen;unfold a1y;omega
     simp only[go_sem,Tryz.f58,k2,hd,l1,Nat.zero_add]
   · cases h
def goodK(t:Ty):Bool:=t.kind==1||(t.kind==2||(t.kind==3||(t.kind==4||t.kind==5)))
end Go.Proofs
