/- The readers of types of the program and of the document agree. -/
import Derived.Test.YtjfghnkmladbkaaGreatDoorAvF
namespace Go.Proofs
open Go.Av
set_option maxHeartbeats 8000000
set_option maxRecDepth 100000
inductive Ty where
 | mk (kind:Int) (name:List UInt8) (n:Int) (args:List Ty)
def Ty.kind:Ty→Int| .mk k _ _ _=>k
def Ty.name:Ty→List UInt8| .mk _ s _ _=>s
def Ty.n:Ty→Int| .mk _ _ n _=>n
def Ty.args:Ty→List Ty| .mk _ _ _ a=>a
mutual
def tyV:Ty→AVal
 | .mk k s n a=>.agg [.int .i64 k,.str s,.int .i64 n,.slice (a2i a)]
def a2i:List Ty→List AVal
 | []=>[]
 | t::r=>tyV t::a2i r
end
theorem a0a(t:Ty):tyV t=.agg [.int .i64 t.kind,.str t.name,.int .i64 t.n,.slice (a2i t.args)]:=by cases t;simp[tyV,Ty.kind,Ty.name,Ty.n,Ty.args]
theorem a3q(k:Int)(s:List UInt8)(n:Int)(a:List Ty):tyV (.mk k s n a)=.agg [.int .i64 k,.str s,.int .i64 n,.slice (a2i a)]:=by simp[tyV]
theorem c2t(l:List Ty):a2i l=l.map tyV:=by induction l<;>simp_all [a2i]
theorem a0f:a2i []=[]:=by simp[a2i]
theorem a1c(t:Ty)(r:List Ty):a2i (t::r)=tyV t::a2i r:=by simp[a2i]
theorem a7h(l r:List Ty):a2i (l++r)=a2i l++a2i r:=by simp[c2t]
theorem a1q(l:List Ty):(a2i l).length=l.length:=by simp[c2t]
def zTy:Ty:=.mk 0 [] 0 []
theorem b9r:tyV zTy=.agg [.int .i64 0,.str [],.int .i64 0,.slice []]:=by simp[zTy,tyV,a2i]
theorem a9b:a2d []=[]:=rfl
theorem a4h(t:Tok)(r:List Tok):a2d (t::r)=.agg [.int .i64 t.kind,.str t.text,.int .i64 t.pos]::a2d r:=rfl
theorem a0w(l:List Tok):(a2d l).length=l.length:=by simp[a2d]
def a2h(l:List Tok)(kind:Int)(text:List UInt8):Bool:=
 match l with
 | []=>false
 | t::_=>t.kind==kind&&(text==[]||t.text==text)
def b1z(l:List Tok):List UInt8:=
 match l with
 | []=>[]
 | t::_=>t.text
theorem b4b(l:List Tok)(kind:Int)(text:List UInt8):den E 246 [.ptr (.par 0) 0,.int .i64 kind,.str text] [[.slice (a2d l)]]=some (.bool (a2h l kind text),[[.slice (a2d l)]]):=by
 rw[a0d g1w,g8t];cases l with
 | nil=>simp only[go_sem,Tryz.f246,a9b,a2h,show decide ((0:Int)>0)=false from rfl]
 | cons t r=>
  have hl:decide ((((a2d r).length+1:Nat):Int)>0)=true:=by simp
  cases h1:t.kind==kind
  · simp only[go_sem,Tryz.f246,a4h,hl,a2h,h1,Int.le_refl,Int.toNat_zero,List.length_cons]
  · cases h2:text==[]
    · cases h3:t.text==text<;>simp only[go_sem,Tryz.f246,a4h,hl,a2h,h1,h2,h3,Int.le_refl,Int.toNat_zero,List.length_cons]
    · simp only[go_sem,Tryz.f246,a4h,hl,a2h,h1,h2,Int.le_refl,Int.toNat_zero,List.length_cons]
theorem a7q{l:List Tok}{kind:Int}{text:List UInt8}(h:a2h l kind text=true):∃t r,l=t::r:=by
 cases l with
 | nil=>cases h
 | cons t r=>exact⟨t,r,rfl⟩
theorem a6c(l:List Tok)(kind:Int)(text:List UInt8):den E 215 [.ptr (.par 0) 0,.int .i64 kind,.str text] [[.slice (a2d l)]]=
 some (if a2h l kind text then .tup [.str (b1z l),.bool true] else .tup [.str [],.bool false],[[.slice (a2d (if a2h l kind text then l.tail else l))]]):=by
 rw[a0d g2p,g9l];have hs:=b4b l kind text;cases h:a2h l kind text
 · rw[h] at hs;simp only[go_sem,Tryz.f215,hs]
 · obtain⟨t,r,rfl⟩:=a7q h;rw[h,a4h] at hs;simp only[go_sem,Tryz.f215,hs,a4h,b1z,Int.le_refl,Int.toNat_zero,List.tail_cons,List.length_cons,Nat.le_refl,Int.toNat_one,Nat.le_add_left,Int.zero_le_ofNat,List.take_length]
def b9x(t:Tok):Prop:=t.kind=5→∃c r n,t.text=c::r∧r.length≤18∧Lib.atoi r=some n
def d5p(s:List UInt8):Int:=(Lib.atoi s.tail).getD 0
inductive TM where
 | typ
 | all
 | app
 | atom
 | loop (name:List UInt8) (acc:List Ty)
def a3v:List Tok→List (List UInt8)
 | []=>[]
 | t::r=>if t.kind==1 then t.text::a3v r else []
def tyR:Nat→TM→List Tok→Option (Ty×Bool×List Tok)
 | 0,_,_=>none
 | f+1,m,l=>match m with
  | .typ=>if a2h l 3 [102,111,114,97,108,108] then tyR f .all l.tail else
   match tyR f .app l with
   | none=>none
   | some (a,ok,l1)=>if ok then (if a2h l1 6 [45,62] then (match tyR f .typ l1.tail with
    | none=>none
    | some (b,ok2,l2)=>some (.mk 4 [] 0 [a,b],ok2,l2)) else some (a,true,l1)) else some (zTy,false,l1)
  | .all=>if a2h (l.drop (a3v l).length) 6 [46] then (match a3v l with
   | []=>some (zTy,false,l.tail)
   | n::ns=>match tyR f .typ ((l.drop (a3v l).length).tail) with
    | none=>none
    | some (t,ok,l2)=>some ((n::ns).foldr (fun n t=>.mk 5 n 0 [t]) t,ok,l2)) else some (zTy,false,l.drop (a3v l).length)
  | .app=>if a2h l 2 [] then tyR f (.loop (b1z l) []) l.tail else tyR f .atom l
  | .loop name acc=>if a2h l 1 []||(a2h l 5 []||(a2h l 2 []||a2h l 6 [40])) then (match tyR f .atom l with
   | none=>none
   | some (x,ok,l1)=>if ok then tyR f (.loop name (acc++[x])) l1 else some (zTy,false,l1)) else some (.mk 3 name 0 acc,true,l)
  | .atom=>if a2h l 1 [] then some (.mk 1 (b1z l) 0 [],true,l.tail) else if a2h l 2 [] then some (.mk 3 (b1z l) 0 [],true,l.tail) else
   if a2h l 5 [] then some (.mk 2 [] (d5p (b1z l)) [],true,l.tail) else if a2h l 6 [40] then (match tyR f .typ l.tail with
    | none=>none
    | some (t,ok,l1)=>if ok then some (t,a2h l1 6 [41],if a2h l1 6 [41] then l1.tail else l1) else some (zTy,false,l1)) else some (zTy,false,l)
theorem a3e(l:List Tok):l.tail<:+l:=List.tail_suffix l
theorem a8l:∀(f:Nat) (m:TM) (l:List Tok) (t:Ty) (ok:Bool) (l':List Tok),tyR f m l=some (t,ok,l')→l'<:+l:=by
 intro f
 induction f with
 | zero=>intro m l t ok l' h;cases h
 | succ f ih=>
  intro m l t ok l' h;have fin:∀ {t1 t2:Ty} {o1 o2:Bool} {l1 l2:List Tok},some (t1,o1,l1)=some (t2,o2,l2)→l1<:+l→l2<:+l:=fun h1 h2=>by
   simp only[Option.some.injEq,Prod.mk.injEq] at h1;obtain⟨_,_,rfl⟩:=h1;exact h2
  cases m with
  | typ=>
   simp only[tyR] at h;split at h
   · exact (ih _ _ _ _ _ h).trans (a3e l)
   · split at h
     · cases h
     · rename_i a ok1 l1 h1;have s1:=ih _ _ _ _ _ h1;split at h
       · split at h
         · split at h
           · cases h
           · rename_i b ok2 l2 h2;exact fin h ((ih _ _ _ _ _ h2).trans ((a3e l1).trans s1))
         · exact fin h s1
       · exact fin h s1
  | all=>
   simp only[tyR] at h;split at h
   · split at h
     · exact fin h (a3e l)
     · split at h
       · cases h
       · rename_i t2 ok2 l2 h2;exact fin h ((ih _ _ _ _ _ h2).trans ((a3e _).trans (List.drop_suffix _ _)))
   · exact fin h (List.drop_suffix _ _)
  | app=>
   simp only[tyR] at h;split at h
   · exact (ih _ _ _ _ _ h).trans (a3e l)
   · exact ih _ _ _ _ _ h
  | loop name acc=>
   simp only[tyR] at h;split at h
   · split at h
     · cases h
     · rename_i a ok1 l1 h1;split at h
       · exact (ih _ _ _ _ _ h).trans (ih _ _ _ _ _ h1)
       · exact fin h (ih _ _ _ _ _ h1)
   · exact fin h (List.suffix_refl _)
  | atom=>
   simp only[tyR] at h;split at h
   · exact fin h (a3e l)
   · split at h
     · exact fin h (a3e l)
     · split at h
       · exact fin h (a3e l)
       · split at h
         · split at h
           · cases h
           · rename_i t2 ok2 l2 h2;have s2:=(ih _ _ _ _ _ h2).trans (a3e l);split at h
             · refine fin h ?_;split
               · exact (a3e l2).trans s2
               · exact s2
             · exact fin h s2
         · exact fin h (List.suffix_refl _)
theorem a5n{l:List Tok}{k:Int}{s:List UInt8}(h:a2h l k s=true):l.tail.length<l.length:=by
 obtain⟨t,r,rfl⟩:=a7q h;simp
theorem c1m{f:Nat}{l:List Tok}{t:Ty}{l':List Tok}(h:tyR f .atom l=some (t,true,l')):l'.length<l.length:=by
 cases f with
 | zero=>cases h
 | succ f=>
  simp only[tyR] at h;have fin:∀ {t1 t2:Ty} {o1 o2:Bool} {l1 l2:List Tok},some (t1,o1,l1)=some (t2,o2,l2)→l1.length<l.length→l2.length<l.length:=fun h1 h2=>by
   simp only[Option.some.injEq,Prod.mk.injEq] at h1;obtain⟨_,_,rfl⟩:=h1;exact h2
  split at h
  · exact fin h (a5n (by assumption))
  · split at h
    · exact fin h (a5n (by assumption))
    · split at h
      · exact fin h (a5n (by assumption))
      · split at h
        · rename_i h6;have:=a5n h6;split at h
          · cases h
          · rename_i t2 ok2 l2 h2;have s2:=(a8l _ _ _ _ _ _ h2).length_le;split at h
            · refine fin h ?_;split
              · have:=(a3e l2).length_le;omega
              · omega
            · exact fin h (by omega)
        · simp at h
def b6g(r:Ty×Bool×List Tok):Option (AVal×a2p):=some (.tup [tyV r.1,.bool r.2.1],[[.slice (a2d r.2.2)]])
def e9t:TM→List Tok→Ty×Bool×List Tok→Prop
 | .typ,l,r=>den E 153 [.ptr (.par 0) 0] [[.slice (a2d l)]]=b6g r
 | .all,l,r=>den E 216 [.ptr (.par 0) 0] [[.slice (a2d l)]]=b6g r
 | .app,l,r=>den E 217 [.ptr (.par 0) 0] [[.slice (a2d l)]]=b6g r
 | .atom,l,r=>den E 247 [.ptr (.par 0) 0] [[.slice (a2d l)]]=b6g r
 | .loop _ _,_,_=>True
theorem h3j:∀(f:Nat) (m:TM) (l:List Tok) (r:Ty×Bool×List Tok),(∀t∈l,b9x t)→l.length<1000000→tyR f m l=some r→e9t m l r:=by
 intro f
 induction f using Nat.strongRecOn with
 | _ f ih=>
 intro m l r hok hlen h;cases f with
 | zero=>cases h
 | succ f=>
 cases m with
 | typ=>
  simp only[e9t];simp only[tyR] at h;rw[a0d g4b,h0w];have t0:=a6c l 3 [102,111,114,97,108,108];cases b0:a2h l 3 [102,111,114,97,108,108]
  · rw[b0] at h t0;simp only[Bool.false_eq_true,if_false] at h t0;split at h
    · cases h
    · rename_i a ok l1 h1;have i1:=ih f (by omega) .app l _ hok hlen h1;simp only[e9t,b6g,a0a] at i1;cases ok
      · simp only[Bool.false_eq_true,if_false] at h;injection h with h;subst h;simp only[go_sem,Tryz.f153,t0,i1,b6g,b9r]
      · simp only[if_true] at h;have t1:=a6c l1 6 [45,62];cases b1:a2h l1 6 [45,62]
        · rw[b1] at h t1;simp only[Bool.false_eq_true,if_false] at h t1;injection h with h;subst h;simp only[go_sem,Tryz.f153,t0,i1,t1,b6g,a0a]
        · rw[b1] at h t1;simp only[if_true] at h t1;split at h
          · cases h
          · rename_i b ok2 l2 h2;have sub:=(a3e l1).trans (a8l _ _ _ _ _ _ h1);have i2:=ih f (by omega) .typ l1.tail _ (fun t ht=>hok t (sub.subset ht)) (Nat.lt_of_le_of_lt sub.length_le hlen) h2;simp only[e9t,b6g,a0a] at i2;injection h with h;subst h;simp only[go_sem,Tryz.f153,t0,i1,t1,i2,b6g,a0f,a1c,a0a,Ty.kind,Ty.name,Ty.n,Ty.args]
  · rw[b0] at h t0;simp only[if_true] at h t0;have sub:=a3e l;have i1:=ih f (by omega) .all l.tail _ (fun t ht=>hok t (sub.subset ht)) (Nat.lt_of_le_of_lt sub.length_le hlen) h;simp only[e9t,b6g,a0a] at i1;simp only[go_sem,Tryz.f153,t0,i1,b6g,a0a]
 | all=>
  simp only[e9t];rw[a0d g2o,g9k];simp only[go_sem,Tryz.f216];refine a0o (fun x:List (List UInt8)×List Tok=>x.2=l.drop x.1.length∧a3v l=x.1++a3v x.2∧x.1.length+x.2.length≤l.length) (fun x=>⟨[(0,.ptr (.par 0) 0),(2,.ptr (.loc 2) 0),(4,.own 9 0 (x.1.map .str))],[[.slice (a2d x.2)]],[(2,[.int .i64 0,.str [],.int .i64 0,.own 25 0 []])],1⟩)
   (fun _=>b6g r) (fun x=>x.2.length) ([],l) ⟨by simp,by simp,by simp⟩ ?_ ?_
  · simp only[go_sem,List.map_nil]
  · rintro⟨names,lx⟩ ⟨hdrop,hnames,hle⟩ hrun;simp only at hdrop hnames hle hrun⊢;have t1:=a6c lx 1 [];cases b1:a2h lx 1 []
    · -- no more names
      have hnx:a3v lx=[]:=by
       cases lx with
       | nil=>rfl
       | cons t q=>simp only[a2h] at b1;simp only[a3v];rw[show (t.kind==1)=false by simpa using b1];rfl
      rw[hnx,List.append_nil] at hnames;simp only[tyR,hnames,←hdrop] at h;rw[b1] at t1;simp only[Bool.false_eq_true,if_false] at t1;have t6:=a6c lx 6 [46];cases b6:a2h lx 6 [46]
      · rw[b6] at h t6;simp only[Bool.false_eq_true,if_false] at h t6;injection h with h;subst h;simp only[go_sem,t1,t6,b6g,b9r]
      · rw[b6] at h t6;simp only[if_true] at h t6;cases names with
        | nil=>
         simp only[List.length_nil,List.drop_zero] at hdrop;subst hdrop;simp only at h;injection h with h;subst h;simp only[go_sem,t1,t6,b6g,b9r,List.map_nil]
        | cons n0 ns=>
         simp only at h;split at h
         · cases h
         · rename_i t ok l2 h2;injection h with h;have sub:lx.tail<:+l:=(a3e lx).trans (hdrop▸List.drop_suffix _ _);have i1:=ih f (by omega) .typ lx.tail _ (fun t ht=>hok t (sub.subset ht)) (Nat.lt_of_le_of_lt sub.length_le hlen) h2;simp only[e9t,b6g,a0a] at i1;generalize hN:n0::ns=N at *;have hN0:((((N.map AVal.str).length:Nat):Int)==0)=false:=by
            rw[←hN,b4v];simp
           have hNl:N.length<1000000:=by omega
           have w1:IntKind.i64.wrap (((N.map AVal.str).length:Int) - 1)=(N.length:Int) - 1:=by
            rw[List.length_map];exact IntWalk.i64_in _ (by omega)
           simp only[go_sem,t1,t6,hN0,i1,w1];refine (a0o (fun k:Nat=>k≤N.length) (fun k=>⟨[(2,.ptr (.loc 2) 0),(4,.own 9 0 (N.map .str)),(9,.ptr (.loc 9) 0),(10,.bool ok),(11,.int .i64 ((k:Int) - 1))],[[.slice (a2d l2)]],
            [(2,[.int .i64 0,.str [],.int .i64 0,.own 25 0 []]),(9,[.int .i64 ((N.drop k).foldr (fun n t=>Ty.mk 5 n 0 [t]) t).kind,.str ((N.drop k).foldr (fun n t=>Ty.mk 5 n 0 [t]) t).name,.int .i64 ((N.drop k).foldr (fun n t=>Ty.mk 5 n 0 [t]) t).n,.slice (a2i ((N.drop k).foldr (fun n t=>Ty.mk 5 n 0 [t]) t).args)])],1⟩)
            (fun _=>b6g r) (fun k=>k) N.length (Nat.le_refl _) ?_ ?_)
           · simp only[go_sem,List.drop_length,List.foldr_nil]
           · intro k hk hrun2;cases k with
             | zero=>
              simp only[go_sem,List.drop_zero,Int.zero_sub,show decide ((-1:Int)≥0)=false from rfl];rw[←h];simp only[b6g,a0a]
             | succ k=>
              have hk2:k<N.length:=by omega
              have e1:((k+1:Nat):Int) - 1=(k:Int):=by omega
              have ge:decide ((k:Int)≥0)=true:=by simp
              have hg:(N.map AVal.str)[k]? =some (.str N[k]):=by rw[List.getElem?_map,List.getElem?_eq_getElem hk2];rfl
              have w2:IntKind.i64.wrap ((k:Int) - 1)=(k:Int) - 1:=IntWalk.i64_in _ (by omega);have hd:N.drop k=N[k]::N.drop (k+1):=List.drop_eq_getElem_cons hk2;simp only[go_sem,e1,a0c,a0i,hg,w2];refine hrun2 k _ (by omega) (by omega) ?_;simp only[go_sem,hd,List.foldr_cons,Ty.kind,Ty.name,Ty.n,Ty.args,a1c,a0f,a0a]
    · obtain⟨tk,q,rfl⟩:=a7q b1;have hk:(tk.kind==1)=true:=by simpa [a2h] using b1
      have hnx:a3v (tk::q)=tk.text::a3v q:=by simp only[a3v,hk,if_true]
      rw[b1] at t1;simp only[if_true,b1z,List.tail_cons] at t1;have hap:(names.map AVal.str).length+1≤a0l:=by
       rw[List.length_map];simp only[List.length_cons] at hle;unfold a0l;omega
      have hmap:names.map AVal.str++[.str tk.text]=(names++[tk.text]).map AVal.str:=by simp
      simp only[go_sem,t1,hap,hmap];refine hrun (names++[tk.text],q) _ ⟨?_,?_,?_⟩ ?_ ?_
      · simp only[List.length_append,List.length_singleton];rw[←List.drop_drop,←hdrop];rfl
      · simp only[hnames,hnx,List.append_assoc,List.singleton_append]
      · simp only[List.length_append,List.length_singleton];simp only[List.length_cons] at hle;omega
      · simp
      · simp only[go_sem]
 | app=>
  simp only[e9t];simp only[tyR] at h;rw[a0d g2n,g9j];have t1:=a6c l 2 [];cases b1:a2h l 2 []
  · rw[b1] at h t1;simp only[Bool.false_eq_true,if_false] at h t1;have i1:=ih f (by omega) .atom l _ hok hlen h;simp only[e9t,b6g,a0a] at i1;simp only[go_sem,Tryz.f217,t1,i1,b6g,a0a]
  · rw[b1] at h t1;simp only[if_true] at h t1;simp only[go_sem,Tryz.f217,t1];generalize hname:b1z l=name at *;refine a0o (fun x:Nat×List Ty×List Tok=>x.1≤f∧x.2.2<:+l∧x.2.1.length+x.2.2.length≤l.length∧tyR x.1 (.loop name x.2.1) x.2.2=some r) (fun x=>⟨[(0,.ptr (.par 0) 0),(2,.ptr (.loc 2) 0),(6,.ptr (.loc 6) 0)],[[.slice (a2d x.2.2)]],[(2,[.int .i64 0,.str [],.int .i64 0,.own 25 0 []]),(6,[.int .i64 3,.str name,.int .i64 0,.own 25 0 (a2i x.2.1)])],1⟩)
     (fun _=>b6g r) (fun x=>x.1) (f,[],l.tail) ⟨Nat.le_refl _,a3e l,by simp,h⟩ ?_ ?_
    · simp only[go_sem,a0f]
    · rintro⟨g,acc,lx⟩ ⟨hg,hsf,hal,hx⟩ hrun;simp only at hg hsf hal hx hrun⊢;have s1:=b4b lx 1 [];have s5:=b4b lx 5 [];have s2:=b4b lx 2 [];have s6:=b4b lx 6 [40];cases g with
      | zero=>cases hx
      | succ g=>
       simp only[tyR] at hx;have step:(a2h lx 1 []||(a2h lx 5 []||(a2h lx 2 []||a2h lx 6 [40])))=true→∃x ok l1,tyR g .atom lx=some (x,ok,l1)∧(if ok=true then tyR g (.loop name (acc++[x])) l1 else some (zTy,false,l1))=some r:=fun hb=>by
        rw[hb] at hx;simp only[if_true] at hx;split at hx
        · cases hx
        · rename_i x ok l1 h1;exact⟨x,ok,l1,h1,hx⟩
       have more:∀x ok l1,tyR g .atom lx=some (x,ok,l1)→den E 247 [.ptr (.par 0) 0] [[.slice (a2d lx)]]=some (.tup [.agg [.int .i64 x.kind,.str x.name,.int .i64 x.n,.slice (a2i x.args)],.bool ok],[[.slice (a2d l1)]]):=fun x ok l1 h1=>by
        have i1:=ih g (by omega) .atom lx _ (fun t ht=>hok t (hsf.subset ht)) (Nat.lt_of_le_of_lt hsf.length_le hlen) h1;simpa only[e9t,b6g,a0a] using i1
       have go:∀x l1,tyR g .atom lx=some (x,true,l1)→tyR g (.loop name (acc++[x])) l1=some r→(a2i acc).length+1≤a0l∧a2i acc++[.agg [.int .i64 x.kind,.str x.name,.int .i64 x.n,.slice (a2i x.args)]]=a2i (acc++[x])∧
        (g≤f∧l1<:+l∧(acc++[x]).length+l1.length≤l.length∧tyR g (.loop name (acc++[x])) l1=some r):=fun x l1 h1 h2=>by
        have hlt:=c1m h1;refine⟨?_,?_,by omega,(a8l _ _ _ _ _ _ h1).trans hsf,?_,h2⟩
        · rw[a1q];unfold a0l;omega
        · rw[a7h,a1c,a0f,a0a]
        · simp only[List.length_append,List.length_singleton];omega
       cases b1:a2h lx 1 []
       · cases b5:a2h lx 5 []
         · cases b2:a2h lx 2 []
           · cases b6:a2h lx 6 [40]
             · rw[b1,b5,b2,b6] at hx;simp only[Bool.or_false,Bool.false_eq_true,if_false] at hx;injection hx with hx;subst hx;simp only[go_sem,s1,s2,s5,s6,b1,b5,b2,b6,b6g,a3q]
             · obtain⟨x,ok,l1,h1,h2⟩:=step (by simp[b1,b5,b2,b6]);have m1:=more x ok l1 h1;cases ok
               · simp only[Bool.false_eq_true,if_false] at h2;injection h2 with h2;subst h2;simp only[go_sem,s1,s2,s5,s6,b1,b5,b2,b6,m1,b6g,b9r]
               · simp only[if_true] at h2;obtain⟨q1,q2,q3⟩:=go x l1 h1 h2;simp only[go_sem,s1,s2,s5,s6,b1,b5,b2,b6,m1,q1,q2];exact hrun (g,acc++[x],l1) _ q3 (by simp only;omega) (by simp only[go_sem])
           · obtain⟨x,ok,l1,h1,h2⟩:=step (by simp[b1,b5,b2]);have m1:=more x ok l1 h1;cases ok
             · simp only[Bool.false_eq_true,if_false] at h2;injection h2 with h2;subst h2;simp only[go_sem,s1,s2,s5,b1,b5,b2,m1,b6g,b9r]
             · simp only[if_true] at h2;obtain⟨q1,q2,q3⟩:=go x l1 h1 h2;simp only[go_sem,s1,s2,s5,b1,b5,b2,m1,q1,q2];exact hrun (g,acc++[x],l1) _ q3 (by simp only;omega) (by simp only[go_sem])
         · obtain⟨x,ok,l1,h1,h2⟩:=step (by simp[b1,b5]);have m1:=more x ok l1 h1;cases ok
           · simp only[Bool.false_eq_true,if_false] at h2;injection h2 with h2;subst h2;simp only[go_sem,s1,s5,b1,b5,m1,b6g,b9r]
           · simp only[if_true] at h2;obtain⟨q1,q2,q3⟩:=go x l1 h1 h2;simp only[go_sem,s1,s5,b1,b5,m1,q1,q2];exact hrun (g,acc++[x],l1) _ q3 (by simp only;omega) (by simp only[go_sem])
       · obtain⟨x,ok,l1,h1,h2⟩:=step (by simp[b1]);have m1:=more x ok l1 h1;cases ok
         · simp only[Bool.false_eq_true,if_false] at h2;injection h2 with h2;subst h2;simp only[go_sem,s1,b1,m1,b6g,b9r]
         · simp only[if_true] at h2;obtain⟨q1,q2,q3⟩:=go x l1 h1 h2;simp only[go_sem,s1,b1,m1,q1,q2];exact hrun (g,acc++[x],l1) _ q3 (by simp only;omega) (by simp only[go_sem])
 | loop name acc=>trivial
 | atom=>
  simp only[e9t];simp only[tyR] at h;rw[a0d g1v,g8s];have t1:=a6c l 1 [];cases b1:a2h l 1 []
  · rw[b1] at h t1;simp only[Bool.false_eq_true,if_false] at h t1;have t2:=a6c l 2 [];cases b2:a2h l 2 []
    · rw[b2] at h t2;simp only[Bool.false_eq_true,if_false] at h t2;have t3:=a6c l 5 [];cases b3:a2h l 5 []
      · rw[b3] at h t3;simp only[Bool.false_eq_true,if_false] at h t3;have t4:=a6c l 6 [40];cases b4:a2h l 6 [40]
        · rw[b4] at h t4;simp only[Bool.false_eq_true,if_false] at h t4;injection h with h;subst h;simp only[go_sem,Tryz.f247,t1,t2,t3,t4,b6g,b9r]
        · rw[b4] at h t4;simp only[if_true] at h t4;split at h
          · cases h
          · rename_i t ok l1 h1;have sub:=a3e l;have i1:=ih f (by omega) .typ l.tail _ (fun t ht=>hok t (sub.subset ht)) (Nat.lt_of_le_of_lt sub.length_le hlen) h1;simp only[e9t,b6g,a0a] at i1;cases ok
            · simp only[Bool.false_eq_true,if_false] at h;injection h with h;subst h;simp only[go_sem,Tryz.f247,t1,t2,t3,t4,i1,b6g,b9r]
            · simp only[if_true] at h;have t5:=a6c l1 6 [41];injection h with h;subst h;cases b5:a2h l1 6 [41]<;>
              · rw[b5] at t5;simp only[Bool.false_eq_true,if_false,if_true] at t5;simp only[go_sem,Tryz.f247,t1,t2,t3,t4,i1,t5,b6g,a0a]
      · rw[b3] at h t3;simp only[if_true] at h t3;injection h with h;subst h;obtain⟨tk,r,rfl⟩:=a7q b3;have hk:tk.kind=5:=by simpa [a2h] using b3
        obtain⟨c,ds,n,e1,e2,e3⟩:=hok tk (by simp) hk;have hA:den E 229 [.str ds] []=some (.tup [.int .i64 n,.nilf],[]):=by
         have hne:ds≠[]:=fun h0=>by rw[h0] at e3;cases e3
         rw[a8x g2l];simp[d9g,e2,e3,hne]
        have hm:d5p tk.text=n:=by simp[d5p,e1,e3]
        simp only[b1z,e1] at t3;simp only[go_sem,Tryz.f247,t1,t2,t3,b6g,a3q,a0f,b1z,hm,hA,List.length_cons,Int.toNat_one,Int.zero_le_ofNat,Nat.le_refl,Nat.le_add_left,List.take_length]
    · rw[b2] at h t2;simp only[if_true] at h t2;injection h with h;subst h;simp only[go_sem,Tryz.f247,t1,t2,b6g,a3q,a0f]
  · rw[b1] at h t1;simp only[if_true] at h t1;injection h with h;subst h;simp only[go_sem,Tryz.f247,t1,b6g,a3q,a0f]
def c8e(s:List UInt8):Nat:=s.foldl (fun n c=>10*n+(c.toNat - 48)) 0
theorem f3d(s:List UInt8)(c:UInt8):c8e (s++[c])=10*c8e s+(c.toNat - 48):=by simp[c8e]
theorem b3a{c:UInt8}(h:a1r c=true):48≤c.toNat∧c.toNat≤57:=by
 unfold a1r at h;simp only[Bool.and_eq_true,decide_eq_true_eq] at h;omega
theorem f3e:∀(s:List UInt8),(∀c∈s,a1r c=true)→c8e s<10 ^ s.length:=by
 intro s
 suffices h:∀(s:List UInt8) (a:Nat),(∀c∈s,a1r c=true)→s.foldl (fun n c=>10*n+(c.toNat - 48)) a<(a+1)*10 ^ s.length by
  intro hd;have:=h s 0 hd;simpa [c8e] using this
 intro s
 induction s with
 | nil=>intro a _;simp
 | cons c r ih=>
  intro a hd;have hc:=b3a (hd c (by simp));have:=ih (10*a+(c.toNat - 48)) (fun x hx=>hd x (by simp[hx]));simp only[List.foldl_cons,List.length_cons];refine Nat.lt_of_lt_of_le this ?_;rw[Nat.pow_succ,Nat.mul_comm (10 ^ r.length) 10,←Nat.mul_assoc];exact Nat.mul_le_mul_right _ (by omega)
theorem d8h(s:List UInt8)(hd:∀c∈s,a1r c=true)(hl:s.length≤6):den E 248 [.str s] []=some (.int .i64 (c8e s),[]):=by
 rw[a0d g1u,g8r];simp only[go_sem,Tryz.f248];refine a3m (fun i=>⟨[(0,.str s),(3,.int .i64 (c8e (s.take i))),(4,.int .i64 i)],[],[],1⟩) s.length ?_ ?_ ?_
 · simp only[go_sem,List.take_zero,show c8e []=0 from rfl]
 · intro i hi h;have hlt:decide (i<s.length)=true:=by simpa using hi
   obtain⟨c,hc,hdd⟩:=a7g hi;have hcd:=b3a (hd c (List.mem_of_getElem? hc));have hb:c8e (s.take i)<1000000:=by
    have h1:=f3e (s.take i) (fun x hx=>hd x (List.mem_of_mem_take hx));refine Nat.lt_of_lt_of_le h1 ?_;exact Nat.le_trans (Nat.pow_le_pow_right (by omega) (show (s.take i).length≤6 by simp;omega)) (by decide)
   have w1:IntKind.i64.wrap (10*((c8e (s.take i):Nat):Int))=((10*c8e (s.take i):Nat):Int):=by
    rw[show (10*((c8e (s.take i):Nat):Int))=((10*c8e (s.take i):Nat):Int) by omega];exact a0z _ (by omega)
   have w2:IntKind.u8.wrap ((c.toNat:Int) - 48)=((c.toNat - 48:Nat):Int):=by
    rw[IntWalk.u8_in _ (by omega)];omega
   have w3:IntKind.i64.wrap ((c.toNat - 48:Nat):Int)=((c.toNat - 48:Nat):Int):=a0z _ (by omega);have w4:IntKind.i64.wrap (((10*c8e (s.take i):Nat):Int)+((c.toNat - 48:Nat):Int))=((10*c8e (s.take i)+(c.toNat - 48):Nat):Int):=a0z (10*c8e (s.take i)+(c.toNat - 48)) (by omega);have w5:IntKind.i64.wrap ((i:Int)+1)=((i+1:Nat):Int):=a0z (i+1) (by omega);have e:c8e (s.take (i+1))=10*c8e (s.take i)+(c.toNat - 48):=by
    rw[←f3d]
    congr 1
    rw[List.take_succ_eq_append_getElem hi]
    congr 1
    rw[List.getElem?_eq_getElem hi] at hc;injection hc with hc;rw[hc]
   simp only[go_sem,a0e,hlt,a0c,a0i,hc,w1,w2,w3,w4];refine h _ ?_;simp only[go_sem,w5,e]
 · simp only[go_sem,a0e,show decide (s.length<s.length)=false by simp,List.take_length]
theorem c7a:∀(s:List UInt8) (a:Nat),(∀c∈s,a1r c=true)→Lib.decFrom a s=some (s.foldl (fun n c=>10*n+(c.toNat - 48)) a)
 | [],a,_=>rfl
 | c::r,a,hd=>by
  have hc:=b3a (hd c (by simp));simp only[Lib.decFrom,Lib.digitVal,hc,and_self,if_true,List.foldl_cons];rw[c7a r _ (fun x hx=>hd x (by simp[hx])),Nat.mul_comm]
theorem d3q{s:List UInt8}(hd:∀c∈s,a1r c=true)(hne:s≠[]):Lib.atoi s=some (c8e s:Int):=by
 cases s with
 | nil=>exact absurd rfl hne
 | cons c r=>
  have hc:=b3a (hd c (by simp));have h1:(c==45)=false:=by rw[beq_eq_false_iff_ne];intro e;subst e;simp at hc
  have h2:(c==43)=false:=by rw[beq_eq_false_iff_ne];intro e;subst e;simp at hc
  have h3:Lib.decNat (c::r)=some (c8e (c::r)):=by
   unfold Lib.decNat
   rw[c7a _ _ hd];rfl
  simp only[Lib.atoi,h1,h2,Bool.false_eq_true,if_false,h3,Option.map_some]
def b8j(t:Tok):Prop:=(t.kind=5→∃c r,t.text=c::r∧r≠[]∧r.length≤6∧∀x∈r,a1r x=true)∧(t.text=[40]→t.kind=6)
theorem b8j.one{t:Tok}(h:b8j t):b9x t:=fun hk=>by
 obtain⟨c,r,h1,h2,h3,h4⟩:=h.1 hk;exact⟨c,r,_,h1,by omega,d3q h4 h2⟩
theorem a1g(l:List Tok)(i:Nat):(a2d l)[i]? =(l[i]?).map b1u:=by simp[a2d]
theorem b0b{full:List Tok}{i:Nat}{t:Tok}{q:List Tok}(h:full.drop i=t::q):full[i]? =some t∧i<full.length∧full.drop (i+1)=q:=by
 have h1:(full.drop i)[0]? =some t:=by rw[h];rfl
 rw[List.getElem?_drop] at h1;refine⟨by simpa using h1,?_,?_⟩
 · rcases Nat.lt_or_ge i full.length with h2|h2
   · exact h2
   · rw[List.drop_eq_nil_of_le h2] at h;cases h
 · rw[←List.drop_drop,h];rfl
theorem c9x(full:List Tok)(i:Nat)(kind:Int)(text:List UInt8):den E 130 [.slice (a2d full),.int .i64 i,.int .i64 kind,.str text] []=some (.bool (a2h (full.drop i) kind text),[]):=by
 rw[a0d g4q,h1n]
 by_cases hlt:i<full.length
 · obtain⟨t,hg⟩:∃t,full[i]? =some t:=⟨full[i],List.getElem?_eq_getElem hlt⟩
   have hd:full.drop i=t::full.drop (i+1):=by
    rw[List.drop_eq_getElem_cons hlt];rw[List.getElem?_eq_getElem hlt] at hg;injection hg with hg;rw[hg]
   rw[hd];cases h1:t.kind==kind
   · simp only[go_sem,Tryz.f130,a0e,a0w,decide_eq_true hlt,a0c,a0i,a1g,hg,b1u,h1,a2h]
   · cases h2:text==[]
     · cases h3:t.text==text<;>simp only[go_sem,Tryz.f130,a0e,a0w,decide_eq_true hlt,a0c,a0i,a1g,hg,b1u,h1,h2,h3,a2h]
     · simp only[go_sem,Tryz.f130,a0e,a0w,decide_eq_true hlt,a0c,a0i,a1g,hg,b1u,h1,h2,a2h]
 · rw[List.drop_eq_nil_of_le (by omega)];simp only[go_sem,Tryz.f130,a0e,a0w,decide_eq_false hlt,a2h]
theorem a6g{l' full:List Tok}(h:l'<:+full):full.drop (full.length - l'.length)=l':=(List.suffix_iff_eq_drop.1 h).symm
def RR(full:List Tok)(r:Ty×Bool×List Tok)(t':Ty)(j:Int):Prop:=if r.2.1=true then t'=r.1∧j=((full.length - r.2.2.length:Nat):Int) else j= -1
def j3t(full:List Tok)(i:Nat)(r:Ty×Bool×List Tok):TM→Prop
 | .typ=>∃t' j,den E 94 [.slice (a2d full),.int .i64 i] []=some (.tup [tyV t',.int .i64 j],[])∧RR full r t' j
 | .app=>∃t' j,den E 157 [.slice (a2d full),.int .i64 i] []=some (.tup [tyV t',.int .i64 j],[])∧RR full r t' j
 | .atom=>∃t' j,den E 219 [.slice (a2d full),.int .i64 i] []=some (.tup [tyV t',.int .i64 j],[])∧RR full r t' j
 | _=>True
theorem c7w{full:List Tok}{t:Ty}{l':List Tok}{t':Ty}{j:Int}(h:RR full (t,true,l') t' j):t'=t∧j=((full.length - l'.length:Nat):Int):=by simpa [RR] using h
theorem b9q{full:List Tok}{t:Ty}{l':List Tok}{t':Ty}{j:Int}(h:RR full (t,false,l') t' j):j= -1:=by simpa [RR] using h
theorem a9d{l:List Tok}{k:Int}{s:List UInt8}{t:Tok}{q:List Tok}(hl:l=t::q):a2h l k s=(t.kind==k&&(s==[]||t.text==s)):=by subst hl;rfl
theorem d5l:∀ {l:List Tok} {j:Nat},j<(a3v l).length→∃t,l[j]? =some t∧(t.kind==1)=true∧(a3v l)[j]? =some t.text
 | [],j,h=>by simp[a3v] at h
 | t::r,j,h=>by
  simp only[a3v] at h⊢;split at h
  · rename_i hk;cases j with
    | zero=>exact⟨t,rfl,hk,by rw[if_pos hk];rfl⟩
    | succ j=>
     obtain⟨t',h1,h2,h3⟩:=d5l (l:=r) (j:=j) (by simpa using h);exact⟨t',h1,h2,by rw[if_pos hk];exact h3⟩
  · simp at h
theorem d5m:∀ {l:List Tok},(a3v l).length<l.length→∃t,l[(a3v l).length]? =some t∧(t.kind==1)=false
 | [],h=>by simp at h
 | t::r,h=>by
  simp only[a3v] at h⊢;split
  · rename_i hk;rw[if_pos hk] at h;exact d5m (l:=r) (by simpa using h)
  · rename_i hk;exact⟨t,rfl,by simpa using hk⟩
theorem c5w:∀(l:List Tok),(a3v l).length≤l.length
 | []=>by simp[a3v]
 | t::r=>by
  simp only[a3v];split
  · have:=c5w r;simp;omega
  · simp
theorem f0j(full:List Tok)(hok:∀t∈full,b8j t)(hlen:full.length<1000000):∀(f:Nat) (m:TM) (i:Nat) (r:Ty×Bool×List Tok),i≤full.length→tyR f m (full.drop i)=some r→j3t full i r m:=by
 intro f
 induction f using Nat.strongRecOn with
 | _ f ih=>
 intro m i r hi h;cases f with
 | zero=>cases h
 | succ f=>
 cases m with
 | all=>trivial
 | loop _ _=>trivial
 | atom=>
  simp only[j3t];simp only[tyR] at h;cases hl:full.drop i with
  | nil=>
   rw[hl] at h;simp only[a2h,Bool.false_eq_true,if_false] at h;injection h with h;subst h;have hge:decide ((i:Int)≥full.length)=true:=by
    have:full.length≤i:=by rw[List.drop_eq_nil_iff] at hl;exact hl
    simpa using this
   refine⟨zTy,-1,?_,by simp[RR]⟩;rw[a0d b1e,b1l];simp only[go_sem,Tryz.f219,a0w,hge,b9r]
  | cons t q=>
   obtain⟨hg,hlt,hq⟩:=b0b hl;have hge:decide ((i:Int)≥full.length)=false:=by simp;omega
   have w1:IntKind.i64.wrap ((i:Int)+1)=((i+1:Nat):Int):=a0z (i+1) (by omega);have hqi:i+1=full.length - q.length:=by
    have:=congrArg List.length hq;simp at this;omega
   have htok:=hok t (List.mem_of_getElem? hg);rw[a9d hl,a9d hl,a9d hl,a9d hl,hl] at h;simp only[beq_self_eq_true,Bool.true_or,Bool.and_true,List.tail_cons,b1z] at h;cases b1:t.kind==1
   · cases b2:t.kind==2
     · cases b5:t.kind==5
       · simp only[b1,b2,b5,Bool.false_eq_true,if_false] at h;have e40:(t.kind==6&&(([40]:List UInt8)==[]||t.text==[40]))=(t.text==[40]):=by
          cases ht:t.text==[40]
          · simp
          · have:=htok.2 (by simpa using ht);simp[this]
         rw[e40] at h;cases ht:t.text==[40]
         · rw[ht] at h;simp only[Bool.false_eq_true,if_false] at h;injection h with h;subst h;refine⟨zTy,-1,?_,by simp[RR]⟩;rw[a0d b1e,b1l];simp only[go_sem,Tryz.f219,a0w,hge,a0c,a0i,a1g,hg,b1u,b1,b2,b5,ht,b9r]
         · rw[ht] at h;simp only[if_true] at h;split at h
           · cases h
           · rename_i t2 ok l1 h1;rw[←hq] at h1;obtain⟨t',j,d1,r1⟩:=ih f (by omega) .typ (i+1) _ (by omega) h1;rw[a0a] at d1;have sf:=a8l _ _ _ _ _ _ h1;cases ok
             · have:=b9q r1;subst this;simp only[Bool.false_eq_true,if_false] at h;injection h with h;subst h;refine⟨zTy,-1,?_,by simp[RR]⟩;rw[a0d b1e,b1l];simp only[go_sem,Tryz.f219,a0w,hge,a0c,a0i,a1g,hg,b1u,b1,b2,b5,ht,w1,d1,b9r]
             · obtain⟨rfl,rfl⟩:=c7w r1;simp only[if_true] at h;injection h with h;subst h;have hsuf:l1<:+full:=sf.trans (List.drop_suffix _ _);have hneg:decide (((full.length - l1.length:Nat):Int)<0)=false:=by simp
               have his:=c9x full (full.length - l1.length) 6 [41];rw[a6g hsuf] at his;have w2:IntKind.i64.wrap (((full.length - l1.length:Nat):Int)+1)=((full.length - l1.length+1:Nat):Int):=a0z (full.length - l1.length+1) (by omega);cases b7:a2h l1 6 [41]
               · rw[b7] at his;refine⟨zTy,-1,?_,by simp[RR]⟩;rw[a0d b1e,b1l];simp only[go_sem,Tryz.f219,a0w,hge,a0c,a0i,a1g,hg,b1u,b1,b2,b5,ht,w1,d1,hneg,his,b9r]
               · rw[b7] at his;have hlt7:=a5n b7;have hsl:=hsuf.length_le;refine⟨t',((full.length - l1.length+1:Nat):Int),?_,?_⟩
                 · rw[a0d b1e,b1l];simp only[go_sem,Tryz.f219,a0w,hge,a0c,a0i,a1g,hg,b1u,b1,b2,b5,ht,w1,d1,hneg,his,w2,a0a]
                 · simp only[RR,if_true,true_and];have:l1.tail.length=l1.length - 1:=by simp
                   omega
       · simp only[b1,b2,b5,Bool.false_eq_true,if_false,if_true] at h;injection h with h;subst h;obtain⟨c,ds,e1,e2,e3,e4⟩:=htok.1 (by simpa using b5);have hn:=d8h ds e4 e3;have hm:d5p t.text=(c8e ds:Int):=by simp[d5p,e1,d3q e4 e2]
         refine⟨_,((i+1:Nat):Int),?_,by simp only[RR,if_true];exact⟨rfl,by omega⟩⟩;rw[a0d b1e,b1l,hm];simp only[go_sem,Tryz.f219,a0w,hge,a0c,a0i,a1g,hg,b1u,b1,b2,b5,w1,e1,List.length_cons,Int.toNat_one,Int.zero_le_ofNat,Nat.le_refl,Nat.le_add_left,List.take_length,hn,a3q,a0f]
     · simp only[b1,b2,Bool.false_eq_true,if_false,if_true] at h;injection h with h;subst h;refine⟨_,((i+1:Nat):Int),?_,by simp only[RR,if_true];exact⟨rfl,by omega⟩⟩;rw[a0d b1e,b1l];simp only[go_sem,Tryz.f219,a0w,hge,a0c,a0i,a1g,hg,b1u,b1,b2,w1,a3q,a0f]
   · simp only[b1,if_true] at h;injection h with h;subst h;refine⟨_,((i+1:Nat):Int),?_,by simp only[RR,if_true];exact⟨rfl,by omega⟩⟩;rw[a0d b1e,b1l];simp only[go_sem,Tryz.f219,a0w,hge,a0c,a0i,a1g,hg,b1u,b1,w1,a3q,a0f]
 | app=>
  simp only[j3t];simp only[tyR] at h;have t1:=c9x full i 2 [];cases b1:a2h (full.drop i) 2 []
  · rw[b1] at h t1;simp only[Bool.false_eq_true,if_false] at h;obtain⟨t',j,d1,r1⟩:=ih f (by omega) .atom i _ hi h;rw[a0a] at d1;refine⟨t',j,?_,r1⟩;rw[a0d e0x,e3h];simp only[go_sem,Tryz.f157,t1,d1,a0a]
  · rw[b1] at h t1;simp only[if_true] at h;obtain⟨t,q,hl⟩:=a7q b1;obtain⟨hg,hlt,hq⟩:=b0b hl;rw[hl] at h;simp only[b1z,List.tail_cons] at h;rw[←hq] at h;have w1:IntKind.i64.wrap ((i:Int)+1)=((i+1:Nat):Int):=a0z (i+1) (by omega)
    -- the result,whatever it is
    suffices hmain:∃t' j,den E 157 [.slice (a2d full),.int .i64 i] []=some (.tup [.agg [.int .i64 t'.kind,.str t'.name,.int .i64 t'.n,.slice (a2i t'.args)],.int .i64 j],[])∧RR full r t' j by
     obtain⟨t',j,k1,k2⟩:=hmain;exact⟨t',j,by rw[a0a];exact k1,k2⟩
    have hres:∃(t':Ty) (j:Int),RR full r t' j∧(r.2.1=false→t'=zTy):=by
     cases hr:r.2.1
     · exact⟨zTy,-1,by simp[RR,hr],fun _=>rfl⟩
     · exact⟨r.1,((full.length - r.2.2.length:Nat):Int),by simp[RR,hr],fun e=>by cases e⟩
    obtain⟨t',j,hRR,hz⟩:=hres;refine⟨t',j,?_,hRR⟩;rw[a0d e0x,e3h];simp only[go_sem,Tryz.f157,t1,a0c,a0i,a1g,hg,b1u,w1];generalize hname:t.text=name at *;refine a0o (fun x:Nat×List Ty×Nat=>x.1≤f∧i+1≤x.2.2∧x.2.2≤full.length∧x.2.1.length≤x.2.2∧tyR x.1 (.loop name x.2.1) (full.drop x.2.2)=some r) (fun x=>⟨[(0,.slice (a2d full)),(4,.ptr (.loc 4) 0),(7,.ptr (.loc 7) 0),(8,.int .i64 x.2.2)],[],[(4,[.int .i64 0,.str [],.int .i64 0,.own 38 0 []]),(7,[.int .i64 3,.str name,.int .i64 0,.own 38 0 (a2i x.2.1)])],1⟩)
     (fun _=>some (.tup [.agg [.int .i64 t'.kind,.str t'.name,.int .i64 t'.n,.slice (a2i t'.args)],.int .i64 j],[])) (fun x=>x.1) (f,[],i+1) ⟨Nat.le_refl _,Nat.le_refl _,show i+1≤full.length by omega,Nat.zero_le _,h⟩ ?_ ?_
    · simp only[go_sem,a0f]
    · rintro⟨g,acc,k⟩ ⟨hgf,hik,hkl,hak,hx⟩ hrun;simp only at hgf hik hkl hak hx hrun⊢;cases g with
      | zero=>cases hx
      | succ g=>
      simp only[tyR] at hx;have fin:(Ty.mk 3 name 0 acc,true,full.drop k)=r→t'=Ty.mk 3 name 0 acc∧j=(k:Int):=fun e=>by
       subst e;simp only[RR,if_true] at hRR;refine⟨hRR.1,?_⟩;rw[hRR.2];simp;omega
      by_cases hlk:k<full.length
      · obtain⟨tk,qk,hlk2⟩:∃tk qk,full.drop k=tk::qk:=⟨full[k],full.drop (k+1),List.drop_eq_getElem_cons hlk⟩
        obtain⟨hgk,_,hqk⟩:=b0b hlk2;have htok:=hok tk (List.mem_of_getElem? hgk);have e40:(tk.kind==6&&(([40]:List UInt8)==[]||tk.text==[40]))=(tk.text==[40]):=by
         cases ht:tk.text==[40]
         · simp
         · have:=htok.2 (by simpa using ht);simp[this]
        rw[a9d hlk2,a9d hlk2,a9d hlk2,a9d hlk2,e40] at hx;simp only[beq_self_eq_true,Bool.true_or,Bool.and_true] at hx;have lt1:decide (k<full.length)=true:=decide_eq_true hlk;have step:(tk.kind==1||(tk.kind==5||(tk.kind==2||tk.text==[40])))=true→∃x ok l1,tyR g .atom (full.drop k)=some (x,ok,l1)∧(if ok=true then tyR g (.loop name (acc++[x])) l1 else some (zTy,false,l1))=some r:=fun hb=>by
         rw[hb] at hx;simp only[if_true] at hx;split at hx
         · cases hx
         · rename_i x ok l1 h1;exact⟨x,ok,l1,h1,hx⟩
        have stop:(tk.kind==1||(tk.kind==5||(tk.kind==2||tk.text==[40])))=false→t'=Ty.mk 3 name 0 acc∧j=(k:Int):=fun hb=>by
         rw[hb] at hx;simp only[Bool.false_eq_true,if_false] at hx;injection hx with hx;exact fin hx
        cases b1:tk.kind==1
        · cases b5:tk.kind==5
          · cases b2:tk.kind==2
            · cases b6:tk.text==[40]
              · obtain⟨rfl,rfl⟩:=stop (by simp[b1,b5,b2,b6]);simp only[go_sem,a0e,a0w,lt1,a0c,a0i,a1g,hgk,b1u,b1,b5,b2,b6,Ty.kind,Ty.name,Ty.n,Ty.args]
              · obtain⟨x,ok,l1,h1,h2⟩:=step (by simp[b1,b5,b2,b6]);obtain⟨x',jx,d1,r1⟩:=ih g (by omega) .atom k _ hkl h1;rw[a0a] at d1;cases ok
                · have:=b9q r1;subst this;simp only[Bool.false_eq_true,if_false] at h2;injection h2 with h2;subst h2;have hz':=hz rfl;have hj:=b9q hRR;subst hz';subst hj;simp only[go_sem,a0e,a0w,lt1,a0c,a0i,a1g,hgk,b1u,b1,b5,b2,b6,d1,zTy,Ty.kind,Ty.name,Ty.n,Ty.args,a0f]
                · obtain⟨rfl,rfl⟩:=c7w r1;simp only[if_true] at h2;have hal:=c1m h1;have sf:=a8l _ _ _ _ _ _ h1;have hsuf:l1<:+full:=sf.trans (List.drop_suffix _ _);have hl1:=hsuf.length_le;simp only[List.length_drop] at hal;have hneg:decide (((full.length - l1.length:Nat):Int)<0)=false:=by simp
                  have hap:acc.length+1≤a0l:=by unfold a0l;omega
                  have htv:a2i acc++[.agg [.int .i64 x'.kind,.str x'.name,.int .i64 x'.n,.slice (a2i x'.args)]]=a2i (acc++[x']):=by rw[a7h,a1c,a0f,a0a]
                  simp only[go_sem,a0e,a0w,lt1,a0c,a0i,a1g,hgk,b1u,b1,b5,b2,b6,d1,hneg,a1q,hap,htv];refine hrun (g,acc++[x'],full.length - l1.length) _ ⟨by omega,by simp only;omega,by simp only;omega,?_,?_⟩ (by simp only;omega) (by simp only[go_sem])
                  · simp only[List.length_append,List.length_singleton];omega
                  · simp only[a6g hsuf];exact h2
            · obtain⟨x,ok,l1,h1,h2⟩:=step (by simp[b1,b5,b2]);obtain⟨x',jx,d1,r1⟩:=ih g (by omega) .atom k _ hkl h1;rw[a0a] at d1;cases ok
              · have:=b9q r1;subst this;simp only[Bool.false_eq_true,if_false] at h2;injection h2 with h2;subst h2;have hz':=hz rfl;have hj:=b9q hRR;subst hz';subst hj;simp only[go_sem,a0e,a0w,lt1,a0c,a0i,a1g,hgk,b1u,b1,b5,b2,d1,zTy,Ty.kind,Ty.name,Ty.n,Ty.args,a0f]
              · obtain⟨rfl,rfl⟩:=c7w r1;simp only[if_true] at h2;have hal:=c1m h1;have sf:=a8l _ _ _ _ _ _ h1;have hsuf:l1<:+full:=sf.trans (List.drop_suffix _ _);have hl1:=hsuf.length_le;simp only[List.length_drop] at hal;have hneg:decide (((full.length - l1.length:Nat):Int)<0)=false:=by simp
                have hap:acc.length+1≤a0l:=by unfold a0l;omega
                have htv:a2i acc++[.agg [.int .i64 x'.kind,.str x'.name,.int .i64 x'.n,.slice (a2i x'.args)]]=a2i (acc++[x']):=by rw[a7h,a1c,a0f,a0a]
                simp only[go_sem,a0e,a0w,lt1,a0c,a0i,a1g,hgk,b1u,b1,b5,b2,d1,hneg,a1q,hap,htv];refine hrun (g,acc++[x'],full.length - l1.length) _ ⟨by omega,by simp only;omega,by simp only;omega,?_,?_⟩ (by simp only;omega) (by simp only[go_sem])
                · simp only[List.length_append,List.length_singleton];omega
                · simp only[a6g hsuf];exact h2
          · obtain⟨x,ok,l1,h1,h2⟩:=step (by simp[b1,b5]);obtain⟨x',jx,d1,r1⟩:=ih g (by omega) .atom k _ hkl h1;rw[a0a] at d1;cases ok
            · have:=b9q r1;subst this;simp only[Bool.false_eq_true,if_false] at h2;injection h2 with h2;subst h2;have hz':=hz rfl;have hj:=b9q hRR;subst hz';subst hj;simp only[go_sem,a0e,a0w,lt1,a0c,a0i,a1g,hgk,b1u,b1,b5,d1,zTy,Ty.kind,Ty.name,Ty.n,Ty.args,a0f]
            · obtain⟨rfl,rfl⟩:=c7w r1;simp only[if_true] at h2;have hal:=c1m h1;have sf:=a8l _ _ _ _ _ _ h1;have hsuf:l1<:+full:=sf.trans (List.drop_suffix _ _);have hl1:=hsuf.length_le;simp only[List.length_drop] at hal;have hneg:decide (((full.length - l1.length:Nat):Int)<0)=false:=by simp
              have hap:acc.length+1≤a0l:=by unfold a0l;omega
              have htv:a2i acc++[.agg [.int .i64 x'.kind,.str x'.name,.int .i64 x'.n,.slice (a2i x'.args)]]=a2i (acc++[x']):=by rw[a7h,a1c,a0f,a0a]
              simp only[go_sem,a0e,a0w,lt1,a0c,a0i,a1g,hgk,b1u,b1,b5,d1,hneg,a1q,hap,htv];refine hrun (g,acc++[x'],full.length - l1.length) _ ⟨by omega,by simp only;omega,by simp only;omega,?_,?_⟩ (by simp only;omega) (by simp only[go_sem])
              · simp only[List.length_append,List.length_singleton];omega
              · simp only[a6g hsuf];exact h2
        · obtain⟨x,ok,l1,h1,h2⟩:=step (by simp[b1]);obtain⟨x',jx,d1,r1⟩:=ih g (by omega) .atom k _ hkl h1;rw[a0a] at d1;cases ok
          · have:=b9q r1;subst this;simp only[Bool.false_eq_true,if_false] at h2;injection h2 with h2;subst h2;have hz':=hz rfl;have hj:=b9q hRR;subst hz';subst hj;simp only[go_sem,a0e,a0w,lt1,a0c,a0i,a1g,hgk,b1u,b1,d1,zTy,Ty.kind,Ty.name,Ty.n,Ty.args,a0f]
          · obtain⟨rfl,rfl⟩:=c7w r1;simp only[if_true] at h2;have hal:=c1m h1;have sf:=a8l _ _ _ _ _ _ h1;have hsuf:l1<:+full:=sf.trans (List.drop_suffix _ _);have hl1:=hsuf.length_le;simp only[List.length_drop] at hal;have hneg:decide (((full.length - l1.length:Nat):Int)<0)=false:=by simp
            have hap:acc.length+1≤a0l:=by unfold a0l;omega
            have htv:a2i acc++[.agg [.int .i64 x'.kind,.str x'.name,.int .i64 x'.n,.slice (a2i x'.args)]]=a2i (acc++[x']):=by rw[a7h,a1c,a0f,a0a]
            simp only[go_sem,a0e,a0w,lt1,a0c,a0i,a1g,hgk,b1u,b1,d1,hneg,a1q,hap,htv];refine hrun (g,acc++[x'],full.length - l1.length) _ ⟨by omega,by simp only;omega,by simp only;omega,?_,?_⟩ (by simp only;omega) (by simp only[go_sem])
            · simp only[List.length_append,List.length_singleton];omega
            · simp only[a6g hsuf];exact h2
      · have hdn:full.drop k=[]:=List.drop_eq_nil_of_le (by omega);rw[hdn] at hx;simp only[a2h,Bool.or_false,Bool.false_eq_true,if_false] at hx;injection hx with hx;rw[←hdn] at hx;obtain⟨rfl,rfl⟩:=fin hx;simp only[go_sem,a0e,a0w,decide_eq_false hlk,Ty.kind,Ty.name,Ty.n,Ty.args]
 | typ=>
  simp only[j3t];simp only[tyR] at h;have t0:=c9x full i 3 [102,111,114,97,108,108];cases b0:a2h (full.drop i) 3 [102,111,114,97,108,108]
  · rw[b0] at h t0;simp only[Bool.false_eq_true,if_false] at h;split at h
    · cases h
    · rename_i a ok l1 h1;obtain⟨a',ja,d1,r1⟩:=ih f (by omega) .app i _ hi h1;rw[a0a] at d1;have hsuf:l1<:+full:=(a8l _ _ _ _ _ _ h1).trans (List.drop_suffix _ _);have hl1:=hsuf.length_le;cases ok
      · have:=b9q r1;subst this;simp only[Bool.false_eq_true,if_false] at h;injection h with h;subst h;refine⟨zTy,-1,?_,by simp[RR]⟩;rw[a0d c0j,c1j];simp only[go_sem,Tryz.f94,t0,d1,b9r]
      · obtain⟨rfl,rfl⟩:=c7w r1;simp only[if_true] at h;have hneg:decide (((full.length - l1.length:Nat):Int)<0)=false:=by simp
        have t1:=c9x full (full.length - l1.length) 6 [45,62];rw[a6g hsuf] at t1;cases b1:a2h l1 6 [45,62]
        · rw[b1] at h t1;simp only[Bool.false_eq_true,if_false] at h;injection h with h;subst h;refine⟨a',((full.length - l1.length:Nat):Int),?_,by simp[RR]⟩;rw[a0d c0j,c1j];simp only[go_sem,Tryz.f94,t0,d1,hneg,t1,a0a]
        · rw[b1] at h t1;simp only[if_true] at h;have hlt:=a5n b1;split at h
          · cases h
          · rename_i b ok2 l2 h2;injection h with h;subst h;have w1:IntKind.i64.wrap (((full.length - l1.length:Nat):Int)+1)=((full.length - l1.length+1:Nat):Int):=a0z (full.length - l1.length+1) (by omega);have e1:full.drop (full.length - l1.length+1)=l1.tail:=by
             rw[←List.drop_drop,a6g hsuf];simp
            rw[←e1] at h2;obtain⟨b',jb,d2,r2⟩:=ih f (by omega) .typ _ _ (by omega) h2;rw[a0a] at d2;refine⟨.mk 4 [] 0 [a',b'],jb,?_,?_⟩
            · rw[a0d c0j,c1j];simp only[go_sem,Tryz.f94,t0,d1,hneg,t1,w1,d2,a0a,Ty.kind,Ty.name,Ty.n,Ty.args,a1c,a0f]
            · cases ok2
              · simpa [RR] using b9q r2
              · obtain⟨rfl,rfl⟩:=c7w r2;simp[RR]
  · rw[b0] at h t0;simp only[if_true] at h;obtain⟨tf,qf,hlf⟩:=a7q b0;obtain⟨_,hltf,hqf⟩:=b0b hlf;have e1:(full.drop i).tail=full.drop (i+1):=by rw[hlf,hqf];rfl
    rw[e1] at h;cases f with
    | zero=>cases h
    | succ g=>
    simp only[tyR] at h;have w1:IntKind.i64.wrap ((i:Int)+1)=((i+1:Nat):Int):=a0z (i+1) (by omega);have hnle:=c5w (full.drop (i+1));simp only[List.length_drop] at hnle;generalize hn:(a3v (full.drop (i+1))).length=n at *;have hK:(full.drop (i+1)).drop n=full.drop (i+1+n):=by rw[List.drop_drop]
    rw[hK] at h;have td:=c9x full (i+1+n) 6 [46]
    -- the names,from their end on
    suffices hmain:∃t' j,den E 94 [.slice (a2d full),.int .i64 i] []=some (.tup [.agg [.int .i64 t'.kind,.str t'.name,.int .i64 t'.n,.slice (a2i t'.args)],.int .i64 j],[])∧RR full r t' j by
     obtain⟨t',j,k1,k2⟩:=hmain;exact⟨t',j,by rw[a0a];exact k1,k2⟩
    have i6c:∀(j:Nat),j<n→∃t,full[i+1+j]? =some t∧(t.kind==1)=true∧(a3v (full.drop (i+1)))[j]? =some t.text:=fun j hj=>by
     obtain⟨t,h1,h2,h3⟩:=d5l (l:=full.drop (i+1)) (j:=j) (by omega);rw[List.getElem?_drop] at h1;exact⟨t,h1,h2,h3⟩
    have j3i:i+1+n<full.length→∃t,full[i+1+n]? =some t∧(t.kind==1)=false:=fun hlt=>by
     obtain⟨t,h1,h2⟩:=d5m (l:=full.drop (i+1)) (by rw[hn];simp;omega)
     rw[hn,List.getElem?_drop] at h1;exact⟨t,h1,h2⟩
    have eqn:(((i+1+n:Nat):Int)==((i+1:Nat):Int))=decide (n=0):=by
     rw[c9s];by_cases h0:n=0<;>simp[h0]
    cases bd:a2h (full.drop (i+1+n)) 6 [46]
    · rw[bd] at h td;simp only[Bool.false_eq_true,if_false] at h;injection h with h;subst h;refine⟨zTy,-1,?_,by simp[RR]⟩;rw[a0d c0j,c1j];simp only[go_sem,Tryz.f94,t0,w1];refine a3m (fun j=>⟨[(0,.slice (a2d full)),(1,.int .i64 i),(4,.ptr (.loc 4) 0),(7,.int .i64 ((i+1+j:Nat):Int))],[],[(4,[.int .i64 0,.str [],.int .i64 0,.own 38 0 []])],1⟩) n ?_ ?_ ?_
      · simp only[go_sem,Nat.add_zero]
      · intro j hj hh;obtain⟨tj,hj1,hj2,_⟩:=i6c j hj;have ltj:decide (i+1+j<full.length)=true:=by simp;omega
        have wj:IntKind.i64.wrap (((i+1+j:Nat):Int)+1)=((i+1+(j+1):Nat):Int):=a0z (i+1+(j+1)) (by omega);simp only[go_sem,a0e,a0w,ltj,a0c,a0i,a1g,hj1,hj2,b1u];refine hh _ ?_;simp only[go_sem,wj]
      · by_cases hlt:i+1+n<full.length
        · obtain⟨tx,hx,hp⟩:=j3i hlt;simp only[go_sem,a0e,a0w,decide_eq_true hlt,a0c,a0i,a1g,hx,hp,b1u,td,zTy,Ty.kind,Ty.name,Ty.n,Ty.args,a0f]
        · simp only[go_sem,a0e,a0w,decide_eq_false hlt,td,zTy,Ty.kind,Ty.name,Ty.n,Ty.args,a0f]
    · rw[bd] at h td;simp only[if_true] at h;have hltd:=a5n bd;simp only[List.length_tail,List.length_drop] at hltd;have hKl:i+1+n<full.length:=by omega
      obtain⟨tx,hx,hp⟩:=j3i hKl
      by_cases h0:n=0
      · have hnil:a3v (full.drop (i+1))=[]:=List.eq_nil_of_length_eq_zero (by omega);rw[hnil] at h;simp only at h;injection h with h;subst h;refine⟨zTy,-1,?_,by simp[RR]⟩;rw[a0d c0j,c1j];simp only[go_sem,Tryz.f94,t0,w1];refine a3m (fun j=>⟨[(0,.slice (a2d full)),(1,.int .i64 i),(4,.ptr (.loc 4) 0),(7,.int .i64 ((i+1+j:Nat):Int))],[],[(4,[.int .i64 0,.str [],.int .i64 0,.own 38 0 []])],1⟩) n ?_ ?_ ?_
        · simp only[go_sem,Nat.add_zero]
        · intro j hj hh;obtain⟨tj,hj1,hj2,_⟩:=i6c j hj;have ltj:decide (i+1+j<full.length)=true:=by simp;omega
          have wj:IntKind.i64.wrap (((i+1+j:Nat):Int)+1)=((i+1+(j+1):Nat):Int):=a0z (i+1+(j+1)) (by omega);simp only[go_sem,a0e,a0w,ltj,a0c,a0i,a1g,hj1,hj2,b1u];refine hh _ ?_;simp only[go_sem,wj]
        · simp only[go_sem,a0e,a0w,decide_eq_true hKl,a0c,a0i,a1g,hx,hp,b1u,td,w1,eqn,decide_eq_true h0,zTy,Ty.kind,Ty.name,Ty.n,Ty.args,a0f]
      · cases hN:a3v (full.drop (i+1)) with
        | nil=>rw[hN] at hn;simp at hn;omega
        | cons n0 ns=>
        rw[hN] at h;simp only at h;split at h
        · cases h
        · rename_i t ok l2 h2;injection h with h;have e2:(full.drop (i+1+n)).tail=full.drop (i+1+n+1):=by simp
          rw[e2] at h2;obtain⟨t',jt,d2,r2⟩:=ih g (by omega) .typ _ _ (by omega) h2;rw[a0a] at d2;rw[←hN] at h;generalize hNN:a3v (full.drop (i+1))=N at *;have w2:IntKind.i64.wrap (((i+1+n:Nat):Int)+1)=((i+1+n+1:Nat):Int):=a0z (i+1+n+1) (by omega);have w3:IntKind.i64.wrap (((i+1+n:Nat):Int) - 1)=((i+n:Nat):Int):=by
           rw[show (((i+1+n:Nat):Int) - 1)=((i+n:Nat):Int) by omega];exact a0z _ (by omega)
          refine⟨N.foldr (fun n t=>Ty.mk 5 n 0 [t]) t',jt,?_,?_⟩
          · rw[a0d c0j,c1j];simp only[go_sem,Tryz.f94,t0,w1];refine a3m (fun j=>⟨[(0,.slice (a2d full)),(1,.int .i64 i),(4,.ptr (.loc 4) 0),(7,.int .i64 ((i+1+j:Nat):Int))],[],[(4,[.int .i64 0,.str [],.int .i64 0,.own 38 0 []])],1⟩) n ?_ ?_ ?_
            · simp only[go_sem,Nat.add_zero]
            · intro j hj hh;obtain⟨tj,hj1,hj2,_⟩:=i6c j hj;have ltj:decide (i+1+j<full.length)=true:=by simp;omega
              have wj:IntKind.i64.wrap (((i+1+j:Nat):Int)+1)=((i+1+(j+1):Nat):Int):=a0z (i+1+(j+1)) (by omega);simp only[go_sem,a0e,a0w,ltj,a0c,a0i,a1g,hj1,hj2,b1u];refine hh _ ?_;simp only[go_sem,wj]
            · simp only[go_sem,a0e,a0w,decide_eq_true hKl,a0c,a0i,a1g,hx,hp,b1u,td,w1,eqn,h0,w2,d2,w3];refine (a0o (fun k:Nat=>k≤n) (fun k=>⟨[(0,.slice (a2d full)),(1,.int .i64 i),(4,.ptr (.loc 4) 0),(9,.ptr (.loc 9) 0),(10,.int .i64 jt),(11,.int .i64 ((i+k:Nat):Int))],[],
               [(4,[.int .i64 0,.str [],.int .i64 0,.own 38 0 []]),(9,[.int .i64 ((N.drop k).foldr (fun n t=>Ty.mk 5 n 0 [t]) t').kind,.str ((N.drop k).foldr (fun n t=>Ty.mk 5 n 0 [t]) t').name,.int .i64 ((N.drop k).foldr (fun n t=>Ty.mk 5 n 0 [t]) t').n,.slice (a2i ((N.drop k).foldr (fun n t=>Ty.mk 5 n 0 [t]) t').args)])],1⟩)
               (fun _=>some (.tup [.agg [.int .i64 (N.foldr (fun n t=>Ty.mk 5 n 0 [t]) t').kind,.str (N.foldr (fun n t=>Ty.mk 5 n 0 [t]) t').name,.int .i64 (N.foldr (fun n t=>Ty.mk 5 n 0 [t]) t').n,.slice (a2i (N.foldr (fun n t=>Ty.mk 5 n 0 [t]) t').args)],.int .i64 jt],[])) (fun k=>k) n (Nat.le_refl _) ?_ ?_)
              · simp only[go_sem,←hn,List.drop_length,List.foldr_nil]
              · intro k hk hrun2;have gt:decide (((i+k:Nat):Int)>i)=decide (0<k):=by simp;omega
                cases k with
                | zero=>
                 simp only[go_sem,gt,Nat.lt_irrefl,List.drop_zero]
                | succ k=>
                 obtain⟨tk,hk1,hk2,hk3⟩:=i6c k (by omega);have hki:i+(k+1)=i+1+k:=by omega
                 have hkN:k<N.length:=by omega
                 have hd:N.drop k=tk.text::N.drop (k+1):=by
                  rw[List.drop_eq_getElem_cons hkN];rw[List.getElem?_eq_getElem hkN] at hk3;injection hk3 with hk3;rw[hk3]
                 have wk:IntKind.i64.wrap (((i+(k+1):Nat):Int) - 1)=((i+k:Nat):Int):=by
                  rw[show (((i+(k+1):Nat):Int) - 1)=((i+k:Nat):Int) by omega];exact a0z _ (by omega)
                 have hg2:full[i+(k+1)]? =some tk:=by rw[hki];exact hk1
                 simp only[go_sem,gt,Nat.zero_lt_succ,a0c,a0i,a1g,hg2,b1u,wk];refine hrun2 k _ (by omega) (by omega) ?_;simp only[go_sem,hd,List.foldr_cons,Ty.kind,Ty.name,Ty.n,Ty.args,a1c,a0f,a0a]
          · rw[←h];cases ok
            · simpa [RR] using b9q r2
            · obtain⟨rfl,rfl⟩:=c7w r2;simp[RR]
mutual
def Ty.depth:Ty→Nat
 | .mk _ _ _ a=>Ty.depths a+1
def Ty.depths:List Ty→Nat
 | []=>0
 | t::r=>max (Ty.depth t) (Ty.depths r)
end
mutual
def Ty.sz:Ty→Nat
 | .mk _ _ _ a=>Ty.szs a+1
def Ty.szs:List Ty→Nat
 | []=>0
 | t::r=>Ty.sz t+Ty.szs r
end
theorem c3w(t:Ty):t.depth=Ty.depths t.args+1:=by cases t;simp[Ty.depth,Ty.args]
theorem a2s(t:Ty):t.sz=Ty.szs t.args+1:=by cases t;simp[Ty.sz,Ty.args]
theorem c6w(l:List Ty)(t:Ty):Ty.depths (l++[t])=max (Ty.depths l) t.depth:=by
 induction l with
 | nil=>simp[Ty.depths]
 | cons a l ih=>simp only[List.cons_append,Ty.depths,ih];omega
theorem a2w{l:List Ty}{t:Ty}(h:t∈l):t.sz≤Ty.szs l:=by
 induction l with
 | nil=>cases h
 | cons a l ih=>
  simp only[Ty.szs];rcases List.mem_cons.1 h with rfl|h
  · omega
  · have:=ih h;omega
theorem d1n(l:List Ty):l.length≤Ty.szs l:=by
 induction l with
 | nil=>simp
 | cons a l ih=>
  simp only[Ty.szs,List.length_cons];have:=a2s a;omega
theorem c6x(l:List Ty):Ty.depths l≤Ty.szs l:=by
 suffices h:∀n,(∀t:Ty,t.sz≤n→t.depth≤t.sz) by
  induction l with
  | nil=>simp[Ty.depths]
  | cons a l ih=>
   simp only[Ty.depths,Ty.szs];have:=h a.sz a (Nat.le_refl _);omega
 intro n
 induction n with
 | zero=>intro t ht;have:=a2s t;omega
 | succ n ih=>
  intro t ht;rw[c3w,a2s] at *;have:∀l:List Ty,Ty.szs l≤n→Ty.depths l≤Ty.szs l:=by
   intro l
   induction l with
   | nil=>intro _;simp[Ty.depths]
   | cons a l ih2=>
    intro hl;simp only[Ty.depths,Ty.szs] at hl⊢;have h1:=ih a (by omega);have h2:=ih2 (by omega);omega
  have:=this t.args (by omega);omega
theorem d1i(l:List Ty)(i:Nat):(a2i l)[i]? =(l[i]?).map tyV:=by simp[c2t]
theorem c6a(a b:Nat):(if ((b:Int)>a) then (b:Int) else a)=((max a b:Nat):Int):=by
 split<;>omega
theorem a4c{α:Type}{l:List α}{i:Nat}{x:α}(h:l[i]? =some x):l.take (i+1)=l.take i++[x]:=by
 obtain⟨hi,he⟩:=List.getElem?_eq_some_iff.1 h;rw[List.take_succ_eq_append_getElem hi,he]
theorem b5q:∀(n:Nat) (t:Ty),t.sz≤n→t.sz<1000000→den E 88 [tyV t] []=some (.int .i64 t.depth,[]):=by
 intro n
 induction n with
 | zero=>intro t ht;have:=a2s t;omega
 | succ n ih=>
  intro t ht hs;rw[a2s] at ht hs;have hl:=d1n t.args;have hdl:=c6x t.args;rw[a0d i1a,i4q,a0a,c3w];simp only[go_sem,Tryz.f88,a1q];refine a3m (fun i=>⟨[(3,.int .i64 (Ty.depths (t.args.take i))),(7,.slice (a2i t.args)),(8,.int .i64 t.args.length),(9,.int .i64 i)],[],[],1⟩) t.args.length ?_ ?_ ?_
  · simp only[go_sem,List.take_zero,Ty.depths]
  · intro i hi h;obtain⟨x,hx⟩:∃x,t.args[i]? =some x:=⟨t.args[i],List.getElem?_eq_getElem hi⟩
    have hd:=ih x (by have:=a2w (List.mem_of_getElem? hx);omega) (by have:=a2w (List.mem_of_getElem? hx);omega);rw[a0a] at hd;have w1:IntKind.i64.wrap ((i:Int)+1)=((i+1:Nat):Int):=a0z (i+1) (by omega);simp only[go_sem,a0e,decide_eq_true hi,a0c,a0i,d1i,hx,a0a,hd,c6a];refine h _ ?_;simp only[go_sem,w1,a4c hx,c6w]
  · have w1:IntKind.i64.wrap ((Ty.depths t.args:Int)+1)=((Ty.depths t.args+1:Nat):Int):=a0z (Ty.depths t.args+1) (by omega);simp only[go_sem,a0e,Nat.lt_irrefl,List.take_length,w1]
theorem b5y:∀(n:Nat) (t:Ty),t.sz≤n→t.sz<1000000→den E 95 [tyV t] []=some (.int .i64 t.depth,[]):=by
 intro n
 induction n with
 | zero=>intro t ht;have:=a2s t;omega
 | succ n ih=>
  intro t ht hs;rw[a2s] at ht hs;have hl:=d1n t.args;have hdl:=c6x t.args;rw[a0d i0w,i4m,a0a,c3w];simp only[go_sem,Tryz.f95];refine a3m (fun i=>⟨[(1,.ptr (.loc 1) 0),(3,.int .i64 (Ty.depths (t.args.take i))),(4,.int .i64 i)],[],[(1,[.int .i64 t.kind,.str t.name,.int .i64 t.n,.slice (a2i t.args)])],1⟩) t.args.length ?_ ?_ ?_
  · simp only[go_sem,List.take_zero,Ty.depths]
  · intro i hi h;obtain⟨x,hx⟩:∃x,t.args[i]? =some x:=⟨t.args[i],List.getElem?_eq_getElem hi⟩
    have hd:=ih x (by have:=a2w (List.mem_of_getElem? hx);omega) (by have:=a2w (List.mem_of_getElem? hx);omega);rw[a0a] at hd;have w1:IntKind.i64.wrap ((i:Int)+1)=((i+1:Nat):Int):=a0z (i+1) (by omega);simp only[go_sem,a0e,a1q,decide_eq_true hi,a0c,a0i,d1i,hx,a0a,hd,c6a];refine h _ ?_;simp only[go_sem,w1,a4c hx,c6w]
  · have w1:IntKind.i64.wrap ((Ty.depths t.args:Int)+1)=((Ty.depths t.args+1:Nat):Int):=a0z (Ty.depths t.args+1) (by omega);simp only[go_sem,a0e,a1q,Nat.lt_irrefl,List.take_length,w1]
theorem d4i(l:List Tok)(f:Nat)(r:Ty×Bool×List Tok)(hok:∀t∈l,b9x t)(hlen:l.length<1000000)(h:tyR f .typ l=some r):den E 87 [.slice (a2d l)] []=
 some (if r.2.1=true then .tup [tyV r.1,.slice (a2d r.2.2),.bool true] else .tup [tyV zTy,.slice [],.bool false],[]):=by
 have h1:=h3j f .typ l r hok hlen h;simp only[e9t,b6g,a0a] at h1;rw[a0d i1b,i4r];cases hr:r.2.1
 · rw[hr] at h1;simp only[go_sem,Tryz.f87,h1,b9r]
 · rw[hr] at h1;simp only[go_sem,Tryz.f87,h1,a0a]
theorem d2y(n:Nat):Lib.itoa (n:Int)=Lib.decDigits n:=by
 unfold Lib.itoa;rw[if_neg (by omega)];simp
theorem c6t(n:Nat)(h:n<10):Lib.itoa (n:Int)=[UInt8.ofNat (48+n)]:=by
 rw[d2y,Lib.decDigits,dif_pos h]
theorem d0s(n:Nat)(h:10≤n):Lib.itoa (n:Int)=Lib.itoa ((n / 10:Nat):Int)++[UInt8.ofNat (48+n % 10)]:=by
 rw[d2y,d2y,Lib.decDigits,dif_neg (by omega)]
theorem b0a:∀(k n:Nat),n<10 ^ (k+1)→(Lib.itoa (n:Int)).length≤k+1
 | 0,n,h=>by rw[c6t n (by simpa using h)];simp
 | k+1,n,h=>by
  by_cases h10:n<10
  · rw[c6t n h10];simp
  · rw[d0s n (by omega)];have:=b0a k (n / 10) (by rw[Nat.pow_succ] at h;omega);simp only[List.length_append,List.length_singleton];omega
theorem a4m:∀(n:Nat),n<1000000000→den E 84 [.int .i64 n] []=some (.str (Lib.itoa n),[]):=by
 intro n
 induction n using Nat.strongRecOn with
 | _ n ih=>
 intro hn;rw[a0d i1d,i4t];have e1:decide ((n:Int)<10)=decide (n<10):=by simp;omega
 by_cases h:n<10
 · have w1:IntKind.i64.wrap (48+(n:Int))=((48+n:Nat):Int):=a0z (48+n) (by omega);have w2:IntKind.u8.wrap ((48+n:Nat):Int)=((48+n:Nat):Int):=IntWalk.u8_in _ (by omega);simp only[go_sem,Tryz.f84,e1,decide_eq_true h,w1,w2,bytesOf,a0i,c6t n h]
 · have w0:IntKind.i64.wrap ((n:Int).tdiv 10)=((n / 10:Nat):Int):=by
    rw[show ((n:Int).tdiv 10)=((n / 10:Nat):Int) by simp];exact a0z _ (by omega)
   have w0':(n:Int).tmod 10=((n % 10:Nat):Int):=rfl;have w1:IntKind.i64.wrap (48+((n % 10:Nat):Int))=((48+n % 10:Nat):Int):=a0z (48+n % 10) (by omega);have w2:IntKind.u8.wrap ((48+n % 10:Nat):Int)=((48+n % 10:Nat):Int):=IntWalk.u8_in _ (by omega);have hd:=ih (n / 10) (by omega) (by omega);have hl:(Lib.itoa ((n / 10:Nat):Int)).length+1≤a1t:=by
    have:=b0a 8 (n / 10) (by omega);unfold a1t;omega
   simp only[go_sem,Tryz.f84,e1,decide_eq_false h,w0,w0',w1,w2,bytesOf,a0i,hd,d0s n (by omega),hl]
inductive PM where
 | pr
 | tail
 | arg
 | left
def kids2:List Ty→Option (Ty×Ty)
 | [x,y]=>some (x,y)
 | _=>none
def e7l:List Ty→Option Ty
 | [x]=>some x
 | _=>none
def lim:Nat:=1000000000
def c0d(s:List UInt8):Option (List UInt8):=if s.length≤lim then some s else none
def d9h(f:Ty→Option (List UInt8)):List Ty→Option (List (List UInt8))
 | []=>some []
 | t::r=>match f t with
  | none=>none
  | some s=>match d9h f r with
   | none=>none
   | some ss=>some (s::ss)
def c1l(t:Ty):Bool:=t.kind==1||(t.kind==2||(t.kind==3&&t.args.length==0))
def prR:Nat→PM→Ty→Option (List UInt8)
 | 0,_,_=>none
 | f+1,m,t=>match m with
  | .pr=>if t.kind==2 then (if 0≤t.n∧t.n<1000000000 then c0d (63::Lib.itoa t.n) else none)
   else if t.kind==3 then (match d9h (prR f .arg) t.args with
    | none=>none
    | some ss=>c0d (Lib.join (t.name::ss) [32]))
   else if t.kind==4 then (match kids2 t.args with
    | none=>none
    | some (x,y)=>match prR f .left x with
     | none=>none
     | some a=>match prR f .pr y with
      | none=>none
      | some b=>c0d (a++[32,45,62,32]++b))
   else if t.kind==5 then (match e7l t.args with
    | none=>none
    | some x=>match prR f .tail x with
     | none=>none
     | some a=>c0d ([102,111,114,97,108,108,32]++t.name++a))
   else if t.kind==1 then c0d t.name else none
  | .arg=>if t.kind==1||(t.kind==2||(t.kind==3||(t.kind==4||t.kind==5))) then (match prR f .pr t with
   | none=>none
   | some a=>if c1l t then some a else c0d ([40]++a++[41])) else none
  | .left=>if t.kind==1||(t.kind==2||(t.kind==3||(t.kind==4||t.kind==5))) then (match prR f .pr t with
   | none=>none
   | some a=>if decide (t.kind<4) then some a else c0d ([40]++a++[41])) else none
  | .tail=>if t.kind==5 then (match e7l t.args with
   | none=>none
   | some x=>match prR f .tail x with
    | none=>none
    | some a=>c0d ([32]++t.name++a))
   else (match prR f .pr t with
    | none=>none
    | some a=>c0d ([46,32]++a))
theorem a6d{s r:List UInt8}(h:c0d s=some r):r=s∧s.length≤lim:=by
 unfold c0d at h;split at h
 · injection h with h;exact⟨h.symm,by assumption⟩
 · cases h
theorem d7h{f:Ty→Option (List UInt8)}:∀ {l:List Ty} {ss:List (List UInt8)},d9h f l=some ss→ss.length=l.length∧∀(i:Nat) (t:Ty),l[i]? =some t→∃s,f t=some s∧ss[i]? =some s
 | [],ss,h=>by simp only[d9h,Option.some.injEq] at h;subst h;exact⟨rfl,fun i t ht=>by simp at ht⟩
 | t::r,ss,h=>by
  simp only[d9h] at h;split at h
  · cases h
  · rename_i s hs;split at h
    · cases h
    · rename_i ss' hss;injection h with h;subst h;obtain⟨h1,h2⟩:=d7h hss;refine⟨by simp[h1],fun i x hx=>?_⟩;cases i with
      | zero=>simp at hx;subst hx;exact⟨s,hs,rfl⟩
      | succ i=>exact h2 i x (by simpa using hx)
theorem e7k{l:List Ty}{p:Ty×Ty}(h:kids2 l=some p):l=[p.1,p.2]:=by
 unfold kids2 at h;split at h
 · injection h with h;subst h;rfl
 · cases h
theorem c9w{l:List Ty}{p:Ty}(h:e7l l=some p):l=[p]:=by
 unfold e7l at h;split at h
 · injection h with h;subst h;rfl
 · cases h
theorem e9p(t:Ty):den E 122 [tyV t] []=some (.bool (c1l t),[]):=by
 rw[a0d g4s,h1p,a0a];unfold c1l;cases h1:t.kind==1
 · cases h2:t.kind==2
   · cases h3:t.kind==3
     · simp only[go_sem,Tryz.f122,h1,h2,h3]
     · have e0:((t.args.length:Int)==0)=(t.args.length==0):=by rw[b4v];rfl
       simp only[go_sem,Tryz.f122,h1,h2,h3,a1q,e0]
   · simp only[go_sem,Tryz.f122,h1,h2]
 · simp only[go_sem,Tryz.f122,h1]
theorem d0x(t:Ty)(a:List UInt8)(b:Bool)(h:den E 58 [tyV t] []=some (.str a,[]))(hl:a.length≤lim):den E 121 [tyV t,.bool b] []=some (.str (if b then a else [40]++a++[41]),[]):=by
 rw[a0a] at h⊢;rw[a0d g4t,h1q];unfold lim at hl;have l1:1+a.length≤a1t:=by unfold a1t;omega
 have l2:a.length+1+1≤a1t:=by unfold a1t;omega
 cases b<;>simp only[go_sem,Tryz.f121,h,Nat.zero_add,l1,l2]
theorem f2q:∀ {f:Nat} {m:PM} {t:Ty} {s:List UInt8},prR f m t=some s→s.length≤lim:=by
 intro f
 induction f with
 | zero=>intro m t s h;cases h
 | succ f ih=>
  intro m t s h;cases m<;>simp only[prR] at h<;>(repeat' (split at h))<;>first
   | (cases h;done)
   | (obtain⟨rfl,h2⟩:=a6d h;exact h2)
   | (injection h with h;subst h;exact ih (by assumption))
theorem g6g(x:List UInt8)(r:List (List UInt8)):(x::r).length≤(Lib.join (x::r) [32]).length+1:=by
 rw[Lib.join_length];simp only[List.length_cons,List.length_nil];omega
theorem g0q(l:List (List UInt8)):b8l (l.map AVal.str)=some l:=by
 induction l with
 | nil=>rfl
 | cons a l ih=>simp[b8l,ih]
theorem e3r:∀(f:Nat) (t:Ty) (s:List UInt8),t.sz<1000000→prR f .pr t=some s→den E 58 [tyV t] []=some (.str s,[]):=by
 intro f
 induction f using Nat.strongRecOn with
 | _ f ih=>
 intro t s hsz h;cases f with
 | zero=>cases h
 | succ f=>
 have hsz':=a2s t;have harg:∀g x a,g≤f→x.sz<1000000→prR g .arg x=some a→den E 121 [tyV x,.bool (c1l x)] []=some (.str a,[]):=by
  intro g x a hg hx hp;cases g with
  | zero=>cases hp
  | succ g=>
   simp only[prR] at hp;split at hp
   · split at hp
     · cases hp
     · rename_i b hb;have h1:=d0x x b (c1l x) (ih g (by omega) x b hx hb) (f2q hb);rw[h1];split at hp
       · injection hp with hp;subst hp;rename_i hat;rw[hat];rfl
       · rename_i hat
         obtain⟨rfl,_⟩:=a6d hp;rw[Bool.not_eq_true] at hat;rw[hat];rfl
   · cases hp
 have hleft:∀g x a,g≤f→x.sz<1000000→prR g .left x=some a→den E 121 [tyV x,.bool (decide (x.kind<4))] []=some (.str a,[]):=by
  intro g x a hg hx hp;cases g with
  | zero=>cases hp
  | succ g=>
   simp only[prR] at hp;split at hp
   · split at hp
     · cases hp
     · rename_i b hb;have h1:=d0x x b (decide (x.kind<4)) (ih g (by omega) x b hx hb) (f2q hb);rw[h1];split at hp
       · injection hp with hp;subst hp;rename_i hat;rw[hat];rfl
       · rename_i hat
         obtain⟨rfl,_⟩:=a6d hp;rw[Bool.not_eq_true] at hat;rw[hat];rfl
   · cases hp
 have hlen:=f2q h;unfold lim at hlen;simp only[prR] at h;rw[a0d i1m,i5a,a0a];cases k2:t.kind==2
 · cases k3:t.kind==3
   · cases k4:t.kind==4
     · cases k5:t.kind==5
       · cases k1:t.kind==1
         · simp only[k1,k2,k3,k4,k5,Bool.false_eq_true,if_false] at h;cases h
         · simp only[k1,k2,k3,k4,k5,Bool.false_eq_true,if_false,if_true] at h;obtain⟨rfl,_⟩:=a6d h;simp only[go_sem,Tryz.f58,k2,k3,k4,k5]
       · -- for all
         simp only[k2,k3,k4,k5,Bool.false_eq_true,if_false,if_true] at h;split at h
         · cases h
         · rename_i x hx;have hargs:=c9w hx;split at h
           · cases h
           · rename_i a ha;obtain⟨rfl,_⟩:=a6d h;simp only[List.length_append,List.length_cons,List.length_nil] at hlen;have l1:7+t.name.length≤a1t:=by unfold a1t;omega
             have hxs:x.sz<1000000:=by rw[hargs] at hsz';simp[Ty.szs] at hsz';omega
             simp only[go_sem,Tryz.f58,k2,k3,k4,k5,hargs,a1c,a0f,a0a,Int.le_refl,Int.toNat_zero,l1,Nat.zero_add,List.length_cons,List.length_nil];refine a0o (fun y:Nat×Ty×List UInt8=>y.1≤f∧y.2.1.sz<1000000∧∃rest,prR y.1 .tail y.2.1=some rest∧y.2.2++rest=[102,111,114,97,108,108,32]++t.name++a)
              (fun y=>⟨[(6,.str y.2.2),(7,.ptr (.loc 7) 0)],[],[(7,[.int .i64 y.2.1.kind,.str y.2.1.name,.int .i64 y.2.1.n,.slice (a2i y.2.1.args)])],1⟩)
              (fun _=>some (.str ([102,111,114,97,108,108,32]++t.name++a),[])) (fun y=>y.1) (f,x,[102,111,114,97,108,108,32]++t.name) ⟨Nat.le_refl _,hxs,a,ha,rfl⟩ ?_ ?_
             · simp only[go_sem]
             · rintro⟨g,y,acc⟩ ⟨hg,hy,rest,hr,hfull⟩ hrun;simp only at hg hy hr hfull hrun⊢;have hfl:=congrArg List.length hfull;simp only[List.length_append,List.length_cons,List.length_nil] at hfl;have hysz:=a2s y;cases g with
               | zero=>cases hr
               | succ g=>
               simp only[prR] at hr;cases y5:y.kind==5
               · simp only[y5,Bool.false_eq_true,if_false] at hr;split at hr
                 · cases hr
                 · rename_i b hb;obtain⟨rfl,_⟩:=a6d hr;have d1:=ih g (by omega) y b hy hb;rw[a0a] at d1;simp only[List.length_append,List.length_cons,List.length_nil] at hfl;have l2:acc.length+2≤a1t:=by unfold a1t;omega
                   have l3:acc.length+2+b.length≤a1t:=by unfold a1t;omega
                   rw[←hfull];simp only[go_sem,y5,d1,l2,l3,List.length_append,List.length_cons,List.length_nil,Nat.zero_add,List.append_assoc]
               · simp only[y5,if_true] at hr;split at hr
                 · cases hr
                 · rename_i z hz;have hya:=c9w hz;split at hr
                   · cases hr
                   · rename_i b hb;obtain⟨rfl,_⟩:=a6d hr;simp only[List.length_append,List.length_cons,List.length_nil] at hfl;have l2:1+y.name.length≤a1t:=by unfold a1t;omega
                     have l3:acc.length+(y.name.length+1)≤a1t:=by unfold a1t;omega
                     have hzs:z.sz<1000000:=by rw[hya] at hysz;simp[Ty.szs] at hysz;omega
                     simp only[go_sem,y5,l2,l3,hya,a1c,a0f,a0a,Int.le_refl,Int.toNat_zero,List.length_cons,List.length_nil,Nat.zero_add];refine hrun (g,z,acc++([32]++y.name)) _ ⟨by omega,hzs,b,hb,by rw[←hfull];simp⟩ (by simp only;omega) ?_;simp only[go_sem]
     · -- functions
       simp only[k2,k3,k4,Bool.false_eq_true,if_false,if_true] at h;split at h
       · cases h
       · rename_i x y hxy;have hargs:=e7k hxy;split at h
         · cases h
         · rename_i a ha;split at h
           · cases h
           · rename_i b hb;obtain⟨rfl,_⟩:=a6d h;simp only[List.length_append,List.length_cons,List.length_nil] at hlen;have hxs:x.sz<1000000∧y.sz<1000000:=by rw[hargs] at hsz';simp[Ty.szs] at hsz';omega
             have d1:=hleft f x a (Nat.le_refl _) hxs.1 ha;have d2:=ih f (by omega) y b hxs.2 hb;rw[a0a] at d1 d2;have l1:a.length+4≤a1t:=by unfold a1t;omega
             have l2:a.length+4+b.length≤a1t:=by unfold a1t;omega
             simp only[go_sem,Tryz.f58,k2,k3,k4,hargs,a1c,a0f,a0a,Int.le_refl,Int.toNat_zero,Int.toNat_one,Int.zero_le_ofNat,d1,d2,l1,l2,List.length_append,List.length_cons,List.length_nil,Nat.zero_add]
   · -- constructors
     simp only[k2,k3,Bool.false_eq_true,if_false,if_true] at h;split at h
     · cases h
     · rename_i ss hss;obtain⟨rfl,_⟩:=a6d h;obtain⟨hsl,hsg⟩:=d7h hss;have hal:=d1n t.args;have hjl:=g6g t.name ss;simp only[List.length_cons] at hjl;simp only[go_sem,Tryz.f58,k2,k3,a1q];refine a3m (fun i=>⟨[(3,.own 9 0 ((t.name::ss.take i).map .str)),(22,.slice (a2i t.args)),(23,.int .i64 t.args.length),(24,.int .i64 i)],[],[],1⟩) t.args.length ?_ ?_ ?_
       · simp only[go_sem,List.take_zero]
       · intro i hi hr;obtain⟨x,hx⟩:∃x,t.args[i]? =some x:=⟨t.args[i],List.getElem?_eq_getElem hi⟩
         obtain⟨sx,hpx,hsx⟩:=hsg i x hx;have hxs:=a2w (List.mem_of_getElem? hx);have d1:=e9p x;have d2:=harg f x sx (Nat.le_refl _) (by omega) hpx;rw[a0a] at d1 d2;have w1:IntKind.i64.wrap ((i:Int)+1)=((i+1:Nat):Int):=a0z (i+1) (by omega);have hap:((ss.take i).map AVal.str).length+1+1≤a0l:=by simp;unfold a0l;omega
         have hmap:(ss.take i).map AVal.str++[.str sx]=(ss.take (i+1)).map AVal.str:=by rw[a4c hsx];simp
         simp only[go_sem,a0e,decide_eq_true hi,a0c,a0i,d1i,hx,a0a,d1,d2,hap,hmap];refine hr _ ?_;simp only[go_sem,w1]
       · have hj:den E 61 [.slice (.str t.name::ss.map AVal.str),.str [32]] []=some (.str (Lib.join (t.name::ss) [32]),[]):=by
          rw[a8x i1l];simp only[d8k,b8l,g0q,Option.bind_some,Option.map_some];rw[if_pos ⟨by omega,by simp;omega⟩]
         have htk:ss.take t.args.length=ss:=by rw[←hsl];exact List.take_length
         simp only[go_sem,a0e,Nat.lt_irrefl,htk,hj]
 · simp only[k2,if_true] at h;split at h
   · rename_i hn;obtain⟨rfl,_⟩:=a6d h;have hd:den E 120 [.int .i64 t.n] []=some (.str (Lib.itoa t.n),[]):=by
      rw[a8x e1d];simp only[d5z];rw[if_pos (by omega)]
     have l1:1+(Lib.itoa t.n).length≤a1t:=by simp only[List.length_cons] at hlen;unfold a1t;omega
     simp only[go_sem,Tryz.f58,k2,hd,l1,Nat.zero_add]
   · cases h
def goodK(t:Ty):Bool:=t.kind==1||(t.kind==2||(t.kind==3||(t.kind==4||t.kind==5)))
end Go.Proofs
