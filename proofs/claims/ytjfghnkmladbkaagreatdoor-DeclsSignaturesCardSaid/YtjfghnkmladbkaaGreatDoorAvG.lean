/- The readers of types of the program and of the document agree. -/
import Derived.Test.YtjfghnkmladbkaaGreatDoorAvF
namespace Go.Proofs
open Go.Av
set_option maxHeartbeats 8000000
set_option maxRecDepth 100000
inductive Ty where
 | mk (kind : Int) (name : List UInt8) (n : Int) (args : List Ty)
def Ty.kind : Ty → Int | .mk k _ _ _ => k
def Ty.name : Ty → List UInt8 | .mk _ s _ _ => s
def Ty.n : Ty → Int | .mk _ _ n _ => n
def Ty.args : Ty → List Ty | .mk _ _ _ a => a
mutual
def tyV : Ty → AVal
 | .mk k s n a => .agg [.int .i64 k,.str s,.int .i64 n,.slice (tysV a)]
def tysV : List Ty → List AVal
 | [] => []
 | t :: r => tyV t :: tysV r
end
theorem tyV_eq (t : Ty) : tyV t = .agg [.int .i64 t.kind,.str t.name,.int .i64 t.n,.slice (tysV t.args)] := by cases t; simp [tyV,Ty.kind,Ty.name,Ty.n,Ty.args]
theorem tyV_mk (k : Int) (s : List UInt8) (n : Int) (a : List Ty) : tyV (.mk k s n a) = .agg [.int .i64 k,.str s,.int .i64 n,.slice (tysV a)] := by simp [tyV]
theorem tysV_map (l : List Ty) : tysV l = l.map tyV := by induction l <;> simp_all [tysV]
theorem tysV_nil : tysV [] = [] := by simp [tysV]
theorem tysV_cons (t : Ty) (r : List Ty) : tysV (t :: r) = tyV t :: tysV r := by simp [tysV]
theorem tysV_append (l r : List Ty) : tysV (l ++ r) = tysV l ++ tysV r := by simp [tysV_map]
theorem tysV_len (l : List Ty) : (tysV l).length = l.length := by simp [tysV_map]
def zTy : Ty := .mk 0 [] 0 []
theorem zTyV : tyV zTy = .agg [.int .i64 0,.str [],.int .i64 0,.slice []] := by simp [zTy,tyV,tysV]
theorem toksV_nil : toksV [] = [] := rfl
theorem toksV_cons (t : Tok) (r : List Tok) : toksV (t :: r) = .agg [.int .i64 t.kind,.str t.text,.int .i64 t.pos] :: toksV r := rfl
theorem toksV_len (l : List Tok) : (toksV l).length = l.length := by simp [toksV]
def seesT (l : List Tok) (kind : Int) (text : List UInt8) : Bool :=
 match l with
 | [] => false
 | t :: _ => t.kind == kind && (text == [] || t.text == text)
def textT (l : List Tok) : List UInt8 :=
 match l with
 | [] => []
 | t :: _ => t.text
theorem tsees_den (l : List Tok) (kind : Int) (text : List UInt8) : den E 246 [.ptr (.par 0) 0,.int .i64 kind,.str text] [[.slice (toksV l)]] = some (.bool (seesT l kind text),[[.slice (toksV l)]]) := by
 rw [den_eq prim_246,body_246]
 cases l with
 | nil => simp only [go_sem,Tryz.f246,toksV_nil,seesT,show decide ((0 : Int) > 0) = false from rfl]
 | cons t r =>
  have hl : decide ((((toksV r).length + 1 : Nat) : Int) > 0) = true := by simp
  cases h1 : t.kind == kind
  · simp only [go_sem,Tryz.f246,toksV_cons,hl,seesT,h1,Int.le_refl,Int.toNat_zero,List.length_cons]
  · cases h2 : text == []
    · cases h3 : t.text == text <;> simp only [go_sem,Tryz.f246,toksV_cons,hl,seesT,h1,h2,h3,Int.le_refl,Int.toNat_zero,List.length_cons]
    · simp only [go_sem,Tryz.f246,toksV_cons,hl,seesT,h1,h2,Int.le_refl,Int.toNat_zero,List.length_cons]
theorem seesT_cons {l : List Tok} {kind : Int} {text : List UInt8} (h : seesT l kind text = true) : ∃ t r,l = t :: r := by
 cases l with
 | nil => cases h
 | cons t r => exact ⟨t,r,rfl⟩
theorem ttakes_den (l : List Tok) (kind : Int) (text : List UInt8) : den E 215 [.ptr (.par 0) 0,.int .i64 kind,.str text] [[.slice (toksV l)]] =
 some (if seesT l kind text then .tup [.str (textT l),.bool true] else .tup [.str [],.bool false],[[.slice (toksV (if seesT l kind text then l.tail else l))]]) := by
 rw [den_eq prim_215,body_215]
 have hs := tsees_den l kind text
 cases h : seesT l kind text
 · rw [h] at hs
   simp only [go_sem,Tryz.f215,hs]
 · obtain ⟨t,r,rfl⟩ := seesT_cons h
   rw [h,toksV_cons] at hs
   simp only [go_sem,Tryz.f215,hs,toksV_cons,textT,Int.le_refl,Int.toNat_zero,List.tail_cons,List.length_cons,Nat.le_refl,Int.toNat_one,Nat.le_add_left,Int.zero_le_ofNat,List.take_length]
def tokOK (t : Tok) : Prop := t.kind = 5 → ∃ c r n,t.text = c :: r ∧ r.length ≤ 18 ∧ Lib.atoi r = some n
def metaN (s : List UInt8) : Int := (Lib.atoi s.tail).getD 0
inductive TM where
 | typ
 | all
 | app
 | atom
 | loop (name : List UInt8) (acc : List Ty)
def namesT : List Tok → List (List UInt8)
 | [] => []
 | t :: r => if t.kind == 1 then t.text :: namesT r else []
def tyR : Nat → TM → List Tok → Option (Ty × Bool × List Tok)
 | 0,_,_ => none
 | f + 1,m,l => match m with
  | .typ => if seesT l 3 [102,111,114,97,108,108] then tyR f .all l.tail else
   match tyR f .app l with
   | none => none
   | some (a,ok,l1) => if ok then (if seesT l1 6 [45,62] then (match tyR f .typ l1.tail with
    | none => none
    | some (b,ok2,l2) => some (.mk 4 [] 0 [a,b],ok2,l2)) else some (a,true,l1)) else some (zTy,false,l1)
  | .all => if seesT (l.drop (namesT l).length) 6 [46] then (match namesT l with
   | [] => some (zTy,false,l.tail)
   | n :: ns => match tyR f .typ ((l.drop (namesT l).length).tail) with
    | none => none
    | some (t,ok,l2) => some ((n :: ns).foldr (fun n t => .mk 5 n 0 [t]) t,ok,l2)) else some (zTy,false,l.drop (namesT l).length)
  | .app => if seesT l 2 [] then tyR f (.loop (textT l) []) l.tail else tyR f .atom l
  | .loop name acc => if seesT l 1 [] || (seesT l 5 [] || (seesT l 2 [] || seesT l 6 [40])) then (match tyR f .atom l with
   | none => none
   | some (x,ok,l1) => if ok then tyR f (.loop name (acc ++ [x])) l1 else some (zTy,false,l1)) else some (.mk 3 name 0 acc,true,l)
  | .atom => if seesT l 1 [] then some (.mk 1 (textT l) 0 [],true,l.tail) else if seesT l 2 [] then some (.mk 3 (textT l) 0 [],true,l.tail) else
   if seesT l 5 [] then some (.mk 2 [] (metaN (textT l)) [],true,l.tail) else if seesT l 6 [40] then (match tyR f .typ l.tail with
    | none => none
    | some (t,ok,l1) => if ok then some (t,seesT l1 6 [41],if seesT l1 6 [41] then l1.tail else l1) else some (zTy,false,l1)) else some (zTy,false,l)
theorem tail_suf (l : List Tok) : l.tail <:+ l := List.tail_suffix l
theorem tyR_suf : ∀ (f : Nat) (m : TM) (l : List Tok) (t : Ty) (ok : Bool) (l' : List Tok),tyR f m l = some (t,ok,l') → l' <:+ l := by
 intro f
 induction f with
 | zero => intro m l t ok l' h; cases h
 | succ f ih =>
  intro m l t ok l' h
  have fin : ∀ {t1 t2 : Ty} {o1 o2 : Bool} {l1 l2 : List Tok},some (t1,o1,l1) = some (t2,o2,l2) → l1 <:+ l → l2 <:+ l := fun h1 h2 => by
   simp only [Option.some.injEq,Prod.mk.injEq] at h1
   obtain ⟨_,_,rfl⟩ := h1; exact h2
  cases m with
  | typ =>
   simp only [tyR] at h
   split at h
   · exact (ih _ _ _ _ _ h).trans (tail_suf l)
   · split at h
     · cases h
     · rename_i a ok1 l1 h1
       have s1 := ih _ _ _ _ _ h1
       split at h
       · split at h
         · split at h
           · cases h
           · rename_i b ok2 l2 h2
             exact fin h ((ih _ _ _ _ _ h2).trans ((tail_suf l1).trans s1))
         · exact fin h s1
       · exact fin h s1
  | all =>
   simp only [tyR] at h
   split at h
   · split at h
     · exact fin h (tail_suf l)
     · split at h
       · cases h
       · rename_i t2 ok2 l2 h2
         exact fin h ((ih _ _ _ _ _ h2).trans ((tail_suf _).trans (List.drop_suffix _ _)))
   · exact fin h (List.drop_suffix _ _)
  | app =>
   simp only [tyR] at h
   split at h
   · exact (ih _ _ _ _ _ h).trans (tail_suf l)
   · exact ih _ _ _ _ _ h
  | loop name acc =>
   simp only [tyR] at h
   split at h
   · split at h
     · cases h
     · rename_i a ok1 l1 h1
       split at h
       · exact (ih _ _ _ _ _ h).trans (ih _ _ _ _ _ h1)
       · exact fin h (ih _ _ _ _ _ h1)
   · exact fin h (List.suffix_refl _)
  | atom =>
   simp only [tyR] at h
   split at h
   · exact fin h (tail_suf l)
   · split at h
     · exact fin h (tail_suf l)
     · split at h
       · exact fin h (tail_suf l)
       · split at h
         · split at h
           · cases h
           · rename_i t2 ok2 l2 h2
             have s2 := (ih _ _ _ _ _ h2).trans (tail_suf l)
             split at h
             · refine fin h ?_
               split
               · exact (tail_suf l2).trans s2
               · exact s2
             · exact fin h s2
         · exact fin h (List.suffix_refl _)
theorem tail_lt {l : List Tok} {k : Int} {s : List UInt8} (h : seesT l k s = true) : l.tail.length < l.length := by
 obtain ⟨t,r,rfl⟩ := seesT_cons h
 simp
theorem atom_lt {f : Nat} {l : List Tok} {t : Ty} {l' : List Tok} (h : tyR f .atom l = some (t,true,l')) : l'.length < l.length := by
 cases f with
 | zero => cases h
 | succ f =>
  simp only [tyR] at h
  have fin : ∀ {t1 t2 : Ty} {o1 o2 : Bool} {l1 l2 : List Tok},some (t1,o1,l1) = some (t2,o2,l2) → l1.length < l.length → l2.length < l.length := fun h1 h2 => by
   simp only [Option.some.injEq,Prod.mk.injEq] at h1
   obtain ⟨_,_,rfl⟩ := h1; exact h2
  split at h
  · exact fin h (tail_lt (by assumption))
  · split at h
    · exact fin h (tail_lt (by assumption))
    · split at h
      · exact fin h (tail_lt (by assumption))
      · split at h
        · rename_i h6
          have := tail_lt h6
          split at h
          · cases h
          · rename_i t2 ok2 l2 h2
            have s2 := (tyR_suf _ _ _ _ _ _ h2).length_le
            split at h
            · refine fin h ?_
              split
              · have := (tail_suf l2).length_le; omega
              · omega
            · exact fin h (by omega)
        · simp at h
def encT (r : Ty × Bool × List Tok) : Option (AVal × Heap) := some (.tup [tyV r.1,.bool r.2.1],[[.slice (toksV r.2.2)]])
def MDen : TM → List Tok → Ty × Bool × List Tok → Prop
 | .typ,l,r => den E 153 [.ptr (.par 0) 0] [[.slice (toksV l)]] = encT r
 | .all,l,r => den E 216 [.ptr (.par 0) 0] [[.slice (toksV l)]] = encT r
 | .app,l,r => den E 217 [.ptr (.par 0) 0] [[.slice (toksV l)]] = encT r
 | .atom,l,r => den E 247 [.ptr (.par 0) 0] [[.slice (toksV l)]] = encT r
 | .loop _ _,_,_ => True
theorem tyR_den : ∀ (f : Nat) (m : TM) (l : List Tok) (r : Ty × Bool × List Tok),(∀ t ∈ l,tokOK t) → l.length < 1000000 → tyR f m l = some r → MDen m l r := by
 intro f
 induction f using Nat.strongRecOn with
 | _ f ih =>
 intro m l r hok hlen h
 cases f with
 | zero => cases h
 | succ f =>
 cases m with
 | typ =>
  simp only [MDen]
  simp only [tyR] at h
  rw [den_eq prim_153,body_153]
  have t0 := ttakes_den l 3 [102,111,114,97,108,108]
  cases b0 : seesT l 3 [102,111,114,97,108,108]
  · rw [b0] at h t0
    simp only [Bool.false_eq_true,if_false] at h t0
    split at h
    · cases h
    · rename_i a ok l1 h1
      have i1 := ih f (by omega) .app l _ hok hlen h1
      simp only [MDen,encT,tyV_eq] at i1
      cases ok
      · simp only [Bool.false_eq_true,if_false] at h
        injection h with h; subst h
        simp only [go_sem,Tryz.f153,t0,i1,encT,zTyV]
      · simp only [if_true] at h
        have t1 := ttakes_den l1 6 [45,62]
        cases b1 : seesT l1 6 [45,62]
        · rw [b1] at h t1
          simp only [Bool.false_eq_true,if_false] at h t1
          injection h with h; subst h
          simp only [go_sem,Tryz.f153,t0,i1,t1,encT,tyV_eq]
        · rw [b1] at h t1
          simp only [if_true] at h t1
          split at h
          · cases h
          · rename_i b ok2 l2 h2
            have sub := (tail_suf l1).trans (tyR_suf _ _ _ _ _ _ h1)
            have i2 := ih f (by omega) .typ l1.tail _ (fun t ht => hok t (sub.subset ht)) (Nat.lt_of_le_of_lt sub.length_le hlen) h2
            simp only [MDen,encT,tyV_eq] at i2
            injection h with h; subst h
            simp only [go_sem,Tryz.f153,t0,i1,t1,i2,encT,tysV_nil,tysV_cons,tyV_eq,Ty.kind,Ty.name,Ty.n,Ty.args]
  · rw [b0] at h t0
    simp only [if_true] at h t0
    have sub := tail_suf l
    have i1 := ih f (by omega) .all l.tail _ (fun t ht => hok t (sub.subset ht)) (Nat.lt_of_le_of_lt sub.length_le hlen) h
    simp only [MDen,encT,tyV_eq] at i1
    simp only [go_sem,Tryz.f153,t0,i1,encT,tyV_eq]
 | all =>
  simp only [MDen]
  rw [den_eq prim_216,body_216]
  simp only [go_sem,Tryz.f216]
  refine run_ind (fun x : List (List UInt8) × List Tok => x.2 = l.drop x.1.length ∧ namesT l = x.1 ++ namesT x.2 ∧ x.1.length + x.2.length ≤ l.length) (fun x => ⟨[(0,.ptr (.par 0) 0),(2,.ptr (.loc 2) 0),(4,.own 9 0 (x.1.map .str))],[[.slice (toksV x.2)]],[(2,[.int .i64 0,.str [],.int .i64 0,.own 25 0 []])],1⟩)
   (fun _ => encT r) (fun x => x.2.length) ([],l) ⟨by simp,by simp,by simp⟩ ?_ ?_
  · simp only [go_sem,List.map_nil]
  · rintro ⟨names,lx⟩ ⟨hdrop,hnames,hle⟩ hrun
    simp only at hdrop hnames hle hrun ⊢
    have t1 := ttakes_den lx 1 []
    cases b1 : seesT lx 1 []
    · -- no more names
      have hnx : namesT lx = [] := by
       cases lx with
       | nil => rfl
       | cons t q => simp only [seesT] at b1; simp only [namesT]; rw [show (t.kind == 1) = false by simpa using b1]; rfl
      rw [hnx,List.append_nil] at hnames
      simp only [tyR,hnames,← hdrop] at h
      rw [b1] at t1
      simp only [Bool.false_eq_true,if_false] at t1
      have t6 := ttakes_den lx 6 [46]
      cases b6 : seesT lx 6 [46]
      · rw [b6] at h t6
        simp only [Bool.false_eq_true,if_false] at h t6
        injection h with h; subst h
        simp only [go_sem,t1,t6,encT,zTyV]
      · rw [b6] at h t6
        simp only [if_true] at h t6
        cases names with
        | nil =>
         simp only [List.length_nil,List.drop_zero] at hdrop
         subst hdrop
         simp only at h
         injection h with h; subst h
         simp only [go_sem,t1,t6,encT,zTyV,List.map_nil]
        | cons n0 ns =>
         simp only at h
         split at h
         · cases h
         · rename_i t ok l2 h2
           injection h with h
           have sub : lx.tail <:+ l := (tail_suf lx).trans (hdrop ▸ List.drop_suffix _ _)
           have i1 := ih f (by omega) .typ lx.tail _ (fun t ht => hok t (sub.subset ht)) (Nat.lt_of_le_of_lt sub.length_le hlen) h2
           simp only [MDen,encT,tyV_eq] at i1
           generalize hN : n0 :: ns = N at *
           have hN0 : ((((N.map AVal.str).length : Nat) : Int) == 0) = false := by
            rw [← hN,nat_eq0]; simp
           have hNl : N.length < 1000000 := by omega
           have w1 : IntKind.i64.wrap (((N.map AVal.str).length : Int) - 1) = (N.length : Int) - 1 := by
            rw [List.length_map]; exact IntWalk.i64_in _ (by omega)
           simp only [go_sem,t1,t6,hN0,i1,w1]
           refine (run_ind (fun k : Nat => k ≤ N.length) (fun k => ⟨[(2,.ptr (.loc 2) 0),(4,.own 9 0 (N.map .str)),(9,.ptr (.loc 9) 0),(10,.bool ok),(11,.int .i64 ((k : Int) - 1))],[[.slice (toksV l2)]],
            [(2,[.int .i64 0,.str [],.int .i64 0,.own 25 0 []]),(9,[.int .i64 ((N.drop k).foldr (fun n t => Ty.mk 5 n 0 [t]) t).kind,.str ((N.drop k).foldr (fun n t => Ty.mk 5 n 0 [t]) t).name,.int .i64 ((N.drop k).foldr (fun n t => Ty.mk 5 n 0 [t]) t).n,.slice (tysV ((N.drop k).foldr (fun n t => Ty.mk 5 n 0 [t]) t).args)])],1⟩)
            (fun _ => encT r) (fun k => k) N.length (Nat.le_refl _) ?_ ?_)
           · simp only [go_sem,List.drop_length,List.foldr_nil]
           · intro k hk hrun2
             cases k with
             | zero =>
              simp only [go_sem,List.drop_zero,Int.zero_sub,show decide ((-1 : Int) ≥ 0) = false from rfl]
              rw [← h]
              simp only [encT,tyV_eq]
             | succ k =>
              have hk2 : k < N.length := by omega
              have e1 : ((k + 1 : Nat) : Int) - 1 = (k : Int) := by omega
              have ge : decide ((k : Int) ≥ 0) = true := by simp
              have hg : (N.map AVal.str)[k]? = some (.str N[k]) := by rw [List.getElem?_map,List.getElem?_eq_getElem hk2]; rfl
              have w2 : IntKind.i64.wrap ((k : Int) - 1) = (k : Int) - 1 := IntWalk.i64_in _ (by omega)
              have hd : N.drop k = N[k] :: N.drop (k + 1) := List.drop_eq_getElem_cons hk2
              simp only [go_sem,e1,natge0,tonat,hg,w2]
              refine hrun2 k _ (by omega) (by omega) ?_
              simp only [go_sem,hd,List.foldr_cons,Ty.kind,Ty.name,Ty.n,Ty.args,tysV_cons,tysV_nil,tyV_eq]
    · obtain ⟨tk,q,rfl⟩ := seesT_cons b1
      have hk : (tk.kind == 1) = true := by simpa [seesT] using b1
      have hnx : namesT (tk :: q) = tk.text :: namesT q := by simp only [namesT,hk,if_true]
      rw [b1] at t1
      simp only [if_true,textT,List.tail_cons] at t1
      have hap : (names.map AVal.str).length + 1 ≤ appMax := by
       rw [List.length_map]; simp only [List.length_cons] at hle; unfold appMax; omega
      have hmap : names.map AVal.str ++ [.str tk.text] = (names ++ [tk.text]).map AVal.str := by simp
      simp only [go_sem,t1,hap,hmap]
      refine hrun (names ++ [tk.text],q) _ ⟨?_,?_,?_⟩ ?_ ?_
      · simp only [List.length_append,List.length_singleton]
        rw [← List.drop_drop,← hdrop]; rfl
      · simp only [hnames,hnx,List.append_assoc,List.singleton_append]
      · simp only [List.length_append,List.length_singleton]; simp only [List.length_cons] at hle; omega
      · simp
      · simp only [go_sem]
 | app =>
  simp only [MDen]
  simp only [tyR] at h
  rw [den_eq prim_217,body_217]
  have t1 := ttakes_den l 2 []
  cases b1 : seesT l 2 []
  · rw [b1] at h t1
    simp only [Bool.false_eq_true,if_false] at h t1
    have i1 := ih f (by omega) .atom l _ hok hlen h
    simp only [MDen,encT,tyV_eq] at i1
    simp only [go_sem,Tryz.f217,t1,i1,encT,tyV_eq]
  · rw [b1] at h t1
    simp only [if_true] at h t1
    simp only [go_sem,Tryz.f217,t1]
    generalize hname : textT l = name at *
    refine run_ind (fun x : Nat × List Ty × List Tok => x.1 ≤ f ∧ x.2.2 <:+ l ∧ x.2.1.length + x.2.2.length ≤ l.length ∧ tyR x.1 (.loop name x.2.1) x.2.2 = some r) (fun x => ⟨[(0,.ptr (.par 0) 0),(2,.ptr (.loc 2) 0),(6,.ptr (.loc 6) 0)],[[.slice (toksV x.2.2)]],[(2,[.int .i64 0,.str [],.int .i64 0,.own 25 0 []]),(6,[.int .i64 3,.str name,.int .i64 0,.own 25 0 (tysV x.2.1)])],1⟩)
     (fun _ => encT r) (fun x => x.1) (f,[],l.tail) ⟨Nat.le_refl _,tail_suf l,by simp,h⟩ ?_ ?_
    · simp only [go_sem,tysV_nil]
    · rintro ⟨g,acc,lx⟩ ⟨hg,hsf,hal,hx⟩ hrun
      simp only at hg hsf hal hx hrun ⊢
      have s1 := tsees_den lx 1 []
      have s5 := tsees_den lx 5 []
      have s2 := tsees_den lx 2 []
      have s6 := tsees_den lx 6 [40]
      cases g with
      | zero => cases hx
      | succ g =>
       simp only [tyR] at hx
       have step : (seesT lx 1 [] || (seesT lx 5 [] || (seesT lx 2 [] || seesT lx 6 [40]))) = true → ∃ x ok l1,tyR g .atom lx = some (x,ok,l1) ∧ (if ok = true then tyR g (.loop name (acc ++ [x])) l1 else some (zTy,false,l1)) = some r := fun hb => by
        rw [hb] at hx
        simp only [if_true] at hx
        split at hx
        · cases hx
        · rename_i x ok l1 h1
          exact ⟨x,ok,l1,h1,hx⟩
       have more : ∀ x ok l1,tyR g .atom lx = some (x,ok,l1) → den E 247 [.ptr (.par 0) 0] [[.slice (toksV lx)]] = some (.tup [.agg [.int .i64 x.kind,.str x.name,.int .i64 x.n,.slice (tysV x.args)],.bool ok],[[.slice (toksV l1)]]) := fun x ok l1 h1 => by
        have i1 := ih g (by omega) .atom lx _ (fun t ht => hok t (hsf.subset ht)) (Nat.lt_of_le_of_lt hsf.length_le hlen) h1
        simpa only [MDen,encT,tyV_eq] using i1
       have go : ∀ x l1,tyR g .atom lx = some (x,true,l1) → tyR g (.loop name (acc ++ [x])) l1 = some r → (tysV acc).length + 1 ≤ appMax ∧ tysV acc ++ [.agg [.int .i64 x.kind,.str x.name,.int .i64 x.n,.slice (tysV x.args)]] = tysV (acc ++ [x]) ∧
        (g ≤ f ∧ l1 <:+ l ∧ (acc ++ [x]).length + l1.length ≤ l.length ∧ tyR g (.loop name (acc ++ [x])) l1 = some r) := fun x l1 h1 h2 => by
        have hlt := atom_lt h1
        refine ⟨?_,?_,by omega,(tyR_suf _ _ _ _ _ _ h1).trans hsf,?_,h2⟩
        · rw [tysV_len]; unfold appMax; omega
        · rw [tysV_append,tysV_cons,tysV_nil,tyV_eq]
        · simp only [List.length_append,List.length_singleton]; omega
       cases b1 : seesT lx 1 []
       · cases b5 : seesT lx 5 []
         · cases b2 : seesT lx 2 []
           · cases b6 : seesT lx 6 [40]
             · rw [b1,b5,b2,b6] at hx
               simp only [Bool.or_false,Bool.false_eq_true,if_false] at hx
               injection hx with hx; subst hx
               simp only [go_sem,s1,s2,s5,s6,b1,b5,b2,b6,encT,tyV_mk]
             · obtain ⟨x,ok,l1,h1,h2⟩ := step (by simp [b1,b5,b2,b6])
               have m1 := more x ok l1 h1
               cases ok
               · simp only [Bool.false_eq_true,if_false] at h2
                 injection h2 with h2; subst h2
                 simp only [go_sem,s1,s2,s5,s6,b1,b5,b2,b6,m1,encT,zTyV]
               · simp only [if_true] at h2
                 obtain ⟨q1,q2,q3⟩ := go x l1 h1 h2
                 simp only [go_sem,s1,s2,s5,s6,b1,b5,b2,b6,m1,q1,q2]
                 exact hrun (g,acc ++ [x],l1) _ q3 (by simp only; omega) (by simp only [go_sem])
           · obtain ⟨x,ok,l1,h1,h2⟩ := step (by simp [b1,b5,b2])
             have m1 := more x ok l1 h1
             cases ok
             · simp only [Bool.false_eq_true,if_false] at h2
               injection h2 with h2; subst h2
               simp only [go_sem,s1,s2,s5,b1,b5,b2,m1,encT,zTyV]
             · simp only [if_true] at h2
               obtain ⟨q1,q2,q3⟩ := go x l1 h1 h2
               simp only [go_sem,s1,s2,s5,b1,b5,b2,m1,q1,q2]
               exact hrun (g,acc ++ [x],l1) _ q3 (by simp only; omega) (by simp only [go_sem])
         · obtain ⟨x,ok,l1,h1,h2⟩ := step (by simp [b1,b5])
           have m1 := more x ok l1 h1
           cases ok
           · simp only [Bool.false_eq_true,if_false] at h2
             injection h2 with h2; subst h2
             simp only [go_sem,s1,s5,b1,b5,m1,encT,zTyV]
           · simp only [if_true] at h2
             obtain ⟨q1,q2,q3⟩ := go x l1 h1 h2
             simp only [go_sem,s1,s5,b1,b5,m1,q1,q2]
             exact hrun (g,acc ++ [x],l1) _ q3 (by simp only; omega) (by simp only [go_sem])
       · obtain ⟨x,ok,l1,h1,h2⟩ := step (by simp [b1])
         have m1 := more x ok l1 h1
         cases ok
         · simp only [Bool.false_eq_true,if_false] at h2
           injection h2 with h2; subst h2
           simp only [go_sem,s1,b1,m1,encT,zTyV]
         · simp only [if_true] at h2
           obtain ⟨q1,q2,q3⟩ := go x l1 h1 h2
           simp only [go_sem,s1,b1,m1,q1,q2]
           exact hrun (g,acc ++ [x],l1) _ q3 (by simp only; omega) (by simp only [go_sem])
 | loop name acc => trivial
 | atom =>
  simp only [MDen]
  simp only [tyR] at h
  rw [den_eq prim_247,body_247]
  have t1 := ttakes_den l 1 []
  cases b1 : seesT l 1 []
  · rw [b1] at h t1
    simp only [Bool.false_eq_true,if_false] at h t1
    have t2 := ttakes_den l 2 []
    cases b2 : seesT l 2 []
    · rw [b2] at h t2
      simp only [Bool.false_eq_true,if_false] at h t2
      have t3 := ttakes_den l 5 []
      cases b3 : seesT l 5 []
      · rw [b3] at h t3
        simp only [Bool.false_eq_true,if_false] at h t3
        have t4 := ttakes_den l 6 [40]
        cases b4 : seesT l 6 [40]
        · rw [b4] at h t4
          simp only [Bool.false_eq_true,if_false] at h t4
          injection h with h; subst h
          simp only [go_sem,Tryz.f247,t1,t2,t3,t4,encT,zTyV]
        · rw [b4] at h t4
          simp only [if_true] at h t4
          split at h
          · cases h
          · rename_i t ok l1 h1
            have sub := tail_suf l
            have i1 := ih f (by omega) .typ l.tail _ (fun t ht => hok t (sub.subset ht)) (Nat.lt_of_le_of_lt sub.length_le hlen) h1
            simp only [MDen,encT,tyV_eq] at i1
            cases ok
            · simp only [Bool.false_eq_true,if_false] at h
              injection h with h; subst h
              simp only [go_sem,Tryz.f247,t1,t2,t3,t4,i1,encT,zTyV]
            · simp only [if_true] at h
              have t5 := ttakes_den l1 6 [41]
              injection h with h; subst h
              cases b5 : seesT l1 6 [41] <;>
              · rw [b5] at t5
                simp only [Bool.false_eq_true,if_false,if_true] at t5
                simp only [go_sem,Tryz.f247,t1,t2,t3,t4,i1,t5,encT,tyV_eq]
      · rw [b3] at h t3
        simp only [if_true] at h t3
        injection h with h; subst h
        obtain ⟨tk,r,rfl⟩ := seesT_cons b3
        have hk : tk.kind = 5 := by simpa [seesT] using b3
        obtain ⟨c,ds,n,e1,e2,e3⟩ := hok tk (by simp) hk
        have hA : den E 229 [.str ds] [] = some (.tup [.int .i64 n,.nilf],[]) := by
         have hne : ds ≠ [] := fun h0 => by rw [h0] at e3; cases e3
         rw [den_prim prim_229]; simp [atoiP,e2,e3,hne]
        have hm : metaN tk.text = n := by simp [metaN,e1,e3]
        simp only [textT,e1] at t3
        simp only [go_sem,Tryz.f247,t1,t2,t3,encT,tyV_mk,tysV_nil,textT,hm,hA,List.length_cons,Int.toNat_one,Int.zero_le_ofNat,Nat.le_refl,Nat.le_add_left,List.take_length]
    · rw [b2] at h t2
      simp only [if_true] at h t2
      injection h with h; subst h
      simp only [go_sem,Tryz.f247,t1,t2,encT,tyV_mk,tysV_nil]
  · rw [b1] at h t1
    simp only [if_true] at h t1
    injection h with h; subst h
    simp only [go_sem,Tryz.f247,t1,encT,tyV_mk,tysV_nil]
def numS (s : List UInt8) : Nat := s.foldl (fun n c => 10 * n + (c.toNat - 48)) 0
theorem numS_snoc (s : List UInt8) (c : UInt8) : numS (s ++ [c]) = 10 * numS s + (c.toNat - 48) := by simp [numS]
theorem digit_bound {c : UInt8} (h : digitB c = true) : 48 ≤ c.toNat ∧ c.toNat ≤ 57 := by
 unfold digitB at h
 simp only [Bool.and_eq_true,decide_eq_true_eq] at h
 omega
theorem numS_lt : ∀ (s : List UInt8),(∀ c ∈ s,digitB c = true) → numS s < 10 ^ s.length := by
 intro s
 suffices h : ∀ (s : List UInt8) (a : Nat),(∀ c ∈ s,digitB c = true) → s.foldl (fun n c => 10 * n + (c.toNat - 48)) a < (a + 1) * 10 ^ s.length by
  intro hd; have := h s 0 hd; simpa [numS] using this
 intro s
 induction s with
 | nil => intro a _; simp
 | cons c r ih =>
  intro a hd
  have hc := digit_bound (hd c (by simp))
  have := ih (10 * a + (c.toNat - 48)) (fun x hx => hd x (by simp [hx]))
  simp only [List.foldl_cons,List.length_cons]
  refine Nat.lt_of_lt_of_le this ?_
  rw [Nat.pow_succ,Nat.mul_comm (10 ^ r.length) 10,← Nat.mul_assoc]
  exact Nat.mul_le_mul_right _ (by omega)
theorem number2_den (s : List UInt8) (hd : ∀ c ∈ s,digitB c = true) (hl : s.length ≤ 6) : den E 248 [.str s] [] = some (.int .i64 (numS s),[]) := by
 rw [den_eq prim_248,body_248]
 simp only [go_sem,Tryz.f248]
 refine run_for (fun i => ⟨[(0,.str s),(3,.int .i64 (numS (s.take i))),(4,.int .i64 i)],[],[],1⟩) s.length ?_ ?_ ?_
 · simp only [go_sem,List.take_zero,show numS [] = 0 from rfl]
 · intro i hi h
   have hlt : decide (i < s.length) = true := by simpa using hi
   obtain ⟨c,hc,hdd⟩ := drop_get hi
   have hcd := digit_bound (hd c (List.mem_of_getElem? hc))
   have hb : numS (s.take i) < 1000000 := by
    have h1 := numS_lt (s.take i) (fun x hx => hd x (List.mem_of_mem_take hx))
    refine Nat.lt_of_lt_of_le h1 ?_
    exact Nat.le_trans (Nat.pow_le_pow_right (by omega) (show (s.take i).length ≤ 6 by simp; omega)) (by decide)
   have w1 : IntKind.i64.wrap (10 * ((numS (s.take i) : Nat) : Int)) = ((10 * numS (s.take i) : Nat) : Int) := by
    rw [show (10 * ((numS (s.take i) : Nat) : Int)) = ((10 * numS (s.take i) : Nat) : Int) by omega]; exact wrapN _ (by omega)
   have w2 : IntKind.u8.wrap ((c.toNat : Int) - 48) = ((c.toNat - 48 : Nat) : Int) := by
    rw [IntWalk.u8_in _ (by omega)]; omega
   have w3 : IntKind.i64.wrap ((c.toNat - 48 : Nat) : Int) = ((c.toNat - 48 : Nat) : Int) := wrapN _ (by omega)
   have w4 : IntKind.i64.wrap (((10 * numS (s.take i) : Nat) : Int) + ((c.toNat - 48 : Nat) : Int)) = ((10 * numS (s.take i) + (c.toNat - 48) : Nat) : Int) := wrapN (10 * numS (s.take i) + (c.toNat - 48)) (by omega)
   have w5 : IntKind.i64.wrap ((i : Int) + 1) = ((i + 1 : Nat) : Int) := wrapN (i + 1) (by omega)
   have e : numS (s.take (i + 1)) = 10 * numS (s.take i) + (c.toNat - 48) := by
    rw [← numS_snoc]
    congr 1
    rw [List.take_succ_eq_append_getElem hi]
    congr 1
    rw [List.getElem?_eq_getElem hi] at hc
    injection hc with hc; rw [hc]
   simp only [go_sem,natlt,hlt,natge0,tonat,hc,w1,w2,w3,w4]
   refine h _ ?_
   simp only [go_sem,w5,e]
 · simp only [go_sem,natlt,show decide (s.length < s.length) = false by simp,List.take_length]
theorem decFrom_num : ∀ (s : List UInt8) (a : Nat),(∀ c ∈ s,digitB c = true) → Lib.decFrom a s = some (s.foldl (fun n c => 10 * n + (c.toNat - 48)) a)
 | [],a,_ => rfl
 | c :: r,a,hd => by
  have hc := digit_bound (hd c (by simp))
  simp only [Lib.decFrom,Lib.digitVal,hc,and_self,if_true,List.foldl_cons]
  rw [decFrom_num r _ (fun x hx => hd x (by simp [hx])),Nat.mul_comm]
theorem atoi_num {s : List UInt8} (hd : ∀ c ∈ s,digitB c = true) (hne : s ≠ []) : Lib.atoi s = some (numS s : Int) := by
 cases s with
 | nil => exact absurd rfl hne
 | cons c r =>
  have hc := digit_bound (hd c (by simp))
  have h1 : (c == 45) = false := by rw [beq_eq_false_iff_ne]; intro e; subst e; simp at hc
  have h2 : (c == 43) = false := by rw [beq_eq_false_iff_ne]; intro e; subst e; simp at hc
  have h3 : Lib.decNat (c :: r) = some (numS (c :: r)) := by
   unfold Lib.decNat
   rw [decFrom_num _ _ hd]; rfl
  simp only [Lib.atoi,h1,h2,Bool.false_eq_true,if_false,h3,Option.map_some]
def tokOK2 (t : Tok) : Prop := (t.kind = 5 → ∃ c r,t.text = c :: r ∧ r ≠ [] ∧ r.length ≤ 6 ∧ ∀ x ∈ r,digitB x = true) ∧ (t.text = [40] → t.kind = 6)
theorem tokOK2.one {t : Tok} (h : tokOK2 t) : tokOK t := fun hk => by
 obtain ⟨c,r,h1,h2,h3,h4⟩ := h.1 hk
 exact ⟨c,r,_,h1,by omega,atoi_num h4 h2⟩
theorem toksV_get (l : List Tok) (i : Nat) : (toksV l)[i]? = (l[i]?).map tokV := by simp [toksV]
theorem head_get {full : List Tok} {i : Nat} {t : Tok} {q : List Tok} (h : full.drop i = t :: q) : full[i]? = some t ∧ i < full.length ∧ full.drop (i + 1) = q := by
 have h1 : (full.drop i)[0]? = some t := by rw [h]; rfl
 rw [List.getElem?_drop] at h1
 refine ⟨by simpa using h1,?_,?_⟩
 · rcases Nat.lt_or_ge i full.length with h2 | h2
   · exact h2
   · rw [List.drop_eq_nil_of_le h2] at h; cases h
 · rw [← List.drop_drop,h]; rfl
theorem is_den (full : List Tok) (i : Nat) (kind : Int) (text : List UInt8) : den E 130 [.slice (toksV full),.int .i64 i,.int .i64 kind,.str text] [] = some (.bool (seesT (full.drop i) kind text),[]) := by
 rw [den_eq prim_130,body_130]
 by_cases hlt : i < full.length
 · obtain ⟨t,hg⟩ : ∃ t,full[i]? = some t := ⟨full[i],List.getElem?_eq_getElem hlt⟩
   have hd : full.drop i = t :: full.drop (i + 1) := by
    rw [List.drop_eq_getElem_cons hlt]; rw [List.getElem?_eq_getElem hlt] at hg; injection hg with hg; rw [hg]
   rw [hd]
   cases h1 : t.kind == kind
   · simp only [go_sem,Tryz.f130,natlt,toksV_len,decide_eq_true hlt,natge0,tonat,toksV_get,hg,tokV,h1,seesT]
   · cases h2 : text == []
     · cases h3 : t.text == text <;> simp only [go_sem,Tryz.f130,natlt,toksV_len,decide_eq_true hlt,natge0,tonat,toksV_get,hg,tokV,h1,h2,h3,seesT]
     · simp only [go_sem,Tryz.f130,natlt,toksV_len,decide_eq_true hlt,natge0,tonat,toksV_get,hg,tokV,h1,h2,seesT]
 · rw [List.drop_eq_nil_of_le (by omega)]
   simp only [go_sem,Tryz.f130,natlt,toksV_len,decide_eq_false hlt,seesT]
theorem suf_drop {l' full : List Tok} (h : l' <:+ full) : full.drop (full.length - l'.length) = l' := (List.suffix_iff_eq_drop.1 h).symm
def RR (full : List Tok) (r : Ty × Bool × List Tok) (t' : Ty) (j : Int) : Prop := if r.2.1 = true then t' = r.1 ∧ j = ((full.length - r.2.2.length : Nat) : Int) else j = -1
def RDen (full : List Tok) (i : Nat) (r : Ty × Bool × List Tok) : TM → Prop
 | .typ => ∃ t' j,den E 94 [.slice (toksV full),.int .i64 i] [] = some (.tup [tyV t',.int .i64 j],[]) ∧ RR full r t' j
 | .app => ∃ t' j,den E 157 [.slice (toksV full),.int .i64 i] [] = some (.tup [tyV t',.int .i64 j],[]) ∧ RR full r t' j
 | .atom => ∃ t' j,den E 219 [.slice (toksV full),.int .i64 i] [] = some (.tup [tyV t',.int .i64 j],[]) ∧ RR full r t' j
 | _ => True
theorem RR_ok {full : List Tok} {t : Ty} {l' : List Tok} {t' : Ty} {j : Int} (h : RR full (t,true,l') t' j) : t' = t ∧ j = ((full.length - l'.length : Nat) : Int) := by simpa [RR] using h
theorem RR_no {full : List Tok} {t : Ty} {l' : List Tok} {t' : Ty} {j : Int} (h : RR full (t,false,l') t' j) : j = -1 := by simpa [RR] using h
theorem sees_text {l : List Tok} {k : Int} {s : List UInt8} {t : Tok} {q : List Tok} (hl : l = t :: q) : seesT l k s = (t.kind == k && (s == [] || t.text == s)) := by subst hl; rfl
theorem namesT_lt : ∀ {l : List Tok} {j : Nat},j < (namesT l).length → ∃ t,l[j]? = some t ∧ (t.kind == 1) = true ∧ (namesT l)[j]? = some t.text
 | [],j,h => by simp [namesT] at h
 | t :: r,j,h => by
  simp only [namesT] at h ⊢
  split at h
  · rename_i hk
    cases j with
    | zero => exact ⟨t,rfl,hk,by rw [if_pos hk]; rfl⟩
    | succ j =>
     obtain ⟨t',h1,h2,h3⟩ := namesT_lt (l := r) (j := j) (by simpa using h)
     exact ⟨t',h1,h2,by rw [if_pos hk]; exact h3⟩
  · simp at h
theorem namesT_at : ∀ {l : List Tok},(namesT l).length < l.length → ∃ t,l[(namesT l).length]? = some t ∧ (t.kind == 1) = false
 | [],h => by simp at h
 | t :: r,h => by
  simp only [namesT] at h ⊢
  split
  · rename_i hk
    rw [if_pos hk] at h
    exact namesT_at (l := r) (by simpa using h)
  · rename_i hk
    exact ⟨t,rfl,by simpa using hk⟩
theorem namesT_le : ∀ (l : List Tok),(namesT l).length ≤ l.length
 | [] => by simp [namesT]
 | t :: r => by
  simp only [namesT]
  split
  · have := namesT_le r; simp; omega
  · simp
theorem tyR_ref (full : List Tok) (hok : ∀ t ∈ full,tokOK2 t) (hlen : full.length < 1000000) : ∀ (f : Nat) (m : TM) (i : Nat) (r : Ty × Bool × List Tok),i ≤ full.length → tyR f m (full.drop i) = some r → RDen full i r m := by
 intro f
 induction f using Nat.strongRecOn with
 | _ f ih =>
 intro m i r hi h
 cases f with
 | zero => cases h
 | succ f =>
 cases m with
 | all => trivial
 | loop _ _ => trivial
 | atom =>
  simp only [RDen]
  simp only [tyR] at h
  cases hl : full.drop i with
  | nil =>
   rw [hl] at h
   simp only [seesT,Bool.false_eq_true,if_false] at h
   injection h with h; subst h
   have hge : decide ((i : Int) ≥ full.length) = true := by
    have : full.length ≤ i := by rw [List.drop_eq_nil_iff] at hl; exact hl
    simpa using this
   refine ⟨zTy,-1,?_,by simp [RR]⟩
   rw [den_eq prim_219,body_219]
   simp only [go_sem,Tryz.f219,toksV_len,hge,zTyV]
  | cons t q =>
   obtain ⟨hg,hlt,hq⟩ := head_get hl
   have hge : decide ((i : Int) ≥ full.length) = false := by simp; omega
   have w1 : IntKind.i64.wrap ((i : Int) + 1) = ((i + 1 : Nat) : Int) := wrapN (i + 1) (by omega)
   have hqi : i + 1 = full.length - q.length := by
    have := congrArg List.length hq
    simp at this; omega
   have htok := hok t (List.mem_of_getElem? hg)
   rw [sees_text hl,sees_text hl,sees_text hl,sees_text hl,hl] at h
   simp only [beq_self_eq_true,Bool.true_or,Bool.and_true,List.tail_cons,textT] at h
   cases b1 : t.kind == 1
   · cases b2 : t.kind == 2
     · cases b5 : t.kind == 5
       · simp only [b1,b2,b5,Bool.false_eq_true,if_false] at h
         have e40 : (t.kind == 6 && (([40] : List UInt8) == [] || t.text == [40])) = (t.text == [40]) := by
          cases ht : t.text == [40]
          · simp
          · have := htok.2 (by simpa using ht)
            simp [this]
         rw [e40] at h
         cases ht : t.text == [40]
         · rw [ht] at h
           simp only [Bool.false_eq_true,if_false] at h
           injection h with h; subst h
           refine ⟨zTy,-1,?_,by simp [RR]⟩
           rw [den_eq prim_219,body_219]
           simp only [go_sem,Tryz.f219,toksV_len,hge,natge0,tonat,toksV_get,hg,tokV,b1,b2,b5,ht,zTyV]
         · rw [ht] at h
           simp only [if_true] at h
           split at h
           · cases h
           · rename_i t2 ok l1 h1
             rw [← hq] at h1
             obtain ⟨t',j,d1,r1⟩ := ih f (by omega) .typ (i + 1) _ (by omega) h1
             rw [tyV_eq] at d1
             have sf := tyR_suf _ _ _ _ _ _ h1
             cases ok
             · have := RR_no r1; subst this
               simp only [Bool.false_eq_true,if_false] at h
               injection h with h; subst h
               refine ⟨zTy,-1,?_,by simp [RR]⟩
               rw [den_eq prim_219,body_219]
               simp only [go_sem,Tryz.f219,toksV_len,hge,natge0,tonat,toksV_get,hg,tokV,b1,b2,b5,ht,w1,d1,zTyV]
             · obtain ⟨rfl,rfl⟩ := RR_ok r1
               simp only [if_true] at h
               injection h with h; subst h
               have hsuf : l1 <:+ full := sf.trans (List.drop_suffix _ _)
               have hneg : decide (((full.length - l1.length : Nat) : Int) < 0) = false := by simp
               have his := is_den full (full.length - l1.length) 6 [41]
               rw [suf_drop hsuf] at his
               have w2 : IntKind.i64.wrap (((full.length - l1.length : Nat) : Int) + 1) = ((full.length - l1.length + 1 : Nat) : Int) := wrapN (full.length - l1.length + 1) (by omega)
               cases b7 : seesT l1 6 [41]
               · rw [b7] at his
                 refine ⟨zTy,-1,?_,by simp [RR]⟩
                 rw [den_eq prim_219,body_219]
                 simp only [go_sem,Tryz.f219,toksV_len,hge,natge0,tonat,toksV_get,hg,tokV,b1,b2,b5,ht,w1,d1,hneg,his,zTyV]
               · rw [b7] at his
                 have hlt7 := tail_lt b7
                 have hsl := hsuf.length_le
                 refine ⟨t',((full.length - l1.length + 1 : Nat) : Int),?_,?_⟩
                 · rw [den_eq prim_219,body_219]
                   simp only [go_sem,Tryz.f219,toksV_len,hge,natge0,tonat,toksV_get,hg,tokV,b1,b2,b5,ht,w1,d1,hneg,his,w2,tyV_eq]
                 · simp only [RR,if_true,true_and]
                   have : l1.tail.length = l1.length - 1 := by simp
                   omega
       · simp only [b1,b2,b5,Bool.false_eq_true,if_false,if_true] at h
         injection h with h; subst h
         obtain ⟨c,ds,e1,e2,e3,e4⟩ := htok.1 (by simpa using b5)
         have hn := number2_den ds e4 e3
         have hm : metaN t.text = (numS ds : Int) := by simp [metaN,e1,atoi_num e4 e2]
         refine ⟨_,((i + 1 : Nat) : Int),?_,by simp only [RR,if_true]; exact ⟨rfl,by omega⟩⟩
         rw [den_eq prim_219,body_219,hm]
         simp only [go_sem,Tryz.f219,toksV_len,hge,natge0,tonat,toksV_get,hg,tokV,b1,b2,b5,w1,e1,List.length_cons,Int.toNat_one,Int.zero_le_ofNat,Nat.le_refl,Nat.le_add_left,List.take_length,hn,tyV_mk,tysV_nil]
     · simp only [b1,b2,Bool.false_eq_true,if_false,if_true] at h
       injection h with h; subst h
       refine ⟨_,((i + 1 : Nat) : Int),?_,by simp only [RR,if_true]; exact ⟨rfl,by omega⟩⟩
       rw [den_eq prim_219,body_219]
       simp only [go_sem,Tryz.f219,toksV_len,hge,natge0,tonat,toksV_get,hg,tokV,b1,b2,w1,tyV_mk,tysV_nil]
   · simp only [b1,if_true] at h
     injection h with h; subst h
     refine ⟨_,((i + 1 : Nat) : Int),?_,by simp only [RR,if_true]; exact ⟨rfl,by omega⟩⟩
     rw [den_eq prim_219,body_219]
     simp only [go_sem,Tryz.f219,toksV_len,hge,natge0,tonat,toksV_get,hg,tokV,b1,w1,tyV_mk,tysV_nil]
 | app =>
  simp only [RDen]
  simp only [tyR] at h
  have t1 := is_den full i 2 []
  cases b1 : seesT (full.drop i) 2 []
  · rw [b1] at h t1
    simp only [Bool.false_eq_true,if_false] at h
    obtain ⟨t',j,d1,r1⟩ := ih f (by omega) .atom i _ hi h
    rw [tyV_eq] at d1
    refine ⟨t',j,?_,r1⟩
    rw [den_eq prim_157,body_157]
    simp only [go_sem,Tryz.f157,t1,d1,tyV_eq]
  · rw [b1] at h t1
    simp only [if_true] at h
    obtain ⟨t,q,hl⟩ := seesT_cons b1
    obtain ⟨hg,hlt,hq⟩ := head_get hl
    rw [hl] at h
    simp only [textT,List.tail_cons] at h
    rw [← hq] at h
    have w1 : IntKind.i64.wrap ((i : Int) + 1) = ((i + 1 : Nat) : Int) := wrapN (i + 1) (by omega)
    -- the result,whatever it is
    suffices hmain : ∃ t' j,den E 157 [.slice (toksV full),.int .i64 i] [] = some (.tup [.agg [.int .i64 t'.kind,.str t'.name,.int .i64 t'.n,.slice (tysV t'.args)],.int .i64 j],[]) ∧ RR full r t' j by
     obtain ⟨t',j,k1,k2⟩ := hmain
     exact ⟨t',j,by rw [tyV_eq]; exact k1,k2⟩
    have hres : ∃ (t' : Ty) (j : Int),RR full r t' j ∧ (r.2.1 = false → t' = zTy) := by
     cases hr : r.2.1
     · exact ⟨zTy,-1,by simp [RR,hr],fun _ => rfl⟩
     · exact ⟨r.1,((full.length - r.2.2.length : Nat) : Int),by simp [RR,hr],fun e => by cases e⟩
    obtain ⟨t',j,hRR,hz⟩ := hres
    refine ⟨t',j,?_,hRR⟩
    rw [den_eq prim_157,body_157]
    simp only [go_sem,Tryz.f157,t1,natge0,tonat,toksV_get,hg,tokV,w1]
    generalize hname : t.text = name at *
    refine run_ind (fun x : Nat × List Ty × Nat => x.1 ≤ f ∧ i + 1 ≤ x.2.2 ∧ x.2.2 ≤ full.length ∧ x.2.1.length ≤ x.2.2 ∧ tyR x.1 (.loop name x.2.1) (full.drop x.2.2) = some r) (fun x => ⟨[(0,.slice (toksV full)),(4,.ptr (.loc 4) 0),(7,.ptr (.loc 7) 0),(8,.int .i64 x.2.2)],[],[(4,[.int .i64 0,.str [],.int .i64 0,.own 38 0 []]),(7,[.int .i64 3,.str name,.int .i64 0,.own 38 0 (tysV x.2.1)])],1⟩)
     (fun _ => some (.tup [.agg [.int .i64 t'.kind,.str t'.name,.int .i64 t'.n,.slice (tysV t'.args)],.int .i64 j],[])) (fun x => x.1) (f,[],i + 1) ⟨Nat.le_refl _,Nat.le_refl _,show i + 1 ≤ full.length by omega,Nat.zero_le _,h⟩ ?_ ?_
    · simp only [go_sem,tysV_nil]
    · rintro ⟨g,acc,k⟩ ⟨hgf,hik,hkl,hak,hx⟩ hrun
      simp only at hgf hik hkl hak hx hrun ⊢
      cases g with
      | zero => cases hx
      | succ g =>
      simp only [tyR] at hx
      have fin : (Ty.mk 3 name 0 acc,true,full.drop k) = r → t' = Ty.mk 3 name 0 acc ∧ j = (k : Int) := fun e => by
       subst e
       simp only [RR,if_true] at hRR
       refine ⟨hRR.1,?_⟩
       rw [hRR.2]; simp; omega
      by_cases hlk : k < full.length
      · obtain ⟨tk,qk,hlk2⟩ : ∃ tk qk,full.drop k = tk :: qk := ⟨full[k],full.drop (k + 1),List.drop_eq_getElem_cons hlk⟩
        obtain ⟨hgk,_,hqk⟩ := head_get hlk2
        have htok := hok tk (List.mem_of_getElem? hgk)
        have e40 : (tk.kind == 6 && (([40] : List UInt8) == [] || tk.text == [40])) = (tk.text == [40]) := by
         cases ht : tk.text == [40]
         · simp
         · have := htok.2 (by simpa using ht)
           simp [this]
        rw [sees_text hlk2,sees_text hlk2,sees_text hlk2,sees_text hlk2,e40] at hx
        simp only [beq_self_eq_true,Bool.true_or,Bool.and_true] at hx
        have lt1 : decide (k < full.length) = true := decide_eq_true hlk
        have step : (tk.kind == 1 || (tk.kind == 5 || (tk.kind == 2 || tk.text == [40]))) = true → ∃ x ok l1,tyR g .atom (full.drop k) = some (x,ok,l1) ∧ (if ok = true then tyR g (.loop name (acc ++ [x])) l1 else some (zTy,false,l1)) = some r := fun hb => by
         rw [hb] at hx
         simp only [if_true] at hx
         split at hx
         · cases hx
         · rename_i x ok l1 h1
           exact ⟨x,ok,l1,h1,hx⟩
        have stop : (tk.kind == 1 || (tk.kind == 5 || (tk.kind == 2 || tk.text == [40]))) = false → t' = Ty.mk 3 name 0 acc ∧ j = (k : Int) := fun hb => by
         rw [hb] at hx
         simp only [Bool.false_eq_true,if_false] at hx
         injection hx with hx
         exact fin hx
        cases b1 : tk.kind == 1
        · cases b5 : tk.kind == 5
          · cases b2 : tk.kind == 2
            · cases b6 : tk.text == [40]
              · obtain ⟨rfl,rfl⟩ := stop (by simp [b1,b5,b2,b6])
                simp only [go_sem,natlt,toksV_len,lt1,natge0,tonat,toksV_get,hgk,tokV,b1,b5,b2,b6,Ty.kind,Ty.name,Ty.n,Ty.args]
              · obtain ⟨x,ok,l1,h1,h2⟩ := step (by simp [b1,b5,b2,b6])
                obtain ⟨x',jx,d1,r1⟩ := ih g (by omega) .atom k _ hkl h1
                rw [tyV_eq] at d1
                cases ok
                · have := RR_no r1; subst this
                  simp only [Bool.false_eq_true,if_false] at h2
                  injection h2 with h2; subst h2
                  have hz' := hz rfl
                  have hj := RR_no hRR
                  subst hz'; subst hj
                  simp only [go_sem,natlt,toksV_len,lt1,natge0,tonat,toksV_get,hgk,tokV,b1,b5,b2,b6,d1,zTy,Ty.kind,Ty.name,Ty.n,Ty.args,tysV_nil]
                · obtain ⟨rfl,rfl⟩ := RR_ok r1
                  simp only [if_true] at h2
                  have hal := atom_lt h1
                  have sf := tyR_suf _ _ _ _ _ _ h1
                  have hsuf : l1 <:+ full := sf.trans (List.drop_suffix _ _)
                  have hl1 := hsuf.length_le
                  simp only [List.length_drop] at hal
                  have hneg : decide (((full.length - l1.length : Nat) : Int) < 0) = false := by simp
                  have hap : acc.length + 1 ≤ appMax := by unfold appMax; omega
                  have htv : tysV acc ++ [.agg [.int .i64 x'.kind,.str x'.name,.int .i64 x'.n,.slice (tysV x'.args)]] = tysV (acc ++ [x']) := by rw [tysV_append,tysV_cons,tysV_nil,tyV_eq]
                  simp only [go_sem,natlt,toksV_len,lt1,natge0,tonat,toksV_get,hgk,tokV,b1,b5,b2,b6,d1,hneg,tysV_len,hap,htv]
                  refine hrun (g,acc ++ [x'],full.length - l1.length) _ ⟨by omega,by simp only; omega,by simp only; omega,?_,?_⟩ (by simp only; omega) (by simp only [go_sem])
                  · simp only [List.length_append,List.length_singleton]; omega
                  · simp only [suf_drop hsuf]; exact h2
            · obtain ⟨x,ok,l1,h1,h2⟩ := step (by simp [b1,b5,b2])
              obtain ⟨x',jx,d1,r1⟩ := ih g (by omega) .atom k _ hkl h1
              rw [tyV_eq] at d1
              cases ok
              · have := RR_no r1; subst this
                simp only [Bool.false_eq_true,if_false] at h2
                injection h2 with h2; subst h2
                have hz' := hz rfl
                have hj := RR_no hRR
                subst hz'; subst hj
                simp only [go_sem,natlt,toksV_len,lt1,natge0,tonat,toksV_get,hgk,tokV,b1,b5,b2,d1,zTy,Ty.kind,Ty.name,Ty.n,Ty.args,tysV_nil]
              · obtain ⟨rfl,rfl⟩ := RR_ok r1
                simp only [if_true] at h2
                have hal := atom_lt h1
                have sf := tyR_suf _ _ _ _ _ _ h1
                have hsuf : l1 <:+ full := sf.trans (List.drop_suffix _ _)
                have hl1 := hsuf.length_le
                simp only [List.length_drop] at hal
                have hneg : decide (((full.length - l1.length : Nat) : Int) < 0) = false := by simp
                have hap : acc.length + 1 ≤ appMax := by unfold appMax; omega
                have htv : tysV acc ++ [.agg [.int .i64 x'.kind,.str x'.name,.int .i64 x'.n,.slice (tysV x'.args)]] = tysV (acc ++ [x']) := by rw [tysV_append,tysV_cons,tysV_nil,tyV_eq]
                simp only [go_sem,natlt,toksV_len,lt1,natge0,tonat,toksV_get,hgk,tokV,b1,b5,b2,d1,hneg,tysV_len,hap,htv]
                refine hrun (g,acc ++ [x'],full.length - l1.length) _ ⟨by omega,by simp only; omega,by simp only; omega,?_,?_⟩ (by simp only; omega) (by simp only [go_sem])
                · simp only [List.length_append,List.length_singleton]; omega
                · simp only [suf_drop hsuf]; exact h2
          · obtain ⟨x,ok,l1,h1,h2⟩ := step (by simp [b1,b5])
            obtain ⟨x',jx,d1,r1⟩ := ih g (by omega) .atom k _ hkl h1
            rw [tyV_eq] at d1
            cases ok
            · have := RR_no r1; subst this
              simp only [Bool.false_eq_true,if_false] at h2
              injection h2 with h2; subst h2
              have hz' := hz rfl
              have hj := RR_no hRR
              subst hz'; subst hj
              simp only [go_sem,natlt,toksV_len,lt1,natge0,tonat,toksV_get,hgk,tokV,b1,b5,d1,zTy,Ty.kind,Ty.name,Ty.n,Ty.args,tysV_nil]
            · obtain ⟨rfl,rfl⟩ := RR_ok r1
              simp only [if_true] at h2
              have hal := atom_lt h1
              have sf := tyR_suf _ _ _ _ _ _ h1
              have hsuf : l1 <:+ full := sf.trans (List.drop_suffix _ _)
              have hl1 := hsuf.length_le
              simp only [List.length_drop] at hal
              have hneg : decide (((full.length - l1.length : Nat) : Int) < 0) = false := by simp
              have hap : acc.length + 1 ≤ appMax := by unfold appMax; omega
              have htv : tysV acc ++ [.agg [.int .i64 x'.kind,.str x'.name,.int .i64 x'.n,.slice (tysV x'.args)]] = tysV (acc ++ [x']) := by rw [tysV_append,tysV_cons,tysV_nil,tyV_eq]
              simp only [go_sem,natlt,toksV_len,lt1,natge0,tonat,toksV_get,hgk,tokV,b1,b5,d1,hneg,tysV_len,hap,htv]
              refine hrun (g,acc ++ [x'],full.length - l1.length) _ ⟨by omega,by simp only; omega,by simp only; omega,?_,?_⟩ (by simp only; omega) (by simp only [go_sem])
              · simp only [List.length_append,List.length_singleton]; omega
              · simp only [suf_drop hsuf]; exact h2
        · obtain ⟨x,ok,l1,h1,h2⟩ := step (by simp [b1])
          obtain ⟨x',jx,d1,r1⟩ := ih g (by omega) .atom k _ hkl h1
          rw [tyV_eq] at d1
          cases ok
          · have := RR_no r1; subst this
            simp only [Bool.false_eq_true,if_false] at h2
            injection h2 with h2; subst h2
            have hz' := hz rfl
            have hj := RR_no hRR
            subst hz'; subst hj
            simp only [go_sem,natlt,toksV_len,lt1,natge0,tonat,toksV_get,hgk,tokV,b1,d1,zTy,Ty.kind,Ty.name,Ty.n,Ty.args,tysV_nil]
          · obtain ⟨rfl,rfl⟩ := RR_ok r1
            simp only [if_true] at h2
            have hal := atom_lt h1
            have sf := tyR_suf _ _ _ _ _ _ h1
            have hsuf : l1 <:+ full := sf.trans (List.drop_suffix _ _)
            have hl1 := hsuf.length_le
            simp only [List.length_drop] at hal
            have hneg : decide (((full.length - l1.length : Nat) : Int) < 0) = false := by simp
            have hap : acc.length + 1 ≤ appMax := by unfold appMax; omega
            have htv : tysV acc ++ [.agg [.int .i64 x'.kind,.str x'.name,.int .i64 x'.n,.slice (tysV x'.args)]] = tysV (acc ++ [x']) := by rw [tysV_append,tysV_cons,tysV_nil,tyV_eq]
            simp only [go_sem,natlt,toksV_len,lt1,natge0,tonat,toksV_get,hgk,tokV,b1,d1,hneg,tysV_len,hap,htv]
            refine hrun (g,acc ++ [x'],full.length - l1.length) _ ⟨by omega,by simp only; omega,by simp only; omega,?_,?_⟩ (by simp only; omega) (by simp only [go_sem])
            · simp only [List.length_append,List.length_singleton]; omega
            · simp only [suf_drop hsuf]; exact h2
      · have hdn : full.drop k = [] := List.drop_eq_nil_of_le (by omega)
        rw [hdn] at hx
        simp only [seesT,Bool.or_false,Bool.false_eq_true,if_false] at hx
        injection hx with hx
        rw [← hdn] at hx
        obtain ⟨rfl,rfl⟩ := fin hx
        simp only [go_sem,natlt,toksV_len,decide_eq_false hlk,Ty.kind,Ty.name,Ty.n,Ty.args]
 | typ =>
  simp only [RDen]
  simp only [tyR] at h
  have t0 := is_den full i 3 [102,111,114,97,108,108]
  cases b0 : seesT (full.drop i) 3 [102,111,114,97,108,108]
  · rw [b0] at h t0
    simp only [Bool.false_eq_true,if_false] at h
    split at h
    · cases h
    · rename_i a ok l1 h1
      obtain ⟨a',ja,d1,r1⟩ := ih f (by omega) .app i _ hi h1
      rw [tyV_eq] at d1
      have hsuf : l1 <:+ full := (tyR_suf _ _ _ _ _ _ h1).trans (List.drop_suffix _ _)
      have hl1 := hsuf.length_le
      cases ok
      · have := RR_no r1; subst this
        simp only [Bool.false_eq_true,if_false] at h
        injection h with h; subst h
        refine ⟨zTy,-1,?_,by simp [RR]⟩
        rw [den_eq prim_94,body_94]
        simp only [go_sem,Tryz.f94,t0,d1,zTyV]
      · obtain ⟨rfl,rfl⟩ := RR_ok r1
        simp only [if_true] at h
        have hneg : decide (((full.length - l1.length : Nat) : Int) < 0) = false := by simp
        have t1 := is_den full (full.length - l1.length) 6 [45,62]
        rw [suf_drop hsuf] at t1
        cases b1 : seesT l1 6 [45,62]
        · rw [b1] at h t1
          simp only [Bool.false_eq_true,if_false] at h
          injection h with h; subst h
          refine ⟨a',((full.length - l1.length : Nat) : Int),?_,by simp [RR]⟩
          rw [den_eq prim_94,body_94]
          simp only [go_sem,Tryz.f94,t0,d1,hneg,t1,tyV_eq]
        · rw [b1] at h t1
          simp only [if_true] at h
          have hlt := tail_lt b1
          split at h
          · cases h
          · rename_i b ok2 l2 h2
            injection h with h; subst h
            have w1 : IntKind.i64.wrap (((full.length - l1.length : Nat) : Int) + 1) = ((full.length - l1.length + 1 : Nat) : Int) := wrapN (full.length - l1.length + 1) (by omega)
            have e1 : full.drop (full.length - l1.length + 1) = l1.tail := by
             rw [← List.drop_drop,suf_drop hsuf]; simp
            rw [← e1] at h2
            obtain ⟨b',jb,d2,r2⟩ := ih f (by omega) .typ _ _ (by omega) h2
            rw [tyV_eq] at d2
            refine ⟨.mk 4 [] 0 [a',b'],jb,?_,?_⟩
            · rw [den_eq prim_94,body_94]
              simp only [go_sem,Tryz.f94,t0,d1,hneg,t1,w1,d2,tyV_eq,Ty.kind,Ty.name,Ty.n,Ty.args,tysV_cons,tysV_nil]
            · cases ok2
              · simpa [RR] using RR_no r2
              · obtain ⟨rfl,rfl⟩ := RR_ok r2
                simp [RR]
  · rw [b0] at h t0
    simp only [if_true] at h
    obtain ⟨tf,qf,hlf⟩ := seesT_cons b0
    obtain ⟨_,hltf,hqf⟩ := head_get hlf
    have e1 : (full.drop i).tail = full.drop (i + 1) := by rw [hlf,hqf]; rfl
    rw [e1] at h
    cases f with
    | zero => cases h
    | succ g =>
    simp only [tyR] at h
    have w1 : IntKind.i64.wrap ((i : Int) + 1) = ((i + 1 : Nat) : Int) := wrapN (i + 1) (by omega)
    have hnle := namesT_le (full.drop (i + 1))
    simp only [List.length_drop] at hnle
    generalize hn : (namesT (full.drop (i + 1))).length = n at *
    have hK : (full.drop (i + 1)).drop n = full.drop (i + 1 + n) := by rw [List.drop_drop]
    rw [hK] at h
    have td := is_den full (i + 1 + n) 6 [46]
    -- the names,from their end on
    suffices hmain : ∃ t' j,den E 94 [.slice (toksV full),.int .i64 i] [] = some (.tup [.agg [.int .i64 t'.kind,.str t'.name,.int .i64 t'.n,.slice (tysV t'.args)],.int .i64 j],[]) ∧ RR full r t' j by
     obtain ⟨t',j,k1,k2⟩ := hmain
     exact ⟨t',j,by rw [tyV_eq]; exact k1,k2⟩
    have run1 : ∀ (j : Nat),j < n → ∃ t,full[i + 1 + j]? = some t ∧ (t.kind == 1) = true ∧ (namesT (full.drop (i + 1)))[j]? = some t.text := fun j hj => by
     obtain ⟨t,h1,h2,h3⟩ := namesT_lt (l := full.drop (i + 1)) (j := j) (by omega)
     rw [List.getElem?_drop] at h1
     exact ⟨t,h1,h2,h3⟩
    have run2 : i + 1 + n < full.length → ∃ t,full[i + 1 + n]? = some t ∧ (t.kind == 1) = false := fun hlt => by
     obtain ⟨t,h1,h2⟩ := namesT_at (l := full.drop (i + 1)) (by rw [hn]; simp; omega)
     rw [hn,List.getElem?_drop] at h1
     exact ⟨t,h1,h2⟩
    have eqn : (((i + 1 + n : Nat) : Int) == ((i + 1 : Nat) : Int)) = decide (n = 0) := by
     rw [nat_eq]; by_cases h0 : n = 0 <;> simp [h0]
    cases bd : seesT (full.drop (i + 1 + n)) 6 [46]
    · rw [bd] at h td
      simp only [Bool.false_eq_true,if_false] at h
      injection h with h; subst h
      refine ⟨zTy,-1,?_,by simp [RR]⟩
      rw [den_eq prim_94,body_94]
      simp only [go_sem,Tryz.f94,t0,w1]
      refine run_for (fun j => ⟨[(0,.slice (toksV full)),(1,.int .i64 i),(4,.ptr (.loc 4) 0),(7,.int .i64 ((i + 1 + j : Nat) : Int))],[],[(4,[.int .i64 0,.str [],.int .i64 0,.own 38 0 []])],1⟩) n ?_ ?_ ?_
      · simp only [go_sem,Nat.add_zero]
      · intro j hj hh
        obtain ⟨tj,hj1,hj2,_⟩ := run1 j hj
        have ltj : decide (i + 1 + j < full.length) = true := by simp; omega
        have wj : IntKind.i64.wrap (((i + 1 + j : Nat) : Int) + 1) = ((i + 1 + (j + 1) : Nat) : Int) := wrapN (i + 1 + (j + 1)) (by omega)
        simp only [go_sem,natlt,toksV_len,ltj,natge0,tonat,toksV_get,hj1,hj2,tokV]
        refine hh _ ?_
        simp only [go_sem,wj]
      · by_cases hlt : i + 1 + n < full.length
        · obtain ⟨tx,hx,hp⟩ := run2 hlt
          simp only [go_sem,natlt,toksV_len,decide_eq_true hlt,natge0,tonat,toksV_get,hx,hp,tokV,td,zTy,Ty.kind,Ty.name,Ty.n,Ty.args,tysV_nil]
        · simp only [go_sem,natlt,toksV_len,decide_eq_false hlt,td,zTy,Ty.kind,Ty.name,Ty.n,Ty.args,tysV_nil]
    · rw [bd] at h td
      simp only [if_true] at h
      have hltd := tail_lt bd
      simp only [List.length_tail,List.length_drop] at hltd
      have hKl : i + 1 + n < full.length := by omega
      obtain ⟨tx,hx,hp⟩ := run2 hKl
      by_cases h0 : n = 0
      · have hnil : namesT (full.drop (i + 1)) = [] := List.eq_nil_of_length_eq_zero (by omega)
        rw [hnil] at h
        simp only at h
        injection h with h; subst h
        refine ⟨zTy,-1,?_,by simp [RR]⟩
        rw [den_eq prim_94,body_94]
        simp only [go_sem,Tryz.f94,t0,w1]
        refine run_for (fun j => ⟨[(0,.slice (toksV full)),(1,.int .i64 i),(4,.ptr (.loc 4) 0),(7,.int .i64 ((i + 1 + j : Nat) : Int))],[],[(4,[.int .i64 0,.str [],.int .i64 0,.own 38 0 []])],1⟩) n ?_ ?_ ?_
        · simp only [go_sem,Nat.add_zero]
        · intro j hj hh
          obtain ⟨tj,hj1,hj2,_⟩ := run1 j hj
          have ltj : decide (i + 1 + j < full.length) = true := by simp; omega
          have wj : IntKind.i64.wrap (((i + 1 + j : Nat) : Int) + 1) = ((i + 1 + (j + 1) : Nat) : Int) := wrapN (i + 1 + (j + 1)) (by omega)
          simp only [go_sem,natlt,toksV_len,ltj,natge0,tonat,toksV_get,hj1,hj2,tokV]
          refine hh _ ?_
          simp only [go_sem,wj]
        · simp only [go_sem,natlt,toksV_len,decide_eq_true hKl,natge0,tonat,toksV_get,hx,hp,tokV,td,w1,eqn,decide_eq_true h0,zTy,Ty.kind,Ty.name,Ty.n,Ty.args,tysV_nil]
      · cases hN : namesT (full.drop (i + 1)) with
        | nil => rw [hN] at hn; simp at hn; omega
        | cons n0 ns =>
        rw [hN] at h
        simp only at h
        split at h
        · cases h
        · rename_i t ok l2 h2
          injection h with h
          have e2 : (full.drop (i + 1 + n)).tail = full.drop (i + 1 + n + 1) := by simp
          rw [e2] at h2
          obtain ⟨t',jt,d2,r2⟩ := ih g (by omega) .typ _ _ (by omega) h2
          rw [tyV_eq] at d2
          rw [← hN] at h
          generalize hNN : namesT (full.drop (i + 1)) = N at *
          have w2 : IntKind.i64.wrap (((i + 1 + n : Nat) : Int) + 1) = ((i + 1 + n + 1 : Nat) : Int) := wrapN (i + 1 + n + 1) (by omega)
          have w3 : IntKind.i64.wrap (((i + 1 + n : Nat) : Int) - 1) = ((i + n : Nat) : Int) := by
           rw [show (((i + 1 + n : Nat) : Int) - 1) = ((i + n : Nat) : Int) by omega]; exact wrapN _ (by omega)
          refine ⟨N.foldr (fun n t => Ty.mk 5 n 0 [t]) t',jt,?_,?_⟩
          · rw [den_eq prim_94,body_94]
            simp only [go_sem,Tryz.f94,t0,w1]
            refine run_for (fun j => ⟨[(0,.slice (toksV full)),(1,.int .i64 i),(4,.ptr (.loc 4) 0),(7,.int .i64 ((i + 1 + j : Nat) : Int))],[],[(4,[.int .i64 0,.str [],.int .i64 0,.own 38 0 []])],1⟩) n ?_ ?_ ?_
            · simp only [go_sem,Nat.add_zero]
            · intro j hj hh
              obtain ⟨tj,hj1,hj2,_⟩ := run1 j hj
              have ltj : decide (i + 1 + j < full.length) = true := by simp; omega
              have wj : IntKind.i64.wrap (((i + 1 + j : Nat) : Int) + 1) = ((i + 1 + (j + 1) : Nat) : Int) := wrapN (i + 1 + (j + 1)) (by omega)
              simp only [go_sem,natlt,toksV_len,ltj,natge0,tonat,toksV_get,hj1,hj2,tokV]
              refine hh _ ?_
              simp only [go_sem,wj]
            · simp only [go_sem,natlt,toksV_len,decide_eq_true hKl,natge0,tonat,toksV_get,hx,hp,tokV,td,w1,eqn,h0,w2,d2,w3]
              refine (run_ind (fun k : Nat => k ≤ n) (fun k => ⟨[(0,.slice (toksV full)),(1,.int .i64 i),(4,.ptr (.loc 4) 0),(9,.ptr (.loc 9) 0),(10,.int .i64 jt),(11,.int .i64 ((i + k : Nat) : Int))],[],
               [(4,[.int .i64 0,.str [],.int .i64 0,.own 38 0 []]),(9,[.int .i64 ((N.drop k).foldr (fun n t => Ty.mk 5 n 0 [t]) t').kind,.str ((N.drop k).foldr (fun n t => Ty.mk 5 n 0 [t]) t').name,.int .i64 ((N.drop k).foldr (fun n t => Ty.mk 5 n 0 [t]) t').n,.slice (tysV ((N.drop k).foldr (fun n t => Ty.mk 5 n 0 [t]) t').args)])],1⟩)
               (fun _ => some (.tup [.agg [.int .i64 (N.foldr (fun n t => Ty.mk 5 n 0 [t]) t').kind,.str (N.foldr (fun n t => Ty.mk 5 n 0 [t]) t').name,.int .i64 (N.foldr (fun n t => Ty.mk 5 n 0 [t]) t').n,.slice (tysV (N.foldr (fun n t => Ty.mk 5 n 0 [t]) t').args)],.int .i64 jt],[])) (fun k => k) n (Nat.le_refl _) ?_ ?_)
              · simp only [go_sem,← hn,List.drop_length,List.foldr_nil]
              · intro k hk hrun2
                have gt : decide (((i + k : Nat) : Int) > i) = decide (0 < k) := by simp; omega
                cases k with
                | zero =>
                 simp only [go_sem,gt,Nat.lt_irrefl,List.drop_zero]
                | succ k =>
                 obtain ⟨tk,hk1,hk2,hk3⟩ := run1 k (by omega)
                 have hki : i + (k + 1) = i + 1 + k := by omega
                 have hkN : k < N.length := by omega
                 have hd : N.drop k = tk.text :: N.drop (k + 1) := by
                  rw [List.drop_eq_getElem_cons hkN]
                  rw [List.getElem?_eq_getElem hkN] at hk3
                  injection hk3 with hk3; rw [hk3]
                 have wk : IntKind.i64.wrap (((i + (k + 1) : Nat) : Int) - 1) = ((i + k : Nat) : Int) := by
                  rw [show (((i + (k + 1) : Nat) : Int) - 1) = ((i + k : Nat) : Int) by omega]; exact wrapN _ (by omega)
                 have hg2 : full[i + (k + 1)]? = some tk := by rw [hki]; exact hk1
                 simp only [go_sem,gt,Nat.zero_lt_succ,natge0,tonat,toksV_get,hg2,tokV,wk]
                 refine hrun2 k _ (by omega) (by omega) ?_
                 simp only [go_sem,hd,List.foldr_cons,Ty.kind,Ty.name,Ty.n,Ty.args,tysV_cons,tysV_nil,tyV_eq]
          · rw [← h]
            cases ok
            · simpa [RR] using RR_no r2
            · obtain ⟨rfl,rfl⟩ := RR_ok r2
              simp [RR]
mutual
def Ty.depth : Ty → Nat
 | .mk _ _ _ a => Ty.depths a + 1
def Ty.depths : List Ty → Nat
 | [] => 0
 | t :: r => max (Ty.depth t) (Ty.depths r)
end
mutual
def Ty.sz : Ty → Nat
 | .mk _ _ _ a => Ty.szs a + 1
def Ty.szs : List Ty → Nat
 | [] => 0
 | t :: r => Ty.sz t + Ty.szs r
end
theorem depth_eq (t : Ty) : t.depth = Ty.depths t.args + 1 := by cases t; simp [Ty.depth,Ty.args]
theorem sz_eq (t : Ty) : t.sz = Ty.szs t.args + 1 := by cases t; simp [Ty.sz,Ty.args]
theorem depths_snoc (l : List Ty) (t : Ty) : Ty.depths (l ++ [t]) = max (Ty.depths l) t.depth := by
 induction l with
 | nil => simp [Ty.depths]
 | cons a l ih => simp only [List.cons_append,Ty.depths,ih]; omega
theorem szs_mem {l : List Ty} {t : Ty} (h : t ∈ l) : t.sz ≤ Ty.szs l := by
 induction l with
 | nil => cases h
 | cons a l ih =>
  simp only [Ty.szs]
  rcases List.mem_cons.1 h with rfl | h
  · omega
  · have := ih h; omega
theorem szs_len (l : List Ty) : l.length ≤ Ty.szs l := by
 induction l with
 | nil => simp
 | cons a l ih =>
  simp only [Ty.szs,List.length_cons]
  have := sz_eq a; omega
theorem depths_le (l : List Ty) : Ty.depths l ≤ Ty.szs l := by
 suffices h : ∀ n,(∀ t : Ty,t.sz ≤ n → t.depth ≤ t.sz) by
  induction l with
  | nil => simp [Ty.depths]
  | cons a l ih =>
   simp only [Ty.depths,Ty.szs]
   have := h a.sz a (Nat.le_refl _); omega
 intro n
 induction n with
 | zero => intro t ht; have := sz_eq t; omega
 | succ n ih =>
  intro t ht
  rw [depth_eq,sz_eq] at *
  have : ∀ l : List Ty,Ty.szs l ≤ n → Ty.depths l ≤ Ty.szs l := by
   intro l
   induction l with
   | nil => intro _; simp [Ty.depths]
   | cons a l ih2 =>
    intro hl
    simp only [Ty.depths,Ty.szs] at hl ⊢
    have h1 := ih a (by omega)
    have h2 := ih2 (by omega)
    omega
  have := this t.args (by omega)
  omega
theorem tysV_get (l : List Ty) (i : Nat) : (tysV l)[i]? = (l[i]?).map tyV := by simp [tysV_map]
theorem max_if (a b : Nat) : (if ((b : Int) > a) then (b : Int) else a) = ((max a b : Nat) : Int) := by
 split <;> omega
theorem take_snoc {α : Type} {l : List α} {i : Nat} {x : α} (h : l[i]? = some x) : l.take (i + 1) = l.take i ++ [x] := by
 obtain ⟨hi,he⟩ := List.getElem?_eq_some_iff.1 h
 rw [List.take_succ_eq_append_getElem hi,he]
theorem tdepth_den : ∀ (n : Nat) (t : Ty),t.sz ≤ n → t.sz < 1000000 → den E 88 [tyV t] [] = some (.int .i64 t.depth,[]) := by
 intro n
 induction n with
 | zero => intro t ht; have := sz_eq t; omega
 | succ n ih =>
  intro t ht hs
  rw [sz_eq] at ht hs
  have hl := szs_len t.args
  have hdl := depths_le t.args
  rw [den_eq prim_88,body_88,tyV_eq,depth_eq]
  simp only [go_sem,Tryz.f88,tysV_len]
  refine run_for (fun i => ⟨[(3,.int .i64 (Ty.depths (t.args.take i))),(7,.slice (tysV t.args)),(8,.int .i64 t.args.length),(9,.int .i64 i)],[],[],1⟩) t.args.length ?_ ?_ ?_
  · simp only [go_sem,List.take_zero,Ty.depths]
  · intro i hi h
    obtain ⟨x,hx⟩ : ∃ x,t.args[i]? = some x := ⟨t.args[i],List.getElem?_eq_getElem hi⟩
    have hd := ih x (by have := szs_mem (List.mem_of_getElem? hx); omega) (by have := szs_mem (List.mem_of_getElem? hx); omega)
    rw [tyV_eq] at hd
    have w1 : IntKind.i64.wrap ((i : Int) + 1) = ((i + 1 : Nat) : Int) := wrapN (i + 1) (by omega)
    simp only [go_sem,natlt,decide_eq_true hi,natge0,tonat,tysV_get,hx,tyV_eq,hd,max_if]
    refine h _ ?_
    simp only [go_sem,w1,take_snoc hx,depths_snoc]
  · have w1 : IntKind.i64.wrap ((Ty.depths t.args : Int) + 1) = ((Ty.depths t.args + 1 : Nat) : Int) := wrapN (Ty.depths t.args + 1) (by omega)
    simp only [go_sem,natlt,Nat.lt_irrefl,List.take_length,w1]
theorem rdepth_den : ∀ (n : Nat) (t : Ty),t.sz ≤ n → t.sz < 1000000 → den E 95 [tyV t] [] = some (.int .i64 t.depth,[]) := by
 intro n
 induction n with
 | zero => intro t ht; have := sz_eq t; omega
 | succ n ih =>
  intro t ht hs
  rw [sz_eq] at ht hs
  have hl := szs_len t.args
  have hdl := depths_le t.args
  rw [den_eq prim_95,body_95,tyV_eq,depth_eq]
  simp only [go_sem,Tryz.f95]
  refine run_for (fun i => ⟨[(1,.ptr (.loc 1) 0),(3,.int .i64 (Ty.depths (t.args.take i))),(4,.int .i64 i)],[],[(1,[.int .i64 t.kind,.str t.name,.int .i64 t.n,.slice (tysV t.args)])],1⟩) t.args.length ?_ ?_ ?_
  · simp only [go_sem,List.take_zero,Ty.depths]
  · intro i hi h
    obtain ⟨x,hx⟩ : ∃ x,t.args[i]? = some x := ⟨t.args[i],List.getElem?_eq_getElem hi⟩
    have hd := ih x (by have := szs_mem (List.mem_of_getElem? hx); omega) (by have := szs_mem (List.mem_of_getElem? hx); omega)
    rw [tyV_eq] at hd
    have w1 : IntKind.i64.wrap ((i : Int) + 1) = ((i + 1 : Nat) : Int) := wrapN (i + 1) (by omega)
    simp only [go_sem,natlt,tysV_len,decide_eq_true hi,natge0,tonat,tysV_get,hx,tyV_eq,hd,max_if]
    refine h _ ?_
    simp only [go_sem,w1,take_snoc hx,depths_snoc]
  · have w1 : IntKind.i64.wrap ((Ty.depths t.args : Int) + 1) = ((Ty.depths t.args + 1 : Nat) : Int) := wrapN (Ty.depths t.args + 1) (by omega)
    simp only [go_sem,natlt,tysV_len,Nat.lt_irrefl,List.take_length,w1]
theorem tread_den (l : List Tok) (f : Nat) (r : Ty × Bool × List Tok) (hok : ∀ t ∈ l,tokOK t) (hlen : l.length < 1000000) (h : tyR f .typ l = some r) : den E 87 [.slice (toksV l)] [] =
 some (if r.2.1 = true then .tup [tyV r.1,.slice (toksV r.2.2),.bool true] else .tup [tyV zTy,.slice [],.bool false],[]) := by
 have h1 := tyR_den f .typ l r hok hlen h
 simp only [MDen,encT,tyV_eq] at h1
 rw [den_eq prim_87,body_87]
 cases hr : r.2.1
 · rw [hr] at h1
   simp only [go_sem,Tryz.f87,h1,zTyV]
 · rw [hr] at h1
   simp only [go_sem,Tryz.f87,h1,tyV_eq]
theorem itoa_nat (n : Nat) : Lib.itoa (n : Int) = Lib.decDigits n := by
 unfold Lib.itoa
 rw [if_neg (by omega)]; simp
theorem dig_lt (n : Nat) (h : n < 10) : Lib.itoa (n : Int) = [UInt8.ofNat (48 + n)] := by
 rw [itoa_nat,Lib.decDigits,dif_pos h]
theorem dig_ge (n : Nat) (h : 10 ≤ n) : Lib.itoa (n : Int) = Lib.itoa ((n / 10 : Nat) : Int) ++ [UInt8.ofNat (48 + n % 10)] := by
 rw [itoa_nat,itoa_nat,Lib.decDigits,dif_neg (by omega)]
theorem itoa_len : ∀ (k n : Nat),n < 10 ^ (k + 1) → (Lib.itoa (n : Int)).length ≤ k + 1
 | 0,n,h => by rw [dig_lt n (by simpa using h)]; simp
 | k + 1,n,h => by
  by_cases h10 : n < 10
  · rw [dig_lt n h10]; simp
  · rw [dig_ge n (by omega)]
    have := itoa_len k (n / 10) (by rw [Nat.pow_succ] at h; omega)
    simp only [List.length_append,List.length_singleton]; omega
theorem decimal_den : ∀ (n : Nat),n < 1000000000 → den E 84 [.int .i64 n] [] = some (.str (Lib.itoa n),[]) := by
 intro n
 induction n using Nat.strongRecOn with
 | _ n ih =>
 intro hn
 rw [den_eq prim_84,body_84]
 have e1 : decide ((n : Int) < 10) = decide (n < 10) := by simp; omega
 by_cases h : n < 10
 · have w1 : IntKind.i64.wrap (48 + (n : Int)) = ((48 + n : Nat) : Int) := wrapN (48 + n) (by omega)
   have w2 : IntKind.u8.wrap ((48 + n : Nat) : Int) = ((48 + n : Nat) : Int) := IntWalk.u8_in _ (by omega)
   simp only [go_sem,Tryz.f84,e1,decide_eq_true h,w1,w2,bytesOf,tonat,dig_lt n h]
 · have w0 : IntKind.i64.wrap ((n : Int).tdiv 10) = ((n / 10 : Nat) : Int) := by
    rw [show ((n : Int).tdiv 10) = ((n / 10 : Nat) : Int) by simp]; exact wrapN _ (by omega)
   have w0' : (n : Int).tmod 10 = ((n % 10 : Nat) : Int) := rfl
   have w1 : IntKind.i64.wrap (48 + ((n % 10 : Nat) : Int)) = ((48 + n % 10 : Nat) : Int) := wrapN (48 + n % 10) (by omega)
   have w2 : IntKind.u8.wrap ((48 + n % 10 : Nat) : Int) = ((48 + n % 10 : Nat) : Int) := IntWalk.u8_in _ (by omega)
   have hd := ih (n / 10) (by omega) (by omega)
   have hl : (Lib.itoa ((n / 10 : Nat) : Int)).length + 1 ≤ strMax := by
    have := itoa_len 8 (n / 10) (by omega)
    unfold strMax; omega
   simp only [go_sem,Tryz.f84,e1,decide_eq_false h,w0,w0',w1,w2,bytesOf,tonat,hd,dig_ge n (by omega),hl]
inductive PM where
 | pr
 | tail
 | arg
 | left
def kids2 : List Ty → Option (Ty × Ty)
 | [x,y] => some (x,y)
 | _ => none
def kids1 : List Ty → Option Ty
 | [x] => some x
 | _ => none
def lim : Nat := 1000000000
def short (s : List UInt8) : Option (List UInt8) := if s.length ≤ lim then some s else none
def argsR (f : Ty → Option (List UInt8)) : List Ty → Option (List (List UInt8))
 | [] => some []
 | t :: r => match f t with
  | none => none
  | some s => match argsR f r with
   | none => none
   | some ss => some (s :: ss)
def atomicT (t : Ty) : Bool := t.kind == 1 || (t.kind == 2 || (t.kind == 3 && t.args.length == 0))
def prR : Nat → PM → Ty → Option (List UInt8)
 | 0,_,_ => none
 | f + 1,m,t => match m with
  | .pr => if t.kind == 2 then (if 0 ≤ t.n ∧ t.n < 1000000000 then short (63 :: Lib.itoa t.n) else none)
   else if t.kind == 3 then (match argsR (prR f .arg) t.args with
    | none => none
    | some ss => short (Lib.join (t.name :: ss) [32]))
   else if t.kind == 4 then (match kids2 t.args with
    | none => none
    | some (x,y) => match prR f .left x with
     | none => none
     | some a => match prR f .pr y with
      | none => none
      | some b => short (a ++ [32,45,62,32] ++ b))
   else if t.kind == 5 then (match kids1 t.args with
    | none => none
    | some x => match prR f .tail x with
     | none => none
     | some a => short ([102,111,114,97,108,108,32] ++ t.name ++ a))
   else if t.kind == 1 then short t.name else none
  | .arg => if t.kind == 1 || (t.kind == 2 || (t.kind == 3 || (t.kind == 4 || t.kind == 5))) then (match prR f .pr t with
   | none => none
   | some a => if atomicT t then some a else short ([40] ++ a ++ [41])) else none
  | .left => if t.kind == 1 || (t.kind == 2 || (t.kind == 3 || (t.kind == 4 || t.kind == 5))) then (match prR f .pr t with
   | none => none
   | some a => if decide (t.kind < 4) then some a else short ([40] ++ a ++ [41])) else none
  | .tail => if t.kind == 5 then (match kids1 t.args with
   | none => none
   | some x => match prR f .tail x with
    | none => none
    | some a => short ([32] ++ t.name ++ a))
   else (match prR f .pr t with
    | none => none
    | some a => short ([46,32] ++ a))
theorem short_some {s r : List UInt8} (h : short s = some r) : r = s ∧ s.length ≤ lim := by
 unfold short at h
 split at h
 · injection h with h; exact ⟨h.symm,by assumption⟩
 · cases h
theorem argsR_get {f : Ty → Option (List UInt8)} : ∀ {l : List Ty} {ss : List (List UInt8)},argsR f l = some ss → ss.length = l.length ∧ ∀ (i : Nat) (t : Ty),l[i]? = some t → ∃ s,f t = some s ∧ ss[i]? = some s
 | [],ss,h => by simp only [argsR,Option.some.injEq] at h; subst h; exact ⟨rfl,fun i t ht => by simp at ht⟩
 | t :: r,ss,h => by
  simp only [argsR] at h
  split at h
  · cases h
  · rename_i s hs
    split at h
    · cases h
    · rename_i ss' hss
      injection h with h; subst h
      obtain ⟨h1,h2⟩ := argsR_get hss
      refine ⟨by simp [h1],fun i x hx => ?_⟩
      cases i with
      | zero => simp at hx; subst hx; exact ⟨s,hs,rfl⟩
      | succ i => exact h2 i x (by simpa using hx)
theorem kids2_some {l : List Ty} {p : Ty × Ty} (h : kids2 l = some p) : l = [p.1,p.2] := by
 unfold kids2 at h
 split at h
 · injection h with h; subst h; rfl
 · cases h
theorem kids1_some {l : List Ty} {p : Ty} (h : kids1 l = some p) : l = [p] := by
 unfold kids1 at h
 split at h
 · injection h with h; subst h; rfl
 · cases h
theorem atomic_den (t : Ty) : den E 122 [tyV t] [] = some (.bool (atomicT t),[]) := by
 rw [den_eq prim_122,body_122,tyV_eq]; unfold atomicT
 cases h1 : t.kind == 1
 · cases h2 : t.kind == 2
   · cases h3 : t.kind == 3
     · simp only [go_sem,Tryz.f122,h1,h2,h3]
     · have e0 : ((t.args.length : Int) == 0) = (t.args.length == 0) := by rw [nat_eq0]; rfl
       simp only [go_sem,Tryz.f122,h1,h2,h3,tysV_len,e0]
   · simp only [go_sem,Tryz.f122,h1,h2]
 · simp only [go_sem,Tryz.f122,h1]
theorem closed_den (t : Ty) (a : List UInt8) (b : Bool) (h : den E 58 [tyV t] [] = some (.str a,[])) (hl : a.length ≤ lim) : den E 121 [tyV t,.bool b] [] = some (.str (if b then a else [40] ++ a ++ [41]),[]) := by
 rw [tyV_eq] at h ⊢
 rw [den_eq prim_121,body_121]
 unfold lim at hl
 have l1 : 1 + a.length ≤ strMax := by unfold strMax; omega
 have l2 : a.length + 1 + 1 ≤ strMax := by unfold strMax; omega
 cases b <;> simp only [go_sem,Tryz.f121,h,Nat.zero_add,l1,l2]
theorem pr_len : ∀ {f : Nat} {m : PM} {t : Ty} {s : List UInt8},prR f m t = some s → s.length ≤ lim := by
 intro f
 induction f with
 | zero => intro m t s h; cases h
 | succ f ih =>
  intro m t s h
  cases m <;> simp only [prR] at h <;> (repeat' (split at h)) <;> first
   | (cases h; done)
   | (obtain ⟨rfl,h2⟩ := short_some h; exact h2)
   | (injection h with h; subst h; exact ih (by assumption))
theorem join_len (x : List UInt8) (r : List (List UInt8)) : (x :: r).length ≤ (Lib.join (x :: r) [32]).length + 1 := by
 rw [Lib.join_length]; simp only [List.length_cons,List.length_nil]; omega
theorem strs_map (l : List (List UInt8)) : strsOf (l.map AVal.str) = some l := by
 induction l with
 | nil => rfl
 | cons a l ih => simp [strsOf,ih]
theorem tprint_den : ∀ (f : Nat) (t : Ty) (s : List UInt8),t.sz < 1000000 → prR f .pr t = some s → den E 58 [tyV t] [] = some (.str s,[]) := by
 intro f
 induction f using Nat.strongRecOn with
 | _ f ih =>
 intro t s hsz h
 cases f with
 | zero => cases h
 | succ f =>
 have hsz' := sz_eq t
 have harg : ∀ g x a,g ≤ f → x.sz < 1000000 → prR g .arg x = some a → den E 121 [tyV x,.bool (atomicT x)] [] = some (.str a,[]) := by
  intro g x a hg hx hp
  cases g with
  | zero => cases hp
  | succ g =>
   simp only [prR] at hp
   split at hp
   · split at hp
     · cases hp
     · rename_i b hb
       have h1 := closed_den x b (atomicT x) (ih g (by omega) x b hx hb) (pr_len hb)
       rw [h1]
       split at hp
       · injection hp with hp; subst hp; rename_i hat; rw [hat]; rfl
       · rename_i hat
         obtain ⟨rfl,_⟩ := short_some hp
         rw [Bool.not_eq_true] at hat; rw [hat]; rfl
   · cases hp
 have hleft : ∀ g x a,g ≤ f → x.sz < 1000000 → prR g .left x = some a → den E 121 [tyV x,.bool (decide (x.kind < 4))] [] = some (.str a,[]) := by
  intro g x a hg hx hp
  cases g with
  | zero => cases hp
  | succ g =>
   simp only [prR] at hp
   split at hp
   · split at hp
     · cases hp
     · rename_i b hb
       have h1 := closed_den x b (decide (x.kind < 4)) (ih g (by omega) x b hx hb) (pr_len hb)
       rw [h1]
       split at hp
       · injection hp with hp; subst hp; rename_i hat; rw [hat]; rfl
       · rename_i hat
         obtain ⟨rfl,_⟩ := short_some hp
         rw [Bool.not_eq_true] at hat; rw [hat]; rfl
   · cases hp
 have hlen := pr_len h
 unfold lim at hlen
 simp only [prR] at h
 rw [den_eq prim_58,body_58,tyV_eq]
 cases k2 : t.kind == 2
 · cases k3 : t.kind == 3
   · cases k4 : t.kind == 4
     · cases k5 : t.kind == 5
       · cases k1 : t.kind == 1
         · simp only [k1,k2,k3,k4,k5,Bool.false_eq_true,if_false] at h
           cases h
         · simp only [k1,k2,k3,k4,k5,Bool.false_eq_true,if_false,if_true] at h
           obtain ⟨rfl,_⟩ := short_some h
           simp only [go_sem,Tryz.f58,k2,k3,k4,k5]
       · -- for all
         simp only [k2,k3,k4,k5,Bool.false_eq_true,if_false,if_true] at h
         split at h
         · cases h
         · rename_i x hx
           have hargs := kids1_some hx
           split at h
           · cases h
           · rename_i a ha
             obtain ⟨rfl,_⟩ := short_some h
             simp only [List.length_append,List.length_cons,List.length_nil] at hlen
             have l1 : 7 + t.name.length ≤ strMax := by unfold strMax; omega
             have hxs : x.sz < 1000000 := by rw [hargs] at hsz'; simp [Ty.szs] at hsz'; omega
             simp only [go_sem,Tryz.f58,k2,k3,k4,k5,hargs,tysV_cons,tysV_nil,tyV_eq,Int.le_refl,Int.toNat_zero,l1,Nat.zero_add,List.length_cons,List.length_nil]
             refine run_ind (fun y : Nat × Ty × List UInt8 => y.1 ≤ f ∧ y.2.1.sz < 1000000 ∧ ∃ rest,prR y.1 .tail y.2.1 = some rest ∧ y.2.2 ++ rest = [102,111,114,97,108,108,32] ++ t.name ++ a)
              (fun y => ⟨[(6,.str y.2.2),(7,.ptr (.loc 7) 0)],[],[(7,[.int .i64 y.2.1.kind,.str y.2.1.name,.int .i64 y.2.1.n,.slice (tysV y.2.1.args)])],1⟩)
              (fun _ => some (.str ([102,111,114,97,108,108,32] ++ t.name ++ a),[])) (fun y => y.1) (f,x,[102,111,114,97,108,108,32] ++ t.name) ⟨Nat.le_refl _,hxs,a,ha,rfl⟩ ?_ ?_
             · simp only [go_sem]
             · rintro ⟨g,y,acc⟩ ⟨hg,hy,rest,hr,hfull⟩ hrun
               simp only at hg hy hr hfull hrun ⊢
               have hfl := congrArg List.length hfull
               simp only [List.length_append,List.length_cons,List.length_nil] at hfl
               have hysz := sz_eq y
               cases g with
               | zero => cases hr
               | succ g =>
               simp only [prR] at hr
               cases y5 : y.kind == 5
               · simp only [y5,Bool.false_eq_true,if_false] at hr
                 split at hr
                 · cases hr
                 · rename_i b hb
                   obtain ⟨rfl,_⟩ := short_some hr
                   have d1 := ih g (by omega) y b hy hb
                   rw [tyV_eq] at d1
                   simp only [List.length_append,List.length_cons,List.length_nil] at hfl
                   have l2 : acc.length + 2 ≤ strMax := by unfold strMax; omega
                   have l3 : acc.length + 2 + b.length ≤ strMax := by unfold strMax; omega
                   rw [← hfull]
                   simp only [go_sem,y5,d1,l2,l3,List.length_append,List.length_cons,List.length_nil,Nat.zero_add,List.append_assoc]
               · simp only [y5,if_true] at hr
                 split at hr
                 · cases hr
                 · rename_i z hz
                   have hya := kids1_some hz
                   split at hr
                   · cases hr
                   · rename_i b hb
                     obtain ⟨rfl,_⟩ := short_some hr
                     simp only [List.length_append,List.length_cons,List.length_nil] at hfl
                     have l2 : 1 + y.name.length ≤ strMax := by unfold strMax; omega
                     have l3 : acc.length + (y.name.length + 1) ≤ strMax := by unfold strMax; omega
                     have hzs : z.sz < 1000000 := by rw [hya] at hysz; simp [Ty.szs] at hysz; omega
                     simp only [go_sem,y5,l2,l3,hya,tysV_cons,tysV_nil,tyV_eq,Int.le_refl,Int.toNat_zero,List.length_cons,List.length_nil,Nat.zero_add]
                     refine hrun (g,z,acc ++ ([32] ++ y.name)) _ ⟨by omega,hzs,b,hb,by rw [← hfull]; simp⟩ (by simp only; omega) ?_
                     simp only [go_sem]
     · -- functions
       simp only [k2,k3,k4,Bool.false_eq_true,if_false,if_true] at h
       split at h
       · cases h
       · rename_i x y hxy
         have hargs := kids2_some hxy
         split at h
         · cases h
         · rename_i a ha
           split at h
           · cases h
           · rename_i b hb
             obtain ⟨rfl,_⟩ := short_some h
             simp only [List.length_append,List.length_cons,List.length_nil] at hlen
             have hxs : x.sz < 1000000 ∧ y.sz < 1000000 := by rw [hargs] at hsz'; simp [Ty.szs] at hsz'; omega
             have d1 := hleft f x a (Nat.le_refl _) hxs.1 ha
             have d2 := ih f (by omega) y b hxs.2 hb
             rw [tyV_eq] at d1 d2
             have l1 : a.length + 4 ≤ strMax := by unfold strMax; omega
             have l2 : a.length + 4 + b.length ≤ strMax := by unfold strMax; omega
             simp only [go_sem,Tryz.f58,k2,k3,k4,hargs,tysV_cons,tysV_nil,tyV_eq,Int.le_refl,Int.toNat_zero,Int.toNat_one,Int.zero_le_ofNat,d1,d2,l1,l2,List.length_append,List.length_cons,List.length_nil,Nat.zero_add]
   · -- constructors
     simp only [k2,k3,Bool.false_eq_true,if_false,if_true] at h
     split at h
     · cases h
     · rename_i ss hss
       obtain ⟨rfl,_⟩ := short_some h
       obtain ⟨hsl,hsg⟩ := argsR_get hss
       have hal := szs_len t.args
       have hjl := join_len t.name ss
       simp only [List.length_cons] at hjl
       simp only [go_sem,Tryz.f58,k2,k3,tysV_len]
       refine run_for (fun i => ⟨[(3,.own 9 0 ((t.name :: ss.take i).map .str)),(22,.slice (tysV t.args)),(23,.int .i64 t.args.length),(24,.int .i64 i)],[],[],1⟩) t.args.length ?_ ?_ ?_
       · simp only [go_sem,List.take_zero]
       · intro i hi hr
         obtain ⟨x,hx⟩ : ∃ x,t.args[i]? = some x := ⟨t.args[i],List.getElem?_eq_getElem hi⟩
         obtain ⟨sx,hpx,hsx⟩ := hsg i x hx
         have hxs := szs_mem (List.mem_of_getElem? hx)
         have d1 := atomic_den x
         have d2 := harg f x sx (Nat.le_refl _) (by omega) hpx
         rw [tyV_eq] at d1 d2
         have w1 : IntKind.i64.wrap ((i : Int) + 1) = ((i + 1 : Nat) : Int) := wrapN (i + 1) (by omega)
         have hap : ((ss.take i).map AVal.str).length + 1 + 1 ≤ appMax := by simp; unfold appMax; omega
         have hmap : (ss.take i).map AVal.str ++ [.str sx] = (ss.take (i + 1)).map AVal.str := by rw [take_snoc hsx]; simp
         simp only [go_sem,natlt,decide_eq_true hi,natge0,tonat,tysV_get,hx,tyV_eq,d1,d2,hap,hmap]
         refine hr _ ?_
         simp only [go_sem,w1]
       · have hj : den E 61 [.slice (.str t.name :: ss.map AVal.str),.str [32]] [] = some (.str (Lib.join (t.name :: ss) [32]),[]) := by
          rw [den_prim prim_61]
          simp only [joinP,strsOf,strs_map,Option.bind_some,Option.map_some]
          rw [if_pos ⟨by omega,by simp; omega⟩]
         have htk : ss.take t.args.length = ss := by rw [← hsl]; exact List.take_length
         simp only [go_sem,natlt,Nat.lt_irrefl,htk,hj]
 · simp only [k2,if_true] at h
   split at h
   · rename_i hn
     obtain ⟨rfl,_⟩ := short_some h
     have hd : den E 120 [.int .i64 t.n] [] = some (.str (Lib.itoa t.n),[]) := by
      rw [den_prim prim_120]; simp only [itoaP]; rw [if_pos (by omega)]
     have l1 : 1 + (Lib.itoa t.n).length ≤ strMax := by simp only [List.length_cons] at hlen; unfold strMax; omega
     simp only [go_sem,Tryz.f58,k2,hd,l1,Nat.zero_add]
   · cases h
def goodK (t : Ty) : Bool := t.kind == 1 || (t.kind == 2 || (t.kind == 3 || (t.kind == 4 || t.kind == 5)))
end Go.Proofs
