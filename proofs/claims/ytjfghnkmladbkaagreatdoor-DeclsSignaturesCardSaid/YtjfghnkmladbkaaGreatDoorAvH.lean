/- What the readers of expressions and declarations give, and sizes and depths. -/
import Derived.Test.YtjfghnkmladbkaaGreatDoorAvG
namespace Go.Proofs
open Go.Av
set_option maxHeartbeats 16000000
set_option maxRecDepth 100000
structure Rd where
 l : List Tok
 bad : Bool
def rdV (r : Rd) : List AVal := [.slice (toksV r.l),.bool r.bad]
def seesR (r : Rd) (k : Int) (s : List UInt8) : Bool := !r.bad && seesT r.l k s
def takeR (r : Rd) (k : Int) (s : List UInt8) : Rd := if seesR r k s then ⟨r.l.tail,false⟩ else ⟨r.l,true⟩
def wordR (r : Rd) (k : Int) (s : List UInt8) : List UInt8 := if seesR r k s then textT r.l else []
def takesR (r : Rd) (k : Int) (s : List UInt8) : Rd := if seesR r k s then ⟨r.l.tail,false⟩ else r
theorem seesR_cons {r : Rd} {k : Int} {s : List UInt8} (h : seesR r k s = true) : r.bad = false ∧ ∃ t q,r.l = t :: q := by
 unfold seesR at h
 simp only [Bool.and_eq_true,Bool.not_eq_true'] at h
 exact ⟨h.1,seesT_cons h.2⟩
theorem rsees_den (r : Rd) (kind : Int) (text : List UInt8) : den E 193 [.ptr (.par 0) 0,.int .i64 kind,.str text] [rdV r] = some (.bool (seesR r kind text),[rdV r]) := by
 rw [den_eq prim_193,body_193]
 obtain ⟨l,bad⟩ := r
 unfold seesR rdV
 simp only
 cases bad
 · cases l with
   | nil => simp only [go_sem,Tryz.f193,toksV_nil,seesT,show decide ((0 : Int) > 0) = false from rfl]
   | cons t r =>
    have hl : decide ((((toksV r).length + 1 : Nat) : Int) > 0) = true := by simp
    cases h1 : t.kind == kind
    · simp only [go_sem,Tryz.f193,toksV_cons,hl,seesT,h1,Int.le_refl,Int.toNat_zero,List.length_cons]
    · cases h2 : text == []
      · cases h3 : t.text == text <;> simp only [go_sem,Tryz.f193,toksV_cons,hl,seesT,h1,h2,h3,Int.le_refl,Int.toNat_zero,List.length_cons]
      · simp only [go_sem,Tryz.f193,toksV_cons,hl,seesT,h1,h2,Int.le_refl,Int.toNat_zero,List.length_cons]
 · simp only [go_sem,Tryz.f193]
theorem rtake_den (r : Rd) (kind : Int) (text : List UInt8) : den E 187 [.ptr (.par 0) 0,.int .i64 kind,.str text] [rdV r] = some (.str (wordR r kind text),[rdV (takeR r kind text)]) := by
 rw [den_eq prim_187,body_187]
 have hs := rsees_den r kind text
 unfold wordR takeR
 cases h : seesR r kind text
 · rw [h] at hs
   unfold rdV at hs ⊢
   simp only [go_sem,Tryz.f187,hs]
 · obtain ⟨hb,t,q,hl⟩ := seesR_cons h
   rw [h] at hs
   unfold rdV at hs ⊢
   rw [hl,toksV_cons,hb] at hs
   rw [hl,hb]
   simp only [go_sem,Tryz.f187,hs,toksV_cons,textT,Int.le_refl,Int.toNat_zero,List.tail_cons,List.length_cons,Nat.le_refl,Int.toNat_one,Nat.le_add_left,Int.zero_le_ofNat,List.take_length]
theorem rtakes_den (r : Rd) (kind : Int) (text : List UInt8) : den E 135 [.ptr (.par 0) 0,.int .i64 kind,.str text] [rdV r] = some (.bool (seesR r kind text),[rdV (takesR r kind text)]) := by
 rw [den_eq prim_135,body_135]
 have hs := rsees_den r kind text
 unfold takesR
 cases h : seesR r kind text
 · rw [h] at hs
   unfold rdV at hs ⊢
   simp only [go_sem,Tryz.f135,hs]
 · obtain ⟨hb,t,q,hl⟩ := seesR_cons h
   rw [h] at hs
   unfold rdV at hs ⊢
   rw [hl,toksV_cons,hb] at hs
   rw [hl,hb]
   simp only [go_sem,Tryz.f135,hs,toksV_cons,List.tail_cons,List.length_cons,Nat.le_refl,Int.toNat_one,Nat.le_add_left,Int.zero_le_ofNat,List.take_length]
def typR (f : Nat) (r : Rd) : Option (Ty × Rd) :=
 if r.bad then some (zTy,r) else match tyR f .typ r.l with
  | none => none
  | some (t,ok,l') => if ok then some (t,⟨l',false⟩) else some (zTy,⟨[],true⟩)
theorem rtyp_den (f : Nat) (r : Rd) (x : Ty × Rd) (hok : ∀ t ∈ r.l,tokOK t) (hlen : r.l.length < 1000000) (h : typR f r = some x) : den E 191 [.ptr (.par 0) 0] [rdV r] = some (tyV x.1,[rdV x.2]) := by
 rw [den_eq prim_191,body_191]
 unfold typR at h
 unfold rdV
 cases hb : r.bad
 · rw [hb] at h
   simp only [Bool.false_eq_true,if_false] at h
   split at h
   · cases h
   · rename_i t ok l' ht
     have hd := tread_den r.l f _ hok hlen ht
     cases ok
     · simp only [Bool.false_eq_true,if_false] at h hd
       injection h with h; subst h
       rw [zTyV] at hd
       simp only [go_sem,Tryz.f191,hd,zTyV,toksV_nil]
     · simp only [if_true] at h hd
       injection h with h; subst h
       rw [tyV_eq] at hd
       simp only [go_sem,Tryz.f191,hd,tyV_eq]
 · rw [hb] at h
   simp only [if_true] at h
   injection h with h; subst h
   simp only [go_sem,Tryz.f191,hb,zTyV]
def namesR (r : Rd) : List (List UInt8) := if r.bad then [] else namesT r.l
def behindR (r : Rd) : Rd := ⟨r.l.drop (namesR r).length,r.bad⟩
theorem rnames_den (r : Rd) (hlen : r.l.length < 1000000) : den E 188 [.ptr (.par 0) 0] [rdV r] = some (.slice ((namesR r).map .str),[rdV (behindR r)]) := by
 rw [den_eq prim_188,body_188]
 simp only [go_sem,Tryz.f188]
 refine (run_ind (fun x : List (List UInt8) × List Tok => x.2 = r.l.drop x.1.length ∧ namesR r = x.1 ++ namesR ⟨x.2,r.bad⟩ ∧ x.1.length + x.2.length ≤ r.l.length) (fun x => ⟨[(0,.ptr (.par 0) 0),(3,.own 9 0 (x.1.map .str))],[rdV ⟨x.2,r.bad⟩],[],1⟩)
  (fun _ => some (.slice ((namesR r).map .str),[rdV (behindR r)])) (fun x => x.2.length) ([],r.l) ⟨by simp,by simp,by simp⟩ ?_ ?_)
 · simp only [go_sem,List.map_nil,rdV]
 · rintro ⟨names,lx⟩ ⟨hdrop,hnames,hle⟩ hrun
   simp only at hdrop hnames hle hrun ⊢
   have t1 := rsees_den ⟨lx,r.bad⟩ 1 []
   have t2 := rtake_den ⟨lx,r.bad⟩ 1 []
   cases b1 : seesR ⟨lx,r.bad⟩ 1 []
   · have hnx : namesR ⟨lx,r.bad⟩ = [] := by
      unfold seesR at b1
      unfold namesR
      cases hb : r.bad
      · simp only [hb,Bool.not_false,Bool.true_and] at b1
        simp only [Bool.false_eq_true,if_false]
        cases lx with
        | nil => rfl
        | cons t q => simp only [seesT] at b1; simp only [namesT]; rw [show (t.kind == 1) = false by simpa using b1]; rfl
      · rfl
     rw [hnx,List.append_nil] at hnames
     rw [b1] at t1
     have hbe : behindR r = ⟨lx,r.bad⟩ := by unfold behindR; rw [hnames,← hdrop]
     rw [hbe,hnames]
     simp only [rdV] at t1 ⊢
     simp only [go_sem,t1]
   · obtain ⟨hb,tk,q,hl⟩ := seesR_cons b1
     simp only at hb hl
     subst hl
     have hk : (tk.kind == 1) = true := by unfold seesR at b1; simpa [seesT,hb] using b1
     have hnx : namesR ⟨tk :: q,r.bad⟩ = tk.text :: namesR ⟨q,r.bad⟩ := by simp only [namesR,hb,Bool.false_eq_true,if_false,namesT,hk,if_true]
     rw [b1] at t1
     simp only [wordR,takeR,b1,if_true,textT,List.tail_cons] at t2
     have hap : (names.map AVal.str).length + 1 ≤ appMax := by
      rw [List.length_map]; simp only [List.length_cons] at hle; unfold appMax; omega
     have hmap : names.map AVal.str ++ [.str tk.text] = (names ++ [tk.text]).map AVal.str := by simp
     simp only [rdV,hb] at t1 t2 hrun ⊢
     simp only [go_sem,t1,t2,hap,hmap]
     refine hrun (names ++ [tk.text],q) _ ⟨?_,?_,?_⟩ ?_ ?_
     · simp only [List.length_append,List.length_singleton]
       rw [← List.drop_drop,← hdrop]; rfl
     · rw [hnames,hnx,hb]; simp
     · simp only [List.length_append,List.length_singleton]; simp only [List.length_cons] at hle; omega
     · simp
     · simp only [go_sem]
mutual
inductive Ex where
 | mk (kind : Int) (name : List UInt8) (told : Bool) (ty : Ty) (kids : List Ex) (alts : List Al)
inductive Al where
 | mk (con : List UInt8) (vars : List (List UInt8)) (body : Ex)
end
def Ex.kind : Ex → Int | .mk k _ _ _ _ _ => k
def Ex.name : Ex → List UInt8 | .mk _ s _ _ _ _ => s
def Ex.told : Ex → Bool | .mk _ _ b _ _ _ => b
def Ex.ty : Ex → Ty | .mk _ _ _ t _ _ => t
def Ex.kids : Ex → List Ex | .mk _ _ _ _ l _ => l
def Ex.alts : Ex → List Al | .mk _ _ _ _ _ l => l
def Al.con : Al → List UInt8 | .mk c _ _ => c
def Al.vars : Al → List (List UInt8) | .mk _ v _ => v
def Al.body : Al → Ex | .mk _ _ e => e
mutual
def exC : Ex → List AVal
 | .mk k s b t ks al => [.int .i64 k,.str s,.bool b,.int .i64 t.kind,.str t.name,.int .i64 t.n,.slice (tysV t.args),.slice (exsV ks),.slice (alsV al)]
def exsV : List Ex → List AVal
 | [] => []
 | e :: r => .agg (exC e) :: exsV r
def alV : Al → AVal
 | .mk c vs e => .agg (.str c :: .slice (vs.map .str) :: exC e)
def alsV : List Al → List AVal
 | [] => []
 | a :: r => alV a :: alsV r
end
theorem exC_eq (e : Ex) : exC e = [.int .i64 e.kind,.str e.name,.bool e.told,.int .i64 e.ty.kind,.str e.ty.name,.int .i64 e.ty.n,.slice (tysV e.ty.args),.slice (exsV e.kids),.slice (alsV e.alts)] := by
 cases e; simp [exC,Ex.kind,Ex.name,Ex.told,Ex.ty,Ex.kids,Ex.alts]
theorem exsV_nil : exsV [] = [] := by simp [exsV]
theorem exsV_cons (e : Ex) (r : List Ex) : exsV (e :: r) = .agg (exC e) :: exsV r := by simp [exsV]
theorem exsV_map (l : List Ex) : exsV l = l.map fun e => .agg (exC e) := by induction l <;> simp_all [exsV]
theorem alsV_nil : alsV [] = [] := by simp [alsV]
theorem alsV_map (l : List Al) : alsV l = l.map alV := by induction l <;> simp_all [alsV]
theorem alV_eq (a : Al) : alV a = .agg (.str a.con :: .slice (a.vars.map .str) :: exC a.body) := by cases a; simp [alV,Al.con,Al.vars,Al.body]
def zEx : Ex := .mk 0 [] false zTy [] []
inductive XM where
 | expr
 | lets
 | atom
 | loop (e : Ex)
 | alts (acc : List Al)
def exR : Nat → XM → Rd → Option (Ex × Rd)
 | 0,_,_ => none
 | f + 1,m,r => match m with
  | .expr => if r.bad then some (zEx,r)
   else if seesR r 6 [92] then (match exR f .expr (takeR (takeR (takesR r 6 [92]) 1 []) 6 [45,62]) with
    | none => none
    | some (x,r4) => some (.mk 3 (wordR (takesR r 6 [92]) 1 []) false zTy [x] [],r4))
   else if seesR r 3 [108,101,116] then exR f .lets (takesR r 3 [108,101,116])
   else if seesR r 3 [99,97,115,101] then (match exR f .expr (takesR r 3 [99,97,115,101]) with
    | none => none
    | some (x,r1) => if seesR (takeR (takeR r1 3 [111,102]) 6 [123]) 6 [125] then some (.mk 6 [] false zTy [x] [],takesR (takeR (takeR r1 3 [111,102]) 6 [123]) 6 [125])
     else match exR f (.alts []) (takeR (takeR r1 3 [111,102]) 6 [123]) with
      | none => none
      | some (y,r4) => some (.mk 6 [] false zTy [x] y.alts,takeR r4 6 [125]))
   else match exR f .atom r with
    | none => none
    | some (e,r1) => exR f (.loop e) r1
  | .loop e => if seesR r 1 [] || (seesR r 2 [] || seesR r 6 [40]) then (match exR f .atom r with
   | none => none
   | some (x,r1) => exR f (.loop (.mk 4 [] false zTy [e,x] [])) r1) else some (e,r)
  | .lets => if seesR (takeR r 1 []) 6 [58] then (match typR f (takesR (takeR r 1 []) 6 [58]) with
   | none => none
   | some (t,r2) => match exR f .expr (takeR r2 6 [61]) with
    | none => none
    | some (x,r3) => match exR f .expr (takeR r3 3 [105,110]) with
     | none => none
     | some (y,r4) => some (.mk 5 (wordR r 1 []) true t [x,y] [],r4))
   else (match exR f .expr (takeR (takeR r 1 []) 6 [61]) with
    | none => none
    | some (x,r3) => match exR f .expr (takeR r3 3 [105,110]) with
     | none => none
     | some (y,r4) => some (.mk 5 (wordR r 1 []) false zTy [x,y] [],r4))
  | .atom => if seesR r 1 [] then some (.mk 1 (wordR r 1 []) false zTy [] [],takeR r 1 [])
   else if seesR r 2 [] then some (.mk 2 (wordR r 2 []) false zTy [] [],takeR r 2 [])
   else (match exR f .expr (takeR r 6 [40]) with
    | none => none
    | some (e,r1) => if seesR r1 6 [58] then (match typR f (takesR r1 6 [58]) with
     | none => none
     | some (t,r2) => some (.mk 7 [] false t [e] [],takeR r2 6 [41])) else some (e,takeR r1 6 [41]))
  | .alts acc => match exR f .expr (takeR (behindR (takeR r 2 [])) 6 [45,62]) with
   | none => none
   | some (b,r4) => if seesR r4 6 [59] then exR f (.alts (acc ++ [.mk (wordR r 2 []) (namesR (takeR r 2 [])) b])) (takesR r4 6 [59])
    else some (.mk 0 [] false zTy [] (acc ++ [.mk (wordR r 2 []) (namesR (takeR r 2 [])) b]),r4)
theorem takeR_suf (r : Rd) (k : Int) (s : List UInt8) : (takeR r k s).l <:+ r.l := by
 unfold takeR; split
 · exact tail_suf _
 · exact List.suffix_refl _
theorem takesR_suf (r : Rd) (k : Int) (s : List UInt8) : (takesR r k s).l <:+ r.l := by
 unfold takesR; split
 · exact tail_suf _
 · exact List.suffix_refl _
theorem behindR_suf (r : Rd) : (behindR r).l <:+ r.l := List.drop_suffix _ _
theorem typR_suf {f : Nat} {r : Rd} {t : Ty} {r' : Rd} (h : typR f r = some (t,r')) : r'.l <:+ r.l := by
 unfold typR at h
 split at h
 · injection h with h; injection h with _ h; subst h; exact List.suffix_refl _
 · split at h
   · cases h
   · rename_i t2 ok l2 h2
     split at h
     · injection h with h; injection h with _ h; subst h; exact tyR_suf _ _ _ _ _ _ h2
     · injection h with h; injection h with _ h; subst h; exact List.nil_suffix
theorem exR_suf : ∀ (f : Nat) (m : XM) (r : Rd) (x : Ex) (r' : Rd),exR f m r = some (x,r') → r'.l <:+ r.l := by
 intro f
 induction f with
 | zero => intro m r x r' h; cases h
 | succ f ih =>
  intro m r x r' h
  have fin : ∀ {a b : Ex} {p q : Rd},some (a,p) = some (b,q) → p.l <:+ r.l → q.l <:+ r.l := fun h1 h2 => by
   injection h1 with h1; injection h1 with _ h1; subst h1; exact h2
  cases m with
  | expr =>
   simp only [exR] at h
   split at h
   · exact fin h (List.suffix_refl _)
   · split at h
     · split at h
       · cases h
       · rename_i x1 r1 h1
         exact fin h ((ih _ _ _ _ h1).trans ((takeR_suf _ _ _).trans ((takeR_suf _ _ _).trans (takesR_suf _ _ _))))
     · split at h
       · exact (ih _ _ _ _ h).trans (takesR_suf _ _ _)
       · split at h
         · split at h
           · cases h
           · rename_i x1 r1 h1
             have s1 := (ih _ _ _ _ h1).trans (takesR_suf _ _ _)
             have s2 := (takeR_suf (takeR r1 3 [111,102]) 6 [123]).trans ((takeR_suf r1 3 [111,102]).trans s1)
             split at h
             · exact fin h ((takesR_suf _ _ _).trans s2)
             · split at h
               · cases h
               · rename_i y r4 h4
                 exact fin h ((takeR_suf _ _ _).trans ((ih _ _ _ _ h4).trans s2))
         · split at h
           · cases h
           · rename_i e r1 h1
             exact (ih _ _ _ _ h).trans (ih _ _ _ _ h1)
  | loop e =>
   simp only [exR] at h
   split at h
   · split at h
     · cases h
     · rename_i e1 r1 h1
       exact (ih _ _ _ _ h).trans (ih _ _ _ _ h1)
   · exact fin h (List.suffix_refl _)
  | lets =>
   simp only [exR] at h
   split at h
   · split at h
     · cases h
     · rename_i t r2 h2
       have s2 := (typR_suf h2).trans ((takesR_suf _ _ _).trans (takeR_suf _ _ _))
       split at h
       · cases h
       · rename_i x r3 h3
         have s3 := (ih _ _ _ _ h3).trans ((takeR_suf _ _ _).trans s2)
         split at h
         · cases h
         · rename_i y r4 h4
           exact fin h ((ih _ _ _ _ h4).trans ((takeR_suf _ _ _).trans s3))
   · split at h
     · cases h
     · rename_i x r3 h3
       have s3 := (ih _ _ _ _ h3).trans ((takeR_suf _ _ _).trans (takeR_suf _ _ _))
       split at h
       · cases h
       · rename_i y r4 h4
         exact fin h ((ih _ _ _ _ h4).trans ((takeR_suf _ _ _).trans s3))
  | atom =>
   simp only [exR] at h
   split at h
   · exact fin h (takeR_suf _ _ _)
   · split at h
     · exact fin h (takeR_suf _ _ _)
     · split at h
       · cases h
       · rename_i e r1 h1
         have s1 := (ih _ _ _ _ h1).trans (takeR_suf _ _ _)
         split at h
         · split at h
           · cases h
           · rename_i t r2 h2
             exact fin h ((takeR_suf _ _ _).trans ((typR_suf h2).trans ((takesR_suf _ _ _).trans s1)))
         · exact fin h ((takeR_suf _ _ _).trans s1)
  | alts acc =>
   simp only [exR] at h
   split at h
   · cases h
   · rename_i b r4 h4
     have s4 := (ih _ _ _ _ h4).trans ((takeR_suf _ _ _).trans ((behindR_suf _).trans (takeR_suf _ _ _)))
     split at h
     · exact (ih _ _ _ _ h).trans ((takesR_suf _ _ _).trans s4)
     · exact fin h s4
def XDen : XM → Rd → Ex × Rd → Prop
 | .expr,r,x => den E 192 [.ptr (.par 0) 0] [rdV r] = some (.agg (exC x.1),[rdV x.2])
 | .lets,r,x => den E 230 [.ptr (.par 0) 0] [rdV r] = some (.agg (exC x.1),[rdV x.2])
 | .atom,r,x => den E 232 [.ptr (.par 0) 0] [rdV r] = some (.agg (exC x.1),[rdV x.2])
 | _,_,_ => True
theorem zExC : exC zEx = [.int .i64 0,.str [],.bool false,.int .i64 0,.str [],.int .i64 0,.slice [],.slice [],.slice []] := by
 simp [zEx,exC,zTy,Ty.kind,Ty.name,Ty.n,Ty.args,tysV,exsV,alsV]
theorem zTy_k : zTy.kind = 0 := rfl
theorem zTy_s : zTy.name = [] := rfl
theorem zTy_n : zTy.n = 0 := rfl
theorem zTy_a : zTy.args = [] := rfl
theorem exmk (k : Int) (s : List UInt8) (b : Bool) (t : Ty) (ks : List Ex) (al : List Al) : (Ex.mk k s b t ks al).kind = k ∧ (Ex.mk k s b t ks al).name = s ∧ (Ex.mk k s b t ks al).told = b ∧ (Ex.mk k s b t ks al).ty = t ∧ (Ex.mk k s b t ks al).kids = ks ∧ (Ex.mk k s b t ks al).alts = al := ⟨rfl,rfl,rfl,rfl,rfl,rfl⟩
theorem const67 : List.mapM constCell [Value.string { data := #[] },Value.slice none 0 0,Value.int IntKind.i64 0,Value.string { data := #[] },Value.bool false,Value.int IntKind.i64 0,Value.string { data := #[] },Value.int IntKind.i64 0,Value.slice none 0 0,Value.slice none 0 0,Value.slice none 0 0] =
 some [.str [],.slice [],.int .i64 0,.str [],.bool false,.int .i64 0,.str [],.int .i64 0,.slice [],.slice [],.slice []] := rfl
def exB (b : Bool) (e : Ex) : List AVal := match b with
 | false => exC e
 | true => [.int .i64 4,.str [],.bool false,.int .i64 0,.str [],.int .i64 0,.own 25 0 [],.slice (exsV e.kids),.own 291 0 []]
theorem altOne_den (q : Rd) (acc : List Al) (x : Ex × Rd) (hl : q.l.length < 1000000) (ha : acc.length + 1 ≤ 2000000) (hx : den E 192 [.ptr (.par 0) 0] [rdV (takeR (behindR (takeR q 2 [])) 6 [45,62])] = some (.agg (exC x.1),[rdV x.2])) :
 den E 231 [.ptr (.par 0) 0] [[.ptr (.par 1) 0,.own 291 0 (alsV acc)],rdV q] = some (.tup [],[[.ptr (.par 1) 0,.own 291 0 (alsV (acc ++ [.mk (wordR q 2 []) (namesR (takeR q 2 [])) x.1]))],rdV x.2]) := by
 rw [den_eq prim_231,body_231]
 have a1 := rtake_den q 2 []
 have a2 := rnames_den (takeR q 2 []) (Nat.lt_of_le_of_lt (takeR_suf q 2 []).length_le hl)
 have a3 := rtake_den (behindR (takeR q 2 [])) 6 [45,62]
 have hap : (alsV acc).length + 1 ≤ appMax := by rw [alsV_map,List.length_map]; unfold appMax; omega
 have hlen : ((alsV acc).length : Int) = ((alsV acc).length : Nat) := rfl
 have hmap : alsV (acc ++ [.mk (wordR q 2 []) (namesR (takeR q 2 [])) x.1]) = alsV acc ++ [.agg (.str (wordR q 2 []) :: .slice ((namesR (takeR q 2 [])).map .str) :: exC x.1)] := by
  rw [alsV_map,alsV_map,List.map_append,List.map_cons,List.map_nil]; simp [alV]
 simp only [rdV,exC_eq] at a1 a2 a3 hx hmap ⊢
 simp only [go_sem,Tryz.f231,const67,a1,a2,a3,hx,hap,hmap]
theorem pieces0_den (r : Rd) (c : AVal) (h : seesR (takeR r 6 [123]) 6 [125] = true) (f : FuncId) (hc : ∃ T l,c = .own T 0 l) :
 den E 189 [.ptr (.par 0) 0,.func f [.ptr (.par 1) 0] []] [rdV r,[.ptr (.par 0) 0,c]] = some (.tup [],[rdV (takesR (takeR r 6 [123]) 6 [125]),[.ptr (.par 0) 0,c]]) := by
 obtain ⟨T,l,rfl⟩ := hc
 rw [den_eq prim_189,body_189]
 have a1 := rtake_den r 6 [123]
 have a2 := rtakes_den (takeR r 6 [123]) 6 [125]
 rw [h] at a2
 simp only [rdV] at a1 a2 ⊢
 simp only [go_sem,Tryz.f189,a1,a2]
theorem pieces_den (f : Nat) (r : Rd) (y : Ex × Rd) (hlen : r.l.length < 1000000) (h : seesR (takeR r 6 [123]) 6 [125] = false) (hy : exR f (.alts []) (takeR r 6 [123]) = some y)
 (IH : ∀ g,g < f → ∀ q x,q.l <:+ r.l → exR g .expr q = some x → den E 192 [.ptr (.par 0) 0] [rdV q] = some (.agg (exC x.1),[rdV x.2])) :
 den E 189 [.ptr (.par 0) 0,.func 231 [.ptr (.par 1) 0] []] [rdV r,[.ptr (.par 0) 0,.own 291 0 []]] = some (.tup [],[rdV (takeR y.2 6 [125]),[.ptr (.par 0) 0,.own 291 0 (alsV y.1.alts)]]) := by
 have step : ∀ g,g ≤ f → ∀ acc q y,q.l <:+ r.l → acc.length + 1 ≤ 2000000 → exR g (.alts acc) q = some y → ∃ g' acc' r4,g' < g ∧ r4.l <:+ q.l ∧ acc'.length = acc.length + 1 ∧
  den E 231 [.ptr (.par 0) 0] [[.ptr (.par 1) 0,.own 291 0 (alsV acc)],rdV q] = some (.tup [],[[.ptr (.par 1) 0,.own 291 0 (alsV acc')],rdV r4]) ∧
  (if seesR r4 6 [59] then exR g' (.alts acc') (takesR r4 6 [59]) else some (.mk 0 [] false zTy [] acc',r4)) = some y := by
  intro g hg acc q y hq hac h
  cases g with
  | zero => cases h
  | succ g =>
   simp only [exR] at h
   split at h
   · cases h
   · rename_i b r4 h4
     have sq := (takeR_suf (behindR (takeR q 2 [])) 6 [45,62]).trans ((behindR_suf (takeR q 2 [])).trans (takeR_suf q 2 []))
     exact ⟨g,_,r4,Nat.lt_succ_self g,(exR_suf _ _ _ _ _ h4).trans sq,by simp,altOne_den q acc (b,r4) (Nat.lt_of_le_of_lt hq.length_le hlen) hac (IH g (by omega) _ _ (sq.trans hq) h4),h⟩
 rw [den_eq prim_189,body_189]
 have a1 := rtake_den r 6 [123]
 have a2 := rtakes_den (takeR r 6 [123]) 6 [125]
 rw [h] at a2
 have st := takeR_suf r 6 [123]
 obtain ⟨g0,acc0,r0,hg0,hs0,hl0,d0,e0⟩ := step f (Nat.le_refl _) [] _ y st (by simp) hy
 have ht0 : takesR (takeR r 6 [123]) 6 [125] = takeR r 6 [123] := by unfold takesR; rw [h]; rfl
 rw [ht0] at a2
 simp only [rdV,alsV_nil] at a1 a2 d0
 unfold rdV
 simp only [go_sem,Tryz.f189,a1,a2,d0]
 refine run_ind (fun x : Nat × List Al × Rd => x.1 < f ∧ x.2.2.l <:+ r.l ∧ x.2.1.length + x.2.2.l.length ≤ r.l.length + 1 ∧ (if seesR x.2.2 6 [59] then exR x.1 (.alts x.2.1) (takesR x.2.2 6 [59]) else some (.mk 0 [] false zTy [] x.2.1,x.2.2)) = some y)
  (fun x => ⟨[(0,.ptr (.par 0) 0),(1,.func 231 [.ptr (.par 1) 0] [])],[rdV x.2.2,[.ptr (.par 0) 0,.own 291 0 (alsV x.2.1)]],[],1⟩)
  (fun _ => some (.tup [],[rdV (takeR y.2 6 [125]),[.ptr (.par 0) 0,.own 291 0 (alsV y.1.alts)]])) (fun x => x.1) (g0,acc0,r0) ⟨hg0,hs0.trans st,?_,e0⟩ ?_ ?_
 · have := hs0.length_le; have := st.length_le; simp only [List.length_nil] at hl0; simp only; omega
 · simp only [go_sem,rdV]
 · rintro ⟨g,acc,q⟩ ⟨hg,hq,hle,he⟩ hrun
   simp only at hg hq hle he hrun ⊢
   have b1 := rtakes_den q 6 [59]
   cases h1 : seesR q 6 [59]
   · rw [h1] at he b1
     simp only [Bool.false_eq_true,if_false] at he
     injection he with he; subst he
     have hk : takesR q 6 [59] = q := by unfold takesR; rw [h1]; rfl
     rw [hk] at b1
     have b2 := rtake_den q 6 [125]
     simp only [rdV] at b1 b2 ⊢
     simp only [go_sem,b1,b2,Ex.alts]
   · rw [h1] at he b1
     simp only [if_true] at he
     obtain ⟨hb,t,w,hw⟩ := seesR_cons h1
     have hk : (takesR q 6 [59]).l.length + 1 = q.l.length := by unfold takesR; rw [h1,if_pos rfl,hw]; simp
     have hsq := takesR_suf q 6 [59]
     obtain ⟨g',acc',r',hg',hs',hl',d',e'⟩ := step g (by omega) acc _ y (hsq.trans hq) (by omega) he
     simp only [rdV] at b1 d' ⊢
     simp only [go_sem,b1,d']
     refine hrun (g',acc',r') _ ⟨by omega,hs'.trans (hsq.trans hq),?_,e'⟩ hg' ?_
     · have := hs'.length_le; simp only; omega
     · simp only [go_sem,rdV]
theorem exR_den : ∀ (f : Nat) (m : XM) (r : Rd) (x : Ex × Rd),(∀ t ∈ r.l,tokOK t) → r.l.length < 1000000 → exR f m r = some x → XDen m r x := by
 intro f
 induction f using Nat.strongRecOn with
 | _ f ih =>
 intro m r x hok hlen h
 cases f with
 | zero => cases h
 | succ f =>
 have sub : ∀ {q : Rd},q.l <:+ r.l → (∀ t ∈ q.l,tokOK t) ∧ q.l.length < 1000000 := fun hs => ⟨fun t ht => hok t (hs.subset ht),Nat.lt_of_le_of_lt hs.length_le hlen⟩
 cases m with
 | alts acc => trivial
 | loop e => trivial
 | lets =>
  simp only [XDen]
  simp only [exR] at h
  rw [den_eq prim_230,body_230]
  have a1 := rtake_den r 1 []
  have a2 := rtakes_den (takeR r 1 []) 6 [58]
  cases b2 : seesR (takeR r 1 []) 6 [58]
  · rw [b2] at h a2
    simp only [takesR,b2,Bool.false_eq_true,if_false] at h a2
    split at h
    · cases h
    · rename_i x1 r3 h3
      have sx := (takeR_suf (takeR r 1 []) 6 [61]).trans (takeR_suf r 1 [])
      have d3 := ih f (by omega) .expr _ _ (sub sx).1 (sub sx).2 h3
      have sx3 := (exR_suf _ _ _ _ _ h3).trans sx
      split at h
      · cases h
      · rename_i y r4 h4
        have sx4 := (takeR_suf r3 3 [105,110]).trans sx3
        have d4 := ih f (by omega) .expr _ _ (sub sx4).1 (sub sx4).2 h4
        have a3 := rtake_den (takeR r 1 []) 6 [61]
        have a4 := rtake_den r3 3 [105,110]
        injection h with h; subst h
        simp only [XDen,rdV,exC_eq] at a1 a2 a3 a4 d3 d4
        unfold rdV
        simp only [go_sem,Tryz.f230,a1,a2,a3,a4,d3,d4,exC_eq,exmk,exsV_cons,exsV_nil,alsV_nil,tysV_nil,zTy_k,zTy_s,zTy_n,zTy_a]
  · rw [b2] at h a2
    simp only [if_true] at h
    split at h
    · cases h
    · rename_i t r2 h2
      have s2 := (takesR_suf (takeR r 1 []) 6 [58]).trans (takeR_suf r 1 [])
      have d2 := rtyp_den f _ _ (sub s2).1 (sub s2).2 h2
      have s2' := (typR_suf h2).trans s2
      split at h
      · cases h
      · rename_i x1 r3 h3
        have sx := (takeR_suf r2 6 [61]).trans s2'
        have d3 := ih f (by omega) .expr _ _ (sub sx).1 (sub sx).2 h3
        have sx3 := (exR_suf _ _ _ _ _ h3).trans sx
        split at h
        · cases h
        · rename_i y r4 h4
          have sx4 := (takeR_suf r3 3 [105,110]).trans sx3
          have d4 := ih f (by omega) .expr _ _ (sub sx4).1 (sub sx4).2 h4
          have a3 := rtake_den r2 6 [61]
          have a4 := rtake_den r3 3 [105,110]
          injection h with h; subst h
          simp only [XDen,rdV,exC_eq,tyV_eq] at a1 a2 a3 a4 d2 d3 d4
          unfold rdV
          simp only [go_sem,Tryz.f230,a1,a2,a3,a4,d2,d3,d4,exC_eq,exmk,exsV_cons,exsV_nil,alsV_nil]
 | atom =>
  simp only [XDen]
  simp only [exR] at h
  rw [den_eq prim_232,body_232]
  have s1 := rsees_den r 1 []
  have s2 := rsees_den r 2 []
  cases b1 : seesR r 1 []
  · rw [b1] at h s1
    simp only [Bool.false_eq_true,if_false] at h
    cases b2 : seesR r 2 []
    · rw [b2] at h s2
      simp only [Bool.false_eq_true,if_false] at h
      have a1 := rtake_den r 6 [40]
      split at h
      · cases h
      · rename_i e r1 h1
        have sx := takeR_suf r 6 [40]
        have d1 := ih f (by omega) .expr _ _ (sub sx).1 (sub sx).2 h1
        have sx1 := (exR_suf _ _ _ _ _ h1).trans sx
        have a2 := rtakes_den r1 6 [58]
        cases b3 : seesR r1 6 [58]
        · rw [b3] at h a2
          simp only [takesR,b3,Bool.false_eq_true,if_false] at h a2
          injection h with h; subst h
          have a3 := rtake_den r1 6 [41]
          simp only [XDen,rdV,exC_eq] at s1 s2 a1 a2 a3 d1
          unfold rdV
          simp only [go_sem,Tryz.f232,s1,s2,a1,a2,a3,d1,exC_eq]
        · rw [b3] at h a2
          simp only [if_true] at h
          split at h
          · cases h
          · rename_i t r2 h2
            have sx2 := (takesR_suf r1 6 [58]).trans sx1
            have d2 := rtyp_den f _ _ (sub sx2).1 (sub sx2).2 h2
            injection h with h; subst h
            have a3 := rtake_den r2 6 [41]
            simp only [XDen,rdV,exC_eq,tyV_eq] at s1 s2 a1 a2 a3 d1 d2
            unfold rdV
            simp only [go_sem,Tryz.f232,s1,s2,a1,a2,a3,d1,d2,exC_eq,exmk,exsV_cons,exsV_nil,alsV_nil]
    · rw [b2] at h s2
      simp only [if_true] at h
      injection h with h; subst h
      have a1 := rtake_den r 2 []
      simp only [rdV] at s1 s2 a1
      unfold rdV
      simp only [go_sem,Tryz.f232,s1,s2,a1,exC_eq,exmk,exsV_nil,alsV_nil,tysV_nil,zTy_k,zTy_s,zTy_n,zTy_a]
  · rw [b1] at h s1
    simp only [if_true] at h
    injection h with h; subst h
    have a1 := rtake_den r 1 []
    simp only [rdV] at s1 a1
    unfold rdV
    simp only [go_sem,Tryz.f232,s1,a1,exC_eq,exmk,exsV_nil,alsV_nil,tysV_nil,zTy_k,zTy_s,zTy_n,zTy_a]
 | expr =>
  simp only [XDen]
  simp only [exR] at h
  rw [den_eq prim_192,body_192]
  cases hb : r.bad
  · rw [hb] at h
    simp only [Bool.false_eq_true,if_false] at h
    have a1 := rtakes_den r 6 [92]
    cases b1 : seesR r 6 [92]
    · have hk1 : takesR r 6 [92] = r := by unfold takesR; rw [b1]; rfl
      rw [b1] at h
      rw [hk1,b1] at a1
      simp only [Bool.false_eq_true,if_false] at h
      have a2 := rtakes_den r 3 [108,101,116]
      cases b2 : seesR r 3 [108,101,116]
      · have hk2 : takesR r 3 [108,101,116] = r := by unfold takesR; rw [b2]; rfl
        rw [b2] at h
        rw [hk2,b2] at a2
        simp only [Bool.false_eq_true,if_false] at h
        have a3 := rtakes_den r 3 [99,97,115,101]
        cases b3 : seesR r 3 [99,97,115,101]
        · have hk3 : takesR r 3 [99,97,115,101] = r := by unfold takesR; rw [b3]; rfl
          rw [b3] at h
          rw [hk3,b3] at a3
          simp only [Bool.false_eq_true,if_false] at h
          split at h
          · cases h
          · rename_i e r1 h1
            have d1 := ih f (by omega) .atom _ _ hok hlen h1
            have sx := exR_suf _ _ _ _ _ h1
            simp only [XDen,rdV,hb,exC_eq] at a1 a2 a3 d1
            simp only [rdV,hb]
            simp only [go_sem,Tryz.f192,a1,a2,a3,d1]
            refine run_ind (fun y : Nat × Bool × Ex × Rd => y.1 ≤ f ∧ y.2.2.2.l <:+ r.l ∧ (y.2.1 = true → ∃ ks,y.2.2.1 = .mk 4 [] false zTy ks []) ∧ exR y.1 (.loop y.2.2.1) y.2.2.2 = some x) (fun y => ⟨[(0,.ptr (.par 0) 0),(2,.ptr (.loc 2) 0),(6,.ptr (.loc 6) 0)],[rdV y.2.2.2],
             [(2,[.int .i64 0,.str [],.bool false,.int .i64 0,.str [],.int .i64 0,.own 25 0 [],.own 89 0 [],.own 291 0 []]),(6,exB y.2.1 y.2.2.1)],1⟩)
             (fun _ => some (.agg (exC x.1),[rdV x.2])) (fun y => y.1) (f,false,e,r1) ⟨Nat.le_refl _,sx,(fun h => by cases h),h⟩ ?_ ?_
            · simp only [go_sem,rdV,exB,exC_eq]
            · rintro ⟨g,b,e2,q⟩ ⟨hg,hq,hb2,hx⟩ hrun
              simp only at hg hq hb2 hx hrun ⊢
              cases g with
              | zero => cases hx
              | succ g =>
               simp only [exR] at hx
               have c1 := rsees_den q 1 []
               have c2 := rsees_den q 2 []
               have c3 := rsees_den q 6 [40]
               have step : (seesR q 1 [] || (seesR q 2 [] || seesR q 6 [40])) = true → ∃ y r2,exR g .atom q = some (y,r2) ∧ exR g (.loop (.mk 4 [] false zTy [e2,y] [])) r2 = some x := fun hb => by
                rw [hb] at hx
                simp only [if_true] at hx
                split at hx
                · cases hx
                · rename_i y r2 h2
                  exact ⟨y,r2,h2,hx⟩
               cases b
               case' true => obtain ⟨ks,rfl⟩ := hb2 rfl
               all_goals (
                simp only [rdV,exC_eq] at c1 c2 c3 hrun ⊢
                cases n1 : seesR q 1 []
                · cases n2 : seesR q 2 []
                  · cases n3 : seesR q 6 [40]
                    · rw [n1,n2,n3] at hx
                      simp only [Bool.or_false,Bool.false_eq_true,if_false] at hx
                      injection hx with hx; subst hx
                      simp only [go_sem,exB,c1,c2,c3,n1,n2,n3,exC_eq,exmk,alsV_nil,tysV_nil,zTy_k,zTy_s,zTy_n,zTy_a]
                    · obtain ⟨y,r2,h2,h3⟩ := step (by simp [n1,n2,n3])
                      have d2 := ih g (by omega) .atom _ _ (sub hq).1 (sub hq).2 h2
                      simp only [XDen,rdV,exC_eq] at d2
                      simp only [go_sem,exB,c1,c2,c3,n1,n2,n3,d2,exC_eq,exmk]
                      refine hrun (g,true,_,r2) _ ⟨by omega,(exR_suf _ _ _ _ _ h2).trans hq,(fun _ => ⟨_,rfl⟩),h3⟩ (by simp only; omega) ?_
                      simp only [go_sem,exB,exC_eq,exmk,exsV_cons,exsV_nil,alsV_nil,tysV_nil,zTy_k,zTy_s,zTy_n,zTy_a]
                  · obtain ⟨y,r2,h2,h3⟩ := step (by simp [n1,n2])
                    have d2 := ih g (by omega) .atom _ _ (sub hq).1 (sub hq).2 h2
                    simp only [XDen,rdV,exC_eq] at d2
                    simp only [go_sem,exB,c1,c2,n1,n2,d2,exC_eq,exmk]
                    refine hrun (g,true,_,r2) _ ⟨by omega,(exR_suf _ _ _ _ _ h2).trans hq,(fun _ => ⟨_,rfl⟩),h3⟩ (by simp only; omega) ?_
                    simp only [go_sem,exB,exC_eq,exmk,exsV_cons,exsV_nil,alsV_nil,tysV_nil,zTy_k,zTy_s,zTy_n,zTy_a]
                · obtain ⟨y,r2,h2,h3⟩ := step (by simp [n1])
                  have d2 := ih g (by omega) .atom _ _ (sub hq).1 (sub hq).2 h2
                  simp only [XDen,rdV,exC_eq] at d2
                  simp only [go_sem,exB,c1,n1,d2,exC_eq,exmk]
                  refine hrun (g,true,_,r2) _ ⟨by omega,(exR_suf _ _ _ _ _ h2).trans hq,(fun _ => ⟨_,rfl⟩),h3⟩ (by simp only; omega) ?_
                  simp only [go_sem,exB,exC_eq,exmk,exsV_cons,exsV_nil,alsV_nil,tysV_nil,zTy_k,zTy_s,zTy_n,zTy_a])
        · rw [b3] at h a3
          simp only [if_true] at h
          split at h
          · cases h
          · rename_i e r1 h1
            have s3 := takesR_suf r 3 [99,97,115,101]
            have d1 := ih f (by omega) .expr _ _ (sub s3).1 (sub s3).2 h1
            have sx := (exR_suf _ _ _ _ _ h1).trans s3
            have a4 := rtake_den r1 3 [111,102]
            have s4 := (takeR_suf r1 3 [111,102]).trans sx
            cases b4 : seesR (takeR (takeR r1 3 [111,102]) 6 [123]) 6 [125]
            · rw [b4] at h
              simp only [Bool.false_eq_true,if_false] at h
              split at h
              · cases h
              · rename_i y r4 h4
                injection h with h; subst h
                have d4 := pieces_den f (takeR r1 3 [111,102]) (y,r4) (sub s4).2 b4 h4 fun g hg q x hq hx => by
                 have := ih g (by omega) .expr q x (sub (hq.trans s4)).1 (sub (hq.trans s4)).2 hx
                 simpa only [XDen] using this
                simp only [XDen,rdV,hb,exC_eq] at a1 a2 a3 a4 d1 d4
                simp only [rdV,hb]
                simp only [go_sem,Tryz.f192,a1,a2,a3,a4,d1,d4,exC_eq,exmk,exsV_cons,exsV_nil,tysV_nil,zTy_k,zTy_s,zTy_n,zTy_a]
            · rw [b4] at h
              simp only [if_true] at h
              injection h with h; subst h
              have d4 := pieces0_den (takeR r1 3 [111,102]) (.own 291 0 []) b4 231 ⟨_,_,rfl⟩
              simp only [XDen,rdV,hb,exC_eq] at a1 a2 a3 a4 d1 d4
              simp only [rdV,hb]
              simp only [go_sem,Tryz.f192,a1,a2,a3,a4,d1,d4,exC_eq,exmk,exsV_cons,exsV_nil,alsV_nil,tysV_nil,zTy_k,zTy_s,zTy_n,zTy_a]
      · rw [b2] at h a2
        simp only [if_true] at h
        have s2 := takesR_suf r 3 [108,101,116]
        have d1 := ih f (by omega) .lets _ _ (sub s2).1 (sub s2).2 h
        simp only [XDen,rdV,hb,exC_eq] at a1 a2 d1
        simp only [rdV,hb]
        simp only [go_sem,Tryz.f192,a1,a2,d1,exC_eq]
    · rw [b1] at h a1
      simp only [if_true] at h
      split at h
      · cases h
      · rename_i x1 r4 h4
        have a2 := rtake_den (takesR r 6 [92]) 1 []
        have a3 := rtake_den (takeR (takesR r 6 [92]) 1 []) 6 [45,62]
        have s4 := (takeR_suf (takeR (takesR r 6 [92]) 1 []) 6 [45,62]).trans ((takeR_suf (takesR r 6 [92]) 1 []).trans (takesR_suf r 6 [92]))
        have d4 := ih f (by omega) .expr _ _ (sub s4).1 (sub s4).2 h4
        injection h with h; subst h
        simp only [XDen,rdV,hb,exC_eq] at a1 a2 a3 d4
        simp only [rdV,hb]
        simp only [go_sem,Tryz.f192,a1,a2,a3,d4,exC_eq,exmk,exsV_cons,exsV_nil,alsV_nil,tysV_nil,zTy_k,zTy_s,zTy_n,zTy_a]
  · rw [hb] at h
    simp only [if_true] at h
    injection h with h; subst h
    simp only [rdV,hb]
    simp only [go_sem,Tryz.f192,zExC]
structure Co where
 name : List UInt8
 ty : Ty
def coV (c : Co) : AVal := .agg [.str c.name,.int .i64 c.ty.kind,.str c.ty.name,.int .i64 c.ty.n,.slice (tysV c.ty.args)]
structure De where
 kind : Int
 name : List UInt8
 vars : List (List UInt8)
 cons : List Co
 ty : Ty
 val : Ex
def deC (d : De) : List AVal := [.int .i64 d.kind,.str d.name,.slice (d.vars.map .str),.slice (d.cons.map coV),.int .i64 d.ty.kind,.str d.ty.name,.int .i64 d.ty.n,.slice (tysV d.ty.args),
 .int .i64 d.val.kind,.str d.val.name,.bool d.val.told,.int .i64 d.val.ty.kind,.str d.val.ty.name,.int .i64 d.val.ty.n,.slice (tysV d.val.ty.args),.slice (exsV d.val.kids),.slice (alsV d.val.alts)]
def coR (f : Nat) (q : Rd) : Option (Co × Rd) := match typR f (takeR (takeR q 2 []) 6 [58]) with
 | none => none
 | some (t,r) => some (⟨wordR q 2 [],t⟩,r)
def cosR (f : Nat) : Nat → List Co → Rd → Option (List Co × Rd)
 | 0,_,_ => none
 | g + 1,acc,q => match coR f q with
  | none => none
  | some (c,r) => if seesR r 6 [59] then cosR f g (acc ++ [c]) (takesR r 6 [59]) else some (acc ++ [c],r)
def deR (f : Nat) (r : Rd) : Option (De × Rd) :=
 if seesR r 3 [100,97,116,97] then
  (if seesR (takeR (behindR (takeR (takesR r 3 [100,97,116,97]) 2 [])) 6 [123]) 6 [125] then
    some (⟨1,wordR (takesR r 3 [100,97,116,97]) 2 [],namesR (takeR (takesR r 3 [100,97,116,97]) 2 []),[],zTy,zEx⟩,takesR (takeR (behindR (takeR (takesR r 3 [100,97,116,97]) 2 [])) 6 [123]) 6 [125])
  else match cosR f f [] (takeR (behindR (takeR (takesR r 3 [100,97,116,97]) 2 [])) 6 [123]) with
   | none => none
   | some (cs,r5) => some (⟨1,wordR (takesR r 3 [100,97,116,97]) 2 [],namesR (takeR (takesR r 3 [100,97,116,97]) 2 []),cs,zTy,zEx⟩,takeR r5 6 [125]))
 else if seesR (takeR r 1 []) 6 [58] then (match typR f (takesR (takeR r 1 []) 6 [58]) with
  | none => none
  | some (t,r2) => some (⟨2,wordR r 1 [],[],[],t,zEx⟩,r2))
 else match exR f .expr (takeR (takeR r 1 []) 6 [61]) with
  | none => none
  | some (x,r3) => some (⟨3,wordR r 1 [],[],[],zTy,x⟩,r3)
theorem coR_suf {f : Nat} {q : Rd} {c : Co} {r : Rd} (h : coR f q = some (c,r)) : r.l <:+ q.l := by
 unfold coR at h
 split at h
 · cases h
 · rename_i t r1 h1
   injection h with h; injection h with _ h; subst h
   exact (typR_suf h1).trans ((takeR_suf _ _ _).trans (takeR_suf _ _ _))
theorem cosR_suf {f : Nat} : ∀ {g : Nat} {acc : List Co} {q : Rd} {cs : List Co} {r : Rd},cosR f g acc q = some (cs,r) → r.l <:+ q.l := by
 intro g
 induction g with
 | zero => intro acc q cs r h; cases h
 | succ g ih =>
  intro acc q cs r h
  simp only [cosR] at h
  split at h
  · cases h
  · rename_i c r1 h1
    split at h
    · exact (ih h).trans ((takesR_suf _ _ _).trans (coR_suf h1))
    · injection h with h; injection h with _ h; subst h; exact coR_suf h1
theorem deR_suf {f : Nat} {r : Rd} {d : De} {r' : Rd} (h : deR f r = some (d,r')) : r'.l <:+ r.l := by
 unfold deR at h
 have s1 : (takeR (behindR (takeR (takesR r 3 [100,97,116,97]) 2 [])) 6 [123]).l <:+ r.l := (takeR_suf _ _ _).trans ((behindR_suf _).trans ((takeR_suf _ _ _).trans (takesR_suf _ _ _)))
 split at h
 · split at h
   · injection h with h; injection h with _ h; subst h; exact (takesR_suf _ _ _).trans s1
   · split at h
     · cases h
     · rename_i cs r5 h5
       injection h with h; injection h with _ h; subst h
       exact (takeR_suf _ _ _).trans ((cosR_suf h5).trans s1)
 · split at h
   · split at h
     · cases h
     · rename_i t r2 h2
       injection h with h; injection h with _ h; subst h
       exact (typR_suf h2).trans ((takesR_suf _ _ _).trans (takeR_suf _ _ _))
   · split at h
     · cases h
     · rename_i x r3 h3
       injection h with h; injection h with _ h; subst h
       exact (exR_suf _ _ _ _ _ h3).trans ((takeR_suf _ _ _).trans (takeR_suf _ _ _))
theorem coden7 (f : Nat) (q : Rd) (acc : List Co) (c : Co) (r : Rd) (hok : ∀ t ∈ q.l,tokOK t) (hl : q.l.length < 1000000) (ha : acc.length + 1 ≤ 2000000) (h : coR f q = some (c,r)) :
 den E 190 [.ptr (.par 0) 0] [[.ptr (.par 1) 0,.own 94 0 (acc.map coV)],rdV q] = some (.tup [],[[.ptr (.par 1) 0,.own 94 0 ((acc ++ [c]).map coV)],rdV r]) := by
 unfold coR at h
 split at h
 · cases h
 · rename_i t r1 h1
   injection h with h; injection h with hc hr; subst hr
   rw [den_eq prim_190,body_190]
   have a1 := rtake_den q 2 []
   have a2 := rtake_den (takeR q 2 []) 6 [58]
   have s2 := (takeR_suf (takeR q 2 []) 6 [58]).trans (takeR_suf q 2 [])
   have a3 := rtyp_den f _ _ (fun t ht => hok t (s2.subset ht)) (Nat.lt_of_le_of_lt s2.length_le hl) h1
   have hap : (acc.map coV).length + 1 ≤ appMax := by rw [List.length_map]; unfold appMax; omega
   have hmap : acc.map coV ++ [.agg [.str (wordR q 2 []),.int .i64 t.kind,.str t.name,.int .i64 t.n,.slice (tysV t.args)]] = (acc ++ [c]).map coV := by
    rw [List.map_append,List.map_cons,List.map_nil,← hc]; rfl
   simp only [rdV,tyV_eq] at a1 a2 a3 ⊢
   simp only [go_sem,Tryz.f190,a1,a2,a3,hap,hmap]
theorem pieces2_den (f : Nat) (r : Rd) (y : List Co × Rd) (hok : ∀ t ∈ r.l,tokOK t) (hlen : r.l.length < 1000000) (h : seesR (takeR r 6 [123]) 6 [125] = false) (hy : cosR f f [] (takeR r 6 [123]) = some y) :
 den E 189 [.ptr (.par 0) 0,.func 190 [.ptr (.par 1) 0] []] [rdV r,[.ptr (.par 0) 0,.own 94 0 []]] = some (.tup [],[rdV (takeR y.2 6 [125]),[.ptr (.par 0) 0,.own 94 0 (y.1.map coV)]]) := by
 have step : ∀ g,g ≤ f → ∀ acc q y,q.l <:+ r.l → acc.length + 1 ≤ 2000000 → cosR f g acc q = some y → ∃ g' acc' r4,g' < g ∧ r4.l <:+ q.l ∧ acc'.length = acc.length + 1 ∧
  den E 190 [.ptr (.par 0) 0] [[.ptr (.par 1) 0,.own 94 0 (acc.map coV)],rdV q] = some (.tup [],[[.ptr (.par 1) 0,.own 94 0 (acc'.map coV)],rdV r4]) ∧
  (if seesR r4 6 [59] then cosR f g' acc' (takesR r4 6 [59]) else some (acc',r4)) = some y := by
  intro g hg acc q y hq hac h
  cases g with
  | zero => cases h
  | succ g =>
   simp only [cosR] at h
   split at h
   · cases h
   · rename_i c r4 h4
     exact ⟨g,_,r4,Nat.lt_succ_self g,coR_suf h4,by simp,coden7 f q acc c r4 (fun t ht => hok t (hq.subset ht)) (Nat.lt_of_le_of_lt hq.length_le hlen) hac h4,h⟩
 rw [den_eq prim_189,body_189]
 have a1 := rtake_den r 6 [123]
 have a2 := rtakes_den (takeR r 6 [123]) 6 [125]
 rw [h] at a2
 have st := takeR_suf r 6 [123]
 obtain ⟨g0,acc0,r0,hg0,hs0,hl0,d0,e0⟩ := step f (Nat.le_refl _) [] _ y st (by simp) hy
 have ht0 : takesR (takeR r 6 [123]) 6 [125] = takeR r 6 [123] := by unfold takesR; rw [h]; rfl
 rw [ht0] at a2
 simp only [rdV,List.map_nil] at a1 a2 d0
 unfold rdV
 simp only [go_sem,Tryz.f189,a1,a2,d0]
 refine run_ind (fun x : Nat × List Co × Rd => x.1 < f ∧ x.2.2.l <:+ r.l ∧ x.2.1.length + x.2.2.l.length ≤ r.l.length + 1 ∧ (if seesR x.2.2 6 [59] then cosR f x.1 x.2.1 (takesR x.2.2 6 [59]) else some (x.2.1,x.2.2)) = some y)
  (fun x => ⟨[(0,.ptr (.par 0) 0),(1,.func 190 [.ptr (.par 1) 0] [])],[rdV x.2.2,[.ptr (.par 0) 0,.own 94 0 (x.2.1.map coV)]],[],1⟩)
  (fun _ => some (.tup [],[rdV (takeR y.2 6 [125]),[.ptr (.par 0) 0,.own 94 0 (y.1.map coV)]])) (fun x => x.1) (g0,acc0,r0) ⟨hg0,hs0.trans st,?_,e0⟩ ?_ ?_
 · have := hs0.length_le; have := st.length_le; simp only [List.length_nil] at hl0; simp only; omega
 · simp only [go_sem,rdV]
 · rintro ⟨g,acc,q⟩ ⟨hg,hq,hle,he⟩ hrun
   simp only at hg hq hle he hrun ⊢
   have b1 := rtakes_den q 6 [59]
   cases h1 : seesR q 6 [59]
   · rw [h1] at he b1
     simp only [Bool.false_eq_true,if_false] at he
     injection he with he; subst he
     have hk : takesR q 6 [59] = q := by unfold takesR; rw [h1]; rfl
     rw [hk] at b1
     have b2 := rtake_den q 6 [125]
     simp only [rdV] at b1 b2 ⊢
     simp only [go_sem,b1,b2]
   · rw [h1] at he b1
     simp only [if_true] at he
     obtain ⟨hb,t,w,hw⟩ := seesR_cons h1
     have hk : (takesR q 6 [59]).l.length + 1 = q.l.length := by unfold takesR; rw [h1,if_pos rfl,hw]; simp
     have hsq := takesR_suf q 6 [59]
     obtain ⟨g',acc',r',hg',hs',hl',d',e'⟩ := step g (by omega) acc _ y (hsq.trans hq) (by omega) he
     simp only [rdV] at b1 d' ⊢
     simp only [go_sem,b1,d']
     refine hrun (g',acc',r') _ ⟨by omega,hs'.trans (hsq.trans hq),?_,e'⟩ hg' ?_
     · have := hs'.length_le; simp only; omega
     · simp only [go_sem,rdV]
theorem exz : zEx.kind = 0 ∧ zEx.name = [] ∧ zEx.told = false ∧ zEx.ty = zTy ∧ zEx.kids = [] ∧ zEx.alts = [] := ⟨rfl,rfl,rfl,rfl,rfl,rfl⟩
theorem de_den (f : Nat) (r : Rd) (d : De) (r' : Rd) (hok : ∀ t ∈ r.l,tokOK t) (hlen : r.l.length < 1000000) (h : deR f r = some (d,r')) :
 den E 134 [.ptr (.par 0) 0] [rdV r] = some (.agg (deC d),[rdV r']) := by
 rw [den_eq prim_134,body_134]
 have sub : ∀ {q : Rd},q.l <:+ r.l → (∀ t ∈ q.l,tokOK t) ∧ q.l.length < 1000000 := fun hs => ⟨fun t ht => hok t (hs.subset ht),Nat.lt_of_le_of_lt hs.length_le hlen⟩
 unfold deR at h
 have a1 := rtakes_den r 3 [100,97,116,97]
 cases b1 : seesR r 3 [100,97,116,97]
 · have hk1 : takesR r 3 [100,97,116,97] = r := by unfold takesR; rw [b1]; rfl
   rw [b1] at h
   rw [hk1,b1] at a1
   simp only [Bool.false_eq_true,if_false] at h
   have a2 := rtake_den r 1 []
   have a3 := rtakes_den (takeR r 1 []) 6 [58]
   cases b2 : seesR (takeR r 1 []) 6 [58]
   · have hk2 : takesR (takeR r 1 []) 6 [58] = takeR r 1 [] := by unfold takesR; rw [b2]; rfl
     rw [b2] at h
     rw [hk2,b2] at a3
     simp only [Bool.false_eq_true,if_false] at h
     split at h
     · cases h
     · rename_i x r3 h3
       injection h with h; injection h with hd hr; subst hr; subst hd
       have a4 := rtake_den (takeR r 1 []) 6 [61]
       have s4 := (takeR_suf (takeR r 1 []) 6 [61]).trans (takeR_suf r 1 [])
       have a5 := exR_den f .expr _ _ (sub s4).1 (sub s4).2 h3
       simp only [XDen,rdV,exC_eq,deC] at a1 a2 a3 a4 a5 ⊢
       simp only [go_sem,Tryz.f134,a1,a2,a3,a4,a5,tysV_nil,zTy_k,zTy_s,zTy_n,zTy_a,List.map_nil]
   · rw [b2] at h a3
     simp only [if_true] at h
     split at h
     · cases h
     · rename_i t r2 h2
       injection h with h; injection h with hd hr; subst hr; subst hd
       have s4 := (takesR_suf (takeR r 1 []) 6 [58]).trans (takeR_suf r 1 [])
       have a5 := rtyp_den f _ _ (sub s4).1 (sub s4).2 h2
       simp only [rdV,deC,tyV_eq] at a1 a2 a3 a5 ⊢
       simp only [go_sem,Tryz.f134,a1,a2,a3,a5,exsV_nil,alsV_nil,tysV_nil,zTy_k,zTy_s,zTy_n,zTy_a,exz,List.map_nil]
 · rw [b1] at h a1
   simp only [if_true] at h
   have s1 := takesR_suf r 3 [100,97,116,97]
   generalize takesR r 3 [100,97,116,97] = r1 at *
   have a2 := rtake_den r1 2 []
   have s2 := (takeR_suf r1 2 []).trans s1
   have a3 := rnames_den (takeR r1 2 []) (sub s2).2
   have s3 := (behindR_suf (takeR r1 2 [])).trans s2
   cases b4 : seesR (takeR (behindR (takeR r1 2 [])) 6 [123]) 6 [125]
   · rw [b4] at h
     simp only [Bool.false_eq_true,if_false] at h
     split at h
     · cases h
     · rename_i cs r5 h5
       injection h with h; injection h with hd hr; subst hr; subst hd
       have a4 := pieces2_den f (behindR (takeR r1 2 [])) (cs,r5) (sub s3).1 (sub s3).2 b4 h5
       simp only [rdV,deC] at a1 a2 a3 a4 ⊢
       simp only [go_sem,Tryz.f134,a1,a2,a3,a4,exsV_nil,alsV_nil,tysV_nil,zTy_k,zTy_s,zTy_n,zTy_a,exz,List.map_nil]
   · rw [b4] at h
     simp only [if_true] at h
     injection h with h; injection h with hd hr; subst hr; subst hd
     have a4 := pieces0_den (behindR (takeR r1 2 [])) (.own 94 0 []) b4 190 ⟨_,_,rfl⟩
     simp only [rdV,deC] at a1 a2 a3 a4 ⊢
     simp only [go_sem,Tryz.f134,a1,a2,a3,a4,exsV_nil,alsV_nil,tysV_nil,zTy_k,zTy_s,zTy_n,zTy_a,exz,List.map_nil]
mutual
def Ex.size : Ex → Nat
 | .mk _ _ _ _ ks al => Ex.sizes ks + Al.sizes al + 1
def Ex.sizes : List Ex → Nat
 | [] => 0
 | e :: r => Ex.size e + Ex.sizes r
def Al.size : Al → Nat
 | .mk _ _ b => Ex.size b
def Al.sizes : List Al → Nat
 | [] => 0
 | a :: r => Al.size a + Al.sizes r
end
mutual
def Ex.depth : Ex → Nat
 | .mk _ _ _ _ ks al => max (Ex.depths ks) (Al.depths al) + 1
def Ex.depths : List Ex → Nat
 | [] => 0
 | e :: r => max (Ex.depth e) (Ex.depths r)
def Al.depth : Al → Nat
 | .mk _ _ b => Ex.depth b
def Al.depths : List Al → Nat
 | [] => 0
 | a :: r => max (Al.depth a) (Al.depths r)
end
mutual
def Ex.tdep : Ex → Nat
 | .mk k _ b t ks al => max (if b || k == 7 then t.depth else 0) (max (Ex.tdeps ks) (Al.tdeps al))
def Ex.tdeps : List Ex → Nat
 | [] => 0
 | e :: r => max (Ex.tdep e) (Ex.tdeps r)
def Al.tdep : Al → Nat
 | .mk _ _ b => Ex.tdep b
def Al.tdeps : List Al → Nat
 | [] => 0
 | a :: r => max (Al.tdep a) (Al.tdeps r)
end
mutual
def Ex.tot : Ex → Nat
 | .mk _ _ _ t ks al => Ex.tots ks + Al.tots al + t.sz
def Ex.tots : List Ex → Nat
 | [] => 0
 | e :: r => Ex.tot e + Ex.tots r
def Al.tot : Al → Nat
 | .mk _ vs b => Ex.tot b + vs.length + 1
def Al.tots : List Al → Nat
 | [] => 0
 | a :: r => Al.tot a + Al.tots r
end
def Ex.inner (e : Ex) : List Ex := e.kids ++ e.alts.map Al.body
theorem sizes_append (a b : List Ex) : Ex.sizes (a ++ b) = Ex.sizes a + Ex.sizes b := by
 induction a with
 | nil => simp [Ex.sizes]
 | cons x a ih => simp only [List.cons_append,Ex.sizes,ih]; omega
theorem depths_append (a b : List Ex) : Ex.depths (a ++ b) = max (Ex.depths a) (Ex.depths b) := by
 induction a with
 | nil => simp [Ex.depths]
 | cons x a ih => simp only [List.cons_append,Ex.depths,ih]; omega
theorem tdeps_append (a b : List Ex) : Ex.tdeps (a ++ b) = max (Ex.tdeps a) (Ex.tdeps b) := by
 induction a with
 | nil => simp [Ex.tdeps]
 | cons x a ih => simp only [List.cons_append,Ex.tdeps,ih]; omega
theorem al_sizes (l : List Al) : Al.sizes l = Ex.sizes (l.map Al.body) := by
 induction l with
 | nil => rfl
 | cons a l ih => cases a; simp only [Al.sizes,Al.size,List.map_cons,Ex.sizes,Al.body,ih]
theorem al_depths (l : List Al) : Al.depths l = Ex.depths (l.map Al.body) := by
 induction l with
 | nil => rfl
 | cons a l ih => cases a; simp only [Al.depths,Al.depth,List.map_cons,Ex.depths,Al.body,ih]
theorem al_tdeps (l : List Al) : Al.tdeps l = Ex.tdeps (l.map Al.body) := by
 induction l with
 | nil => rfl
 | cons a l ih => cases a; simp only [Al.tdeps,Al.tdep,List.map_cons,Ex.tdeps,Al.body,ih]
theorem size_eq (e : Ex) : e.size = Ex.sizes e.inner + 1 := by
 cases e; simp only [Ex.size,Ex.inner,Ex.kids,Ex.alts,sizes_append,al_sizes]
theorem edepth_eq (e : Ex) : e.depth = Ex.depths e.inner + 1 := by
 cases e; simp only [Ex.depth,Ex.inner,Ex.kids,Ex.alts,depths_append,al_depths]
theorem tdep_eq (e : Ex) : e.tdep = max (if e.told || e.kind == 7 then e.ty.depth else 0) (Ex.tdeps e.inner) := by
 cases e; simp only [Ex.tdep,Ex.inner,Ex.kids,Ex.alts,Ex.told,Ex.kind,Ex.ty,tdeps_append,al_tdeps]; rfl
theorem al_tots (l : List Al) : Ex.tots (l.map Al.body) + l.length ≤ Al.tots l := by
 induction l with
 | nil => simp [Al.tots,Ex.tots]
 | cons a l ih => cases a; simp only [Al.tots,Al.tot,List.map_cons,Ex.tots,Al.body,List.length_cons]; omega
theorem al_vars {l : List Al} {a : Al} (h : a ∈ l) : a.vars.length + a.body.tot + 1 ≤ Al.tots l := by
 induction l with
 | nil => cases h
 | cons x l ih =>
  simp only [Al.tots]
  rcases List.mem_cons.1 h with rfl | h
  · cases a; simp only [Al.tot,Al.vars,Al.body]; omega
  · have := ih h; omega
theorem tots_append (a b : List Ex) : Ex.tots (a ++ b) = Ex.tots a + Ex.tots b := by
 induction a with
 | nil => simp [Ex.tots]
 | cons x a ih => simp only [List.cons_append,Ex.tots,ih]; omega
theorem tot_pos (e : Ex) : 1 ≤ e.tot := by
 cases e with | mk _ _ _ t _ _ => simp only [Ex.tot]; have := sz_eq t; omega
theorem tots_len (l : List Ex) : l.length ≤ Ex.tots l := by
 induction l with
 | nil => simp
 | cons a l ih => simp only [List.length_cons,Ex.tots]; have := tot_pos a; omega
theorem tots_mem {l : List Ex} {e : Ex} (h : e ∈ l) : e.tot ≤ Ex.tots l := by
 induction l with
 | nil => cases h
 | cons x l ih =>
  simp only [Ex.tots]
  rcases List.mem_cons.1 h with rfl | h
  · omega
  · have := ih h; omega
theorem tot_eq (e : Ex) : e.tot = Ex.tots e.kids + Al.tots e.alts + e.ty.sz := by cases e; simp [Ex.tot,Ex.kids,Ex.alts,Ex.ty]
theorem tot_inner (e : Ex) : Ex.tots e.inner + e.ty.sz ≤ e.tot := by
 rw [tot_eq]; have := al_tots e.alts; simp only [Ex.inner,tots_append]; omega
theorem tot_inner1 (e : Ex) : Ex.tots e.inner + 1 ≤ e.tot := by
 have := tot_inner e; have := sz_eq e.ty; omega
theorem depth_sz (t : Ty) : t.depth ≤ t.sz := by
 rw [depth_eq,sz_eq]; have := depths_le t.args; omega
theorem le_tot : ∀ (n : Nat) (e : Ex),e.tot ≤ n → e.size ≤ e.tot ∧ e.depth ≤ e.tot ∧ e.tdep ≤ e.tot := by
 intro n
 induction n with
 | zero => intro e h; have := tot_pos e; omega
 | succ n ih =>
  intro e h
  have h1 := tot_inner1 e
  have h2 := tot_inner e
  have h3 := depth_sz e.ty
  have key : ∀ l : List Ex,Ex.tots l ≤ n → Ex.sizes l ≤ Ex.tots l ∧ Ex.depths l ≤ Ex.tots l ∧ Ex.tdeps l ≤ Ex.tots l := by
   intro l
   induction l with
   | nil => intro _; simp [Ex.sizes,Ex.depths,Ex.tdeps]
   | cons a l ihl =>
    intro hl
    simp only [Ex.tots] at hl ⊢
    have ⟨a1,a2,a3⟩ := ih a (by omega)
    have ⟨b1,b2,b3⟩ := ihl (by omega)
    simp only [Ex.sizes,Ex.depths,Ex.tdeps]
    omega
  obtain ⟨k1,k2,k3⟩ := key e.inner (by omega)
  rw [size_eq,edepth_eq,tdep_eq]
  refine ⟨by omega,by omega,?_⟩
  split <;> omega
theorem exsV_append (a b : List Ex) : exsV (a ++ b) = exsV a ++ exsV b := by simp [exsV_map]
theorem exsV_len (l : List Ex) : (exsV l).length = l.length := by simp [exsV_map]
theorem exsV_get (l : List Ex) (i : Nat) : (exsV l)[i]? = (l[i]?).map fun e => .agg (exC e) := by simp [exsV_map]
theorem alsV_len (l : List Al) : (alsV l).length = l.length := by simp [alsV_map]
theorem alsV_get (l : List Al) (i : Nat) : (alsV l)[i]? = (l[i]?).map alV := by simp [alsV_map]
theorem take_map_snoc {l : List Al} {i : Nat} {x : Al} (h : l[i]? = some x) : exsV ((l.take (i + 1)).map Al.body) = exsV ((l.take i).map Al.body) ++ [.agg (exC x.body)] := by
 rw [take_snoc h,List.map_append,exsV_append,List.map_cons,List.map_nil,exsV_cons,exsV_nil]
theorem exInner_den (e : Ex) (hs : e.tot < 1000000) : den E 233 [.agg (exC e)] [] = some (.slice (exsV e.inner),[]) := by
 have h1 := tot_inner1 e
 have hl := tots_len e.inner
 simp only [Ex.inner,List.length_append,List.length_map] at hl
 have hin : exsV e.inner = exsV e.kids ++ exsV (e.alts.map Al.body) := by rw [Ex.inner,exsV_append]
 rw [den_eq prim_233,body_233,exC_eq,hin]
 have hle : Ex.tots e.inner = Ex.tots (e.kids ++ e.alts.map Al.body) := rfl
 have hlk := exsV_len e.kids
 have hes : exsV e.kids = [] ∨ ∃ a1 a2 a3 a4 a5 a6 a7 a8 a9 K',exsV e.kids = .agg [a1,a2,a3,a4,a5,a6,a7,a8,a9] :: K' := by
  cases e.kids with
  | nil => exact .inl exsV_nil
  | cons k ks => rw [exsV_cons,exC_eq]; exact .inr ⟨_,_,_,_,_,_,_,_,_,_,rfl⟩
 generalize hK : exsV e.kids = K at *
 rcases hes with hKK | ⟨a1,a2,a3,a4,a5,a6,a7,a8,a9,K',hKK⟩
 all_goals (
  simp only [go_sem,hKK,Tryz.f233,natge0,tonat,alsV_len,Nat.le_refl,List.take_length,Nat.zero_le,Int.toNat_zero,Int.le_refl]
  refine run_for (fun i => ⟨[(3,if i = 0 then .full K else .own 89 0 (K ++ exsV ((e.alts.take i).map Al.body))),(16,.slice (alsV e.alts)),(17,.int .i64 e.alts.length),(18,.int .i64 i)],[],[],1⟩) e.alts.length ?_ ?_ ?_
  · simp only [go_sem,hKK]
  · intro i hi h
    obtain ⟨x,hx⟩ : ∃ x,e.alts[i]? = some x := ⟨e.alts[i],List.getElem?_eq_getElem hi⟩
    have w1 : IntKind.i64.wrap ((i : Int) + 1) = ((i + 1 : Nat) : Int) := wrapN (i + 1) (by omega)
    have hsn := take_map_snoc hx
    rw [exC_eq] at hsn
    have hlen2 : (exsV ((e.alts.take i).map Al.body)).length ≤ e.alts.length := by rw [exsV_len]; simp; omega
    cases i with
    | zero =>
     have hap : K.length + 1 ≤ appMax := by unfold appMax; omega
     simp only [hKK,List.length_cons,List.length_nil,Nat.zero_add] at hap
     have hsn0 : exsV ((e.alts.take 1).map Al.body) = [.agg [.int .i64 x.body.kind,.str x.body.name,.bool x.body.told,.int .i64 x.body.ty.kind,.str x.body.ty.name,.int .i64 x.body.ty.n,.slice (tysV x.body.ty.args),.slice (exsV x.body.kids),.slice (alsV x.body.alts)]] := by
      rw [hsn]; simp [exsV_nil]
     have hi0 : decide ((0 : Int) < (e.alts.length : Int)) = true := decide_eq_true (by omega)
     simp only [go_sem,hKK,hi0,alsV_get,hx,alV_eq,exC_eq,hap,List.isEmpty_cons,Nat.zero_add,Int.le_refl,Int.toNat_zero]
     refine h _ ?_
     simp only [go_sem,hKK,hsn0,show IntKind.i64.wrap ((0 : Int) + 1) = 1 from by decide]
    | succ i =>
     have hap : (K ++ exsV ((e.alts.take (i + 1)).map Al.body)).length + 1 ≤ appMax := by rw [List.length_append]; unfold appMax; omega
     simp only [hKK,List.nil_append,List.cons_append,List.length_cons,List.length_append] at hap
     simp only [go_sem,hKK,natlt,decide_eq_true hi,natge0,tonat,alsV_get,hx,alV_eq,exC_eq,List.length_append,hap,Nat.zero_add]
     refine h _ ?_
     simp only [go_sem,hKK,w1,hsn,List.append_assoc,List.cons_append]
  · by_cases h0 : e.alts.length = 0
    · have : e.alts = [] := List.eq_nil_of_length_eq_zero h0
      simp only [h0,if_true]
      simp only [go_sem,hKK,this,List.map_nil,exsV_nil,Int.lt_irrefl,List.length_nil]
    · simp only [h0,if_false]
      simp only [go_sem,hKK,natlt,Nat.lt_irrefl,List.take_length])
theorem edepths_snoc (l : List Ex) (t : Ex) : Ex.depths (l ++ [t]) = max (Ex.depths l) t.depth := by rw [depths_append]; simp [Ex.depths]
theorem tdeps_snoc (l : List Ex) (t : Ex) : Ex.tdeps (l ++ [t]) = max (Ex.tdeps l) t.tdep := by rw [tdeps_append]; simp [Ex.tdeps]
theorem exdepth_den : ∀ (n : Nat) (e : Ex),e.tot ≤ n → e.tot < 1000000 → den E 194 [.agg (exC e)] [] = some (.int .i64 e.depth,[]) := by
 intro n
 induction n with
 | zero => intro e he; have := tot_pos e; omega
 | succ n ih =>
  intro e he hs
  have ht := tot_inner1 e
  have hl := tots_len e.inner
  have hsz := (le_tot _ e (Nat.le_refl _)).2.1
  have hin := exInner_den e hs
  rw [den_eq prim_194,body_194]
  rw [exC_eq] at hin ⊢
  rw [edepth_eq] at hsz ⊢
  simp only [go_sem,Tryz.f194,hin,exsV_len]
  refine run_for (fun i => ⟨[(3,.int .i64 ((Ex.depths (e.inner.take i) : Nat) : Int)),(7,.slice (exsV e.inner)),(8,.int .i64 e.inner.length),(9,.int .i64 i)],[],[],1⟩) e.inner.length ?_ ?_ ?_
  · simp only [go_sem,List.take_zero,Ex.depths]
  · intro i hi h
    obtain ⟨x,hx⟩ : ∃ x,e.inner[i]? = some x := ⟨e.inner[i],List.getElem?_eq_getElem hi⟩
    have hm := tots_mem (List.mem_of_getElem? hx)
    have hd := ih x (by omega) (by omega)
    rw [exC_eq] at hd
    have w1 : IntKind.i64.wrap ((i : Int) + 1) = ((i + 1 : Nat) : Int) := wrapN (i + 1) (by omega)
    simp only [go_sem,natlt,decide_eq_true hi,natge0,tonat,exsV_get,hx,exC_eq,hd,max_if]
    refine h _ ?_
    simp only [go_sem,w1,take_snoc hx,edepths_snoc]
  · have w1 : IntKind.i64.wrap (((Ex.depths e.inner : Nat) : Int) + 1) = ((Ex.depths e.inner + 1 : Nat) : Int) := wrapN (Ex.depths e.inner + 1) (by omega)
    simp only [go_sem,natlt,Nat.lt_irrefl,List.take_length,w1]
theorem ex_ty_sz (e : Ex) : e.ty.sz ≤ e.tot := by have := tot_inner e; omega
theorem extdep_den : ∀ (n : Nat) (e : Ex),e.tot ≤ n → e.tot < 1000000 → den E 195 [.agg (exC e)] [] = some (.int .i64 e.tdep,[]) := by
 intro n
 induction n with
 | zero => intro e he; have := tot_pos e; omega
 | succ n ih =>
  intro e he hs
  have ht := tot_inner1 e
  have hl := tots_len e.inner
  have hts := ex_ty_sz e
  have hin := exInner_den e hs
  have htd := tdepth_den _ e.ty (Nat.le_refl _) (by omega)
  rw [den_eq prim_195,body_195]
  rw [tyV_eq] at htd
  rw [exC_eq] at hin ⊢
  rw [tdep_eq]
  cases h1 : e.told <;> rw [h1] at hin
  · cases h2 : e.kind == 7
    · simp only [go_sem,Tryz.f195,h2,hin,exsV_len]
      refine run_for (fun i => ⟨[(3,.int .i64 ((Ex.tdeps (e.inner.take i) : Nat) : Int)),(17,.slice (exsV e.inner)),(18,.int .i64 e.inner.length),(19,.int .i64 i)],[],[],1⟩) e.inner.length ?_ ?_ ?_
      · simp only [go_sem,List.take_zero,Ex.tdeps]
      · intro i hi h
        obtain ⟨x,hx⟩ : ∃ x,e.inner[i]? = some x := ⟨e.inner[i],List.getElem?_eq_getElem hi⟩
        have hm := tots_mem (List.mem_of_getElem? hx)
        have hd := ih x (by omega) (by omega)
        rw [exC_eq] at hd
        have w1 : IntKind.i64.wrap ((i : Int) + 1) = ((i + 1 : Nat) : Int) := wrapN (i + 1) (by omega)
        simp only [go_sem,natlt,decide_eq_true hi,natge0,tonat,exsV_get,hx,exC_eq,hd,max_if]
        refine h _ ?_
        simp only [go_sem,w1,take_snoc hx,tdeps_snoc]
      · simp only [go_sem,natlt,Nat.lt_irrefl,List.take_length,Nat.zero_max]
    · simp only [go_sem,Tryz.f195,h2,hin,exsV_len,htd]
      refine run_for (fun i => ⟨[(3,.int .i64 ((max e.ty.depth (Ex.tdeps (e.inner.take i)) : Nat) : Int)),(17,.slice (exsV e.inner)),(18,.int .i64 e.inner.length),(19,.int .i64 i)],[],[],1⟩) e.inner.length ?_ ?_ ?_
      · simp only [go_sem,List.take_zero,Ex.tdeps,Nat.max_zero]
      · intro i hi h
        obtain ⟨x,hx⟩ : ∃ x,e.inner[i]? = some x := ⟨e.inner[i],List.getElem?_eq_getElem hi⟩
        have hm := tots_mem (List.mem_of_getElem? hx)
        have hd := ih x (by omega) (by omega)
        rw [exC_eq] at hd
        have w1 : IntKind.i64.wrap ((i : Int) + 1) = ((i + 1 : Nat) : Int) := wrapN (i + 1) (by omega)
        simp only [go_sem,natlt,decide_eq_true hi,natge0,tonat,exsV_get,hx,exC_eq,hd,max_if]
        refine h _ ?_
        simp only [go_sem,w1,take_snoc hx,tdeps_snoc,Nat.max_assoc]
      · simp only [go_sem,natlt,Nat.lt_irrefl,List.take_length]
  · simp only [go_sem,Tryz.f195,hin,exsV_len,htd]
    refine run_for (fun i => ⟨[(3,.int .i64 ((max e.ty.depth (Ex.tdeps (e.inner.take i)) : Nat) : Int)),(17,.slice (exsV e.inner)),(18,.int .i64 e.inner.length),(19,.int .i64 i)],[],[],1⟩) e.inner.length ?_ ?_ ?_
    · simp only [go_sem,List.take_zero,Ex.tdeps,Nat.max_zero]
    · intro i hi h
      obtain ⟨x,hx⟩ : ∃ x,e.inner[i]? = some x := ⟨e.inner[i],List.getElem?_eq_getElem hi⟩
      have hm := tots_mem (List.mem_of_getElem? hx)
      have hd := ih x (by omega) (by omega)
      rw [exC_eq] at hd
      have w1 : IntKind.i64.wrap ((i : Int) + 1) = ((i + 1 : Nat) : Int) := wrapN (i + 1) (by omega)
      simp only [go_sem,natlt,decide_eq_true hi,natge0,tonat,exsV_get,hx,exC_eq,hd,max_if]
      refine h _ ?_
      simp only [go_sem,w1,take_snoc hx,tdeps_snoc,Nat.max_assoc]
    · simp only [go_sem,natlt,Nat.lt_irrefl,List.take_length]
theorem rInner_den (e : Ex) (hs : e.tot < 1000000) : den E 235 [.agg (exC e)] [] = some (.slice (exsV e.inner),[]) := by
 have h1 := tot_inner1 e
 have hl := tots_len e.inner
 simp only [Ex.inner,List.length_append,List.length_map] at hl
 have hle : Ex.tots e.inner = Ex.tots (e.kids ++ e.alts.map Al.body) := rfl
 have hin : exsV e.inner = exsV e.kids ++ exsV (e.alts.map Al.body) := by rw [Ex.inner,exsV_append]
 rw [den_eq prim_235,body_235,exC_eq,hin]
 have hlk := exsV_len e.kids
 have hes : exsV e.kids = [] ∨ ∃ a1 a2 a3 a4 a5 a6 a7 a8 a9 K',exsV e.kids = .agg [a1,a2,a3,a4,a5,a6,a7,a8,a9] :: K' := by
  cases e.kids with
  | nil => exact .inl exsV_nil
  | cons k ks => rw [exsV_cons,exC_eq]; exact .inr ⟨_,_,_,_,_,_,_,_,_,_,rfl⟩
 generalize hK : exsV e.kids = K at *
 rcases hes with hKK | ⟨a1,a2,a3,a4,a5,a6,a7,a8,a9,K',hKK⟩
 all_goals (
  have hap0 : K.length ≤ appMax := by unfold appMax; omega
  simp only [hKK,List.length_cons,List.length_nil] at hap0
  simp only [go_sem,Tryz.f235,hKK,hap0,Nat.zero_add,Nat.zero_le]
  refine run_for (fun i => ⟨[(1,.ptr (.loc 1) 0),(3,.own 168 0 (K ++ exsV ((e.alts.take i).map Al.body))),(4,.int .i64 i)],[],[(1,exC e)],1⟩) e.alts.length ?_ ?_ ?_
  · simp only [go_sem,hKK,exC_eq,hK,List.take_zero,List.map_nil,exsV_nil]
  · intro i hi h
    obtain ⟨x,hx⟩ : ∃ x,e.alts[i]? = some x := ⟨e.alts[i],List.getElem?_eq_getElem hi⟩
    have w1 : IntKind.i64.wrap ((i : Int) + 1) = ((i + 1 : Nat) : Int) := wrapN (i + 1) (by omega)
    have hsn := take_map_snoc hx
    rw [exC_eq] at hsn
    have hlen2 : (exsV ((e.alts.take i).map Al.body)).length ≤ e.alts.length := by rw [exsV_len]; simp; omega
    have hap : (K ++ exsV ((e.alts.take i).map Al.body)).length + 1 ≤ appMax := by rw [List.length_append]; unfold appMax; omega
    simp only [hKK,List.nil_append,List.cons_append,List.length_cons] at hap
    simp only [go_sem,hKK,exC_eq,hK,natlt,alsV_len,decide_eq_true hi,natge0,tonat,alsV_get,hx,alV_eq,exC_eq,hap]
    refine h _ ?_
    simp only [go_sem,hKK,exC_eq,hK,w1,hsn,List.append_assoc,List.cons_append]
  · simp only [go_sem,hKK,exC_eq,hK,natlt,Nat.lt_irrefl,alsV_len,List.take_length])
theorem rdepthx_den : ∀ (n : Nat) (e : Ex),e.tot ≤ n → e.tot < 1000000 → den E 202 [.agg (exC e)] [] = some (.int .i64 e.depth,[]) := by
 intro n
 induction n with
 | zero => intro e he; have := tot_pos e; omega
 | succ n ih =>
  intro e he hs
  have ht := tot_inner1 e
  have hl := tots_len e.inner
  have hsz := (le_tot _ e (Nat.le_refl _)).2.1
  have hin := rInner_den e hs
  rw [den_eq prim_202,body_202]
  rw [exC_eq] at hin ⊢
  rw [edepth_eq] at hsz ⊢
  simp only [go_sem,Tryz.f202,hin]
  refine run_for (fun i => ⟨[(3,.int .i64 ((Ex.depths (e.inner.take i) : Nat) : Int)),(4,.slice (exsV e.inner)),(5,.int .i64 i)],[],[],1⟩) e.inner.length ?_ ?_ ?_
  · simp only [go_sem,List.take_zero,Ex.depths]
  · intro i hi h
    obtain ⟨x,hx⟩ : ∃ x,e.inner[i]? = some x := ⟨e.inner[i],List.getElem?_eq_getElem hi⟩
    have hm := tots_mem (List.mem_of_getElem? hx)
    have hd := ih x (by omega) (by omega)
    rw [exC_eq] at hd
    have w1 : IntKind.i64.wrap ((i : Int) + 1) = ((i + 1 : Nat) : Int) := wrapN (i + 1) (by omega)
    simp only [go_sem,natlt,exsV_len,decide_eq_true hi,natge0,tonat,exsV_get,hx,exC_eq,hd,max_if]
    refine h _ ?_
    simp only [go_sem,w1,take_snoc hx,edepths_snoc]
  · have w1 : IntKind.i64.wrap (((Ex.depths e.inner : Nat) : Int) + 1) = ((Ex.depths e.inner + 1 : Nat) : Int) := wrapN (Ex.depths e.inner + 1) (by omega)
    simp only [go_sem,natlt,exsV_len,Nat.lt_irrefl,List.take_length,w1]
def deepT (e : Ex) : Bool := decide (e.tdep > 50)
theorem deepT_eq (e : Ex) : deepT e = (((e.told || e.kind == 7) && decide (e.ty.depth > 50)) || e.inner.any deepT) := by
 have key : ∀ l : List Ex,decide (Ex.tdeps l > 50) = l.any deepT := by
  intro l
  induction l with
  | nil => simp [Ex.tdeps]
  | cons a l ih =>
   simp only [Ex.tdeps]
   rw [List.any_cons,← ih]
   show decide (max a.tdep (Ex.tdeps l) > 50) = (decide (a.tdep > 50) || decide (Ex.tdeps l > 50))
   rw [← Bool.decide_or]; exact decide_eq_decide.2 (by omega)
 rw [← key]
 unfold deepT
 rw [tdep_eq,Bool.eq_iff_iff]
 simp only [decide_eq_true_eq,Bool.or_eq_true,Bool.and_eq_true]
 split
 · rename_i h; simp only [h,true_and]; omega
 · rename_i h; simp only [h,false_and,false_or]; omega
theorem any_take {α : Type} {p : α → Bool} {l : List α} {i : Nat} {x : α} (h : l[i]? = some x) (h0 : (l.take i).any p = false) : (p x = true → l.any p = true) ∧ (p x = false → (l.take (i + 1)).any p = false) := by
 refine ⟨fun hx => List.any_eq_true.2 ⟨x,List.mem_of_getElem? h,hx⟩,fun hx => ?_⟩
 rw [take_snoc h,List.any_append,h0]; simp [hx]
theorem rdeepT_den : ∀ (n : Nat) (e : Ex),e.tot ≤ n → e.tot < 1000000 → den E 201 [.agg (exC e)] [] = some (.bool (deepT e),[]) := by
 intro n
 induction n with
 | zero => intro e he; have := tot_pos e; omega
 | succ n ih =>
  intro e he hs
  have ht := tot_inner1 e
  have hl := tots_len e.inner
  have hts := ex_ty_sz e
  have hin := rInner_den e hs
  have htd := rdepth_den _ e.ty (Nat.le_refl _) (by omega)
  rw [den_eq prim_201,body_201]
  rw [tyV_eq] at htd
  rw [exC_eq] at hin ⊢
  have hgt : decide ((e.ty.depth : Int) > 50) = decide (e.ty.depth > 50) := by simp; omega
  rw [deepT_eq]
  cases h1 : e.told <;> rw [h1] at hin
  · cases h2 : e.kind == 7
    · simp only [go_sem,Tryz.f201,h2,hin]
      refine run_ind (fun i : Nat => i ≤ e.inner.length ∧ (e.inner.take i).any deepT = false) (fun i => ⟨[(3,.slice (exsV e.inner)),(4,.int .i64 i)],[],[],1⟩) (fun _ => some (.bool (e.inner.any deepT),[])) (fun i => e.inner.length - i) 0 ⟨Nat.zero_le _,by simp⟩ ?_ ?_
      · simp only [go_sem]
      · rintro i ⟨hi,h0⟩ h
        by_cases hlt : i < e.inner.length
        · obtain ⟨x,hx⟩ : ∃ x,e.inner[i]? = some x := ⟨e.inner[i],List.getElem?_eq_getElem hlt⟩
          have hm := tots_mem (List.mem_of_getElem? hx)
          have hd := ih x (by omega) (by omega)
          rw [exC_eq] at hd
          have w1 : IntKind.i64.wrap ((i : Int) + 1) = ((i + 1 : Nat) : Int) := wrapN (i + 1) (by omega)
          obtain ⟨ya,yb⟩ := any_take hx h0
          cases hdx : deepT x
          · simp only [go_sem,natlt,exsV_len,decide_eq_true hlt,natge0,tonat,exsV_get,hx,exC_eq,hd,hdx]
            refine h (i + 1) _ ⟨hlt,yb hdx⟩ (by omega) ?_
            simp only [go_sem,w1]
          · simp only [go_sem,natlt,exsV_len,decide_eq_true hlt,natge0,tonat,exsV_get,hx,exC_eq,hd,hdx,ya hdx]
        · have hie : i = e.inner.length := by omega
          subst hie
          rw [List.take_length] at h0
          simp only [go_sem,natlt,exsV_len,Nat.lt_irrefl,h0]
    · cases h3 : decide (e.ty.depth > 50)
      · simp only [go_sem,Tryz.f201,h2,hin,htd,hgt,h3]
        refine run_ind (fun i : Nat => i ≤ e.inner.length ∧ (e.inner.take i).any deepT = false) (fun i => ⟨[(3,.slice (exsV e.inner)),(4,.int .i64 i)],[],[],1⟩) (fun _ => some (.bool (e.inner.any deepT),[])) (fun i => e.inner.length - i) 0 ⟨Nat.zero_le _,by simp⟩ ?_ ?_
        · simp only [go_sem]
        · rintro i ⟨hi,h0⟩ h
          by_cases hlt : i < e.inner.length
          · obtain ⟨x,hx⟩ : ∃ x,e.inner[i]? = some x := ⟨e.inner[i],List.getElem?_eq_getElem hlt⟩
            have hm := tots_mem (List.mem_of_getElem? hx)
            have hd := ih x (by omega) (by omega)
            rw [exC_eq] at hd
            have w1 : IntKind.i64.wrap ((i : Int) + 1) = ((i + 1 : Nat) : Int) := wrapN (i + 1) (by omega)
            obtain ⟨ya,yb⟩ := any_take hx h0
            cases hdx : deepT x
            · simp only [go_sem,natlt,exsV_len,decide_eq_true hlt,natge0,tonat,exsV_get,hx,exC_eq,hd,hdx]
              refine h (i + 1) _ ⟨hlt,yb hdx⟩ (by omega) ?_
              simp only [go_sem,w1]
            · simp only [go_sem,natlt,exsV_len,decide_eq_true hlt,natge0,tonat,exsV_get,hx,exC_eq,hd,hdx,ya hdx]
          · have hie : i = e.inner.length := by omega
            subst hie
            rw [List.take_length] at h0
            simp only [go_sem,natlt,exsV_len,Nat.lt_irrefl,h0]
      · simp only [go_sem,Tryz.f201,h2,htd,hgt,h3]
  · cases h3 : decide (e.ty.depth > 50)
    · simp only [go_sem,Tryz.f201,hin,htd,hgt,h3]
      refine run_ind (fun i : Nat => i ≤ e.inner.length ∧ (e.inner.take i).any deepT = false) (fun i => ⟨[(3,.slice (exsV e.inner)),(4,.int .i64 i)],[],[],1⟩) (fun _ => some (.bool (e.inner.any deepT),[])) (fun i => e.inner.length - i) 0 ⟨Nat.zero_le _,by simp⟩ ?_ ?_
      · simp only [go_sem]
      · rintro i ⟨hi,h0⟩ h
        by_cases hlt : i < e.inner.length
        · obtain ⟨x,hx⟩ : ∃ x,e.inner[i]? = some x := ⟨e.inner[i],List.getElem?_eq_getElem hlt⟩
          have hm := tots_mem (List.mem_of_getElem? hx)
          have hd := ih x (by omega) (by omega)
          rw [exC_eq] at hd
          have w1 : IntKind.i64.wrap ((i : Int) + 1) = ((i + 1 : Nat) : Int) := wrapN (i + 1) (by omega)
          obtain ⟨ya,yb⟩ := any_take hx h0
          cases hdx : deepT x
          · simp only [go_sem,natlt,exsV_len,decide_eq_true hlt,natge0,tonat,exsV_get,hx,exC_eq,hd,hdx]
            refine h (i + 1) _ ⟨hlt,yb hdx⟩ (by omega) ?_
            simp only [go_sem,w1]
          · simp only [go_sem,natlt,exsV_len,decide_eq_true hlt,natge0,tonat,exsV_get,hx,exC_eq,hd,hdx,ya hdx]
        · have hie : i = e.inner.length := by omega
          subst hie
          rw [List.take_length] at h0
          simp only [go_sem,natlt,exsV_len,Nat.lt_irrefl,h0]
    · simp only [go_sem,Tryz.f201,htd,hgt,h3]
def scanO (s : List UInt8) : List Tok × Int :=
 if s.length > 4000 then ([],2) else match scanS (s.length + 1) (gapN false s) (s.drop (gapN false s)) with
  | .ok l => (l,0)
  | .error _ => ([],10)
theorem scanO_T (s : List UInt8) : ∃ p,scanT s = .tup [.slice (toksV (scanO s).1),.int .i64 p,.int .i64 (scanO s).2] := by
 unfold scanT scanO
 split
 · exact ⟨0,by simp [toksV_nil]⟩
 · cases scanS (s.length + 1) (gapN false s) (s.drop (gapN false s)) with
   | ok l => exact ⟨0,by simp [scanR]⟩
   | error p => exact ⟨p,by simp [scanR,toksV_nil]⟩
theorem scanAll_den (s : List UInt8) : den E 45 [.str s] [] = some (scanT s,[]) := by
 by_cases h : s.length < 1000000
 · exact scan_den s h
 · rw [den_eq prim_45,body_45]
   have h1 : decide ((s.length : Int) > 4000) = true := decide_eq_true (by omega)
   unfold scanT
   rw [if_pos (by omega)]
   simp only [go_sem,Tryz.f45,h1]
theorem scanAll1_den (s : List UInt8) : den E 48 [.str s] [] = some (scanT s,[]) := by
 by_cases h : s.length < 1000000
 · exact scan1_den s h
 · rw [den_eq prim_48,body_48]
   have h1 : decide ((s.length : Int) > 4000) = true := decide_eq_true (by omega)
   unfold scanT
   rw [if_pos (by omega)]
   simp only [go_sem,Tryz.f48,h1]
def De.tot (d : De) : Nat := Ty.szs (d.cons.map Co.ty) + d.ty.sz + d.val.tot + d.cons.length + d.vars.length
def deepC (c : Co) : Bool := decide (c.ty.depth > 50)
def deepD (d : De) : Bool := d.cons.any deepC || (decide (d.ty.depth > 50) || (decide (d.val.depth > 50) || decide (d.val.tdep > 50)))
theorem tyDeep (t : Ty) : decide ((t.depth : Int) > 50) = decide (t.depth > 50) := by simp; omega
theorem natDeep (n : Nat) : decide ((n : Int) > 50) = decide (n > 50) := by simp; omega
theorem cons_get (l : List Co) (i : Nat) : (l.map coV)[i]? = (l[i]?).map coV := by simp
theorem cons_sz {l : List Co} {c : Co} (h : c ∈ l) : c.ty.sz ≤ Ty.szs (l.map Co.ty) := szs_mem (List.mem_map.2 ⟨c,h,rfl⟩)
theorem deepD_den (d : De) (hs : d.tot < 1000000) : den E 136 [.agg (deC d)] [] = some (.bool (deepD d),[]) := by
 unfold De.tot at hs
 have e1 := tdepth_den _ d.ty (Nat.le_refl _) (by omega)
 have e2 := exdepth_den _ d.val (Nat.le_refl _) (by omega)
 have e3 := extdep_den _ d.val (Nat.le_refl _) (by omega)
 rw [tyV_eq] at e1
 rw [exC_eq] at e2 e3
 rw [den_eq prim_136,body_136]
 unfold deC
 simp only [go_sem,Tryz.f136,List.length_map]
 refine run_ind (fun i : Nat => i ≤ d.cons.length ∧ (d.cons.take i).any deepC = false) (fun i => ⟨[(1,.ptr (.loc 1) 0),(6,.slice (d.cons.map coV)),(7,.int .i64 d.cons.length),(8,.int .i64 i)],[],[(1,deC d)],1⟩) (fun _ => some (.bool (deepD d),[])) (fun i => d.cons.length - i) 0 ⟨Nat.zero_le _,by simp⟩ ?_ ?_
 · simp only [go_sem,deC]
 · rintro i ⟨hi,h0⟩ h
   by_cases hlt : i < d.cons.length
   · obtain ⟨x,hx⟩ : ∃ x,d.cons[i]? = some x := ⟨d.cons[i],List.getElem?_eq_getElem hlt⟩
     have hm := cons_sz (List.mem_of_getElem? hx)
     have hd := tdepth_den _ x.ty (Nat.le_refl _) (by omega)
     rw [tyV_eq] at hd
     have w1 : IntKind.i64.wrap ((i : Int) + 1) = ((i + 1 : Nat) : Int) := wrapN (i + 1) (by omega)
     obtain ⟨ya,yb⟩ := any_take hx h0
     have hdc : deepC x = decide (x.ty.depth > 50) := rfl
     cases hdx : decide (x.ty.depth > 50)
     · simp only [go_sem,deC,natlt,decide_eq_true hlt,natge0,tonat,cons_get,hx,coV,hd,tyDeep,hdx]
       refine h (i + 1) _ ⟨hlt,yb (hdc.trans hdx)⟩ (by omega) ?_
       simp only [go_sem,deC,w1]
     · have : deepD d = true := by unfold deepD; rw [ya (hdc.trans hdx)]; rfl
       simp only [go_sem,deC,natlt,decide_eq_true hlt,natge0,tonat,cons_get,hx,coV,hd,tyDeep,hdx,this]
   · have hie : i = d.cons.length := by omega
     subst hie
     rw [List.take_length] at h0
     have hD : deepD d = (decide (d.ty.depth > 50) || (decide (d.val.depth > 50) || decide (d.val.tdep > 50))) := by unfold deepD; rw [h0]; rfl
     rw [hD]
     cases q1 : decide (d.ty.depth > 50)
     · cases q2 : decide (d.val.depth > 50)
       · simp only [go_sem,deC,natlt,Nat.lt_irrefl,e1,e2,e3,natDeep,q1,q2]
       · simp only [go_sem,deC,natlt,Nat.lt_irrefl,e1,e2,natDeep,q1,q2]
     · simp only [go_sem,deC,natlt,Nat.lt_irrefl,e1,natDeep,q1]
theorem rdeepD_den (d : De) (hs : d.tot < 1000000) : den E 139 [.agg (deC d)] [] = some (.bool (deepD d),[]) := by
 unfold De.tot at hs
 have e1 := rdepth_den _ d.ty (Nat.le_refl _) (by omega)
 have e2 := rdepthx_den _ d.val (Nat.le_refl _) (by omega)
 have e3 := rdeepT_den _ d.val (Nat.le_refl _) (by omega)
 rw [tyV_eq] at e1
 rw [exC_eq] at e2 e3
 rw [den_eq prim_139,body_139]
 unfold deC
 simp only [go_sem,Tryz.f139]
 refine run_ind (fun i : Nat => i ≤ d.cons.length ∧ (d.cons.take i).any deepC = false) (fun i => ⟨[(1,.ptr (.loc 1) 0),(3,.int .i64 i)],[],[(1,deC d)],1⟩) (fun _ => some (.bool (deepD d),[])) (fun i => d.cons.length - i) 0 ⟨Nat.zero_le _,by simp⟩ ?_ ?_
 · simp only [go_sem,deC]
 · rintro i ⟨hi,h0⟩ h
   by_cases hlt : i < d.cons.length
   · obtain ⟨x,hx⟩ : ∃ x,d.cons[i]? = some x := ⟨d.cons[i],List.getElem?_eq_getElem hlt⟩
     have hm := cons_sz (List.mem_of_getElem? hx)
     have hd := rdepth_den _ x.ty (Nat.le_refl _) (by omega)
     rw [tyV_eq] at hd
     have w1 : IntKind.i64.wrap ((i : Int) + 1) = ((i + 1 : Nat) : Int) := wrapN (i + 1) (by omega)
     obtain ⟨ya,yb⟩ := any_take hx h0
     have hdc : deepC x = decide (x.ty.depth > 50) := rfl
     cases hdx : decide (x.ty.depth > 50)
     · simp only [go_sem,deC,natlt,List.length_map,decide_eq_true hlt,natge0,tonat,cons_get,hx,coV,hd,tyDeep,hdx]
       refine h (i + 1) _ ⟨hlt,yb (hdc.trans hdx)⟩ (by omega) ?_
       simp only [go_sem,deC,w1]
     · have : deepD d = true := by unfold deepD; rw [ya (hdc.trans hdx)]; rfl
       simp only [go_sem,deC,natlt,List.length_map,decide_eq_true hlt,natge0,tonat,cons_get,hx,coV,hd,tyDeep,hdx,this]
   · have hie : i = d.cons.length := by omega
     subst hie
     rw [List.take_length] at h0
     have hD : deepD d = (deepT d.val || (decide (d.ty.depth > 50) || decide (d.val.depth > 50))) := by
      unfold deepD deepT; rw [h0]
      cases decide (d.ty.depth > 50) <;> cases decide (d.val.depth > 50) <;> cases decide (d.val.tdep > 50) <;> rfl
     rw [hD]
     cases q0 : deepT d.val
     · rw [q0] at e3
       cases q1 : decide (d.ty.depth > 50)
       · simp only [go_sem,deC,natlt,List.length_map,Nat.lt_irrefl,e1,e2,e3,natDeep,q1]
       · simp only [go_sem,deC,natlt,List.length_map,Nat.lt_irrefl,e1,e3,natDeep,q1]
     · rw [q0] at e3
       simp only [go_sem,deC,natlt,List.length_map,Nat.lt_irrefl,e3]
def desR (f : Nat) : Nat → List De → Rd → Option (List De × Rd)
 | 0,_,_ => none
 | g + 1,acc,q => match deR f q with
  | none => none
  | some (d,r) => if seesR r 6 [59] then desR f g (acc ++ [d]) (takesR r 6 [59]) else some (acc ++ [d],r)
def desO (f : Nat) (l : List Tok) : Option (List De × Rd) := match l with
 | [] => some ([],⟨[],false⟩)
 | t :: q => desR f f [] ⟨t :: q,false⟩
def endO (ds : List De) (r : Rd) : List De × Int := if r.bad || decide (0 < r.l.length) then ([],80) else if ds.any deepD then ([],3) else (ds,0)
def parseO (f : Nat) (s : List UInt8) : Option (List De × Int) :=
 if (scanO s).2 != 0 then some ([],(scanO s).2) else match desO f (scanO s).1 with
  | none => none
  | some (ds,r) => some (endO ds r)
def deV (d : De) : AVal := .agg (deC d)
def parV (p : List De × Int) : AVal := .tup [.slice (p.1.map deV),.int .i64 p.2]
theorem des_get (l : List De) (i : Nat) : (l.map deV)[i]? = (l[i]?).map deV := by simp
theorem bne_not (a b : Int) : (a != b) = !(a == b) := rfl
theorem parse_den (f : Nat) (s : List UInt8) (p : List De × Int) (hok : ∀ t ∈ (scanO s).1,tokOK t) (hlen : (scanO s).1.length < 1000000)
 (htot : ∀ ds r,desO f (scanO s).1 = some (ds,r) → r.bad = false → ds.length < 1000000 ∧ ∀ d ∈ ds,d.tot < 1000000) (h : parseO f s = some p) : den E 78 [.str s] [] = some (parV p,[]) := by
 rw [den_eq prim_78,body_78]
 obtain ⟨pos,hT⟩ := scanO_T s
 have hsc := scanAll_den s
 rw [hT] at hsc
 unfold parseO at h
 generalize (scanO s).1 = l at *
 generalize (scanO s).2 = e at *
 cases he : e == 0
 · have he' : (e != 0) = true := by rw [bne_not,he]; rfl
   rw [he',if_pos rfl] at h
   injection h with h; subst h
   simp only [go_sem,Tryz.f78,hsc,he',parV,List.map_nil]
 · have he' : (e != 0) = false := by rw [bne_not,he]; rfl
   rw [he'] at h
   simp only [Bool.false_eq_true,if_false] at h
   split at h
   · cases h
   · rename_i ds r hds
     injection h with h; subst h
     cases l with
     | nil =>
      simp only [desO,Option.some.injEq,Prod.mk.injEq] at hds
      obtain ⟨rfl,rfl⟩ := hds
      simp only [go_sem,Tryz.f78,hsc,he',toksV_nil,show decide ((0 : Int) > 0) = false from rfl]
      refine run_for (fun i => ⟨[(8,.own 91 0 []),(50,.slice []),(51,.int .i64 0),(52,.int .i64 i)],[],[],1⟩) 0 ?_ ?_ ?_
      · simp only [go_sem]
      · intro i hi; omega
      · simp only [go_sem,endO,parV,List.map_nil,List.any_nil,Nat.lt_irrefl]
     | cons t0 q0 =>
      have hl0 : decide ((((toksV q0).length + 1 : Nat) : Int) > 0) = true := by simp
      simp only [desO] at hds htot
      generalize hL : t0 :: q0 = l at *
      have hokS : ∀ {q : List Tok},q <:+ l → ∀ t ∈ q,tokOK t := fun hs t ht => hok t (hs.subset ht)
      have step : ∀ g,g ≤ f → ∀ acc q,q.l <:+ l → acc.length + q.l.length ≤ l.length + 1 → desR f g acc q = some (ds,r) → ∃ g' d r4,g' < g ∧ r4.l <:+ q.l ∧
       den E 134 [.ptr (.par 0) 0] [rdV q] = some (.agg (deC d),[rdV r4]) ∧ (if seesR r4 6 [59] then desR f g' (acc ++ [d]) (takesR r4 6 [59]) else some (acc ++ [d],r4)) = some (ds,r) := by
       intro g hg acc q hq hac h
       cases g with
       | zero => cases h
       | succ g =>
        simp only [desR] at h
        split at h
        · cases h
        · rename_i d r4 h4
          exact ⟨g,d,r4,Nat.lt_succ_self g,deR_suf h4,de_den f q d r4 (hokS hq) (Nat.lt_of_le_of_lt hq.length_le hlen) h4,h⟩
      obtain ⟨g0,d0,r0,hg0,hs0,e0,k0⟩ := step f (Nat.le_refl _) [] ⟨l,false⟩ (List.suffix_refl _) (by simp) hds
      have hVl : toksV l = tokV t0 :: toksV q0 := by rw [← hL,toksV_cons]; rfl
      simp only [rdV,hVl,tokV] at e0
      simp only [go_sem,Tryz.f78,hsc,he',hVl,tokV,List.length_cons,hl0,e0,deC]
      refine run_ind (fun x : Nat × List De × Rd => x.1 ≤ f ∧ x.2.2.l <:+ l ∧ x.2.1.length + x.2.2.l.length ≤ l.length + 1 ∧ (if seesR x.2.2 6 [59] then desR f x.1 x.2.1 (takesR x.2.2 6 [59]) else some (x.2.1,x.2.2)) = some (ds,r))
       (fun x => ⟨[(7,.ptr (.loc 22) 0),(8,.own 91 0 (x.2.1.map deV))],[],[(22,rdV x.2.2)],1⟩) (fun _ => some (parV (endO ds r),[])) (fun x => x.1) (g0,[d0],r0) ⟨by omega,hs0,?_,k0⟩ ?_ ?_
      · have := hs0.length_le; simp only [List.length_singleton] at this ⊢; omega
      · simp only [go_sem,rdV,deV,deC]
      · rintro ⟨g,acc,q⟩ ⟨hg,hq,hle,hx⟩ hrun
        simp only at hg hq hle hx hrun ⊢
        have b1 := rtakes_den q 6 [59]
        cases h1 : seesR q 6 [59]
        · rw [h1] at hx b1
          simp only [Bool.false_eq_true,if_false] at hx
          injection hx with hx; injection hx with hx1 hx2; subst hx1; subst hx2
          have hk : takesR q 6 [59] = q := by unfold takesR; rw [h1]; rfl
          rw [hk] at b1
          unfold endO
          simp only [rdV] at b1 ⊢
          cases hb : q.bad
          · have hgt : decide (((toksV q.l).length : Int) > 0) = decide (0 < q.l.length) := by rw [toksV_len]; simp
            cases hn : decide (0 < q.l.length)
            · obtain ⟨hdl,hdt⟩ := htot _ _ hds hb
              rw [hb] at b1
              simp only [go_sem,b1,hgt,hn,List.length_map]
              refine run_ind (fun i : Nat => i ≤ acc.length ∧ (acc.take i).any deepD = false) (fun i => ⟨[(8,.own 91 0 (acc.map deV)),(50,.slice (acc.map deV)),(51,.int .i64 acc.length),(52,.int .i64 i)],[],[],1⟩)
               (fun _ => some (parV (if acc.any deepD then ([],3) else (acc,0)),[])) (fun i => acc.length - i) 0 ⟨Nat.zero_le _,by simp⟩ ?_ ?_
              · simp only [go_sem]
              · rintro i ⟨hi,h0⟩ h
                by_cases hlt : i < acc.length
                · obtain ⟨x,hx⟩ : ∃ x,acc[i]? = some x := ⟨acc[i],List.getElem?_eq_getElem hlt⟩
                  have hd := deepD_den x (hdt x (List.mem_of_getElem? hx))
                  have w1 : IntKind.i64.wrap ((i : Int) + 1) = ((i + 1 : Nat) : Int) := wrapN (i + 1) (by omega)
                  obtain ⟨ya,yb⟩ := any_take hx h0
                  rw [deC] at hd
                  cases hdx : deepD x
                  · rw [hdx] at hd
                    simp only [go_sem,natlt,decide_eq_true hlt,natge0,tonat,des_get,hx,deV,deC,hd]
                    refine h (i + 1) _ ⟨hlt,yb hdx⟩ (by omega) ?_
                    simp only [go_sem,w1]
                  · rw [hdx] at hd
                    simp only [go_sem,natlt,decide_eq_true hlt,natge0,tonat,des_get,hx,deV,deC,hd,ya hdx,parV,List.map_nil]
                · have hie : i = acc.length := by omega
                  subst hie
                  rw [List.take_length] at h0
                  simp only [go_sem,natlt,Nat.lt_irrefl,h0,parV]
            · rw [hb] at b1
              simp only [go_sem,b1,hgt,hn,parV,List.map_nil]
          · rw [hb] at b1
            simp only [go_sem,b1,parV,List.map_nil]
        · rw [h1] at hx b1
          simp only [if_true] at hx
          obtain ⟨hb,t,w,hw⟩ := seesR_cons h1
          have hk : (takesR q 6 [59]).l.length + 1 = q.l.length := by unfold takesR; rw [h1,if_pos rfl,hw]; simp
          have hsq := takesR_suf q 6 [59]
          obtain ⟨g',d,r',hg',hs',d',e'⟩ := step g (by omega) acc _ (hsq.trans hq) (by omega) hx
          have hap : (acc.map deV).length + 1 ≤ appMax := by rw [List.length_map]; unfold appMax; omega
          have hmap : acc.map deV ++ [.agg (deC d)] = (acc ++ [d]).map deV := by rw [List.map_append]; rfl
          rw [deC] at hmap d'
          simp only [rdV] at b1 d' ⊢
          simp only [go_sem,b1,d',hap,hmap]
          refine hrun (g',acc ++ [d],r') _ ⟨by omega,hs'.trans (hsq.trans hq),?_,e'⟩ hg' ?_
          · have := hs'.length_le; simp only [List.length_append,List.length_singleton]; omega
          · simp only [go_sem,rdV]
def idx (full : List Tok) (r : Rd) : Int := if r.bad then -1 else ((full.length - r.l.length : Nat) : Int)
theorem idx_bad {full : List Tok} {r : Rd} (h : r.bad = true) : idx full r = -1 := by unfold idx; rw [h]; rfl
theorem idx_ok {full : List Tok} {r : Rd} (h : r.bad = false) : idx full r = ((full.length - r.l.length : Nat) : Int) := by unfold idx; rw [h]; rfl
theorem idxB (full l : List Tok) : idx full ⟨l,true⟩ = -1 := rfl
theorem idxG (full l : List Tok) : idx full ⟨l,false⟩ = ((full.length - l.length : Nat) : Int) := rfl
theorem nat_neg (n : Nat) : decide ((n : Int) < 0) = false := by simp
theorem nat_ge (n : Nat) : decide ((n : Int) ≥ 0) = true := by simp
theorem is08_den (full : List Tok) (r : Rd) (k : Int) (s : List UInt8) (hs : r.l <:+ full) :
 den E 138 [.slice (toksV full),.int .i64 (idx full r),.int .i64 k,.str s] [] = some (.bool (seesR r k s),[]) := by
 rw [den_eq prim_138,body_138]
 unfold seesR
 cases hb : r.bad
 · have h1 := is_den full (full.length - r.l.length) k s
   rw [suf_drop hs] at h1
   rw [idx_ok hb]
   simp only [go_sem,Tryz.f138,nat_neg,h1]
 · rw [idx_bad hb]
   simp only [go_sem,Tryz.f138]
theorem idx_next {full : List Tok} {r : Rd} {k : Int} {s : List UInt8} (hs : r.l <:+ full) (h : seesR r k s = true) : idx full ⟨r.l.tail,false⟩ = idx full r + 1 ∧ idx full r = ((full.length - r.l.length : Nat) : Int) ∧ full.length - r.l.length < full.length := by
 obtain ⟨hb,t,q,hl⟩ := seesR_cons h
 have := hs.length_le
 rw [hl,List.length_cons] at this
 rw [idx_ok (r := r) hb]
 refine ⟨?_,rfl,?_⟩
 · unfold idx; rw [hl]; simp only [Bool.false_eq_true,if_false,List.tail_cons,List.length_cons]; omega
 · rw [hl,List.length_cons]; omega
theorem next08_den (full : List Tok) (r : Rd) (k : Int) (s : List UInt8) (hs : r.l <:+ full) (hlen : full.length < 1000000) :
 den E 198 [.slice (toksV full),.int .i64 (idx full r),.int .i64 k,.str s] [] = some (.int .i64 (idx full (takeR r k s)),[]) := by
 rw [den_eq prim_198,body_198]
 have h1 := is08_den full r k s hs
 unfold takeR
 cases h : seesR r k s
 · rw [h] at h1
   simp only [go_sem,Tryz.f198,h1,idxB]
 · rw [h] at h1
   obtain ⟨i1,i2,i3⟩ := idx_next hs h
   have w1 : IntKind.i64.wrap (idx full r + 1) = idx full r + 1 := by rw [i2]; exact IntWalk.i64_in _ (by omega)
   simp only [go_sem,Tryz.f198,h1,w1,i1]
def headR (r : Rd) : List UInt8 := if r.bad then [] else match r.l with
 | [] => []
 | t :: _ => t.text
theorem headR_sees {r : Rd} {k : Int} {s : List UInt8} (h : seesR r k s = true) : headR r = wordR r k s := by
 obtain ⟨hb,t,q,hl⟩ := seesR_cons h
 unfold headR wordR
 rw [h,hb,hl]; rfl
theorem text_den (full : List Tok) (r : Rd) (hs : r.l <:+ full) : den E 196 [.slice (toksV full),.int .i64 (idx full r)] [] = some (.str (headR r),[]) := by
 rw [den_eq prim_196,body_196]
 unfold headR
 cases hb : r.bad
 · rw [idx_ok hb]
   have hle := hs.length_le
   cases hl : r.l with
   | nil =>
    have hge : decide (((full.length - 0 : Nat) : Int) ≥ ((full.length : Nat) : Int)) = true := by simp
    simp only [go_sem,Tryz.f196,nat_neg,toksV_len,hge]
   | cons t q =>
    rw [hl] at hs hle
    simp only [List.length_cons] at hle
    have hge : decide (((full.length - (t :: q).length : Nat) : Int) ≥ ((full.length : Nat) : Int)) = false := by simp; omega
    have hg := (head_get (suf_drop hs)).1
    simp only [List.length_cons] at hge hg
    simp only [go_sem,Tryz.f196,nat_neg,toksV_len,hge,natge0,tonat,toksV_get,hg,tokV,List.length_cons]
 · rw [idx_bad hb]
   simp only [go_sem,Tryz.f196]
theorem typ08_den (full : List Tok) (hok : ∀ t ∈ full,tokOK2 t) (hlen : full.length < 1000000) (f : Nat) (r : Rd) (x : Ty × Rd) (hs : r.l <:+ full) (h : typR f r = some x) :
 ∃ t',den E 199 [.slice (toksV full),.int .i64 (idx full r)] [] = some (.tup [tyV t',.int .i64 (idx full x.2)],[]) ∧ (x.2.bad = false → t' = x.1) := by
 rw [den_eq prim_199,body_199]
 unfold typR at h
 cases hb : r.bad
 · rw [hb] at h
   simp only [Bool.false_eq_true,if_false] at h
   rw [idx_ok hb]
   split at h
   · cases h
   · rename_i t ok l' ht
     have h2 := tyR_ref full hok hlen f .typ (full.length - r.l.length) (t,ok,l') (by omega) (by rw [suf_drop hs]; exact ht)
     obtain ⟨t',j,h3,h4⟩ := h2
     cases ok
     · simp only [Bool.false_eq_true,if_false] at h
       injection h with h; subst h
       have := RR_no h4; subst this
       refine ⟨t',?_,fun h => by cases h⟩
       rw [tyV_eq] at h3
       simp only [go_sem,Tryz.f199,nat_neg,h3,tyV_eq,idxB]
     · simp only [if_true] at h
       injection h with h; subst h
       obtain ⟨rfl,rfl⟩ := RR_ok h4
       refine ⟨t',?_,fun _ => rfl⟩
       rw [tyV_eq] at h3
       simp only [go_sem,Tryz.f199,nat_neg,h3,tyV_eq,idxG]
 · rw [hb] at h
   simp only [if_true] at h
   injection h with h; subst h
   refine ⟨zTy,?_,fun h2 => absurd (hb.symm.trans h2) (by decide)⟩
   rw [idx_bad hb]
   simp only [go_sem,Tryz.f199,zTyV]
theorem names08_den (full : List Tok) (r : Rd) (hs : r.l <:+ full) (hlen : full.length < 1000000) :
 den E 197 [.slice (toksV full),.int .i64 (idx full r)] [] = some (.tup [.slice ((namesR r).map .str),.int .i64 (idx full (behindR r))],[]) := by
 rw [den_eq prim_197,body_197]
 have h1 := is08_den full r 1 [] hs
 simp only [go_sem,Tryz.f197,h1]
 refine run_ind (fun x : List (List UInt8) × List Tok => x.2 = r.l.drop x.1.length ∧ namesR r = x.1 ++ namesR ⟨x.2,r.bad⟩ ∧ x.1.length + x.2.length ≤ r.l.length) (fun x => ⟨[(0,.slice (toksV full)),(1,.int .i64 (idx full ⟨x.2,r.bad⟩)),(6,.own 9 0 (x.1.map .str)),(7,.bool (seesR ⟨x.2,r.bad⟩ 1 []))],[],[],1⟩)
  (fun _ => some (.tup [.slice ((namesR r).map .str),.int .i64 (idx full (behindR r))],[])) (fun x => x.2.length) ([],r.l) ⟨by simp,by simp,by simp⟩ ?_ ?_
 · simp only [go_sem,List.map_nil]
 · rintro ⟨names,lx⟩ ⟨hdrop,hnames,hle⟩ hrun
   simp only at hdrop hnames hle hrun ⊢
   have hsx : lx <:+ full := (hdrop ▸ List.drop_suffix _ _ : lx <:+ r.l).trans hs
   cases b1 : seesR ⟨lx,r.bad⟩ 1 []
   · have hnx : namesR ⟨lx,r.bad⟩ = [] := by
      unfold seesR at b1
      unfold namesR
      cases hb : r.bad
      · simp only [hb,Bool.not_false,Bool.true_and] at b1
        simp only [Bool.false_eq_true,if_false]
        cases lx with
        | nil => rfl
        | cons t q => simp only [seesT] at b1; simp only [namesT]; rw [show (t.kind == 1) = false by simpa using b1]; rfl
      · rfl
     rw [hnx,List.append_nil] at hnames
     have hbe : behindR r = ⟨lx,r.bad⟩ := by unfold behindR; rw [hnames,← hdrop]
     rw [hbe,hnames]
     simp only [go_sem]
   · obtain ⟨hb,tk,q,hl⟩ := seesR_cons b1
     simp only at hb hl
     subst hl
     have hk : (tk.kind == 1) = true := by unfold seesR at b1; simpa [seesT,hb] using b1
     have hnx : namesR ⟨tk :: q,r.bad⟩ = tk.text :: namesR ⟨q,r.bad⟩ := by simp only [namesR,hb,Bool.false_eq_true,if_false,namesT,hk,if_true]
     obtain ⟨i1,i2,i3⟩ := idx_next (r := ⟨tk :: q,r.bad⟩) hsx b1
     have hsq : q <:+ full := (tail_suf (tk :: q)).trans hsx
     have hn := is08_den full ⟨q,r.bad⟩ 1 [] hsq
     have hg := (head_get (suf_drop hsx)).1
     simp only [List.tail_cons,List.length_cons] at i1 i2 i3 hg
     have w1 : IntKind.i64.wrap (((full.length - (q.length + 1) : Nat) : Int) + 1) = idx full ⟨q,r.bad⟩ := by rw [hb,i1,i2]; exact IntWalk.i64_in _ (by omega)
     have hap : (names.map AVal.str).length + 1 ≤ appMax := by
      rw [List.length_map]; simp only [List.length_cons] at hle; have := hs.length_le; unfold appMax; omega
     have hmap : names.map AVal.str ++ [.str tk.text] = (names ++ [tk.text]).map AVal.str := by simp
     rw [i2]
     simp only [go_sem,natge0,tonat,toksV_get,hg,tokV,hap,hmap,w1,hn]
     refine hrun (names ++ [tk.text],q) _ ⟨?_,?_,?_⟩ ?_ ?_
     · simp only [List.length_append,List.length_singleton]
       rw [← List.drop_drop,← hdrop]; rfl
     · rw [hnames,hnx]; simp
     · simp only [List.length_append,List.length_singleton]; simp only [List.length_cons] at hle; omega
     · simp
     · simp only [go_sem]
theorem run_ex {E : Env} {f : FuncId} {C : Code} {K : List Item} {s : St} {α : Type} (Q : Option (AVal × Heap) → Prop) (I : α → Prop) (S : α → St) (m : α → Nat) (x : α) (hx : I x) (h0 : headF E f s K = some (S x))
 (hs : ∀ x,I x → (∀ y t,I y → m y < m x → headF E f t K = some (S y) → Q (run E f (.inLoop C :: K) t)) → Q (run E f (.code C :: .inLoop C :: K) (S x))) : Q (run E f (.code (.loop C) :: K) s) := by
 rw [run_loop h0]
 have key : ∀ n x,m x ≤ n → I x → Q (run E f (.code C :: .inLoop C :: K) (S x)) := by
  intro n
  induction n with
  | zero => exact fun x hm hi => hs x hi fun y t _ hy => by omega
  | succ n ih =>
   exact fun x hm hi => hs x hi fun y t hiy hy ht => by
    rw [run_inLoop ht]; exact ih y (by omega) hiy
 exact key (m x) x (Nat.le_refl _) hx
theorem seesR_bad {r : Rd} (h : r.bad = true) (k : Int) (s : List UInt8) : seesR r k s = false := by unfold seesR; rw [h]; rfl
theorem takeR_bad {r : Rd} (h : r.bad = true) (k : Int) (s : List UInt8) : takeR r k s = r := by
 unfold takeR; rw [seesR_bad h]; cases r; simp only at h; subst h; rfl
theorem takeR_good {r : Rd} {k : Int} {s : List UInt8} (h : (takeR r k s).bad = false) : seesR r k s = true := by
 cases hs : seesR r k s
 · unfold takeR at h; rw [hs] at h; cases h
 · rfl
theorem sees_good {r : Rd} {k : Int} {s : List UInt8} (h : seesR r k s = true) : r.bad = false := (seesR_cons h).1
theorem typR_bad {f : Nat} {r : Rd} {x : Ty × Rd} (hb : r.bad = true) (h : typR f r = some x) : x.2.bad = true := by
 unfold typR at h; rw [hb,if_pos rfl] at h; injection h with h; subst h; exact hb
theorem exR_bad : ∀ (f : Nat) (m : XM) (r : Rd) (x : Ex × Rd),r.bad = true → exR f m r = some x → x.2.bad = true := by
 intro f
 induction f with
 | zero => intro m r x hb h; cases h
 | succ f ih =>
  intro m r x hb h
  cases m with
  | expr => simp only [exR,hb,if_true] at h; injection h with h; subst h; exact hb
  | loop e => simp only [exR,seesR_bad hb,Bool.or_false,Bool.false_eq_true,if_false] at h; injection h with h; subst h; exact hb
  | lets =>
   simp only [exR,takeR_bad hb,seesR_bad hb,Bool.false_eq_true,if_false] at h
   split at h
   · cases h
   · rename_i x1 r3 h3
     have b3 : r3.bad = true := ih _ _ _ hb h3
     rw [takeR_bad b3] at h
     split at h
     · cases h
     · rename_i y r4 h4
       injection h with h; subst h
       have hh := ih _ _ _ b3 h4
       exact hh
  | atom =>
   simp only [exR,takeR_bad hb,seesR_bad hb,Bool.false_eq_true,if_false] at h
   split at h
   · cases h
   · rename_i e r1 h1
     have b1 : r1.bad = true := ih _ _ _ hb h1
     rw [seesR_bad b1] at h
     simp only [Bool.false_eq_true,if_false] at h
     injection h with h; subst h
     rw [takeR_bad b1]; exact b1
  | alts acc =>
   have hbh : (behindR r).bad = true := hb
   simp only [exR,takeR_bad hb,takeR_bad hbh] at h
   split at h
   · cases h
   · rename_i b r4 h4
     have b4 : r4.bad = true := ih _ _ _ hbh h4
     rw [seesR_bad b4] at h
     simp only [Bool.false_eq_true,if_false] at h
     injection h with h; subst h; exact b4
theorem exR_good {f : Nat} {m : XM} {r : Rd} {x : Ex} {r' : Rd} (h : exR f m r = some (x,r')) (hg : r'.bad = false) : r.bad = false := by
 cases hb : r.bad
 · rfl
 · have h2 := exR_bad f m r _ hb h
   simp only at h2; rw [hg] at h2; cases h2
theorem typR_good {f : Nat} {r : Rd} {x : Ty} {r' : Rd} (h : typR f r = some (x,r')) (hg : r'.bad = false) : r.bad = false := by
 cases hb : r.bad
 · rfl
 · have h2 := typR_bad hb h
   simp only at h2; rw [hg] at h2; cases h2
def RO (full : List Tok) (x : Ex × Rd) (o : Option (AVal × Heap)) : Prop := ∃ x',o = some (.tup [.agg (exC x'),.int .i64 (idx full x.2)],[]) ∧ (x.2.bad = false → x' = x.1)
def RX (full : List Tok) (r : Rd) (x : Ex × Rd) : XM → Prop
 | .expr => RO full x (den E 200 [.slice (toksV full),.int .i64 (idx full r)] [])
 | .atom => RO full x (den E 234 [.slice (toksV full),.int .i64 (idx full r)] [])
 | _ => True
theorem takesR_eq {r : Rd} {k : Int} {s : List UInt8} (h : seesR r k s = true) : takesR r k s = ⟨r.l.tail,false⟩ := by unfold takesR; rw [h,if_pos rfl]
theorem takeR_eq {r : Rd} {k : Int} {s : List UInt8} (h : seesR r k s = true) : takeR r k s = ⟨r.l.tail,false⟩ := by unfold takeR; rw [h,if_pos rfl]
theorem idx_takes {full : List Tok} {r : Rd} {k : Int} {s : List UInt8} (hs : r.l <:+ full) (hlen : full.length < 1000000) (h : seesR r k s = true) : IntKind.i64.wrap (idx full r + 1) = idx full (takesR r k s) := by
 obtain ⟨i1,i2,i3⟩ := idx_next hs h
 rw [takesR_eq h,i1,i2]; exact IntWalk.i64_in _ (by omega)
theorem idx_lt0 (full : List Tok) (r : Rd) : decide (idx full r < 0) = r.bad := by
 unfold idx; cases r.bad <;> simp
theorem idx_ge0 (full : List Tok) (r : Rd) : decide (idx full r ≥ 0) = !r.bad := by
 unfold idx; cases r.bad <;> simp
theorem atom_bad (full : List Tok) : den E 234 [.slice (toksV full),.int .i64 (-1)] [] = some (.tup [.agg (exC zEx),.int .i64 (-1)],[]) := by
 have h1 := is08_den full ⟨full,true⟩ 1 [] (List.suffix_refl _)
 have h2 := is08_den full ⟨full,true⟩ 2 [] (List.suffix_refl _)
 have h3 : den E 138 [.slice (toksV full),.int .i64 (-1),.int .i64 6,.str [40]] [] = some (.bool false,[]) := by
  have := is08_den full ⟨full,true⟩ 6 [40] (List.suffix_refl _)
  rw [seesR_bad rfl,idxB] at this; exact this
 rw [seesR_bad rfl,idxB] at h1 h2
 have h4 : den E 198 [.slice (toksV full),.int .i64 (-1),.int .i64 6,.str [40]] [] = some (.int .i64 (-1),[]) := by
  rw [den_eq prim_198,body_198]
  simp only [go_sem,Tryz.f198,h3]
 rw [den_eq prim_234,body_234]
 simp only [go_sem,Tryz.f234,h1,h2,h4,zExC]
theorem read_bad (full : List Tok) : den E 200 [.slice (toksV full),.int .i64 (-1)] [] = some (.tup [.agg (exC zEx),.int .i64 (-1)],[]) := by
 have h1 := is08_den full ⟨full,true⟩ 6 [92] (List.suffix_refl _)
 have h2 := is08_den full ⟨full,true⟩ 3 [108,101,116] (List.suffix_refl _)
 have h3 := is08_den full ⟨full,true⟩ 3 [99,97,115,101] (List.suffix_refl _)
 have h4 := atom_bad full
 rw [seesR_bad rfl,idxB] at h1 h2 h3
 rw [zExC] at h4
 rw [den_eq prim_200,body_200]
 simp only [go_sem,Tryz.f200,h1,h2,h3,h4]
 refine run_for (fun _ => ⟨[(0,.slice (toksV full)),(4,.ptr (.loc 4) 0),(26,.ptr (.loc 26) 0),(27,.int .i64 (-1))],[],[(4,[.int .i64 0,.str [],.bool false,.int .i64 0,.str [],.int .i64 0,.own 38 0 [],.own 168 0 [],.own 312 0 []]),(26,exC zEx)],1⟩) 0 ?_ ?_ ?_
 · simp only [go_sem,zExC]
 · intro i hi; omega
 · simp only [go_sem,show decide ((-1 : Int) ≥ 0) = false from rfl,zExC]
def exB2 (b : Bool) (e : Ex) : List AVal := match b with
 | false => exC e
 | true => [.int .i64 4,.str [],.bool false,.int .i64 0,.str [],.int .i64 0,.own 38 0 [],.slice (exsV e.kids),.own 312 0 []]
theorem exR_ref (full : List Tok) (hok : ∀ t ∈ full,tokOK2 t) (hlen : full.length < 1000000) : ∀ (f : Nat) (m : XM) (r : Rd) (x : Ex × Rd),r.l <:+ full → exR f m r = some x → RX full r x m := by
 intro f
 induction f using Nat.strongRecOn with
 | _ f ih =>
 intro m r x hs h
 cases f with
 | zero => cases h
 | succ f =>
 cases m with
 | lets => trivial
 | loop _ => trivial
 | alts _ => trivial
 | atom =>
  simp only [RX]
  simp only [exR] at h
  have s1 := is08_den full r 1 [] hs
  have s2 := is08_den full r 2 [] hs
  cases b1 : seesR r 1 []
  · rw [b1] at h s1
    simp only [Bool.false_eq_true,if_false] at h
    cases b2 : seesR r 2 []
    · rw [b2] at h s2
      simp only [Bool.false_eq_true,if_false] at h
      have n1 := next08_den full r 6 [40] hs hlen
      have hs1 := (takeR_suf r 6 [40]).trans hs
      split at h
      · cases h
      · rename_i e r1 h1
        have hs2 := (exR_suf _ _ _ _ _ h1).trans hs1
        cases hb : (takeR r 6 [40]).bad
        · have d1 := ih f (by omega) .expr _ _ hs1 h1
          simp only [RX] at d1
          obtain ⟨e',d1,he⟩ := d1
          have lt1 : decide (idx full (takeR r 6 [40]) < 0) = false := by rw [idx_lt0,hb]
          have s3 := is08_den full r1 6 [58] hs2
          rw [exC_eq] at d1
          cases b3 : seesR r1 6 [58]
          · rw [b3] at h s3
            simp only [Bool.false_eq_true,if_false] at h
            injection h with h; subst h
            have n3 := next08_den full r1 6 [41] hs2 hlen
            refine ⟨e',?_,fun hg => he (sees_good (takeR_good hg))⟩
            rw [den_eq prim_234,body_234]
            simp only [go_sem,Tryz.f234,s1,s2,n1,lt1,d1,s3,n3,exC_eq]
          · rw [b3] at h s3
            simp only [if_true] at h
            split at h
            · cases h
            · rename_i t r2 h2
              injection h with h; subst h
              have hs3 := (takesR_suf r1 6 [58]).trans hs2
              have hs4 := (typR_suf h2).trans hs3
              obtain ⟨t',d2,ht⟩ := typ08_den full hok hlen f _ _ hs3 h2
              have w1 := idx_takes hs2 hlen b3
              have n3 := next08_den full r2 6 [41] hs4 hlen
              rw [tyV_eq] at d2
              have he' := he (sees_good b3)
              simp only at he'; subst he'
              refine ⟨.mk 7 [] false t' [e'] [],?_,fun hg => by rw [ht (sees_good (takeR_good hg))]⟩
              rw [den_eq prim_234,body_234]
              simp only [go_sem,Tryz.f234,s1,s2,n1,lt1,d1,s3,w1,d2,n3,exC_eq,exmk,exsV_cons,exsV_nil,alsV_nil]
        · have hx := exR_bad f .expr _ _ hb h1
          have lt1 : decide (idx full (takeR r 6 [40]) < 0) = true := by rw [idx_lt0,hb]
          simp only at hx
          rw [seesR_bad hx] at h
          simp only [Bool.false_eq_true,if_false] at h
          injection h with h; subst h
          refine ⟨zEx,?_,fun hg => by rw [takeR_bad hx,hx] at hg; cases hg⟩
          rw [den_eq prim_234,body_234,takeR_bad hx,idx_bad hx]
          simp only [go_sem,Tryz.f234,s1,s2,n1,lt1,zExC]
    · rw [b2] at h s2
      simp only [if_true] at h
      injection h with h; subst h
      obtain ⟨i1,i2,i3⟩ := idx_next hs b2
      have w1 := idx_takes hs hlen b2
      obtain ⟨hb,t,q,hl⟩ := seesR_cons b2
      have hg := (head_get (by rw [← hl]; exact suf_drop hs)).1
      refine ⟨.mk 2 t.text false zTy [] [],?_,fun _ => by unfold wordR; rw [b2,hl]; rfl⟩
      rw [takesR_eq b2,i1,i2] at w1
      rw [takeR_eq b2,i1]
      rw [i2] at s1 s2 ⊢
      rw [den_eq prim_234,body_234]
      simp only [go_sem,Tryz.f234,s1,s2,natge0,tonat,toksV_get,hg,tokV,w1,exC_eq,exmk,exsV_nil,alsV_nil,tysV_nil,zTy_k,zTy_s,zTy_n,zTy_a]
  · rw [b1] at h s1
    simp only [if_true] at h
    injection h with h; subst h
    obtain ⟨i1,i2,i3⟩ := idx_next hs b1
    have w1 := idx_takes hs hlen b1
    obtain ⟨hb,t,q,hl⟩ := seesR_cons b1
    have hg := (head_get (by rw [← hl]; exact suf_drop hs)).1
    refine ⟨.mk 1 t.text false zTy [] [],?_,fun _ => by unfold wordR; rw [b1,hl]; rfl⟩
    rw [takesR_eq b1,i1,i2] at w1
    rw [takeR_eq b1,i1]
    rw [i2] at s1 ⊢
    rw [den_eq prim_234,body_234]
    simp only [go_sem,Tryz.f234,s1,natge0,tonat,toksV_get,hg,tokV,w1,exC_eq,exmk,exsV_nil,alsV_nil,tysV_nil,zTy_k,zTy_s,zTy_n,zTy_a]
 | expr =>
  simp only [RX]
  simp only [exR] at h
  cases hb : r.bad
  · rw [hb] at h
    simp only [Bool.false_eq_true,if_false] at h
    have a1 := is08_den full r 6 [92] hs
    cases b1 : seesR r 6 [92]
    · rw [b1] at h a1
      simp only [Bool.false_eq_true,if_false] at h
      have a2 := is08_den full r 3 [108,101,116] hs
      cases b2 : seesR r 3 [108,101,116]
      · rw [b2] at h a2
        simp only [Bool.false_eq_true,if_false] at h
        have a3 := is08_den full r 3 [99,97,115,101] hs
        cases b3 : seesR r 3 [99,97,115,101]
        · rw [b3] at h a3
          simp only [Bool.false_eq_true,if_false] at h
          split at h
          · cases h
          · rename_i e r1 h1
            have sx := (exR_suf _ _ _ _ _ h1).trans hs
            have d1 := ih f (by omega) .atom _ _ hs h1
            simp only [RX] at d1
            obtain ⟨e',d1,he⟩ := d1
            rw [exC_eq] at d1
            rw [den_eq prim_200,body_200]
            simp only [go_sem,Tryz.f200,a1,a2,a3,d1]
            refine run_ex (RO full x) (fun y : Nat × Bool × Ex × Ex × Rd => y.1 ≤ f ∧ y.2.2.2.2.l <:+ full ∧ (y.2.1 = true → ∃ ks,y.2.2.2.1 = .mk 4 [] false zTy ks []) ∧ exR y.1 (.loop y.2.2.1) y.2.2.2.2 = some x ∧ (y.2.2.2.2.bad = false → y.2.2.2.1 = y.2.2.1))
             (fun y => ⟨[(0,.slice (toksV full)),(4,.ptr (.loc 4) 0),(26,.ptr (.loc 26) 0),(27,.int .i64 (idx full y.2.2.2.2))],[],
               [(4,[.int .i64 0,.str [],.bool false,.int .i64 0,.str [],.int .i64 0,.own 38 0 [],.own 168 0 [],.own 312 0 []]),(26,exB2 y.2.1 y.2.2.2.1)],1⟩)
             (fun y => y.1) (f,false,e,e',r1) ⟨Nat.le_refl _,sx,(fun h => by cases h),h,he⟩ ?_ ?_
            · simp only [go_sem,exB2,exC_eq]
            · rintro ⟨g,b,e2,e3,q⟩ ⟨hg,hq,hb2,hx,h23⟩ hrun
              simp only at hg hq hb2 hx h23 hrun ⊢
              cases g with
              | zero => cases hx
              | succ g =>
               simp only [exR] at hx
               have step : (seesR q 1 [] || (seesR q 2 [] || seesR q 6 [40])) = true → ∃ y r2,exR g .atom q = some (y,r2) ∧ exR g (.loop (.mk 4 [] false zTy [e2,y] [])) r2 = some x := fun hb => by
                rw [hb] at hx
                simp only [if_true] at hx
                split at hx
                · cases hx
                · rename_i y r2 h2
                  exact ⟨y,r2,h2,hx⟩
               have stop : (seesR q 1 [] || (seesR q 2 [] || seesR q 6 [40])) = false → x = (e2,q) := fun hb => by
                rw [hb] at hx
                simp only [Bool.false_eq_true,if_false] at hx
                injection hx with hx; exact hx.symm
               have go : ∀ y r2,exR g .atom q = some (y,r2) → ∃ y',den E 234 [.slice (toksV full),.int .i64 (idx full q)] [] = some (.tup [.agg (exC y'),.int .i64 (idx full r2)],[]) ∧ (r2.bad = false → y' = y) ∧ r2.l <:+ full := fun y r2 h2 => by
                have d2 := ih g (by omega) .atom _ _ hq h2
                simp only [RX] at d2
                obtain ⟨y',d2,hy⟩ := d2
                exact ⟨y',d2,hy,(exR_suf _ _ _ _ _ h2).trans hq⟩
               obtain ⟨w,hw⟩ : ∃ w,w = e3 := ⟨_,rfl⟩
               cases b
               case' true => obtain ⟨ks,rfl⟩ := hb2 rfl
               all_goals (
                cases hqb : q.bad
                · have hi := idx_ok (full := full) hqb
                  have h23' := h23 hqb
                  subst h23'
                  rw [hi] at go ⊢
                  have hle := hq.length_le
                  cases hql : q.l with
                  | nil =>
                   have hx := stop (by unfold seesR; rw [hql]; simp [seesT])
                   subst hx
                   have hge : decide (((full.length - 0 : Nat) : Int) < ((full.length : Nat) : Int)) = false := by simp
                   rw [RO,hi]
                   refine ⟨_,?_,fun _ => rfl⟩
                   simp only [go_sem,exB2,hql,nat_ge,toksV_len,List.length_nil,hge,exC_eq,exmk,alsV_nil,tysV_nil,zTy_k,zTy_s,zTy_n,zTy_a]
                  | cons t qs =>
                   have hg1 := (head_get (by rw [← hql]; exact suf_drop hq)).1
                   have htok := hok t (List.mem_of_getElem? hg1)
                   rw [hql] at hle
                   simp only [List.length_cons] at hle
                   have hlt : decide (((full.length - (qs.length + 1) : Nat) : Int) < ((full.length : Nat) : Int)) = true := by simp; omega
                   have e40 : seesR q 6 [40] = (t.text == [40]) := by
                    unfold seesR; rw [hqb,hql]
                    cases ht : t.text == [40]
                    · simp [seesT,ht]
                    · have := htok.2 (by simpa using ht)
                      simp [seesT,ht,this]
                   have e1 : seesR q 1 [] = (t.kind == 1) := by unfold seesR; rw [hqb,hql]; simp [seesT]
                   have e2' : seesR q 2 [] = (t.kind == 2) := by unfold seesR; rw [hqb,hql]; simp [seesT]
                   rw [e1,e2',e40] at step stop
                   rw [hql] at hg1
                   simp only [List.length_cons] at hg1 ⊢
                   cases n1 : t.kind == 1
                   · cases n2 : t.kind == 2
                     · cases n3 : t.text == [40]
                       · have hx := stop (by simp [n1,n2,n3])
                         subst hx
                         refine ⟨_,?_,fun _ => rfl⟩
                         rw [hi,hql,List.length_cons]
                         simp only [go_sem,exB2,toksV_len,hlt,natge0,tonat,toksV_get,hg1,tokV,n1,n2,n3,exC_eq,exmk,alsV_nil,tysV_nil,zTy_k,zTy_s,zTy_n,zTy_a]
                       · obtain ⟨y,r2,h2,h3⟩ := step (by simp [n1,n2,n3])
                         obtain ⟨y',d2,hy,hs2⟩ := go y r2 h2
                         simp only [hql,List.length_cons,exC_eq] at d2
                         simp only [go_sem,exB2,toksV_len,hlt,natge0,tonat,toksV_get,hg1,tokV,n1,n2,n3,d2,exC_eq,exmk]
                         refine hrun (g,true,_,.mk 4 [] false zTy [_,y'] [],r2) _ ⟨by omega,hs2,(fun _ => ⟨_,rfl⟩),h3,fun hg => by rw [hy hg]⟩ (by simp only; omega) ?_
                         simp only [go_sem,exB2,exC_eq,exmk,exsV_cons,exsV_nil,alsV_nil,tysV_nil,zTy_k,zTy_s,zTy_n,zTy_a]
                     · obtain ⟨y,r2,h2,h3⟩ := step (by simp [n1,n2])
                       obtain ⟨y',d2,hy,hs2⟩ := go y r2 h2
                       simp only [hql,List.length_cons,exC_eq] at d2
                       simp only [go_sem,exB2,toksV_len,hlt,natge0,tonat,toksV_get,hg1,tokV,n1,n2,d2,exC_eq,exmk]
                       refine hrun (g,true,_,.mk 4 [] false zTy [_,y'] [],r2) _ ⟨by omega,hs2,(fun _ => ⟨_,rfl⟩),h3,fun hg => by rw [hy hg]⟩ (by simp only; omega) ?_
                       simp only [go_sem,exB2,exC_eq,exmk,exsV_cons,exsV_nil,alsV_nil,tysV_nil,zTy_k,zTy_s,zTy_n,zTy_a]
                   · obtain ⟨y,r2,h2,h3⟩ := step (by simp [n1])
                     obtain ⟨y',d2,hy,hs2⟩ := go y r2 h2
                     simp only [hql,List.length_cons,exC_eq] at d2
                     simp only [go_sem,exB2,toksV_len,hlt,natge0,tonat,toksV_get,hg1,tokV,n1,d2,exC_eq,exmk]
                     refine hrun (g,true,_,.mk 4 [] false zTy [_,y'] [],r2) _ ⟨by omega,hs2,(fun _ => ⟨_,rfl⟩),h3,fun hg => by rw [hy hg]⟩ (by simp only; omega) ?_
                     simp only [go_sem,exB2,exC_eq,exmk,exsV_cons,exsV_nil,alsV_nil,tysV_nil,zTy_k,zTy_s,zTy_n,zTy_a]
                · have hi := idx_bad (full := full) hqb
                  have hx := stop (by rw [seesR_bad hqb,seesR_bad hqb,seesR_bad hqb]; rfl)
                  subst hx
                  rw [RO,hi]
                  refine ⟨w,?_,fun hg => absurd (hqb.symm.trans hg) (by decide)⟩
                  rw [hw]
                  simp only [go_sem,exB2,show decide ((-1 : Int) ≥ 0) = false from rfl,exC_eq,exmk,alsV_nil,tysV_nil,zTy_k,zTy_s,zTy_n,zTy_a])
        · rw [b3] at h a3
          simp only [if_true] at h
          split at h
          · cases h
          · rename_i x1 r1 h1
            have w1 := idx_takes hs hlen b3
            have s1 := (takesR_suf r 3 [99,97,115,101]).trans hs
            have d1 := ih f (by omega) .expr _ _ s1 h1
            simp only [RX] at d1
            obtain ⟨e1,d1,he1⟩ := d1
            simp only at he1
            rw [exC_eq] at d1
            have s2 := (exR_suf _ _ _ _ _ h1).trans s1
            have n1 := next08_den full r1 3 [111,102] s2 hlen
            have s3 := (takeR_suf r1 3 [111,102]).trans s2
            have n2 := next08_den full _ 6 [123] s3 hlen
            have s4 := (takeR_suf (takeR r1 3 [111,102]) 6 [123]).trans s3
            have hgq : (takeR (takeR r1 3 [111,102]) 6 [123]).bad = false → e1 = x1 := fun hg => he1 (sees_good (takeR_good (sees_good (takeR_good hg))))
            generalize takeR (takeR r1 3 [111,102]) 6 [123] = q0 at *
            have a4 := is08_den full q0 6 [125] s4
            cases b4 : seesR q0 6 [125]
            · rw [b4] at h a4
              simp only [Bool.false_eq_true,if_false] at h
              split at h
              · cases h
              · rename_i y rE hE
                injection h with h
                have hgx : x.2.bad = false → e1 = x1 := fun hg => by
                 subst h
                 exact hgq (exR_good hE (sees_good (takeR_good hg)))
                have hq0 := idx_ge0 full q0
                rw [den_eq prim_200,body_200]
                simp only [go_sem,Tryz.f200,a1,a2,a3,w1,d1,n1,n2,a4,hq0]
                refine run_ex (RO full x) (fun z : Nat × List Al × List Al × Rd × Bool => z.1 ≤ f ∧ z.2.2.2.1.l <:+ full ∧ z.2.2.1.length + z.2.2.2.1.l.length ≤ full.length + 1 ∧
                 (z.2.2.2.2 = true → z.2.2.2.1.bad = false ∧ z.2.2.1.length + z.2.2.2.1.l.length ≤ full.length ∧ exR z.1 (.alts z.2.1) z.2.2.2.1 = some (y,rE) ∧ (x.2.bad = false → z.2.2.1 = z.2.1)) ∧
                 (z.2.2.2.2 = false → idx full x.2 = idx full (takeR z.2.2.2.1 6 [125]) ∧ (x.2.bad = false → x.1 = .mk 6 [] false zTy [x1] z.2.2.1)))
                 (fun z => ⟨[(0,.slice (toksV full)),(4,.ptr (.loc 4) 0),(19,.int .i64 (idx full z.2.2.2.1)),(20,.ptr (.loc 20) 0),(22,.bool z.2.2.2.2)],[],
                   [(4,[.int .i64 0,.str [],.bool false,.int .i64 0,.str [],.int .i64 0,.own 38 0 [],.own 168 0 [],.own 312 0 []]),
                    (20,[.int .i64 6,.str [],.bool false,.int .i64 0,.str [],.int .i64 0,.own 38 0 [],.slice (exsV [e1]),.own 312 0 (alsV z.2.2.1)])],1⟩)
                 (fun z => z.1) (f,[],[],q0,!q0.bad) ⟨Nat.le_refl _,s4,by have := s4.length_le; simp only [List.length_nil]; omega,?_,?_⟩ ?_ ?_
                · intro hm
                  simp only [Bool.not_eq_true'] at hm
                  exact ⟨hm,by have := s4.length_le; simp only [List.length_nil]; omega,hE,fun _ => rfl⟩
                · intro hm
                  simp only [Bool.not_eq_false'] at hm
                  have hbE := exR_bad _ _ _ _ hm hE
                  simp only at hbE
                  subst h
                  refine ⟨?_,fun hg => ?_⟩
                  · rw [takeR_bad hbE,takeR_bad hm,idx_bad hbE,idx_bad hm]
                  · rw [takeR_bad hbE] at hg; exact absurd (hbE.symm.trans hg) (by decide)
                · simp only [go_sem,exsV_cons,exsV_nil,alsV_nil,exC_eq]
                · rintro ⟨g,acc,acc',q,more⟩ ⟨hg,hq,hle,hm1,hm0⟩ hrun
                  simp only at hg hq hle hm1 hm0 hrun ⊢
                  cases more
                  · obtain ⟨m1,m2⟩ := hm0 rfl
                    have n4 := next08_den full q 6 [125] hq hlen
                    refine ⟨.mk 6 [] false zTy [e1] acc',?_,fun hg => by rw [m2 hg,hgx hg]⟩
                    rw [m1]
                    simp only [go_sem,n4,exC_eq,exmk,exsV_cons,exsV_nil,tysV_nil,zTy_k,zTy_s,zTy_n,zTy_a]
                  · obtain ⟨m1,m2,m3,m4⟩ := hm1 rfl
                    cases g with
                    | zero => cases m3
                    | succ g =>
                    simp only [exR] at m3
                    split at m3
                    · cases m3
                    · rename_i b r4 h4
                      have tx := text_den full q hq
                      have n4 := next08_den full q 2 [] hq hlen
                      have q1 := (takeR_suf q 2 []).trans hq
                      have nm := names08_den full (takeR q 2 []) q1 hlen
                      have q2 := (behindR_suf (takeR q 2 [])).trans q1
                      have n5 := next08_den full (behindR (takeR q 2 [])) 6 [45,62] q2 hlen
                      have q3 := (takeR_suf (behindR (takeR q 2 [])) 6 [45,62]).trans q2
                      have d4 := ih g (by omega) .expr _ _ q3 h4
                      simp only [RX] at d4
                      obtain ⟨b',d4,hb4⟩ := d4
                      simp only at hb4
                      have q4 := (exR_suf _ _ _ _ _ h4).trans q3
                      have a5 := is08_den full r4 6 [59] q4
                      have hql : r4.l.length ≤ q.l.length := ((exR_suf _ _ _ _ _ h4).trans ((takeR_suf _ 6 [45,62]).trans ((behindR_suf _).trans (takeR_suf q 2 [])))).length_le
                      have hal : r4.bad = false → Al.mk (headR q) (namesR (takeR q 2 [])) b' = .mk (wordR q 2 []) (namesR (takeR q 2 [])) b := fun hg => by
                       have g1 : (behindR (takeR q 2 [])).bad = false := sees_good (takeR_good (exR_good h4 hg))
                       have g2 : (takeR q 2 []).bad = false := g1
                       rw [headR_sees (takeR_good g2),hb4 hg]
                      have hap : (alsV acc').length + 1 ≤ appMax := by rw [alsV_len]; unfold appMax; omega
                      have hmap : alsV acc' ++ [.agg (.str (headR q) :: .slice ((namesR (takeR q 2 [])).map .str) :: exC b')] = alsV (acc' ++ [.mk (headR q) (namesR (takeR q 2 [])) b']) := by
                       rw [alsV_map,alsV_map,List.map_append,List.map_cons,List.map_nil]; simp [alV]
                      rw [exC_eq] at d4 hmap
                      cases b5 : seesR r4 6 [59]
                      · rw [b5] at m3 a5
                        simp only [Bool.false_eq_true,if_false] at m3
                        injection m3 with m3
                        injection m3 with m3a m3b
                        simp only [go_sem,tx,n4,nm,n5,d4,hap,hmap,a5]
                        refine hrun (g,acc ++ [.mk (wordR q 2 []) (namesR (takeR q 2 [])) b],acc' ++ [.mk (headR q) (namesR (takeR q 2 [])) b'],r4,false) _ ⟨by omega,q4,?_,(fun h => by cases h),fun _ => ?_⟩ (by simp only; omega) ?_
                        · simp only [List.length_append,List.length_singleton]; omega
                        · subst h; subst m3a; subst m3b
                          refine ⟨rfl,fun hg => ?_⟩
                          simp only [Ex.alts]
                          rw [m4 hg,hal (sees_good (takeR_good hg))]
                        · simp only [go_sem,exsV_cons,exsV_nil,exC_eq]
                      · rw [b5] at m3 a5
                        simp only [if_true] at m3
                        have w5 := idx_takes q4 hlen b5
                        obtain ⟨hb5,t5,l5,hl5⟩ := seesR_cons b5
                        have hk : (takesR r4 6 [59]).l.length + 1 = r4.l.length := by rw [takesR_eq b5,hl5]; simp
                        simp only [go_sem,tx,n4,nm,n5,d4,hap,hmap,a5,w5]
                        refine hrun (g,acc ++ [.mk (wordR q 2 []) (namesR (takeR q 2 [])) b],acc' ++ [.mk (headR q) (namesR (takeR q 2 [])) b'],takesR r4 6 [59],true) _ ⟨by omega,(takesR_suf _ _ _).trans q4,?_,fun _ => ⟨?_,?_,m3,fun hg => ?_⟩,fun h => by cases h⟩ (by simp only; omega) ?_
                        · simp only [List.length_append,List.length_singleton]; omega
                        · rw [takesR_eq b5]
                        · simp only [List.length_append,List.length_singleton]; omega
                        · rw [m4 hg,hal hb5]
                        · simp only [go_sem,exsV_cons,exsV_nil,exC_eq]
            · rw [b4] at h a4
              simp only [if_true] at h
              injection h with h; subst h
              have w4 := idx_takes s4 hlen b4
              refine ⟨.mk 6 [] false zTy [e1] [],?_,fun hg => by rw [hgq (sees_good b4)]⟩
              rw [den_eq prim_200,body_200]
              simp only [go_sem,Tryz.f200,a1,a2,a3,w1,d1,n1,n2,a4,w4,exC_eq,exmk,exsV_cons,exsV_nil,alsV_nil,tysV_nil,zTy_k,zTy_s,zTy_n,zTy_a]
      · rw [b2] at h a2
        simp only [if_true] at h
        have w1 := idx_takes hs hlen b2
        have s1 := (takesR_suf r 3 [108,101,116]).trans hs
        generalize takesR r 3 [108,101,116] = r1 at *
        cases f with
        | zero => cases h
        | succ f =>
        simp only [exR] at h
        have tx := text_den full _ s1
        have n1 := next08_den full r1 1 [] s1 hlen
        have s2 := (takeR_suf r1 1 []).trans s1
        have a4 := is08_den full (takeR r1 1 []) 6 [58] s2
        have name : (takeR r1 1 []).bad = false → headR r1 = wordR r1 1 [] := fun hg => headR_sees (takeR_good hg)
        generalize takeR r1 1 [] = r2 at *
        cases b4 : seesR r2 6 [58]
        · rw [b4] at h a4
          simp only [Bool.false_eq_true,if_false] at h
          split at h
          · cases h
          · rename_i x1 r3 h3
            have s3 := (takeR_suf r2 6 [61]).trans s2
            have n2 := next08_den full r2 6 [61] s2 hlen
            have d3 := ih f (by omega) .expr _ _ s3 h3
            simp only [RX] at d3
            obtain ⟨e3,d3,he3⟩ := d3
            have s4 := (exR_suf _ _ _ _ _ h3).trans s3
            have n3 := next08_den full r3 3 [105,110] s4 hlen
            have s5 := (takeR_suf r3 3 [105,110]).trans s4
            split at h
            · cases h
            · rename_i y r4 h4
              injection h with h; subst h
              have d4 := ih f (by omega) .expr _ _ s5 h4
              simp only [RX] at d4
              obtain ⟨e4,d4,he4⟩ := d4
              rw [exC_eq] at d3 d4
              refine ⟨.mk 5 (headR r1) false zTy [e3,e4] [],?_,fun hg => ?_⟩
              · rw [den_eq prim_200,body_200]
                simp only [go_sem,Tryz.f200,a1,a2,w1,tx,n1,a4,n2,d3,n3,d4,exC_eq,exmk,exsV_cons,exsV_nil,alsV_nil,tysV_nil,zTy_k,zTy_s,zTy_n,zTy_a]
              · have g3 := sees_good (takeR_good (exR_good h4 hg))
                have g2 := sees_good (takeR_good (exR_good h3 g3))
                rw [name g2,he4 hg,he3 g3]
        · rw [b4] at h a4
          simp only [if_true] at h
          split at h
          · cases h
          · rename_i t rt ht
            have w2 := idx_takes s2 hlen b4
            have s2' := (takesR_suf r2 6 [58]).trans s2
            obtain ⟨t',dt,htt⟩ := typ08_den full hok hlen _ _ _ s2' ht
            have st := (typR_suf ht).trans s2'
            split at h
            · cases h
            · rename_i x1 r3 h3
              have s3 := (takeR_suf rt 6 [61]).trans st
              have n2 := next08_den full rt 6 [61] st hlen
              have d3 := ih f (by omega) .expr _ _ s3 h3
              simp only [RX] at d3
              obtain ⟨e3,d3,he3⟩ := d3
              have s4 := (exR_suf _ _ _ _ _ h3).trans s3
              have n3 := next08_den full r3 3 [105,110] s4 hlen
              have s5 := (takeR_suf r3 3 [105,110]).trans s4
              split at h
              · cases h
              · rename_i y r4 h4
                injection h with h; subst h
                have d4 := ih f (by omega) .expr _ _ s5 h4
                simp only [RX] at d4
                obtain ⟨e4,d4,he4⟩ := d4
                rw [exC_eq] at d3 d4
                rw [tyV_eq] at dt
                refine ⟨.mk 5 (headR r1) true t' [e3,e4] [],?_,fun hg => ?_⟩
                · rw [den_eq prim_200,body_200]
                  simp only [go_sem,Tryz.f200,a1,a2,w1,tx,n1,a4,w2,dt,n2,d3,n3,d4,exC_eq,exmk,exsV_cons,exsV_nil,alsV_nil]
                · have g3 := sees_good (takeR_good (exR_good h4 hg))
                  have gt := sees_good (takeR_good (exR_good h3 g3))
                  rw [name (sees_good b4),he4 hg,he3 g3,htt gt]
    · rw [b1] at h a1
      simp only [if_true] at h
      split at h
      · cases h
      · rename_i x1 r4 h4
        injection h with h; subst h
        have w1 := idx_takes hs hlen b1
        have s1 := (takesR_suf r 6 [92]).trans hs
        have s2 := (takeR_suf (takesR r 6 [92]) 1 []).trans s1
        have s3 := (takeR_suf (takeR (takesR r 6 [92]) 1 []) 6 [45,62]).trans s2
        have n1 := next08_den full (takesR r 6 [92]) 1 [] s1 hlen
        have n2 := next08_den full _ 6 [45,62] s2 hlen
        have tx := text_den full _ s1
        have d4 := ih f (by omega) .expr _ _ s3 h4
        simp only [RX] at d4
        obtain ⟨e',d4,he⟩ := d4
        rw [exC_eq] at d4
        refine ⟨.mk 3 (headR (takesR r 6 [92])) false zTy [e'] [],?_,fun hg => ?_⟩
        · rw [den_eq prim_200,body_200]
          simp only [go_sem,Tryz.f200,a1,w1,n1,n2,tx,d4,exC_eq,exmk,exsV_cons,exsV_nil,alsV_nil,tysV_nil,zTy_k,zTy_s,zTy_n,zTy_a]
        · have g1 := sees_good (takeR_good (exR_good h4 hg))
          rw [headR_sees (takeR_good g1),he hg]
  · rw [hb] at h
    simp only [if_true] at h
    injection h with h; subst h
    rw [idx_bad hb]
    exact ⟨zEx,by rw [idx_bad hb]; exact read_bad full,fun _ => rfl⟩
def ROD (full : List Tok) (x : De × Rd) (o : Option (AVal × Heap)) : Prop := ∃ x',o = some (.tup [.agg (deC x'),.int .i64 (idx full x.2)],[]) ∧ (x.2.bad = false → x' = x.1)
theorem coR_good {f : Nat} {q : Rd} {c : Co} {r : Rd} (h : coR f q = some (c,r)) (hg : r.bad = false) : (takeR (takeR q 2 []) 6 [58]).bad = false := by
 unfold coR at h
 split at h
 · cases h
 · rename_i t r1 h1
   injection h with h; injection h with _ h; subst h
   exact typR_good h1 hg
theorem cosR_good {f : Nat} : ∀ {g : Nat} {acc : List Co} {q : Rd} {cs : List Co} {r : Rd},cosR f g acc q = some (cs,r) → r.bad = false → q.bad = false := by
 intro g
 induction g with
 | zero => intro acc q cs r h; cases h
 | succ g ih =>
  intro acc q cs r h hg
  simp only [cosR] at h
  split at h
  · cases h
  · rename_i c r1 h1
    have fin : r1.bad = false → q.bad = false := fun h2 => sees_good (takeR_good (sees_good (takeR_good (coR_good h1 h2))))
    split at h
    · rename_i h5; exact fin (sees_good h5)
    · injection h with h; injection h with _ h; subst h; exact fin hg
theorem deR_ref (full : List Tok) (hok : ∀ t ∈ full,tokOK2 t) (hlen : full.length < 1000000) (f : Nat) (r : Rd) (x : De × Rd) (hs : r.l <:+ full) (h : deR f r = some x) :
 ROD full x (den E 137 [.slice (toksV full),.int .i64 (idx full r)] []) := by
 unfold deR at h
 have a1 := is08_den full r 3 [100,97,116,97] hs
 cases b1 : seesR r 3 [100,97,116,97]
 · rw [b1] at h a1
   simp only [Bool.false_eq_true,if_false] at h
   have n1 := next08_den full r 1 [] hs hlen
   have s2 := (takeR_suf r 1 []).trans hs
   have a4 := is08_den full (takeR r 1 []) 6 [58] s2
   have tx := text_den full r hs
   have name : (takeR r 1 []).bad = false → headR r = wordR r 1 [] := fun hg => headR_sees (takeR_good hg)
   generalize takeR r 1 [] = r2 at *
   cases b4 : seesR r2 6 [58]
   · rw [b4] at h a4
     simp only [Bool.false_eq_true,if_false] at h
     split at h
     · cases h
     · rename_i e r3 h3
       injection h with h; subst h
       have s3 := (takeR_suf r2 6 [61]).trans s2
       have n2 := next08_den full r2 6 [61] s2 hlen
       have d3 := exR_ref full hok hlen f .expr _ _ s3 h3
       simp only [RX] at d3
       obtain ⟨e3,d3,he3⟩ := d3
       rw [exC_eq] at d3
       refine ⟨⟨3,headR r,[],[],zTy,e3⟩,?_,fun hg => ?_⟩
       · rw [den_eq prim_137,body_137]
         simp only [go_sem,Tryz.f137,a1,n1,a4,n2,d3,tx,deC,tysV_nil,zTy_k,zTy_s,zTy_n,zTy_a,List.map_nil]
       · rw [name (sees_good (takeR_good (exR_good h3 hg))),he3 hg]
   · rw [b4] at h a4
     simp only [if_true] at h
     split at h
     · cases h
     · rename_i t rt ht
       injection h with h; subst h
       have w2 := idx_takes s2 hlen b4
       have s2' := (takesR_suf r2 6 [58]).trans s2
       obtain ⟨t',dt,htt⟩ := typ08_den full hok hlen _ _ _ s2' ht
       rw [tyV_eq] at dt
       refine ⟨⟨2,headR r,[],[],t',zEx⟩,?_,fun hg => ?_⟩
       · rw [den_eq prim_137,body_137]
         simp only [go_sem,Tryz.f137,a1,n1,a4,w2,dt,tx,deC,exsV_nil,alsV_nil,tysV_nil,zTy_k,zTy_s,zTy_n,zTy_a,exz,List.map_nil]
       · rw [name (sees_good b4),htt hg]
 · rw [b1] at h a1
   simp only [if_true] at h
   have w1 := idx_takes hs hlen b1
   have s1 := (takesR_suf r 3 [100,97,116,97]).trans hs
   generalize takesR r 3 [100,97,116,97] = r1 at *
   have tx := text_den full r1 s1
   have n1 := next08_den full r1 2 [] s1 hlen
   have s2 := (takeR_suf r1 2 []).trans s1
   have nm := names08_den full _ s2 hlen
   have s3 := (behindR_suf (takeR r1 2 [])).trans s2
   have n2 := next08_den full _ 6 [123] s3 hlen
   have s4 := (takeR_suf (behindR (takeR r1 2 [])) 6 [123]).trans s3
   have name : (takeR (behindR (takeR r1 2 [])) 6 [123]).bad = false → headR r1 = wordR r1 2 [] := fun hg => by
    have g1 : (behindR (takeR r1 2 [])).bad = false := sees_good (takeR_good hg)
    have g2 : (takeR r1 2 []).bad = false := g1
    exact headR_sees (takeR_good g2)
   generalize namesR (takeR r1 2 []) = vs at *
   generalize takeR (behindR (takeR r1 2 [])) 6 [123] = q0 at *
   have a4 := is08_den full q0 6 [125] s4
   cases b4 : seesR q0 6 [125]
   · rw [b4] at h a4
     simp only [Bool.false_eq_true,if_false] at h
     split at h
     · cases h
     · rename_i cs rE hE
       injection h with h
       have hq0 := idx_ge0 full q0
       have hgx : x.2.bad = false → headR r1 = wordR r1 2 [] := fun hg => by
        subst h
        exact name (cosR_good hE (sees_good (takeR_good hg)))
       rw [den_eq prim_137,body_137]
       simp only [go_sem,Tryz.f137,a1,w1,tx,n1,nm,n2,a4,hq0]
       refine run_ex (ROD full x) (fun z : Nat × List Co × List Co × Rd × Bool => z.1 ≤ f ∧ z.2.2.2.1.l <:+ full ∧ z.2.2.1.length + z.2.2.2.1.l.length ≤ full.length + 1 ∧
        (z.2.2.2.2 = true → z.2.2.2.1.bad = false ∧ z.2.2.1.length + z.2.2.2.1.l.length ≤ full.length ∧ cosR f z.1 z.2.1 z.2.2.2.1 = some (cs,rE) ∧ (x.2.bad = false → z.2.2.1 = z.2.1)) ∧
        (z.2.2.2.2 = false → idx full x.2 = idx full (takeR z.2.2.2.1 6 [125]) ∧ (x.2.bad = false → x.1 = ⟨1,headR r1,vs,z.2.2.1,zTy,zEx⟩)))
        (fun z => ⟨[(0,.slice (toksV full)),(4,.ptr (.loc 4) 0),(7,.ptr (.loc 7) 0),(9,.int .i64 (idx full z.2.2.2.1)),(11,.bool z.2.2.2.2)],[],
          [(4,[.int .i64 0,.str [],.own 9 0 [],.own 172 0 [],.int .i64 0,.str [],.int .i64 0,.own 38 0 [],.int .i64 0,.str [],.bool false,.int .i64 0,.str [],.int .i64 0,.own 38 0 [],.own 168 0 [],.own 312 0 []]),
           (7,[.int .i64 1,.str (headR r1),.slice (vs.map .str),.own 172 0 (z.2.2.1.map coV),.int .i64 0,.str [],.int .i64 0,.own 38 0 [],.int .i64 0,.str [],.bool false,.int .i64 0,.str [],.int .i64 0,.own 38 0 [],.own 168 0 [],.own 312 0 []])],1⟩)
        (fun z => z.1) (f,[],[],q0,!q0.bad) ⟨Nat.le_refl _,s4,by have := s4.length_le; simp only [List.length_nil]; omega,?_,?_⟩ ?_ ?_
       · intro hm
         simp only [Bool.not_eq_true'] at hm
         exact ⟨hm,by have := s4.length_le; simp only [List.length_nil]; omega,hE,fun _ => rfl⟩
       · intro hm
         simp only [Bool.not_eq_false'] at hm
         have hbE : rE.bad = true := by
          cases hbb : rE.bad
          · exact absurd (hm.symm.trans (cosR_good hE hbb)) (by decide)
          · rfl
         subst h
         refine ⟨?_,fun hg => ?_⟩
         · rw [takeR_bad hbE,takeR_bad hm,idx_bad hbE,idx_bad hm]
         · rw [takeR_bad hbE] at hg; exact absurd (hbE.symm.trans hg) (by decide)
       · simp only [go_sem,List.map_nil]
       · rintro ⟨g,acc,acc',q,more⟩ ⟨hg,hq,hle,hm1,hm0⟩ hrun
         simp only at hg hq hle hm1 hm0 hrun ⊢
         cases more
         · obtain ⟨m1,m2⟩ := hm0 rfl
           have n4 := next08_den full q 6 [125] hq hlen
           refine ⟨⟨1,headR r1,vs,acc',zTy,zEx⟩,?_,fun hg => by rw [m2 hg]⟩
           rw [m1]
           simp only [go_sem,n4,deC,exsV_nil,alsV_nil,tysV_nil,zTy_k,zTy_s,zTy_n,zTy_a,exz]
         · obtain ⟨m1,m2,m3,m4⟩ := hm1 rfl
           cases g with
           | zero => cases m3
           | succ g =>
           simp only [cosR] at m3
           split at m3
           · cases m3
           · rename_i c r4 h4
             have hsf := coR_suf h4
             have hgood := fun hg => coR_good h4 hg
             unfold coR at h4
             split at h4
             · cases h4
             · rename_i t rt ht
               injection h4 with h4; injection h4 with h4c h4r; subst h4r
               have tq := text_den full q hq
               have n4 := next08_den full q 2 [] hq hlen
               have q1 := (takeR_suf q 2 []).trans hq
               have n5 := next08_den full (takeR q 2 []) 6 [58] q1 hlen
               have q2 := (takeR_suf (takeR q 2 []) 6 [58]).trans q1
               obtain ⟨t',dt,htt⟩ := typ08_den full hok hlen _ _ _ q2 ht
               simp only at htt dt
               have q4 := hsf.trans hq
               have a5 := is08_den full rt 6 [59] q4
               have hql := hsf.length_le
               have hal : rt.bad = false → Co.mk (headR q) t' = c := fun hg => by
                rw [headR_sees (takeR_good (sees_good (takeR_good (hgood hg)))),htt hg]; exact h4c
               have hap : (acc'.map coV).length + 1 ≤ appMax := by rw [List.length_map]; unfold appMax; omega
               have hmap : acc'.map coV ++ [.agg [.str (headR q),.int .i64 t'.kind,.str t'.name,.int .i64 t'.n,.slice (tysV t'.args)]] = (acc' ++ [Co.mk (headR q) t']).map coV := by
                rw [List.map_append]; rfl
               rw [tyV_eq] at dt
               cases b5 : seesR rt 6 [59]
               · rw [b5] at m3 a5
                 simp only [Bool.false_eq_true,if_false] at m3
                 injection m3 with m3
                 injection m3 with m3a m3b
                 simp only [go_sem,tq,n4,n5,dt,hap,hmap,a5]
                 refine hrun (g,acc ++ [c],acc' ++ [⟨headR q,t'⟩],rt,false) _ ⟨by omega,q4,?_,(fun h => by cases h),fun _ => ?_⟩ (by simp only; omega) ?_
                 · simp only [List.length_append,List.length_singleton]; omega
                 · subst h; subst m3a; subst m3b
                   refine ⟨rfl,fun hg => ?_⟩
                   simp only
                   rw [m4 hg,hal (sees_good (takeR_good hg)),hgx hg]
                 · simp only [go_sem]
               · rw [b5] at m3 a5
                 simp only [if_true] at m3
                 have w5 := idx_takes q4 hlen b5
                 obtain ⟨hb5,t5,l5,hl5⟩ := seesR_cons b5
                 have hk : (takesR rt 6 [59]).l.length + 1 = rt.l.length := by rw [takesR_eq b5,hl5]; simp
                 simp only [go_sem,tq,n4,n5,dt,hap,hmap,a5,w5]
                 refine hrun (g,acc ++ [c],acc' ++ [⟨headR q,t'⟩],takesR rt 6 [59],true) _ ⟨by omega,(takesR_suf _ _ _).trans q4,?_,fun _ => ⟨?_,?_,m3,fun hg => ?_⟩,fun h => by cases h⟩ (by simp only; omega) ?_
                 · simp only [List.length_append,List.length_singleton]; omega
                 · rw [takesR_eq b5]
                 · simp only [List.length_append,List.length_singleton]; omega
                 · rw [m4 hg,hal hb5]
                 · simp only [go_sem]
   · rw [b4] at h a4
     simp only [if_true] at h
     injection h with h; subst h
     have w4 := idx_takes s4 hlen b4
     refine ⟨⟨1,headR r1,vs,[],zTy,zEx⟩,?_,fun hg => by rw [name (sees_good b4)]⟩
     rw [den_eq prim_137,body_137]
     simp only [go_sem,Tryz.f137,a1,w1,tx,n1,nm,n2,a4,w4,deC,exsV_nil,alsV_nil,tysV_nil,zTy_k,zTy_s,zTy_n,zTy_a,exz,List.map_nil]
theorem idx_ne {full : List Tok} {r : Rd} (hs : r.l <:+ full) : (idx full r != ((full.length : Nat) : Int)) = (r.bad || decide (0 < r.l.length)) := by
 have := hs.length_le
 unfold idx
 cases r.bad
 · simp only [Bool.false_eq_true,if_false,Bool.false_or]
   rw [bne_not,Bool.eq_iff_iff]
   simp only [Bool.not_eq_true',beq_eq_false_iff_ne,ne_eq,decide_eq_true_eq]
   omega
 · simp only [if_true,Bool.true_or]
   rw [bne_not,Bool.not_eq_true',beq_eq_false_iff_ne]; omega
theorem idx0 (full : List Tok) : idx full ⟨full,false⟩ = 0 := by unfold idx; simp
theorem parse1_den (f : Nat) (s : List UInt8) (p : List De × Int) (hok : ∀ t ∈ (scanO s).1,tokOK2 t) (hlen : (scanO s).1.length < 1000000)
 (htot : ∀ ds r,desO f (scanO s).1 = some (ds,r) → r.bad = false → ds.length < 1000000 ∧ ∀ d ∈ ds,d.tot < 1000000) (h : parseO f s = some p) : den E 79 [.str s] [] = some (parV p,[]) := by
 rw [den_eq prim_79,body_79]
 obtain ⟨pos,hT⟩ := scanO_T s
 have hsc := scanAll1_den s
 rw [hT] at hsc
 unfold parseO at h
 generalize (scanO s).1 = l at *
 generalize (scanO s).2 = e at *
 cases he : e == 0
 · have he' : (e != 0) = true := by rw [bne_not,he]; rfl
   rw [he',if_pos rfl] at h
   injection h with h; subst h
   simp only [go_sem,Tryz.f79,hsc,he',parV,List.map_nil]
 · have he' : (e != 0) = false := by rw [bne_not,he]; rfl
   rw [he'] at h
   simp only [Bool.false_eq_true,if_false] at h
   split at h
   · cases h
   · rename_i ds r hds
     injection h with h; subst h
     have hl0 : decide ((l.length : Int) > 0) = decide (0 < l.length) := by simp
     simp only [go_sem,Tryz.f79,hsc,he',toksV_len,hl0]
     refine run_ind (fun z : Nat × List De × List De × Rd × Bool => z.1 ≤ f ∧ z.2.2.2.1.l <:+ l ∧ 
      (z.2.2.2.2 = true → z.2.2.2.1.bad = false ∧ z.2.2.1.length + z.2.2.2.1.l.length ≤ l.length ∧ desR f z.1 z.2.1 z.2.2.2.1 = some (ds,r) ∧ (r.bad = false → z.2.2.1 = z.2.1)) ∧
      (z.2.2.2.2 = false → z.2.2.2.1 = r ∧ (r.bad = false → z.2.2.1 = ds)))
      (fun z => ⟨[(4,.slice (toksV l)),(7,.own 170 0 (z.2.2.1.map deV)),(8,.int .i64 (idx l z.2.2.2.1)),(9,.bool z.2.2.2.2)],[],[],1⟩)
      (fun _ => some (parV (endO ds r),[])) (fun z => z.1) (f,[],[],⟨l,false⟩,decide (0 < l.length)) ⟨Nat.le_refl _,List.suffix_refl _,?_,?_⟩ ?_ ?_
     · intro hm
       refine ⟨rfl,by simp,?_,fun _ => rfl⟩
       cases l with
       | nil => simp at hm
       | cons t q => exact hds
     · intro hm
       cases l with
       | nil =>
        simp only [desO,Option.some.injEq,Prod.mk.injEq] at hds
        obtain ⟨rfl,rfl⟩ := hds
        exact ⟨rfl,fun _ => rfl⟩
       | cons t q => simp at hm
     · simp only [go_sem,idx0,List.map_nil]
     · rintro ⟨g,acc,acc',q,more⟩ ⟨hg,hq,hm1,hm0⟩ hrun
       simp only at hg hq hm1 hm0 hrun ⊢
       cases more
       · obtain ⟨m1,m2⟩ := hm0 rfl
         subst m1
         have hne := idx_ne hq
         unfold endO
         rw [← hne]
         cases hc : (idx l q != ((l.length : Nat) : Int))
         · rw [hc] at hne
           have hb : q.bad = false := by revert hne; cases q.bad <;> simp
           obtain ⟨hdl,hdt⟩ := htot _ _ hds hb
           have := m2 hb
           subst this
           simp only [go_sem,toksV_len,hc]
           refine run_ind (fun i : Nat => i ≤ acc'.length ∧ (acc'.take i).any deepD = false) (fun i => ⟨[(7,.own 170 0 (acc'.map deV)),(12,.int .i64 i)],[],[],1⟩)
            (fun _ => some (parV (if acc'.any deepD then ([],3) else (acc',0)),[])) (fun i => acc'.length - i) 0 ⟨Nat.zero_le _,by simp⟩ ?_ ?_
           · simp only [go_sem]
           · rintro i ⟨hi,h0⟩ h
             by_cases hlt : i < acc'.length
             · obtain ⟨x,hx⟩ : ∃ x,acc'[i]? = some x := ⟨acc'[i],List.getElem?_eq_getElem hlt⟩
               have hd := rdeepD_den x (hdt x (List.mem_of_getElem? hx))
               have w1 : IntKind.i64.wrap ((i : Int) + 1) = ((i + 1 : Nat) : Int) := wrapN (i + 1) (by omega)
               obtain ⟨ya,yb⟩ := any_take hx h0
               rw [deC] at hd
               cases hdx : deepD x
               · rw [hdx] at hd
                 simp only [go_sem,natlt,List.length_map,decide_eq_true hlt,natge0,tonat,des_get,hx,deV,deC,hd]
                 refine h (i + 1) _ ⟨hlt,yb hdx⟩ (by omega) ?_
                 simp only [go_sem,w1]
               · rw [hdx] at hd
                 simp only [go_sem,natlt,List.length_map,decide_eq_true hlt,natge0,tonat,des_get,hx,deV,deC,hd,ya hdx,parV,List.map_nil]
             · have hie : i = acc'.length := by omega
               subst hie
               rw [List.take_length] at h0
               simp only [go_sem,natlt,List.length_map,Nat.lt_irrefl,h0,parV]
         · simp only [go_sem,toksV_len,hc,parV,List.map_nil]
       · obtain ⟨m1,m2,m3,m4⟩ := hm1 rfl
         cases g with
         | zero => cases m3
         | succ g =>
         simp only [desR] at m3
         split at m3
         · cases m3
         · rename_i d r4 h4
           have d4 := deR_ref l hok hlen f q _ hq h4
           obtain ⟨d',d4,hd4⟩ := d4
           simp only at d4 hd4
           have hsf := deR_suf h4
           have q4 := hsf.trans hq
           have hql := hsf.length_le
           have a5 := is08_den l r4 6 [59] q4
           have hqle := hq.length_le
           have hap : (acc'.map deV).length + 1 ≤ appMax := by rw [List.length_map]; unfold appMax; omega
           have hmap : acc'.map deV ++ [.agg (deC d')] = (acc' ++ [d']).map deV := by rw [List.map_append]; rfl
           rw [deC] at d4 hmap
           cases b5 : seesR r4 6 [59]
           · rw [b5] at m3 a5
             simp only [Bool.false_eq_true,if_false] at m3
             injection m3 with m3
             injection m3 with m3a m3b
             simp only [go_sem,d4,hap,hmap,a5]
             refine hrun (g,acc ++ [d],acc' ++ [d'],r4,false) _ ⟨by omega,q4,(fun h => by cases h),fun _ => ⟨m3b,fun hg => ?_⟩⟩ (by simp only; omega) ?_
             · simp only; rw [← m3a,m4 hg,hd4 (by rw [m3b]; exact hg)]
             · simp only [go_sem]
           · rw [b5] at m3 a5
             simp only [if_true] at m3
             have w5 := idx_takes q4 hlen b5
             obtain ⟨hb5,t5,l5,hl5⟩ := seesR_cons b5
             have hk : (takesR r4 6 [59]).l.length + 1 = r4.l.length := by rw [takesR_eq b5,hl5]; simp
             simp only [go_sem,d4,hap,hmap,a5,w5]
             refine hrun (g,acc ++ [d],acc' ++ [d'],takesR r4 6 [59],true) _ ⟨by omega,(takesR_suf _ _ _).trans q4,fun _ => ⟨?_,?_,m3,fun hg => ?_⟩,fun h => by cases h⟩ (by simp only; omega) ?_
             · rw [takesR_eq b5]
             · simp only [List.length_append,List.length_singleton]; omega
             · rw [m4 hg,hd4 hb5]
             · simp only [go_sem]
def par (b : Bool) (s : List UInt8) : List UInt8 := if b then [40] ++ s ++ [41] else s
theorem kids_tot {e : Ex} {x : Ex} (h : x ∈ e.kids) : x.tot + 1 ≤ e.tot := by
 have h1 := tots_mem h
 have h2 := tot_eq e
 have h3 := sz_eq e.ty
 omega
theorem alts_tot {e : Ex} {a : Al} (h : a ∈ e.alts) : a.vars.length + a.body.tot + 1 ≤ e.tot := by
 have h1 := al_vars h
 have h2 := tot_eq e
 omega
theorem altsLen (e : Ex) : e.alts.length ≤ e.tot := by
 have := al_tots e.alts; have := tot_eq e; omega
end Go.Proofs
