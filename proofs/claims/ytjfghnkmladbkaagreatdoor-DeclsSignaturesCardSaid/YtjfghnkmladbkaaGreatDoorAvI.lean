/- There is always an answer, and it is bounded. -/
import Derived.Test.YtjfghnkmladbkaaGreatDoorAvH
namespace Go.Proofs
open Go.Av
set_option maxHeartbeats 4000000
set_option maxRecDepth 100000
def tokOK3 (t : Tok) : Prop := tokOK2 t ∧ t.text.length ≤ 16
theorem spanN_all (p : UInt8 → Bool) (s : List UInt8) : ∀ c ∈ s.take (spanN p s),p c = true := by
 intro c hc
 obtain ⟨i,hi,rfl⟩ := List.mem_iff_getElem.1 hc
 simp only [List.length_take] at hi
 obtain ⟨c,h1,h2⟩ := spanN_lt p (s := s) (i := i) (by omega)
 rw [List.getElem_take]
 have : s[i]? = some (s[i]'(by omega)) := List.getElem?_eq_getElem (by omega)
 rw [this] at h1
 injection h1 with h1
 rw [h1]; exact h2
theorem numberS_ok {s : List UInt8} (h : ¬ numberS s = 0) : numberS s ≤ 6 ∧ numberS s = spanN digitB s := by
 unfold numberS at h ⊢
 split
 · rename_i h1; rw [if_pos h1] at h; exact absurd rfl h
 · rename_i h1
   simp only [Bool.or_eq_true,decide_eq_true_eq,not_or] at h1
   exact ⟨by omega,rfl⟩
theorem kindS_ne5 (w : List UInt8) : kindS w ≠ 5 := by unfold kindS; split <;> (try split) <;> decide
theorem tokS_ok {s : List UInt8} {k : Int} {n : Nat} (h : tokS s = some (k,n)) (pos : Nat) : tokOK3 ⟨k,s.take n,pos⟩ := by
 have hle := tokS_le h
 refine ⟨⟨?_,?_⟩,?_⟩
 · rintro rfl
   simp only
   unfold tokS at h
   simp only at h
   split at h
   · split at h
     · cases h
     · injection h with h; injection h with h _; exact absurd h (kindS_ne5 _)
   · split at h
     · split at h
       · cases h
       · injection h with h; injection h with h _; exact absurd h (by decide)
     · split at h
       · rename_i h3
         split at h
         · cases h
         · rename_i h4
           injection h with h; injection h with _ h; subst h
           have hn := numberS_ok h4
           cases s with
           | nil => simp at h3
           | cons x r =>
            simp only [List.drop_succ_cons,List.drop_zero] at hn h4 ⊢
            refine ⟨x,r.take (numberS r),by rw [List.take_succ_cons],?_,?_,?_⟩
            · intro h0
              have := congrArg List.length h0
              simp only [List.length_take,List.length_nil] at this
              have := spanN_le digitB r
              omega
            · simp only [List.length_take]; omega
            · rw [hn.2]; exact spanN_all digitB r
       · split at h
         · injection h with h; injection h with h _; exact absurd h (by decide)
         · split at h
           · injection h with h; injection h with h _; exact absurd h (by decide)
           · cases h
 · intro ht
   simp only at ht ⊢
   cases s with
   | nil => simp at ht
   | cons x r =>
    obtain ⟨m,rfl⟩ : ∃ m,n = m + 1 := ⟨n - 1,by omega⟩
    rw [List.take_succ_cons] at ht
    injection ht with hx _
    subst hx
    unfold tokS at h
    simp only [List.headD_cons,show (lowerB 40 || upperB 40) = false from by decide,show digitB 40 = false from by decide,show ((40 : UInt8) == 63) = false from by decide,Bool.false_eq_true,if_false] at h
    split at h
    · injection h with h; injection h with h _; exact h.symm
    · simp only [show signs.contains 40 = true from by decide,if_true] at h
      injection h with h; injection h with h _; exact h.symm
 · simp only [List.length_take]
   unfold tokS at h
   simp only at h
   split at h
   · split at h
     · cases h
     · injection h with h; injection h with _ h; omega
   · split at h
     · split at h
       · cases h
       · rename_i h4
         have := numberS_ok h4
         injection h with h; injection h with _ h; omega
     · split at h
       · split at h
         · cases h
         · rename_i h4
           have := numberS_ok h4
           injection h with h; injection h with _ h; omega
       · split at h
         · injection h with h; injection h with _ h; omega
         · split at h
           · injection h with h; injection h with _ h; omega
           · cases h
theorem scanS_ok : ∀ (f pos : Nat) (s : List UInt8) (l : List Tok),scanS f pos s = .ok l → l.length ≤ s.length ∧ ∀ t ∈ l,tokOK3 t
 | 0,pos,s,l,h => by simp [scanS] at h
 | f + 1,pos,s,l,h => by
  cases s with
  | nil => simp only [scanS] at h; injection h with h; subst h; simp
  | cons x r =>
   simp only [scanS] at h
   split at h
   · cases h
   · rename_i k n ht
     have hle := tokS_le ht
     have hok := tokS_ok ht pos
     split at h
     · rename_i l1 h1
       injection h with h; subst h
       have ih := scanS_ok f _ _ _ h1
       simp only [List.length_drop] at ih
       refine ⟨by simp only [List.length_cons] at ih hle ⊢; omega,?_⟩
       intro t ht
       rcases List.mem_cons.1 ht with rfl | ht
       · exact hok
       · exact ih.2 t ht
     · cases h
theorem scanO_ok (s : List UInt8) : (scanO s).1.length ≤ 4000 ∧ ∀ t ∈ (scanO s).1,tokOK3 t := by
 unfold scanO
 split
 · simp
 · split
   · rename_i l h
     have := scanS_ok _ _ _ _ h
     simp only [List.length_drop] at this
     exact ⟨by simp only; omega,this.2⟩
   · simp
inductive GT : Ty → Prop
 | var (s : List UInt8) : s.length ≤ 16 → GT (.mk 1 s 0 [])
 | unk (n : Int) : 0 ≤ n → n < 1000000 → GT (.mk 2 [] n [])
 | con (s : List UInt8) (a : List Ty) : s.length ≤ 16 → (∀ x,x ∈ a → GT x) → GT (.mk 3 s 0 a)
 | fn (a b : Ty) : GT a → GT b → GT (.mk 4 [] 0 [a,b])
 | all (s : List UInt8) (t : Ty) : s.length ≤ 16 → GT t → GT (.mk 5 s 0 [t])
theorem szs_one (a : Ty) : Ty.szs [a] = a.sz := by simp [Ty.szs]
theorem szs_two (a b : Ty) : Ty.szs [a,b] = a.sz + b.sz := by simp [Ty.szs]
theorem szs_snoc (l : List Ty) (t : Ty) : Ty.szs (l ++ [t]) = Ty.szs l + t.sz := by
 induction l with
 | nil => simp [Ty.szs]
 | cons x l ih => simp only [List.cons_append,Ty.szs,ih]; omega
theorem sz_mk (k : Int) (s : List UInt8) (n : Int) (a : List Ty) : (Ty.mk k s n a).sz = Ty.szs a + 1 := by simp [Ty.sz]
theorem alls_ok : ∀ (ns : List (List UInt8)) (t : Ty),(∀ n ∈ ns,n.length ≤ 16) → GT t → GT (ns.foldr (fun n t => .mk 5 n 0 [t]) t) ∧ (ns.foldr (fun n t => Ty.mk 5 n 0 [t]) t).sz = ns.length + t.sz
 | [],t,_,h => by simp [h]
 | n :: r,t,hn,h => by
  have ih := alls_ok r t (fun x hx => hn x (List.mem_cons_of_mem _ hx)) h
  simp only [List.foldr_cons]
  refine ⟨.all _ _ (hn n (List.mem_cons_self ..)) ih.1,?_⟩
  rw [sz_mk,szs_one,ih.2,List.length_cons]; omega
theorem namesT_ok : ∀ {l : List Tok},(∀ t ∈ l,tokOK3 t) → ∀ n ∈ namesT l,n.length ≤ 16
 | [],_,n,h => by simp [namesT] at h
 | t :: r,hl,n,h => by
  simp only [namesT] at h
  split at h
  · rcases List.mem_cons.1 h with rfl | h
    · exact (hl t (List.mem_cons_self ..)).2
    · exact namesT_ok (fun x hx => hl x (List.mem_cons_of_mem _ hx)) n h
  · simp at h
theorem textT_ok {l : List Tok} (hl : ∀ t ∈ l,tokOK3 t) : (textT l).length ≤ 16 := by
 cases l with
 | nil => simp [textT]
 | cons t r => exact (hl t (List.mem_cons_self ..)).2
theorem metaN_ok {l : List Tok} (hl : ∀ t ∈ l,tokOK3 t) (h : seesT l 5 [] = true) : 0 ≤ metaN (textT l) ∧ metaN (textT l) < 1000000 := by
 obtain ⟨t,r,rfl⟩ := seesT_cons h
 have hk : t.kind = 5 := by simpa [seesT] using h
 obtain ⟨c,q,h1,h2,h3,h4⟩ := (hl t (List.mem_cons_self ..)).1.1 hk
 simp only [textT,metaN,h1,List.tail_cons,atoi_num h4 h2,Option.getD_some]
 have := numS_lt q h4
 have : 10 ^ q.length ≤ 10 ^ 6 := Nat.pow_le_pow_right (by decide) h3
 omega
theorem mem_suf {l' l : List Tok} (hl : ∀ t ∈ l,tokOK3 t) (h : l' <:+ l) : ∀ t ∈ l',tokOK3 t := fun t ht => hl t (h.subset ht)
theorem len_suf {l' l : List Tok} (h : l' <:+ l) : l'.length ≤ l.length := h.length_le
def TOK (l : List Tok) (t : Ty) (l' : List Tok) : TM → Prop
 | .loop name acc => name.length ≤ 16 → (∀ x,x ∈ acc → GT x) → GT t ∧ t.sz + l'.length ≤ l.length + Ty.szs acc + 1
 | _ => GT t ∧ t.sz + l'.length ≤ l.length
theorem tyR_ok : ∀ (f : Nat) (m : TM) (l : List Tok) (t : Ty) (l' : List Tok),(∀ t ∈ l,tokOK3 t) → tyR f m l = some (t,true,l') → TOK l t l' m := by
 intro f
 induction f with
 | zero => intro m l t l' _ h; cases h
 | succ f ih =>
  intro m l t l' hl h
  have ht := mem_suf hl (tail_suf l)
  cases m with
  | typ =>
   simp only [tyR] at h
   split at h
   · rename_i h1
     have := ih _ _ _ _ ht h
     have h2 := tail_lt h1
     exact ⟨this.1,by have := this.2; omega⟩
   · split at h
     · cases h
     · rename_i a ok1 l1 h1
       cases ok1
       · simp at h
       · simp only [if_true] at h
         have i1 := ih _ _ _ _ hl h1
         have hl1 := mem_suf hl (tyR_suf _ _ _ _ _ _ h1)
         split at h
         · rename_i h3
           have h4 := tail_lt h3
           split at h
           · cases h
           · rename_i b ok2 l2 h2
             injection h with h; injection h with h h5; injection h5 with h5 h6
             subst h h5 h6
             have i2 := ih _ _ _ _ (mem_suf hl1 (tail_suf l1)) h2
             exact ⟨.fn _ _ i1.1 i2.1,by rw [sz_mk,szs_two]; have := i1.2; have := i2.2; omega⟩
         · injection h with h; injection h with h h5; injection h5 with h5 h6
           subst h h6
           exact i1
  | all =>
   simp only [tyR] at h
   split at h
   · rename_i h1
     have h2 := tail_lt h1
     simp only [List.length_drop] at h2
     have hn := namesT_ok hl
     split at h
     · simp at h
     · rename_i n ns hns
       rw [hns] at hn h2
       split at h
       · cases h
       · rename_i t1 ok l2 h3
         injection h with h; injection h with h h5; injection h5 with h5 h6
         subst h h5 h6
         have i1 := ih _ _ _ _ (mem_suf hl ((tail_suf _).trans (List.drop_suffix _ _))) h3
         have ha := alls_ok (n :: ns) t1 hn i1.1
         have := i1.2
         rw [hns] at this
         exact ⟨ha.1,by rw [ha.2]; omega⟩
   · simp at h
  | app =>
   simp only [tyR] at h
   split at h
   · rename_i h1
     have h2 := tail_lt h1
     have i1 := ih _ _ _ _ ht h (textT_ok hl) (by simp)
     exact ⟨i1.1,by have := i1.2; simp only [Ty.szs] at this; omega⟩
   · exact ih .atom _ _ _ hl h
  | loop name acc =>
   intro hn hacc
   simp only [tyR] at h
   split at h
   · split at h
     · cases h
     · rename_i x ok l1 h1
       cases ok
       · simp at h
       · simp only [if_true] at h
         have i1 := ih _ _ _ _ hl h1
         have i2 := ih _ _ _ _ (mem_suf hl (tyR_suf _ _ _ _ _ _ h1)) h hn (by
          intro y hy
          rcases List.mem_append.1 hy with hy | hy
          · exact hacc y hy
          · rw [List.mem_singleton.1 hy]; exact i1.1)
         rw [szs_snoc] at i2
         exact ⟨i2.1,by have := i1.2; have := i2.2; omega⟩
   · injection h with h; injection h with h h5; injection h5 with h5 h6
     subst h h6
     exact ⟨.con _ _ hn hacc,by rw [sz_mk]; omega⟩
  | atom =>
   simp only [tyR] at h
   split at h
   · rename_i h1
     have h2 := tail_lt h1
     injection h with h; injection h with h h5; injection h5 with h5 h6
     subst h h6
     exact ⟨.var _ (textT_ok hl),by rw [sz_mk]; simp only [Ty.szs]; omega⟩
   · split at h
     · rename_i h1
       have h2 := tail_lt h1
       injection h with h; injection h with h h5; injection h5 with h5 h6
       subst h h6
       exact ⟨.con _ _ (textT_ok hl) (by simp),by rw [sz_mk]; simp only [Ty.szs]; omega⟩
     · split at h
       · rename_i h1
         have h2 := tail_lt h1
         injection h with h; injection h with h h5; injection h5 with h5 h6
         subst h h6
         exact ⟨.unk _ (metaN_ok hl h1).1 (metaN_ok hl h1).2,by rw [sz_mk]; simp only [Ty.szs]; omega⟩
       · split at h
         · rename_i h1
           have h2 := tail_lt h1
           split at h
           · cases h
           · rename_i t1 ok l1 h3
             cases ok
             · simp at h
             · simp only [if_true] at h
               injection h with h; injection h with h h5; injection h5 with h5 h6
               rw [if_pos h5] at h6
               subst h h6
               have i1 := ih _ _ _ _ ht h3
               have := len_suf (tail_suf l1)
               exact ⟨i1.1,by have := i1.2; omega⟩
         · simp at h
def rankT : TM → Nat
 | .atom => 1
 | .loop _ _ => 2
 | .app => 3
 | .typ => 4
 | .all => 5
theorem tyR_tot : ∀ (f : Nat) (m : TM) (l : List Tok),5 * l.length + rankT m ≤ f → ∃ r,tyR f m l = some r := by
 intro f
 induction f with
 | zero => intro m l h; cases m <;> simp [rankT] at h
 | succ f ih =>
  intro m l h
  cases m with
  | typ =>
   simp only [rankT] at h
   simp only [tyR]
   split
   · rename_i h1
     have := tail_lt h1
     exact ih _ _ (by simp only [rankT]; omega)
   · obtain ⟨⟨a,ok,l1⟩,h1⟩ := ih .app l (by simp only [rankT]; omega)
     rw [h1]
     simp only
     cases ok
     · simp
     · simp only [if_true]
       have hs := len_suf (tyR_suf _ _ _ _ _ _ h1)
       split
       · rename_i h2
         have := tail_lt h2
         obtain ⟨⟨b,ok2,l2⟩,h3⟩ := ih .typ l1.tail (by simp only [rankT]; omega)
         rw [h3]
         exact ⟨_,rfl⟩
       · exact ⟨_,rfl⟩
  | all =>
   simp only [rankT] at h
   simp only [tyR]
   split
   · rename_i h1
     have h2 := tail_lt h1
     simp only [List.length_drop] at h2
     split
     · exact ⟨_,rfl⟩
     · obtain ⟨⟨b,ok2,l2⟩,h3⟩ := ih .typ (l.drop (namesT l).length).tail (by simp only [rankT]; omega)
       rw [h3]
       exact ⟨_,rfl⟩
   · exact ⟨_,rfl⟩
  | app =>
   simp only [rankT] at h
   simp only [tyR]
   split
   · rename_i h1
     have := tail_lt h1
     exact ih _ _ (by simp only [rankT]; omega)
   · exact ih _ _ (by simp only [rankT]; omega)
  | loop name acc =>
   simp only [rankT] at h
   simp only [tyR]
   split
   · obtain ⟨⟨b,ok2,l2⟩,h3⟩ := ih .atom l (by simp only [rankT]; omega)
     rw [h3]
     simp only
     cases ok2
     · simp
     · simp only [if_true]
       have := atom_lt h3
       exact ih _ _ (by simp only [rankT]; omega)
   · exact ⟨_,rfl⟩
  | atom =>
   simp only [rankT] at h
   simp only [tyR]
   split
   · exact ⟨_,rfl⟩
   · split
     · exact ⟨_,rfl⟩
     · split
       · exact ⟨_,rfl⟩
       · split
         · rename_i h1
           have := tail_lt h1
           obtain ⟨⟨b,ok2,l2⟩,h3⟩ := ih .typ l.tail (by simp only [rankT]; omega)
           rw [h3]
           simp only
           split <;> exact ⟨_,rfl⟩
         · exact ⟨_,rfl⟩
inductive GX : Ex → Prop
 | nam (k : Int) (s : List UInt8) : (k = 1 ∨ k = 2) → s.length ≤ 16 → GX (.mk k s false zTy [] [])
 | lam (s : List UInt8) (x : Ex) : s.length ≤ 16 → GX x → GX (.mk 3 s false zTy [x] [])
 | app (x y : Ex) : GX x → GX y → GX (.mk 4 [] false zTy [x,y] [])
 | lett (s : List UInt8) (t : Ty) (x y : Ex) : s.length ≤ 16 → GT t → GX x → GX y → GX (.mk 5 s true t [x,y] [])
 | letu (s : List UInt8) (x y : Ex) : s.length ≤ 16 → GX x → GX y → GX (.mk 5 s false zTy [x,y] [])
 | cas (x : Ex) (al : List Al) : GX x → (∀ a,a ∈ al → GX a.body) → (∀ a ∈ al,a.con.length ≤ 16 ∧ ∀ v ∈ a.vars,v.length ≤ 16) → GX (.mk 6 [] false zTy [x] al)
 | ann (x : Ex) (t : Ty) : GX x → GT t → GX (.mk 7 [] false t [x] [])
def GA (al : List Al) : Prop := ∀ a ∈ al,GX a.body ∧ a.con.length ≤ 16 ∧ ∀ v ∈ a.vars,v.length ≤ 16
theorem tot_mk (k : Int) (s : List UInt8) (b : Bool) (t : Ty) (ks : List Ex) (al : List Al) : (Ex.mk k s b t ks al).tot = Ex.tots ks + Al.tots al + t.sz := by simp [Ex.tot]
theorem tots_nil : Ex.tots [] = 0 := by simp [Ex.tots]
theorem tots_one (x : Ex) : Ex.tots [x] = x.tot := by simp [Ex.tots]
theorem tots_two (x y : Ex) : Ex.tots [x,y] = x.tot + y.tot := by simp [Ex.tots]
theorem altots_nil : Al.tots [] = 0 := by simp [Al.tots]
theorem altots_snoc (l : List Al) (c : List UInt8) (v : List (List UInt8)) (b : Ex) : Al.tots (l ++ [.mk c v b]) = Al.tots l + (b.tot + v.length + 1) := by
 induction l with
 | nil => simp [Al.tots,Al.tot]
 | cons x l ih => simp only [List.cons_append,Al.tots,ih]; omega
theorem zTy_sz : zTy.sz = 1 := rfl
theorem takeR_len {r : Rd} {k : Int} {s : List UInt8} (h : (takeR r k s).bad = false) : (takeR r k s).l.length + 1 = r.l.length ∧ r.bad = false := by
 have h1 := takeR_good h
 obtain ⟨hb,t,q,hl⟩ := seesR_cons h1
 rw [takeR_eq h1,hl]
 exact ⟨by simp,hb⟩
theorem takesR_len {r : Rd} {k : Int} {s : List UInt8} (h : seesR r k s = true) : (takesR r k s).l.length + 1 = r.l.length ∧ (takesR r k s).bad = false ∧ r.bad = false := by
 obtain ⟨hb,t,q,hl⟩ := seesR_cons h
 rw [takesR_eq h,hl]
 exact ⟨by simp,rfl,hb⟩
theorem behindR_len {r : Rd} (h : (behindR r).bad = false) : (behindR r).l.length + (namesR r).length = r.l.length ∧ r.bad = false := by
 have hb : r.bad = false := h
 have := namesT_le r.l
 unfold behindR namesR
 rw [hb]
 simp only [Bool.false_eq_true,if_false,List.length_drop]
 exact ⟨by omega,trivial⟩
theorem wordR_ok {r : Rd} (hl : ∀ t ∈ r.l,tokOK3 t) (k : Int) (s : List UInt8) : (wordR r k s).length ≤ 16 := by
 unfold wordR; split
 · exact textT_ok hl
 · simp
theorem namesR_ok {r : Rd} (hl : ∀ t ∈ r.l,tokOK3 t) : ∀ n ∈ namesR r,n.length ≤ 16 := by
 unfold namesR; split
 · simp
 · exact namesT_ok hl
theorem typR_ok {f : Nat} {r : Rd} {t : Ty} {r' : Rd} (hl : ∀ t ∈ r.l,tokOK3 t) (h : typR f r = some (t,r')) (hg : r'.bad = false) : GT t ∧ t.sz + r'.l.length ≤ r.l.length := by
 have hb := typR_good h hg
 unfold typR at h
 rw [hb] at h
 simp only [Bool.false_eq_true,if_false] at h
 split at h
 · cases h
 · rename_i t1 ok l1 h1
   cases ok
   · simp only [Bool.false_eq_true,if_false] at h
     injection h with h; injection h with _ h; subst h; cases hg
   · simp only [if_true] at h
     injection h with h; injection h with h5 h; subst h5 h
     exact tyR_ok _ _ _ _ _ hl h1
theorem typR_tot {f : Nat} {r : Rd} (h : 5 * r.l.length + 4 ≤ f) : ∃ x,typR f r = some x := by
 unfold typR
 split
 · exact ⟨_,rfl⟩
 · obtain ⟨⟨t,ok,l'⟩,h1⟩ := tyR_tot f .typ r.l (by simp only [rankT]; omega)
   rw [h1]
   simp only
   split <;> exact ⟨_,rfl⟩
def XOK (r : Rd) (x : Ex) (r' : Rd) : XM → Prop
 | .loop e => GX e → GX x ∧ x.tot + 2 * r'.l.length ≤ e.tot + 2 * r.l.length
 | .alts acc => GA acc → GA x.alts ∧ Al.tots x.alts + 2 * r'.l.length ≤ Al.tots acc + 2 * r.l.length
 | _ => GX x ∧ x.tot + 1 + 2 * r'.l.length ≤ 2 * r.l.length
theorem exR_ok : ∀ (f : Nat) (m : XM) (r : Rd) (x : Ex) (r' : Rd),(∀ t ∈ r.l,tokOK3 t) → exR f m r = some (x,r') → r'.bad = false → XOK r x r' m := by
 intro f
 induction f with
 | zero => intro m r x r' _ h; cases h
 | succ f ih =>
  intro m r x r' hl h hg
  have fin : ∀ {a b : Ex} {p q : Rd},some (a,p) = some (b,q) → a = b ∧ p = q := fun h1 => by
   injection h1 with h1; injection h1 with h2 h1; exact ⟨h2,h1⟩
  cases m with
  | expr =>
   simp only [exR] at h
   split at h
   · rename_i hb
     obtain ⟨_,rfl⟩ := fin h
     rw [hb] at hg; cases hg
   · split at h
     · rename_i h1
       split at h
       · cases h
       · rename_i x1 r1 h2
         obtain ⟨rfl,rfl⟩ := fin h
         have k1 := takesR_len h1
         have g2 := exR_good h2 hg
         have k2 := takeR_len g2
         have k3 := takeR_len k2.2
         have i := ih _ _ _ _ (mem_suf hl ((takeR_suf _ _ _).trans ((takeR_suf _ _ _).trans (takesR_suf _ _ _)))) h2 hg
         refine ⟨.lam _ _ (wordR_ok (mem_suf hl (takesR_suf _ _ _)) _ _) i.1,?_⟩
         rw [tot_mk,tots_one,altots_nil,zTy_sz]
         have := i.2
         omega
     · split at h
       · rename_i h1
         have k1 := takesR_len h1
         have i := ih _ _ _ _ (mem_suf hl (takesR_suf _ _ _)) h hg
         exact ⟨i.1,by have := i.2; omega⟩
       · split at h
         · rename_i h1
           have k1 := takesR_len h1
           split at h
           · cases h
           · rename_i x1 r1 h2
             have s1 := (exR_suf _ _ _ _ _ h2).trans (takesR_suf _ _ _)
             have s2 := (takeR_suf (takeR r1 3 [111,102]) 6 [123]).trans ((takeR_suf r1 3 [111,102]).trans s1)
             split at h
             · rename_i h3
               obtain ⟨rfl,rfl⟩ := fin h
               have k3 := takesR_len h3
               have k4 := takeR_len k3.2.2
               have k5 := takeR_len k4.2
               have i := ih _ _ _ _ (mem_suf hl (takesR_suf _ _ _)) h2 k5.2
               refine ⟨.cas _ _ i.1 (by simp) (by simp),?_⟩
               rw [tot_mk,tots_one,altots_nil,zTy_sz]
               have := i.2
               omega
             · split at h
               · cases h
               · rename_i y r4 h4
                 obtain ⟨rfl,rfl⟩ := fin h
                 have k6 := takeR_len hg
                 have g4 := exR_good h4 k6.2
                 have k4 := takeR_len g4
                 have k5 := takeR_len k4.2
                 have i := ih _ _ _ _ (mem_suf hl (takesR_suf _ _ _)) h2 k5.2
                 have j := ih _ _ _ _ (mem_suf hl s2) h4 k6.2 (by intro a ha; simp at ha)
                 refine ⟨.cas _ _ i.1 (fun a ha => (j.1 a ha).1) (fun a ha => (j.1 a ha).2),?_⟩
                 rw [tot_mk,tots_one,zTy_sz]
                 have := i.2
                 have := j.2
                 rw [altots_nil] at this
                 omega
         · split at h
           · cases h
           · rename_i e r1 h1
             have g1 := exR_good h hg
             have i := ih _ _ _ _ hl h1 g1
             have j := ih _ _ _ _ (mem_suf hl (exR_suf _ _ _ _ _ h1)) h hg i.1
             exact ⟨j.1,by have := i.2; have := j.2; omega⟩
  | loop e =>
   intro he
   simp only [exR] at h
   split at h
   · split at h
     · cases h
     · rename_i e1 r1 h1
       have g1 := exR_good h hg
       have i := ih _ _ _ _ hl h1 g1
       have j := ih _ _ _ _ (mem_suf hl (exR_suf _ _ _ _ _ h1)) h hg (.app _ _ he i.1)
       rw [tot_mk,tots_two,altots_nil,zTy_sz] at j
       exact ⟨j.1,by have := i.2; have := j.2; omega⟩
   · obtain ⟨rfl,rfl⟩ := fin h
     exact ⟨he,by omega⟩
  | lets =>
   simp only [exR] at h
   split at h
   · rename_i h1
     have k1 := takesR_len h1
     have k0 := takeR_len k1.2.2
     split at h
     · cases h
     · rename_i t r2 h2
       have s2 := (typR_suf h2).trans ((takesR_suf _ _ _).trans (takeR_suf _ _ _))
       split at h
       · cases h
       · rename_i x r3 h3
         have s3 := (exR_suf _ _ _ _ _ h3).trans ((takeR_suf _ _ _).trans s2)
         split at h
         · cases h
         · rename_i y r4 h4
           obtain ⟨rfl,rfl⟩ := fin h
           have g4 := takeR_len (exR_good h4 hg)
           have g3 := takeR_len (exR_good h3 g4.2)
           have i2 := typR_ok (mem_suf hl ((takesR_suf _ _ _).trans (takeR_suf _ _ _))) h2 g3.2
           have i3 := ih _ _ _ _ (mem_suf hl ((takeR_suf _ _ _).trans s2)) h3 g4.2
           have i4 := ih _ _ _ _ (mem_suf hl ((takeR_suf _ _ _).trans s3)) h4 hg
           refine ⟨.lett _ _ _ _ (wordR_ok hl _ _) i2.1 i3.1 i4.1,?_⟩
           rw [tot_mk,tots_two,altots_nil]
           have := i2.2
           have := i3.2
           have := i4.2
           omega
   · split at h
     · cases h
     · rename_i x r3 h3
       have s3 := (exR_suf _ _ _ _ _ h3).trans ((takeR_suf _ _ _).trans (takeR_suf _ _ _))
       split at h
       · cases h
       · rename_i y r4 h4
         obtain ⟨rfl,rfl⟩ := fin h
         have g4 := takeR_len (exR_good h4 hg)
         have g3 := takeR_len (exR_good h3 g4.2)
         have g2 := takeR_len g3.2
         have i3 := ih _ _ _ _ (mem_suf hl ((takeR_suf _ _ _).trans (takeR_suf _ _ _))) h3 g4.2
         have i4 := ih _ _ _ _ (mem_suf hl ((takeR_suf _ _ _).trans s3)) h4 hg
         refine ⟨.letu _ _ _ (wordR_ok hl _ _) i3.1 i4.1,?_⟩
         rw [tot_mk,tots_two,altots_nil,zTy_sz]
         have := i3.2
         have := i4.2
         omega
  | atom =>
   simp only [exR] at h
   split at h
   · obtain ⟨rfl,rfl⟩ := fin h
     have k1 := takeR_len hg
     refine ⟨.nam 1 _ (.inl rfl) (wordR_ok hl _ _),?_⟩
     rw [tot_mk,tots_nil,altots_nil,zTy_sz]; omega
   · split at h
     · obtain ⟨rfl,rfl⟩ := fin h
       have k1 := takeR_len hg
       refine ⟨.nam 2 _ (.inr rfl) (wordR_ok hl _ _),?_⟩
       rw [tot_mk,tots_nil,altots_nil,zTy_sz]; omega
     · split at h
       · cases h
       · rename_i e r1 h1
         have s1 := (exR_suf _ _ _ _ _ h1).trans (takeR_suf _ _ _)
         split at h
         · rename_i h3
           split at h
           · cases h
           · rename_i t r2 h2
             obtain ⟨rfl,rfl⟩ := fin h
             have k3 := takeR_len hg
             have k2 := takesR_len h3
             have k1 := takeR_len (exR_good h1 k2.2.2)
             have i1 := ih _ _ _ _ (mem_suf hl (takeR_suf _ _ _)) h1 k2.2.2
             have i2 := typR_ok (mem_suf hl ((takesR_suf _ _ _).trans s1)) h2 k3.2
             refine ⟨.ann _ _ i1.1 i2.1,?_⟩
             rw [tot_mk,tots_one,altots_nil]
             have := i1.2
             have := i2.2
             omega
         · obtain ⟨rfl,rfl⟩ := fin h
           have k3 := takeR_len hg
           have k1 := takeR_len (exR_good h1 k3.2)
           have i1 := ih _ _ _ _ (mem_suf hl (takeR_suf _ _ _)) h1 k3.2
           exact ⟨i1.1,by have := i1.2; omega⟩
  | alts acc =>
   intro ha
   simp only [exR] at h
   split at h
   · cases h
   · rename_i b r4 h4
     have s4 := (exR_suf _ _ _ _ _ h4).trans ((takeR_suf _ _ _).trans ((behindR_suf _).trans (takeR_suf _ _ _)))
     have key : r4.bad = false → GA (acc ++ [.mk (wordR r 2 []) (namesR (takeR r 2 [])) b]) ∧ Al.tots (acc ++ [.mk (wordR r 2 []) (namesR (takeR r 2 [])) b]) + 2 * r4.l.length ≤ Al.tots acc + 2 * r.l.length := by
      intro g4
      have k3 := takeR_len (exR_good h4 g4)
      have k2 := behindR_len k3.2
      have k1 := takeR_len k2.2
      have i := ih _ _ _ _ (mem_suf hl ((takeR_suf _ _ _).trans ((behindR_suf _).trans (takeR_suf _ _ _)))) h4 g4
      refine ⟨?_,?_⟩
      · intro a hm
        rcases List.mem_append.1 hm with hm | hm
        · exact ha a hm
        · rw [List.mem_singleton.1 hm]
          exact ⟨i.1,wordR_ok hl _ _,namesR_ok (mem_suf hl (takeR_suf _ _ _))⟩
      · rw [altots_snoc]
        have := i.2
        omega
     split at h
     · rename_i h5
       have k5 := takesR_len h5
       have k := key k5.2.2
       have j := ih _ _ _ _ (mem_suf hl ((takesR_suf _ _ _).trans s4)) h hg k.1
       exact ⟨j.1,by have := j.2; have := k.2; omega⟩
     · obtain ⟨rfl,rfl⟩ := fin h
       exact key hg
def rankX : XM → Nat
 | .atom => 4
 | .loop _ => 5
 | .expr => 6
 | .lets => 8
 | .alts _ => 8
theorem exR_bad1 (f : Nat) {r : Rd} (h : r.bad = true) : exR (f + 1) .expr r = some (zEx,r) := by simp only [exR,h,if_true]
theorem exR_tot_bad (f : Nat) (m : XM) {r : Rd} (h : r.bad = true) : ∃ x,exR (f + 2) m r = some x := by
 cases m with
 | expr => exact ⟨_,exR_bad1 _ h⟩
 | lets =>
  rw [show f + 2 = (f + 1) + 1 from rfl,exR]
  simp only [takeR_bad h,seesR_bad h,Bool.false_eq_true,if_false,exR_bad1 f h]
  exact ⟨_,rfl⟩
 | atom =>
  rw [show f + 2 = (f + 1) + 1 from rfl,exR]
  simp only [takeR_bad h,seesR_bad h,Bool.false_eq_true,if_false,exR_bad1 f h]
  exact ⟨_,rfl⟩
 | loop e =>
  rw [show f + 2 = (f + 1) + 1 from rfl,exR]
  simp only [seesR_bad h,Bool.or_self,Bool.false_eq_true,if_false]
  exact ⟨_,rfl⟩
 | alts acc =>
  have hb : (behindR r).bad = true := h
  rw [show f + 2 = (f + 1) + 1 from rfl,exR]
  simp only [takeR_bad h,takeR_bad hb,exR_bad1 f hb,seesR_bad hb,Bool.false_eq_true,if_false]
  exact ⟨_,rfl⟩
def needX (m : XM) (r : Rd) : Nat := if r.bad then 2 else 10 * r.l.length + rankX m
theorem needX_le {m : XM} {r : Rd} {n : Nat} (h1 : 2 ≤ n) (h2 : r.bad = false → 10 * r.l.length + rankX m ≤ n) : needX m r ≤ n := by
 unfold needX
 cases h : r.bad
 · simpa using h2 h
 · simpa using h1
theorem exR_tot : ∀ (f : Nat) (m : XM) (r : Rd),(∀ t ∈ r.l,tokOK3 t) → needX m r ≤ f → ∃ x,exR f m r = some x := by
 intro f
 induction f with
 | zero => intro m r _ h; unfold needX at h; cases hb : r.bad <;> rw [hb] at h <;> cases m <;> simp [rankX] at h
 | succ f ih =>
  intro m r hl hn
  cases hb : r.bad
  case true =>
   unfold needX at hn
   rw [hb,if_pos rfl] at hn
   obtain ⟨g,rfl⟩ : ∃ g,f = g + 1 := ⟨f - 1,by omega⟩
   exact exR_tot_bad g m hb
  case false =>
  unfold needX at hn
  rw [hb] at hn
  simp only [Bool.false_eq_true,if_false] at hn
  cases m with
  | expr =>
   simp only [rankX] at hn
   simp only [exR,hb,Bool.false_eq_true,if_false]
   split
   · rename_i h1
     have k1 := takesR_len h1
     obtain ⟨⟨x,r4⟩,h2⟩ := ih .expr (takeR (takeR (takesR r 6 [92]) 1 []) 6 [45,62]) (mem_suf hl ((takeR_suf _ _ _).trans ((takeR_suf _ _ _).trans (takesR_suf _ _ _)))) (needX_le (by omega) fun g => by
      have k2 := takeR_len g
      have k3 := takeR_len k2.2
      simp only [rankX]; omega)
     rw [h2]; exact ⟨_,rfl⟩
   · split
     · rename_i h1
       have k1 := takesR_len h1
       exact ih .lets _ (mem_suf hl (takesR_suf _ _ _)) (needX_le (by omega) fun g => by simp only [rankX]; omega)
     · split
       · rename_i h1
         have k1 := takesR_len h1
         obtain ⟨⟨x,r1⟩,h2⟩ := ih .expr (takesR r 3 [99,97,115,101]) (mem_suf hl (takesR_suf _ _ _)) (needX_le (by omega) fun g => by simp only [rankX]; omega)
         rw [h2]
         simp only
         have s1 := (exR_suf _ _ _ _ _ h2)
         have s2 := (takeR_suf (takeR r1 3 [111,102]) 6 [123]).trans ((takeR_suf r1 3 [111,102]).trans s1)
         split
         · exact ⟨_,rfl⟩
         · obtain ⟨⟨y,r4⟩,h4⟩ := ih (.alts []) (takeR (takeR r1 3 [111,102]) 6 [123]) (mem_suf hl (s2.trans (takesR_suf _ _ _))) (needX_le (by omega) fun g => by
            have := len_suf s2
            simp only [rankX]; omega)
           rw [h4]; exact ⟨_,rfl⟩
       · obtain ⟨⟨e,r1⟩,h1⟩ := ih .atom r hl (needX_le (by omega) fun g => by simp only [rankX]; omega)
         rw [h1]
         simp only
         have s1 := exR_suf _ _ _ _ _ h1
         exact ih (.loop e) r1 (mem_suf hl s1) (needX_le (by omega) fun g => by have := len_suf s1; simp only [rankX]; omega)
  | loop e =>
   simp only [rankX] at hn
   simp only [exR]
   split
   · obtain ⟨⟨x,r1⟩,h1⟩ := ih .atom r hl (needX_le (by omega) fun g => by simp only [rankX]; omega)
     rw [h1]
     simp only
     have s1 := exR_suf _ _ _ _ _ h1
     exact ih _ r1 (mem_suf hl s1) (needX_le (by omega) fun g => by
      have i := (exR_ok _ _ _ _ _ hl h1 g).2
      have := tot_pos x
      simp only [rankX]; omega)
   · exact ⟨_,rfl⟩
  | lets =>
   simp only [rankX] at hn
   simp only [exR]
   split
   · rename_i h1
     have k1 := takesR_len h1
     have l1 := len_suf (takeR_suf r 1 [])
     obtain ⟨⟨t,r2⟩,h2⟩ := typR_tot (f := f) (r := takesR (takeR r 1 []) 6 [58]) (by omega)
     rw [h2]
     simp only
     have s2 := (typR_suf h2).trans ((takesR_suf _ _ _).trans (takeR_suf _ _ _))
     have l2 := len_suf s2
     obtain ⟨⟨x,r3⟩,h3⟩ := ih .expr (takeR r2 6 [61]) (mem_suf hl ((takeR_suf _ _ _).trans s2)) (needX_le (by omega) fun g => by
      have := len_suf (takeR_suf r2 6 [61]); simp only [rankX]; omega)
     rw [h3]
     simp only
     have s3 := (exR_suf _ _ _ _ _ h3).trans ((takeR_suf _ _ _).trans s2)
     have l3 := len_suf s3
     obtain ⟨⟨y,r4⟩,h4⟩ := ih .expr (takeR r3 3 [105,110]) (mem_suf hl ((takeR_suf _ _ _).trans s3)) (needX_le (by omega) fun g => by
      have := len_suf (takeR_suf r3 3 [105,110]); simp only [rankX]; omega)
     rw [h4]; exact ⟨_,rfl⟩
   · obtain ⟨⟨x,r3⟩,h3⟩ := ih .expr (takeR (takeR r 1 []) 6 [61]) (mem_suf hl ((takeR_suf _ _ _).trans (takeR_suf _ _ _))) (needX_le (by omega) fun g => by
      have := len_suf ((takeR_suf (takeR r 1 []) 6 [61]).trans (takeR_suf _ _ _)); simp only [rankX]; omega)
     rw [h3]
     simp only
     have s3 := (exR_suf _ _ _ _ _ h3).trans ((takeR_suf _ _ _).trans (takeR_suf _ _ _))
     have l3 := len_suf s3
     obtain ⟨⟨y,r4⟩,h4⟩ := ih .expr (takeR r3 3 [105,110]) (mem_suf hl ((takeR_suf _ _ _).trans s3)) (needX_le (by omega) fun g => by
      have := len_suf (takeR_suf r3 3 [105,110]); simp only [rankX]; omega)
     rw [h4]; exact ⟨_,rfl⟩
  | atom =>
   simp only [rankX] at hn
   simp only [exR]
   split
   · exact ⟨_,rfl⟩
   · split
     · exact ⟨_,rfl⟩
     · obtain ⟨⟨x,r3⟩,h3⟩ := ih .expr (takeR r 6 [40]) (mem_suf hl (takeR_suf _ _ _)) (needX_le (by omega) fun g => by
        have := takeR_len g; simp only [rankX]; omega)
       rw [h3]
       simp only
       have l3 := len_suf ((exR_suf _ _ _ _ _ h3).trans (takeR_suf _ _ _))
       split
       · rename_i h5
         have l4 := takesR_len h5
         obtain ⟨⟨t,r2⟩,h2⟩ := typR_tot (f := f) (r := takesR r3 6 [58]) (by omega)
         rw [h2]; exact ⟨_,rfl⟩
       · exact ⟨_,rfl⟩
  | alts acc =>
   simp only [rankX] at hn
   simp only [exR]
   have s0 := (takeR_suf (behindR (takeR r 2 [])) 6 [45,62]).trans ((behindR_suf _).trans (takeR_suf _ _ _))
   obtain ⟨⟨x,r3⟩,h3⟩ := ih .expr (takeR (behindR (takeR r 2 [])) 6 [45,62]) (mem_suf hl s0) (needX_le (by omega) fun g => by
    have := len_suf s0; simp only [rankX]; omega)
   rw [h3]
   simp only
   have s3 := (exR_suf _ _ _ _ _ h3).trans s0
   have l3 := len_suf s3
   split
   · rename_i h5
     have k5 := takesR_len h5
     exact ih _ _ (mem_suf hl ((takesR_suf _ _ _).trans s3)) (needX_le (by omega) fun g => by simp only [rankX]; omega)
   · exact ⟨_,rfl⟩
inductive GD : De → Prop
 | data (s : List UInt8) (vs : List (List UInt8)) (cs : List Co) : s.length ≤ 16 → (∀ v ∈ vs,v.length ≤ 16) → (∀ c ∈ cs,c.name.length ≤ 16 ∧ GT c.ty) → GD ⟨1,s,vs,cs,zTy,zEx⟩
 | sig (s : List UInt8) (t : Ty) : s.length ≤ 16 → GT t → GD ⟨2,s,[],[],t,zEx⟩
 | bind (s : List UInt8) (x : Ex) : s.length ≤ 16 → GX x → GD ⟨3,s,[],[],zTy,x⟩
theorem zEx_tot : zEx.tot = 1 := by unfold zEx; rw [tot_mk,tots_nil,altots_nil,zTy_sz]
theorem coR_ok {f : Nat} {q : Rd} {c : Co} {r : Rd} (hl : ∀ t ∈ q.l,tokOK3 t) (h : coR f q = some (c,r)) (hg : r.bad = false) : (c.name.length ≤ 16 ∧ GT c.ty) ∧ c.ty.sz + 2 + r.l.length ≤ q.l.length := by
 have g := coR_good h hg
 unfold coR at h
 split at h
 · cases h
 · rename_i t r1 h1
   injection h with h; injection h with h2 h; subst h2 h
   have k1 := takeR_len g
   have k2 := takeR_len k1.2
   have i := typR_ok (mem_suf hl ((takeR_suf _ _ _).trans (takeR_suf _ _ _))) h1 hg
   refine ⟨⟨wordR_ok hl _ _,i.1⟩,?_⟩
   have := i.2
   simp only
   omega
theorem cosR_ok {f : Nat} : ∀ {g : Nat} {acc : List Co} {q : Rd} {cs : List Co} {r : Rd},(∀ t ∈ q.l,tokOK3 t) → (∀ c ∈ acc,c.name.length ≤ 16 ∧ GT c.ty) → cosR f g acc q = some (cs,r) → r.bad = false →
 (∀ c ∈ cs,c.name.length ≤ 16 ∧ GT c.ty) ∧ Ty.szs (cs.map Co.ty) + cs.length + r.l.length ≤ Ty.szs (acc.map Co.ty) + acc.length + q.l.length := by
 intro g
 induction g with
 | zero => intro acc q cs r _ _ h; cases h
 | succ g ih =>
  intro acc q cs r hl ha h hg
  simp only [cosR] at h
  split at h
  · cases h
  · rename_i c r1 h1
    have key : r1.bad = false → (∀ c' ∈ acc ++ [c],c'.name.length ≤ 16 ∧ GT c'.ty) ∧ Ty.szs ((acc ++ [c]).map Co.ty) + (acc ++ [c]).length + r1.l.length ≤ Ty.szs (acc.map Co.ty) + acc.length + q.l.length := by
     intro g1
     have i := coR_ok hl h1 g1
     refine ⟨?_,?_⟩
     · intro c' hc
       rcases List.mem_append.1 hc with hc | hc
       · exact ha c' hc
       · rw [List.mem_singleton.1 hc]; exact i.1
     · rw [List.map_append,List.map_cons,List.map_nil,szs_snoc,List.length_append,List.length_singleton]
       have := i.2
       omega
    split at h
    · rename_i h2
      have k2 := takesR_len h2
      have k := key k2.2.2
      have j := ih (mem_suf hl ((takesR_suf _ _ _).trans (coR_suf h1))) k.1 h hg
      exact ⟨j.1,by have := j.2; have := k.2; omega⟩
    · injection h with h; injection h with h2 h; subst h2 h
      exact key hg
theorem deR_ok {f : Nat} {r : Rd} {d : De} {r' : Rd} (hl : ∀ t ∈ r.l,tokOK3 t) (h : deR f r = some (d,r')) (hg : r'.bad = false) : GD d ∧ d.tot + 3 * r'.l.length ≤ 3 * r.l.length := by
 unfold deR at h
 split at h
 · rename_i h1
   have k1 := takesR_len h1
   have sb := (behindR_suf (takeR (takesR r 3 [100,97,116,97]) 2 [])).trans ((takeR_suf _ _ _).trans (takesR_suf _ _ _))
   have hw : (wordR (takesR r 3 [100,97,116,97]) 2 []).length ≤ 16 := wordR_ok (mem_suf hl (takesR_suf _ _ _)) _ _
   have hn := namesR_ok (r := takeR (takesR r 3 [100,97,116,97]) 2 []) (mem_suf hl ((takeR_suf _ _ _).trans (takesR_suf _ _ _)))
   split at h
   · rename_i h2
     injection h with h; injection h with h3 h; subst h3 h
     have k2 := takesR_len h2
     have k3 := takeR_len k2.2.2
     have k4 := behindR_len k3.2
     have k5 := takeR_len k4.2
     refine ⟨.data _ _ _ hw hn (by simp),?_⟩
     simp only [De.tot,List.map_nil,Ty.szs,zTy_sz,zEx_tot,List.length_nil]
     omega
   · split at h
     · cases h
     · rename_i cs r5 h3
       injection h with h; injection h with h4 h; subst h4 h
       have k6 := takeR_len hg
       have g3 := cosR_good h3 k6.2
       have k3 := takeR_len g3
       have k4 := behindR_len k3.2
       have k5 := takeR_len k4.2
       have i := cosR_ok (mem_suf hl ((takeR_suf _ _ _).trans sb)) (by simp) h3 k6.2
       refine ⟨.data _ _ _ hw hn i.1,?_⟩
       simp only [De.tot,zTy_sz,zEx_tot]
       have := i.2
       simp only [List.map_nil,Ty.szs,List.length_nil] at this
       omega
 · split at h
   · rename_i h1
     have k1 := takesR_len h1
     have k0 := takeR_len k1.2.2
     split at h
     · cases h
     · rename_i t r2 h2
       injection h with h; injection h with h4 h; subst h4 h
       have i := typR_ok (mem_suf hl ((takesR_suf _ _ _).trans (takeR_suf _ _ _))) h2 hg
       refine ⟨.sig _ _ (wordR_ok hl _ _) i.1,?_⟩
       simp only [De.tot,zEx_tot,List.map_nil,Ty.szs,List.length_nil]
       have := i.2
       omega
   · split at h
     · cases h
     · rename_i x r3 h3
       injection h with h; injection h with h4 h; subst h4 h
       have k1 := takeR_len (exR_good h3 hg)
       have k0 := takeR_len k1.2
       have i := exR_ok _ _ _ _ _ (mem_suf hl ((takeR_suf _ _ _).trans (takeR_suf _ _ _))) h3 hg
       refine ⟨.bind _ _ (wordR_ok hl _ _) i.1,?_⟩
       simp only [De.tot,zTy_sz,List.map_nil,Ty.szs,List.length_nil]
       have := i.2
       omega
def De.sum (l : List De) : Nat := (l.map De.tot).sum
theorem desum_snoc (l : List De) (d : De) : De.sum (l ++ [d]) = De.sum l + d.tot := by simp [De.sum]
theorem desum_nil : De.sum [] = 0 := rfl
theorem de_tot_pos (d : De) : 1 ≤ d.tot := by unfold De.tot; have := tot_pos d.val; omega
theorem desum_mem {l : List De} {d : De} (h : d ∈ l) : d.tot ≤ De.sum l := by
 induction l with
 | nil => cases h
 | cons x l ih =>
  simp only [De.sum,List.map_cons,List.sum_cons] at ih ⊢
  rcases List.mem_cons.1 h with rfl | h
  · omega
  · have := ih h; omega
theorem desum_len (l : List De) : l.length ≤ De.sum l := by
 induction l with
 | nil => simp
 | cons x l ih =>
  simp only [De.sum,List.map_cons,List.sum_cons,List.length_cons] at ih ⊢
  have := de_tot_pos x
  omega
theorem desR_ok {f : Nat} : ∀ {g : Nat} {acc : List De} {q : Rd} {ds : List De} {r : Rd},(∀ t ∈ q.l,tokOK3 t) → (∀ d ∈ acc,GD d) → desR f g acc q = some (ds,r) → r.bad = false →
 (∀ d ∈ ds,GD d) ∧ De.sum ds + 3 * r.l.length ≤ De.sum acc + 3 * q.l.length := by
 intro g
 induction g with
 | zero => intro acc q cs r _ _ h; cases h
 | succ g ih =>
  intro acc q cs r hl ha h hg
  simp only [desR] at h
  split at h
  · cases h
  · rename_i c r1 h1
    have key : r1.bad = false → (∀ d ∈ acc ++ [c],GD d) ∧ De.sum (acc ++ [c]) + 3 * r1.l.length ≤ De.sum acc + 3 * q.l.length := by
     intro g1
     have i := deR_ok hl h1 g1
     refine ⟨?_,?_⟩
     · intro c' hc
       rcases List.mem_append.1 hc with hc | hc
       · exact ha c' hc
       · rw [List.mem_singleton.1 hc]; exact i.1
     · rw [desum_snoc]
       have := i.2
       omega
    split at h
    · rename_i h2
      have k2 := takesR_len h2
      have k := key k2.2.2
      have j := ih (mem_suf hl ((takesR_suf _ _ _).trans (deR_suf h1))) k.1 h hg
      exact ⟨j.1,by have := j.2; have := k.2; omega⟩
    · injection h with h; injection h with h2 h; subst h2 h
      exact key hg
theorem coR_tot {f : Nat} {q : Rd} (h : 5 * q.l.length + 4 ≤ f) : ∃ x,coR f q = some x := by
 have := len_suf ((takeR_suf (takeR q 2 []) 6 [58]).trans (takeR_suf _ _ _))
 obtain ⟨⟨t,r⟩,h1⟩ := typR_tot (f := f) (r := takeR (takeR q 2 []) 6 [58]) (by omega)
 unfold coR
 rw [h1]; exact ⟨_,rfl⟩
theorem cosR_tot {f : Nat} : ∀ (g : Nat) (acc : List Co) (q : Rd),5 * q.l.length + 4 ≤ f → q.l.length + 1 ≤ g → ∃ x,cosR f g acc q = some x := by
 intro g
 induction g with
 | zero => intro acc q _ h; omega
 | succ g ih =>
  intro acc q hf hg
  obtain ⟨⟨c,r⟩,h1⟩ := coR_tot hf
  simp only [cosR]
  rw [h1]
  simp only
  have := len_suf (coR_suf h1)
  split
  · rename_i h2
    have k2 := takesR_len h2
    exact ih _ _ (by omega) (by omega)
  · exact ⟨_,rfl⟩
theorem deR_tot {f : Nat} {r : Rd} (hl : ∀ t ∈ r.l,tokOK3 t) (h : 10 * r.l.length + 10 ≤ f) : ∃ x,deR f r = some x := by
 unfold deR
 split
 · have sb := (behindR_suf (takeR (takesR r 3 [100,97,116,97]) 2 [])).trans ((takeR_suf _ _ _).trans (takesR_suf _ _ _))
   have := len_suf ((takeR_suf (behindR (takeR (takesR r 3 [100,97,116,97]) 2 [])) 6 [123]).trans sb)
   split
   · exact ⟨_,rfl⟩
   · obtain ⟨⟨cs,r5⟩,h3⟩ := cosR_tot (f := f) f [] (takeR (behindR (takeR (takesR r 3 [100,97,116,97]) 2 [])) 6 [123]) (by omega) (by omega)
     rw [h3]; exact ⟨_,rfl⟩
 · split
   · have := len_suf ((takesR_suf (takeR r 1 []) 6 [58]).trans (takeR_suf _ _ _))
     obtain ⟨⟨t,r2⟩,h1⟩ := typR_tot (f := f) (r := takesR (takeR r 1 []) 6 [58]) (by omega)
     rw [h1]; exact ⟨_,rfl⟩
   · have s := (takeR_suf (takeR r 1 []) 6 [61]).trans (takeR_suf _ _ _)
     have := len_suf s
     obtain ⟨⟨x,r3⟩,h3⟩ := exR_tot f .expr (takeR (takeR r 1 []) 6 [61]) (mem_suf hl s) (needX_le (by omega) fun _ => by simp only [rankX]; omega)
     rw [h3]; exact ⟨_,rfl⟩
theorem desR_tot {f : Nat} : ∀ (g : Nat) (acc : List De) (q : Rd),(∀ t ∈ q.l,tokOK3 t) → 10 * q.l.length + 10 ≤ f → q.l.length + 1 ≤ g → ∃ x,desR f g acc q = some x := by
 intro g
 induction g with
 | zero => intro acc q _ _ h; omega
 | succ g ih =>
  intro acc q hl hf hg
  obtain ⟨⟨c,r⟩,h1⟩ := deR_tot hl hf
  simp only [desR]
  rw [h1]
  simp only
  have := len_suf (deR_suf h1)
  split
  · rename_i h2
    have k2 := takesR_len h2
    exact ih _ _ (mem_suf hl ((takesR_suf _ _ _).trans (deR_suf h1))) (by omega) (by omega)
  · exact ⟨_,rfl⟩
def F0 : Nat := 100000
theorem tok2 {l : List Tok} (h : ∀ t ∈ l,tokOK3 t) : ∀ t ∈ l,tokOK2 t := fun t ht => (h t ht).1
theorem tok1 {l : List Tok} (h : ∀ t ∈ l,tokOK3 t) : ∀ t ∈ l,tokOK t := fun t ht => (h t ht).1.one
theorem parseO_tot (s : List UInt8) : ∃ p,parseO F0 s = some p := by
 obtain ⟨h1,h2⟩ := scanO_ok s
 unfold parseO
 split
 · exact ⟨_,rfl⟩
 · have : ∃ x,desO F0 (scanO s).1 = some x := by
    unfold desO
    split
    · exact ⟨_,rfl⟩
    · rename_i t q hq
      rw [hq] at h1 h2
      exact desR_tot F0 [] ⟨t :: q,false⟩ h2 (by unfold F0; simp only; omega) (by unfold F0; simp only; omega)
   obtain ⟨⟨ds,r⟩,h3⟩ := this
   rw [h3]; exact ⟨_,rfl⟩
theorem desO_ok {f : Nat} {s : List UInt8} {ds : List De} {r : Rd} (h : desO f (scanO s).1 = some (ds,r)) (hg : r.bad = false) : (∀ d ∈ ds,GD d) ∧ De.sum ds ≤ 12000 := by
 obtain ⟨h1,h2⟩ := scanO_ok s
 unfold desO at h
 split at h
 · injection h with h; injection h with h3 h; subst h3; exact ⟨by simp,by rw [desum_nil]; omega⟩
 · rename_i t q hq
   rw [hq] at h1 h2
   have := desR_ok (q := ⟨t :: q,false⟩) h2 (by simp) h hg
   rw [desum_nil] at this
   exact ⟨this.1,by have := this.2; simp only at this; omega⟩
theorem desO_tot {f : Nat} {s : List UInt8} (ds : List De) (r : Rd) (h : desO f (scanO s).1 = some (ds,r)) (hg : r.bad = false) : ds.length < 1000000 ∧ ∀ d ∈ ds,d.tot < 1000000 := by
 have k := (desO_ok h hg).2
 have := desum_len ds
 exact ⟨by omega,fun d hd => by have := desum_mem hd; omega⟩
theorem parse_two {f : Nat} {s : List UInt8} {p : List De × Int} (hp : parseO f s = some p) : den E 78 [.str s] [] = some (parV p,[]) ∧ den E 79 [.str s] [] = some (parV p,[]) := by
 obtain ⟨h1,h2⟩ := scanO_ok s
 exact ⟨parse_den f s p (tok1 h2) (by omega) desO_tot hp,parse1_den f s p (tok2 h2) (by omega) desO_tot hp⟩
theorem join_le (l : List (List UInt8)) (sep : List UInt8) : (Lib.join l sep).length ≤ sep.length * l.length + Lib.lens l := by
 cases l with
 | nil => simp [Lib.join]
 | cons x r => rw [Lib.join_length,List.length_cons,Nat.mul_add]; omega
theorem lens_cons (x : List UInt8) (r : List (List UInt8)) : Lib.lens (x :: r) = x.length + Lib.lens r := by simp [Lib.lens]
theorem short_ok {s : List UInt8} (h : s.length ≤ 1000000000) : short s = some s := by unfold short lim; rw [if_pos h]
theorem fuel_succ {n f : Nat} (h : n ≤ f) (hn : 0 < n) : ∃ g,f = g + 1 ∧ n ≤ g + 1 := ⟨f - 1,by omega,by omega⟩
theorem GT.goodK {t : Ty} (h : GT t) : goodK t = true := by cases h <;> rfl
theorem sz_pos (t : Ty) : 1 ≤ t.sz := by rw [sz_eq]; omega
def PTot (t : Ty) : Prop := (∃ s,s.length + 8 ≤ 40 * t.sz ∧ ∀ f,3 * t.sz ≤ f → prR f .pr t = some s) ∧ (∃ s,s.length + 6 ≤ 40 * t.sz ∧ ∀ f,3 * t.sz + 1 ≤ f → prR f .tail t = some s)
theorem arg_tot {t : Ty} (h : GT t) (hs : t.sz ≤ 1000000) (hp : PTot t) : ∃ s,s.length + 6 ≤ 40 * t.sz ∧ ∀ f,3 * t.sz + 1 ≤ f → prR f .arg t = some s := by
 obtain ⟨⟨a,ha,hf⟩,_⟩ := hp
 have hk := h.goodK
 unfold Go.Proofs.goodK at hk
 cases hc : atomicT t
 · refine ⟨[40] ++ a ++ [41],by simp only [List.length_append,List.length_cons,List.length_nil]; omega,fun f h => ?_⟩
   obtain ⟨g,rfl,hg⟩ := fuel_succ h (by omega)
   simp only [prR,hk,if_true,hf g (by omega),hc,Bool.false_eq_true,if_false]
   exact short_ok (by simp only [List.length_append,List.length_cons,List.length_nil]; omega)
 · refine ⟨a,by omega,fun f h => ?_⟩
   obtain ⟨g,rfl,hg⟩ := fuel_succ h (by omega)
   simp only [prR,hk,if_true,hf g (by omega),hc]
theorem left_tot {t : Ty} (h : GT t) (hs : t.sz ≤ 1000000) (hp : PTot t) : ∃ s,s.length + 6 ≤ 40 * t.sz ∧ ∀ f,3 * t.sz + 1 ≤ f → prR f .left t = some s := by
 obtain ⟨⟨a,ha,hf⟩,_⟩ := hp
 have hk := h.goodK
 unfold Go.Proofs.goodK at hk
 cases hc : decide (t.kind < 4)
 · refine ⟨[40] ++ a ++ [41],by simp only [List.length_append,List.length_cons,List.length_nil]; omega,fun f h => ?_⟩
   obtain ⟨g,rfl,hg⟩ := fuel_succ h (by omega)
   simp only [prR,hk,if_true,hf g (by omega),hc,Bool.false_eq_true,if_false]
   exact short_ok (by simp only [List.length_append,List.length_cons,List.length_nil]; omega)
 · refine ⟨a,by omega,fun f h => ?_⟩
   obtain ⟨g,rfl,hg⟩ := fuel_succ h (by omega)
   simp only [prR,hk,if_true,hf g (by omega),hc]
theorem args_tot : ∀ (l : List Ty),(∀ x,x ∈ l → GT x) → Ty.szs l ≤ 1000000 → (∀ x,x ∈ l → x.sz ≤ 1000000 → PTot x) → ∃ ss,Lib.lens ss + 6 * l.length ≤ 40 * Ty.szs l ∧ ss.length = l.length ∧ ∀ f,3 * Ty.szs l + 1 ≤ f → argsR (prR f .arg) l = some ss
 | [],_,_,_ => ⟨[],by simp [Lib.lens],rfl,fun f _ => rfl⟩
 | x :: r,hg,hs,hp => by
  simp only [Ty.szs] at hs
  have hx : x ∈ x :: r := List.mem_cons_self ..
  obtain ⟨a,ha,hf⟩ := arg_tot (hg x hx) (by omega) (hp x hx (by omega))
  obtain ⟨ss,h1,h2,h3⟩ := args_tot r (fun y hy => hg y (List.mem_cons_of_mem _ hy)) (by omega) (fun y hy => hp y (List.mem_cons_of_mem _ hy))
  refine ⟨a :: ss,?_,by simp [h2],fun f hf' => ?_⟩
  · simp only [lens_cons,Ty.szs,List.length_cons]; omega
  · simp only [Ty.szs] at hf'
    simp only [argsR,hf f (by omega),h3 f (by omega)]
theorem prR_tot {t : Ty} (h : GT t) : t.sz ≤ 1000000 → PTot t := by
 have tl : ∀ {t : Ty},t.sz ≤ 1000000 → (t.kind == 5) = false → (∃ s,s.length + 8 ≤ 40 * t.sz ∧ ∀ f,3 * t.sz ≤ f → prR f .pr t = some s) → PTot t := by
  intro t hs hk hp
  refine ⟨hp,?_⟩
  obtain ⟨a,ha,hf⟩ := hp
  refine ⟨[46,32] ++ a,by simp only [List.length_append,List.length_cons,List.length_nil]; omega,fun f h => ?_⟩
  obtain ⟨g,rfl,hg⟩ := fuel_succ h (by omega)
  simp only [prR,hk,Bool.false_eq_true,if_false,hf g (by omega)]
  exact short_ok (by simp only [List.length_append,List.length_cons,List.length_nil]; omega)
 induction h with
 | var s h1 =>
  intro hs
  refine tl hs rfl ⟨s,by rw [sz_mk]; simp only [Ty.szs]; omega,fun f h => ?_⟩
  obtain ⟨g,rfl,hg⟩ := fuel_succ h (by have := sz_pos (.mk 1 s 0 []); omega)
  simp only [prR,Ty.kind]
  exact short_ok (by simp only [Ty.name]; omega)
 | unk n h1 h2 =>
  intro hs
  have hl : (Lib.itoa n).length ≤ 6 := by
   have := itoa_len 5 n.toNat (by omega)
   rwa [show ((n.toNat : Nat) : Int) = n by omega] at this
  refine tl hs rfl ⟨63 :: Lib.itoa n,by rw [sz_mk]; simp only [Ty.szs,List.length_cons]; omega,fun f h => ?_⟩
  obtain ⟨g,rfl,hg⟩ := fuel_succ h (by have := sz_pos (.mk 2 [] n []); omega)
  have hc : (0 ≤ n ∧ n < 1000000000) = True := eq_true ⟨h1,by omega⟩
  simp only [prR,Ty.kind,Ty.n,beq_self_eq_true,if_true,hc]
  exact short_ok (by simp only [List.length_cons]; omega)
 | con s a h1 h2 ih =>
  intro hs
  rw [sz_mk] at hs
  obtain ⟨ss,h3,h4,h5⟩ := args_tot a h2 (by omega) ih
  have hj := join_le (s :: ss) [32]
  rw [lens_cons] at hj
  simp only [List.length_cons,List.length_nil] at hj
  have hsz := szs_len a
  refine tl (by rw [sz_mk]; exact hs) rfl ⟨Lib.join (s :: ss) [32],by rw [sz_mk]; omega,fun f h => ?_⟩
  rw [sz_mk] at h
  obtain ⟨g,rfl,hg⟩ := fuel_succ h (by omega)
  simp only [prR,Ty.kind,Ty.args,Ty.name,h5 g (by omega)]
  exact short_ok (by omega)
 | fn x y hx hy ihx ihy =>
  intro hs
  rw [sz_mk,szs_two] at hs
  obtain ⟨a,ha,fa⟩ := left_tot hx (by omega) (ihx (by omega))
  obtain ⟨⟨b,hb,fb⟩,_⟩ := ihy (by omega)
  refine tl (by rw [sz_mk,szs_two]; exact hs) rfl ⟨a ++ [32,45,62,32] ++ b,by rw [sz_mk,szs_two]; simp only [List.length_append,List.length_cons,List.length_nil]; omega,fun f h => ?_⟩
  rw [sz_mk,szs_two] at h
  obtain ⟨g,rfl,hg⟩ := fuel_succ h (by omega)
  have := sz_pos y
  have := sz_pos x
  simp only [prR,Ty.kind,Ty.args,kids2,fa g (by omega),fb g (by omega)]
  exact short_ok (by simp only [List.length_append,List.length_cons,List.length_nil]; omega)
 | all s x h1 hx ih =>
  intro hs
  rw [sz_mk,szs_one] at hs
  obtain ⟨_,⟨a,ha,fa⟩⟩ := ih (by omega)
  refine ⟨⟨[102,111,114,97,108,108,32] ++ s ++ a,by rw [sz_mk,szs_one]; simp only [List.length_append,List.length_cons,List.length_nil]; omega,fun f h => ?_⟩,⟨[32] ++ s ++ a,by rw [sz_mk,szs_one]; simp only [List.length_append,List.length_cons,List.length_nil]; omega,fun f h => ?_⟩⟩
  · rw [sz_mk,szs_one] at h
    obtain ⟨g,rfl,hg⟩ := fuel_succ h (by omega)
    simp only [prR,Ty.kind,Ty.args,Ty.name,kids1,fa g (by omega)]
    exact short_ok (by simp only [List.length_append,List.length_cons,List.length_nil]; omega)
  · rw [sz_mk,szs_one] at h
    obtain ⟨g,rfl,hg⟩ := fuel_succ h (by omega)
    simp only [prR,Ty.kind,Ty.args,Ty.name,kids1,fa g (by omega)]
    exact short_ok (by simp only [List.length_append,List.length_cons,List.length_nil]; omega)
theorem pr_tot {t : Ty} (h : GT t) (hs : t.sz ≤ 1000000) : ∃ s,s.length + 8 ≤ 40 * t.sz ∧ ∀ f,3 * t.sz ≤ f → prR f .pr t = some s := (prR_tot h hs).1
theorem desum_cons (d : De) (l : List De) : De.sum (d :: l) = d.tot + De.sum l := by simp [De.sum]
theorem parse_good {f : Nat} {s : List UInt8} {p : List De × Int} (h : parseO f s = some p) (h0 : p.2 = 0) : (∀ d ∈ p.1,GD d) ∧ De.sum p.1 ≤ 12000 := by
 unfold parseO at h
 split at h
 · injection h with h; subst h; exact ⟨by simp,by rw [desum_nil]; omega⟩
 · split at h
   · cases h
   · rename_i ds r hd
     injection h with h; subst h
     unfold endO at h0 ⊢
     cases hb : r.bad
     · have k := desO_ok hd hb
       rw [hb] at h0
       split at h0
       · exact absurd h0 (by decide)
       · split at h0
         · exact absurd h0 (by decide)
         · rename_i h3 h4
           rw [if_neg (by simpa using h3),if_neg h4]
           exact k
     · rw [hb] at h0; simp at h0
end Go.Proofs
