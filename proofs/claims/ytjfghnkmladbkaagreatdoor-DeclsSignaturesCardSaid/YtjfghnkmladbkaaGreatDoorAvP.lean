/- The examples of the chapter; the law. -/
import Derived.Test.YtjfghnkmladbkaaGreatDoorAvM
import Derived.Test.YtjfghnkmladbkaaGreatDoorAvK
namespace Go.Proofs
open Go.Av
set_option maxHeartbeats 64000000
set_option maxRecDepth 100000
theorem intsGet (l : List Int) (i : Nat) : (l.map intA)[i]? = (l[i]?).map intA := by simp
def idxI : List Int → Int → Nat → Int
 | [],_,_ => -1
 | x :: r,n,i => if n == x then (i : Int) else idxI r n (i + 1)
theorem idxI_ge : ∀ (l : List Int) (n : Int) (i : Nat),decide (idxI l n i ≥ 0) = l.contains n
 | [],n,i => rfl
 | x :: r,n,i => by
  rw [List.contains_cons]
  unfold idxI
  cases h : n == x
  · simp only [Bool.false_eq_true,if_false,Bool.false_or]; exact idxI_ge r n (i + 1)
  · simp
theorem indexI_den (l : List Int) (n : Int) (hl : l.length < 1000000) : den E 156 [.slice (l.map intA),.int .i64 n] [] = some (.int .i64 (idxI l n 0),[]) := by
 rw [den_eq prim_156,body_156]
 simp only [go_sem,Tryz.f156,List.length_map]
 refine run_ind (fun i : Nat => i ≤ l.length) (fun i => ⟨[(0,.slice (l.map intA)),(1,.int .i64 n),(7,.int .i64 l.length),(8,.int .i64 i)],[],[],1⟩) (fun i => some (.int .i64 (idxI (l.drop i) n i),[])) (fun i => l.length - i) 0 (Nat.zero_le _) ?_ ?_
 · simp only [go_sem]
 · intro i hi h
   by_cases hlt : i < l.length
   · obtain ⟨x,hx⟩ := getS hlt
     rw [dropGet hx]
     have w1 : IntKind.i64.wrap ((i : Int) + 1) = ((i + 1 : Nat) : Int) := wrapN (i + 1) (by omega)
     cases hq : n == x
     · simp only [go_sem,natlt,decide_eq_true hlt,natge0,tonat,intsGet,hx,hq,idxI,intA]
       refine h (i + 1) _ (by omega) (by omega) ?_
       simp only [go_sem,w1]
     · simp only [go_sem,natlt,decide_eq_true hlt,natge0,tonat,intsGet,hx,hq,idxI,intA]
   · have hie : i = l.length := by omega
     subst hie
     rw [List.drop_length]
     simp only [go_sem,natlt,Nat.lt_irrefl,idxI]
theorem containsI_den (l : List Int) (n : Int) (hl : l.length < 1000000) : den E 93 [.slice (l.map intA),.int .i64 n] [] = some (.bool (l.contains n),[]) := by
 rw [den_eq prim_93,body_93]
 have h1 := indexI_den l n hl
 have h2 := idxI_ge l n 0
 simp only [go_sem,Tryz.f93,h1,h2]
def addI (l : List Int) (n : Int) : List Int := if l.contains n then l else l ++ [n]
def metAt (t : Ty) (acc : List Int) : List Int := if t.kind == 2 then addI acc t.n else acc
mutual
def metT : Ty → List Int → List Int
 | .mk k s n a,acc => metTs a (metAt (.mk k s n a) acc)
def metTs : List Ty → List Int → List Int
 | [],acc => acc
 | t :: r,acc => metTs r (metT t acc)
end
theorem metT_eq (t : Ty) (acc : List Int) : metT t acc = metTs t.args (metAt t acc) := by
 cases t; simp only [metT,Ty.args]
theorem metTs_nil (acc : List Int) : metTs [] acc = acc := by simp only [metTs]
theorem metTs_cons (t : Ty) (r : List Ty) (acc : List Int) : metTs (t :: r) acc = metTs r (metT t acc) := by simp only [metTs]
theorem metAt_le (t : Ty) (acc : List Int) : (metAt t acc).length ≤ acc.length + 1 := by
 unfold metAt addI; split
 · split
   · omega
   · simp
 · omega
theorem metT_le : ∀ (n : Nat) (t : Ty),t.sz ≤ n → ∀ acc,(metT t acc).length ≤ acc.length + t.sz := by
 intro n
 induction n with
 | zero => intro t h; have := sz_eq t; omega
 | succ n ih =>
  have hs : ∀ (l : List Ty) acc,Ty.szs l ≤ n → (metTs l acc).length ≤ acc.length + Ty.szs l := by
   intro l
   induction l with
   | nil => intro acc _; rw [metTs_nil]; omega
   | cons x r ihr =>
    intro acc hl
    rw [szs_cons] at hl ⊢
    rw [metTs_cons]
    have := ih x (by omega) acc
    have := ihr (metT x acc) (by omega)
    omega
  intro t h acc
  have := sz_eq t
  have h1 := metAt_le t acc
  have h2 := hs t.args (metAt t acc) (by omega)
  rw [metT_eq]; omega
theorem metfn_den (t : Ty) (b : List (List UInt8)) (acc : List Int) (h : acc.length < 1000000) : den E 92 [tyV t,.pmap (entsV b),.ptr (.par 0) 0] [[.own 3 0 (acc.map intA)]] = some (.tup [],[[.own 3 0 ((metAt t acc).map intA)]]) := by
 rw [den_eq prim_92,body_92,tyV_eq]
 have hc := containsI_den acc t.n h
 have a1 : acc.length + 1 ≤ appMax := by unfold appMax; omega
 unfold metAt addI
 cases h1 : t.kind == 2
 · simp only [go_sem,Tryz.f92,h1]
 · cases h3 : acc.contains t.n
   · rw [h3] at hc
     simp only [go_sem,Tryz.f92,h1,hc,a1,List.length_map,List.map_append,intA]
   · rw [h3] at hc
     simp only [go_sem,Tryz.f92,h1,hc]
theorem mwalk_den : ∀ (n : Nat) (t : Ty),t.sz ≤ n → ∀ (b : List (List UInt8)) (acc : List Int),acc.length + t.sz < 1000000 → den E 90 [tyV t,.pmap (entsV b),.func 92 [] [.ptr (.par 0) 0]] [[.own 3 0 (acc.map intA)]] = some (.tup [],[[.own 3 0 ((metT t acc).map intA)]]) := by
 intro n
 induction n with
 | zero => intro t h; have := sz_eq t; omega
 | succ n ih =>
 intro t hn b acc hm
 have hsz := sz_eq t
 have d0 := metfn_den t b acc (by omega)
 have hl0 := metAt_le t acc
 rw [den_eq prim_90,body_90,metT_eq]
 generalize metAt t acc = a0 at *
 rw [tyV_eq] at d0 ⊢
 obtain ⟨b',hb'⟩ : ∃ b',b' = (if t.kind == 5 then addS b t.name else b) := ⟨_,rfl⟩
 cases h5 : t.kind == 5
 · rw [h5] at hb'
   simp only [Bool.false_eq_true,if_false] at hb'
   subst hb'
   simp only [go_sem,Tryz.f90,d0,h5,tysV_len]
   refine run_ind (fun x : Nat × List Int => x.1 ≤ t.args.length ∧ x.2.length + Ty.szs (t.args.drop x.1) ≤ a0.length + Ty.szs t.args ∧ metTs (t.args.drop x.1) x.2 = metTs t.args a0)
    (fun x => ⟨[(1,.pmap (entsV b')),(2,.func 92 [] [.ptr (.par 0) 0]),(21,.slice (tysV t.args)),(22,.int .i64 t.args.length),(23,.int .i64 x.1)],[[.own 3 0 (x.2.map intA)]],[],1⟩)
    (fun _ => some (.tup [],[[.own 3 0 ((metTs t.args a0).map intA)]])) (fun x => t.args.length - x.1) (0,a0) ⟨Nat.zero_le _,by simp,rfl⟩ ?_ ?_
   · simp only [go_sem]
   · rintro ⟨i,a1⟩ ⟨hi,ha,hf⟩ h
     simp only at hi ha hf h ⊢
     by_cases hlt : i < t.args.length
     · obtain ⟨x,hx⟩ := getS hlt
       have hxs := szs_mem (List.mem_of_getElem? hx)
       rw [dropGet hx,szs_cons] at ha
       rw [dropGet hx,metTs_cons] at hf
       have w1 : IntKind.i64.wrap ((i : Int) + 1) = ((i + 1 : Nat) : Int) := wrapN (i + 1) (by have := args_len t; omega)
       have d := ih x (by omega) b' a1 (by omega)
       have hl := metT_le _ x (Nat.le_refl _) a1
       generalize metT x a1 = a2 at *
       rw [tyV_eq] at d
       simp only [go_sem,natlt,decide_eq_true hlt,natge0,tonat,tysGet,hx,tyV_eq,d]
       refine h (i + 1,a2) _ ⟨by omega,by simp only; omega,hf⟩ (by simp only; omega) ?_
       simp only [go_sem,w1]
     · have hie : i = t.args.length := by omega
       subst hie
       rw [List.drop_length,metTs_nil] at hf
       subst hf
       simp only [go_sem,natlt,Nat.lt_irrefl]
 · rw [h5] at hb'
   simp only [if_true] at hb'
   have hc : den E 155 [.pmap (entsV b)] [] = some (.own mapT 0 (entsV b),[]) := den_prim prim_155
   have hu := upd_ents t.name b
   rw [← hb'] at hu
   clear hb'
   simp only [go_sem,Tryz.f90,d0,h5,tysV_len,hc,hu]
   refine run_ind (fun x : Nat × List Int => x.1 ≤ t.args.length ∧ x.2.length + Ty.szs (t.args.drop x.1) ≤ a0.length + Ty.szs t.args ∧ metTs (t.args.drop x.1) x.2 = metTs t.args a0)
    (fun x => ⟨[(1,.pmap (entsV b')),(2,.func 92 [] [.ptr (.par 0) 0]),(21,.slice (tysV t.args)),(22,.int .i64 t.args.length),(23,.int .i64 x.1)],[[.own 3 0 (x.2.map intA)]],[],1⟩)
    (fun _ => some (.tup [],[[.own 3 0 ((metTs t.args a0).map intA)]])) (fun x => t.args.length - x.1) (0,a0) ⟨Nat.zero_le _,by simp,rfl⟩ ?_ ?_
   · simp only [go_sem]
   · rintro ⟨i,a1⟩ ⟨hi,ha,hf⟩ h
     simp only at hi ha hf h ⊢
     by_cases hlt : i < t.args.length
     · obtain ⟨x,hx⟩ := getS hlt
       have hxs := szs_mem (List.mem_of_getElem? hx)
       rw [dropGet hx,szs_cons] at ha
       rw [dropGet hx,metTs_cons] at hf
       have w1 : IntKind.i64.wrap ((i : Int) + 1) = ((i + 1 : Nat) : Int) := wrapN (i + 1) (by have := args_len t; omega)
       have d := ih x (by omega) b' a1 (by omega)
       have hl := metT_le _ x (Nat.le_refl _) a1
       generalize metT x a1 = a2 at *
       rw [tyV_eq] at d
       simp only [go_sem,natlt,decide_eq_true hlt,natge0,tonat,tysGet,hx,tyV_eq,d]
       refine h (i + 1,a2) _ ⟨by omega,by simp only; omega,hf⟩ (by simp only; omega) ?_
       simp only [go_sem,w1]
     · have hie : i = t.args.length := by omega
       subst hie
       rw [List.drop_length,metTs_nil] at hf
       subst hf
       simp only [go_sem,natlt,Nat.lt_irrefl]
theorem metas_den (t : Ty) (h : t.sz < 1000000) : den E 33 [tyV t] [] = some (.slice ((metT t []).map intA),[]) := by
 have d := mwalk_den _ t (Nat.le_refl _) [] [] (by simpa using h)
 rw [den_eq prim_33,body_33]
 rw [show entsV [] = [] from rfl] at d
 rw [tyV_eq] at d ⊢
 simp only [List.map_nil] at d
 simp only [go_sem,Tryz.f33,d]
theorem gt0 (n : Nat) : decide ((n : Int) > 0) = decide (0 < n) := by simp
theorem tparse_ex (s : List UInt8) : (∃ e : Int,(e != 0) = true ∧ den E 30 [.str s] [] = some (.tup [tyV zTy,.int .i64 e],[])) ∨
 ∃ l t,scanO s = (l,0) ∧ tyR F0 .typ l = some (t,true,[]) ∧ t.depth ≤ 50 ∧ GT t ∧ t.sz ≤ 4000 ∧ den E 30 [.str s] [] = some (.tup [tyV t,.int .i64 0],[]) := by
 obtain ⟨pos,hT⟩ := scanO_T s
 have hsc := scanAll_den s
 rw [hT] at hsc
 obtain ⟨h1,h2⟩ := scanO_ok s
 cases h0 : (scanO s).2 != 0
 · have h00 : (scanO s).2 = 0 := by rw [bne_not] at h0; simpa using h0
   obtain ⟨⟨t,ok,l'⟩,hr⟩ := tyR_tot F0 .typ (scanO s).1 (by unfold F0; simp only [rankT]; omega)
   have hd := tread_den (scanO s).1 F0 (t,ok,l') (tok1 h2) (by omega) hr
   cases ok with
   | false =>
    left
    refine ⟨20,by decide,?_⟩
    simp only [Bool.false_eq_true,if_false] at hd
    rw [den_eq prim_30,body_30]
    rw [zTyV] at hd ⊢
    simp only [go_sem,Tryz.f30,hsc,h0,hd]
   | true =>
    simp only [if_true] at hd
    have g := gt0 l'.length
    have k := toksV_len l'
    cases hl : decide (0 < l'.length)
    · have hl0 : l' = [] := by
       cases l' with
       | nil => rfl
       | cons a b => simp at hl
      subst hl0
      have ok := tyR_ok F0 .typ _ t [] h2 hr
      have ok : GT t ∧ t.sz + ([] : List Tok).length ≤ (scanO s).1.length := ok
      have hs : t.sz ≤ 4000 := by have := ok.2; simp at this; omega
      have dd := tdepth_den _ t (Nat.le_refl _) (by omega)
      have td := tyDeep t
      cases hdp : decide (t.depth > 50)
      · right
        refine ⟨(scanO s).1,t,by rw [← h00],hr,by simpa using hdp,ok.1,hs,?_⟩
        rw [hdp] at td
        rw [den_eq prim_30,body_30]
        rw [tyV_eq] at hd dd ⊢
        simp only [go_sem,Tryz.f30,hsc,h0,hd,toksV_nil,dd,td,gt_iff_lt,Int.lt_irrefl]
      · left
        refine ⟨3,by decide,?_⟩
        rw [hdp] at td
        rw [den_eq prim_30,body_30]
        rw [tyV_eq] at hd dd
        rw [zTyV]
        simp only [go_sem,Tryz.f30,hsc,h0,hd,toksV_nil,dd,td,gt_iff_lt,Int.lt_irrefl]
    · left
      refine ⟨20,by decide,?_⟩
      rw [hl] at g
      rw [den_eq prim_30,body_30]
      rw [tyV_eq] at hd
      rw [zTyV]
      simp only [go_sem,Tryz.f30,hsc,h0,hd,k,g]
 · left
   refine ⟨(scanO s).2,h0,?_⟩
   rw [den_eq prim_30,body_30]
   rw [zTyV]
   simp only [go_sem,Tryz.f30,hsc,h0]
def cS (t : Ty) : List UInt8 := (prR (3 * (canonT t).sz) .pr (canonT t)).getD []
theorem canonS_den (t : Ty) (hg : GT t) (hb : t.sz < 20000) : den E 85 [tyV t] [] = some (.str (cS t),[]) := by
 obtain ⟨s,h1,h2⟩ := canonF_den t hg hb
 unfold cS
 rw [h1 _ (Nat.le_refl _)]; exact h2
theorem canonT_ok (t : Ty) (hg : GT t) (hb : t.sz < 20000) : GT (canonT t) ∧ (canonT t).sz = t.sz := by
 have hle := freeT_le _ t (Nat.le_refl _) [] []
 simp only [List.length_nil,Nat.zero_add] at hle
 have hp : t.sz * ((freeT t [] []).length + 1) ≤ 20000 * 20001 := Nat.mul_le_mul (by omega) (by omega)
 obtain ⟨_,g,hs,_⟩ := numF_den (freeT t [] []) (by omega) _ t (Nat.le_refl _) hg (by omega) 0 (by omega)
 exact ⟨g,hs⟩
theorem cS_len (t : Ty) (hg : GT t) (hb : t.sz < 20000) : (cS t).length ≤ 800000 := by
 obtain ⟨g,hs⟩ := canonT_ok t hg hb
 obtain ⟨s,h1,h2⟩ := pr_tot g (by omega)
 unfold cS
 rw [h2 _ (Nat.le_refl _)]
 simp only [Option.getD_some]; omega
def tx1 : List (List UInt8) → List UInt8 → List UInt8
 | [],s => s
 | u :: r,s => tx1 r (s ++ [32] ++ u)
def tx2 : List Gv → List UInt8 → List UInt8
 | [],s => s
 | g :: r,s => tx2 r (s ++ [59,32] ++ g.name ++ [58,32] ++ cS g.l ++ [32,126,32] ++ cS g.r)
def tx3 : List Ty → List UInt8 → List UInt8
 | [],s => s
 | t :: r,s => tx3 r (s ++ [59,32] ++ cS t)
def textF (c : CX) : List UInt8 := tx3 c.args (tx2 c.givens (tx1 c.exis (tx1 c.univ (c.name ++ [32] ++ c.data ++ [32] ++ Lib.itoa (max 0 c.tag) ++ [32] ++ cS c.ty) ++ [59])))
structure OkX (c : CX) : Prop where
 nm : c.name.length ≤ 16
 dt : c.data.length ≤ 16
 tag : 0 ≤ c.tag ∧ c.tag < 100000000
 ty : GT c.ty ∧ c.ty.sz < 20000
 un : c.univ.length ≤ 100000 ∧ ∀ u ∈ c.univ,u.length ≤ 16
 ex : c.exis.length ≤ 100000 ∧ ∀ u ∈ c.exis,u.length ≤ 16
 gv : c.givens.length ≤ 100000 ∧ ∀ g ∈ c.givens,g.name.length ≤ 16 ∧ (GT g.l ∧ g.l.sz < 20000) ∧ GT g.r ∧ g.r.sz < 20000
 ar : c.args.length ≤ 100000 ∧ ∀ t ∈ c.args,GT t ∧ t.sz < 20000
structure TxS where
 i : Nat
 s : List UInt8
theorem gvGet (l : List Gv) (i : Nat) : (l.map gvV)[i]? = (l[i]?).map gvV := by simp
theorem sle {n : Nat} (h : n ≤ 1000000000000) : (n ≤ strMax) = True := by unfold strMax; simp; omega
theorem ctext_den (c : CX) (h : OkX c) : den E 28 [.agg (xcC c)] [] = some (.str (textF c),[]) := by
 obtain ⟨k1,k2,⟨k3,k3'⟩,⟨k4,k4'⟩,⟨k5,k5'⟩,⟨k6,k6'⟩,⟨k7,k7'⟩,⟨k8,k8'⟩⟩ := h
 obtain ⟨tg,htg⟩ : ∃ n : Nat,c.tag = n := ⟨c.tag.toNat,by omega⟩
 have d1 := decimal_den tg (by omega)
 have dc := canonS_den c.ty k4 k4'
 have lc := cS_len c.ty k4 k4'
 have li := itoa_len 8 tg (by
  have e : (10 : Nat) ^ (8 + 1) = 1000000000 := by decide
  omega)
 rw [tyV_eq] at dc
 rw [den_eq prim_28,body_28]
 obtain ⟨fin,hfin⟩ : ∃ fin,fin = (some (.str (textF c),[]) : Option (AVal × Heap)) := ⟨_,rfl⟩
 rw [← hfin]
 unfold textF at hfin
 rw [htg] at hfin
 have hmx : max (0 : Int) (tg : Int) = (tg : Int) := by omega
 have hmx2 : (if (tg : Int) > 0 then (tg : Int) else 0) = (tg : Int) := by split <;> omega
 rw [hmx] at hfin
 have l1 : (c.name.length + 1 ≤ strMax) = True := sle (by omega)
 have l2 : ((c.name ++ [32]).length + c.data.length ≤ strMax) = True := sle (by simp; omega)
 have l3 : ((c.name ++ [32] ++ c.data).length + 1 ≤ strMax) = True := sle (by simp; omega)
 have l4 : ((c.name ++ [32] ++ c.data ++ [32]).length + (Lib.itoa (tg : Int)).length ≤ strMax) = True := sle (by simp; omega)
 have l5 : ((c.name ++ [32] ++ c.data ++ [32] ++ Lib.itoa (tg : Int)).length + 1 ≤ strMax) = True := sle (by simp; omega)
 have l6 : ((c.name ++ [32] ++ c.data ++ [32] ++ Lib.itoa (tg : Int) ++ [32]).length + (cS c.ty).length ≤ strMax) = True := sle (by simp; omega)
 have hb0 : (c.name ++ [32] ++ c.data ++ [32] ++ Lib.itoa (tg : Int) ++ [32] ++ cS c.ty).length ≤ 1000000 := by simp; omega
 simp only [go_sem,Tryz.f28,xcC,htg,hmx2,d1,dc,l1,l2,l3,l4,l5,l6]
 generalize (c.name ++ [32] ++ c.data ++ [32] ++ Lib.itoa (tg : Int) ++ [32] ++ cS c.ty) = S0 at hfin hb0 ⊢
 obtain ⟨T1,hT1⟩ : ∃ T1,T1 = tx1 c.univ S0 := ⟨_,rfl⟩
 rw [← hT1] at hfin
 clear l1 l2 l3 l4 l5 l6 d1 dc lc li
 refine run_ind (fun a : TxS => a.i ≤ c.univ.length ∧ tx1 (c.univ.drop a.i) a.s = T1 ∧ a.s.length ≤ 1000000 + 17 * a.i) (fun a => ⟨[(1,.ptr (.loc 1) 0),(3,.str a.s),(4,.int .i64 a.i)],[],[(1,xcC c)],1⟩) (fun _ => fin) (fun a => c.univ.length - a.i) ⟨0,S0⟩ ⟨Nat.zero_le _,hT1.symm,by simp only; omega⟩ ?_ ?_
 · simp only [go_sem,xcC,htg]
 · rintro ⟨i,s⟩ ⟨hi,hs,hl⟩ h
   simp only at hi hs hl ⊢
   by_cases hlt : i < c.univ.length
   · obtain ⟨u,hu⟩ := getS hlt
     rw [dropGet hu] at hs
     have hs : tx1 (c.univ.drop (i + 1)) (s ++ [32] ++ u) = T1 := hs
     have lu := k5' u (List.mem_of_getElem? hu)
     have w1 : IntKind.i64.wrap ((i : Int) + 1) = ((i + 1 : Nat) : Int) := wrapN (i + 1) (by omega)
     have l1 : (s.length + 1 ≤ strMax) = True := sle (by omega)
     have l2 : ((s ++ [32]).length + u.length ≤ strMax) = True := sle (by simp; omega)
     simp only [go_sem,xcC,htg,List.length_map,natlt,decide_eq_true hlt,natge0,tonat,strsGet,hu,l1,l2]
     refine h ⟨i + 1,s ++ [32] ++ u⟩ _ ⟨show i + 1 ≤ c.univ.length by omega,hs,by simp; omega⟩ (show c.univ.length - (i + 1) < c.univ.length - i by omega) ?_
     simp only [go_sem,xcC,htg,w1]
   · have hie : i = c.univ.length := by omega
     subst hie
     rw [List.drop_length] at hs
     have hs : s = T1 := hs
     subst hs
     have l1 : (s.length + 1 ≤ strMax) = True := sle (by omega)
     have hl1 : (s ++ [59]).length ≤ 3000000 := by simp; omega
     simp only [go_sem,xcC,htg,List.length_map,natlt,Nat.lt_irrefl,l1]
     clear h
     generalize s ++ [59] = S1 at hfin hl1 ⊢
     obtain ⟨T2,hT2⟩ : ∃ T2,T2 = tx1 c.exis S1 := ⟨_,rfl⟩
     rw [← hT2] at hfin
     refine run_ind (fun a : TxS => a.i ≤ c.exis.length ∧ tx1 (c.exis.drop a.i) a.s = T2 ∧ a.s.length ≤ 3000000 + 17 * a.i) (fun a => ⟨[(1,.ptr (.loc 1) 0),(3,.str a.s),(5,.int .i64 a.i)],[],[(1,xcC c)],1⟩) (fun _ => fin) (fun a => c.exis.length - a.i) ⟨0,S1⟩ ⟨Nat.zero_le _,hT2.symm,by simp only; omega⟩ ?_ ?_
     · simp only [go_sem,xcC,htg]
     · rintro ⟨i,s2⟩ ⟨hi2,hs2,hl2⟩ h
       simp only at hi2 hs2 hl2 ⊢
       by_cases hlt : i < c.exis.length
       · obtain ⟨u,hu⟩ := getS hlt
         rw [dropGet hu] at hs2
         have hs2 : tx1 (c.exis.drop (i + 1)) (s2 ++ [32] ++ u) = T2 := hs2
         have lu := k6' u (List.mem_of_getElem? hu)
         have w1 : IntKind.i64.wrap ((i : Int) + 1) = ((i + 1 : Nat) : Int) := wrapN (i + 1) (by omega)
         have l1 : (s2.length + 1 ≤ strMax) = True := sle (by omega)
         have l2 : ((s2 ++ [32]).length + u.length ≤ strMax) = True := sle (by simp; omega)
         simp only [go_sem,xcC,htg,List.length_map,natlt,decide_eq_true hlt,natge0,tonat,strsGet,hu,l1,l2]
         refine h ⟨i + 1,s2 ++ [32] ++ u⟩ _ ⟨show i + 1 ≤ c.exis.length by omega,hs2,by simp; omega⟩ (show c.exis.length - (i + 1) < c.exis.length - i by omega) ?_
         simp only [go_sem,xcC,htg,w1]
       · have hie : i = c.exis.length := by omega
         subst hie
         rw [List.drop_length] at hs2
         have hs2 : s2 = T2 := hs2
         subst hs2
         have hl3 : s2.length ≤ 5000000 := by omega
         simp only [go_sem,xcC,htg,List.length_map,natlt,Nat.lt_irrefl]
         clear h hl2
         obtain ⟨T3,hT3⟩ : ∃ T3,T3 = tx2 c.givens s2 := ⟨_,rfl⟩
         rw [← hT3] at hfin
         refine run_ind (fun a : TxS => a.i ≤ c.givens.length ∧ tx2 (c.givens.drop a.i) a.s = T3 ∧ a.s.length ≤ 5000000 + 1700000 * a.i) (fun a => ⟨[(1,.ptr (.loc 1) 0),(3,.str a.s),(6,.int .i64 a.i)],[],[(1,xcC c)],1⟩) (fun _ => fin) (fun a => c.givens.length - a.i) ⟨0,s2⟩ ⟨Nat.zero_le _,hT3.symm,by simp only; omega⟩ ?_ ?_
         · simp only [go_sem,xcC,htg]
         · rintro ⟨i,s3⟩ ⟨hi3,hs3,hl4⟩ h
           simp only at hi3 hs3 hl4 ⊢
           by_cases hlt : i < c.givens.length
           · obtain ⟨g,hu⟩ := getS hlt
             rw [dropGet hu] at hs3
             have hs3 : tx2 (c.givens.drop (i + 1)) (s3 ++ [59,32] ++ g.name ++ [58,32] ++ cS g.l ++ [32,126,32] ++ cS g.r) = T3 := hs3
             obtain ⟨lu,⟨gl,gl'⟩,gr,gr'⟩ := k7' g (List.mem_of_getElem? hu)
             have dl := canonS_den g.l gl gl'
             have ll := cS_len g.l gl gl'
             have dr := canonS_den g.r gr gr'
             have lr := cS_len g.r gr gr'
             rw [tyV_eq] at dl dr
             have w1 : IntKind.i64.wrap ((i : Int) + 1) = ((i + 1 : Nat) : Int) := wrapN (i + 1) (by omega)
             have l1 : (s3.length + 2 ≤ strMax) = True := sle (by omega)
             have l2 : ((s3 ++ [59,32]).length + g.name.length ≤ strMax) = True := sle (by simp; omega)
             have l3 : ((s3 ++ [59,32] ++ g.name).length + 2 ≤ strMax) = True := sle (by simp; omega)
             have l4 : ((s3 ++ [59,32] ++ g.name ++ [58,32]).length + (cS g.l).length ≤ strMax) = True := sle (by simp; omega)
             have l5 : ((s3 ++ [59,32] ++ g.name ++ [58,32] ++ cS g.l).length + 3 ≤ strMax) = True := sle (by simp; omega)
             have l6 : ((s3 ++ [59,32] ++ g.name ++ [58,32] ++ cS g.l ++ [32,126,32]).length + (cS g.r).length ≤ strMax) = True := sle (by simp; omega)
             simp only [go_sem,xcC,htg,List.length_map,natlt,decide_eq_true hlt,natge0,tonat,gvGet,hu,gvV_eq,dl,dr,l1,l2,l3,l4,l5,l6]
             refine h ⟨i + 1,s3 ++ [59,32] ++ g.name ++ [58,32] ++ cS g.l ++ [32,126,32] ++ cS g.r⟩ _ ⟨show i + 1 ≤ c.givens.length by omega,hs3,by simp; omega⟩ (show c.givens.length - (i + 1) < c.givens.length - i by omega) ?_
             simp only [go_sem,xcC,htg,w1]
           · have hie : i = c.givens.length := by omega
             subst hie
             rw [List.drop_length] at hs3
             have hs3 : s3 = T3 := hs3
             subst hs3
             have hl5 : s3.length ≤ 200000000000 := by omega
             simp only [go_sem,xcC,htg,List.length_map,natlt,Nat.lt_irrefl]
             clear h hl4
             obtain ⟨T4,hT4⟩ : ∃ T4,T4 = tx3 c.args s3 := ⟨_,rfl⟩
             rw [← hT4] at hfin
             have rl := tysV_len c.args
             refine run_ind (fun a : TxS => a.i ≤ c.args.length ∧ tx3 (c.args.drop a.i) a.s = T4 ∧ a.s.length ≤ 200000000000 + 900000 * a.i) (fun a => ⟨[(1,.ptr (.loc 1) 0),(3,.str a.s),(7,.int .i64 a.i)],[],[(1,xcC c)],1⟩) (fun _ => fin) (fun a => c.args.length - a.i) ⟨0,s3⟩ ⟨Nat.zero_le _,hT4.symm,by simp only; omega⟩ ?_ ?_
             · simp only [go_sem,xcC,htg]
             · rintro ⟨i,s4⟩ ⟨hi4,hs4,hl6⟩ h
               simp only at hi4 hs4 hl6 ⊢
               by_cases hlt : i < c.args.length
               · obtain ⟨t,hu⟩ := getS hlt
                 rw [dropGet hu] at hs4
                 have hs4 : tx3 (c.args.drop (i + 1)) (s4 ++ [59,32] ++ cS t) = T4 := hs4
                 obtain ⟨gt,gt'⟩ := k8' t (List.mem_of_getElem? hu)
                 have dl := canonS_den t gt gt'
                 have ll := cS_len t gt gt'
                 rw [tyV_eq] at dl
                 have w1 : IntKind.i64.wrap ((i : Int) + 1) = ((i + 1 : Nat) : Int) := wrapN (i + 1) (by omega)
                 have l1 : (s4.length + 2 ≤ strMax) = True := sle (by omega)
                 have l2 : ((s4 ++ [59,32]).length + (cS t).length ≤ strMax) = True := sle (by simp; omega)
                 simp only [go_sem,xcC,htg,rl,natlt,decide_eq_true hlt,natge0,tonat,tysGet,hu,tyV_eq,dl,l1,l2]
                 refine h ⟨i + 1,s4 ++ [59,32] ++ cS t⟩ _ ⟨show i + 1 ≤ c.args.length by omega,hs4,by simp; omega⟩ (show c.args.length - (i + 1) < c.args.length - i by omega) ?_
                 simp only [go_sem,xcC,htg,w1]
               · have hie : i = c.args.length := by omega
                 subst hie
                 rw [List.drop_length] at hs4
                 have hs4 : s4 = T4 := hs4
                 subst hs4
                 simp only [go_sem,xcC,htg,rl,natlt,Nat.lt_irrefl]
                 rw [hfin]
theorem lp2_mem : ∀ (l : List (List UInt8)) (c : Cal) (ex : List (List UInt8)),(∀ u ∈ ex,u.length ≤ 16) → ex.length + l.length ≤ 100000000 → ∀ u ∈ (lp2 l c ex).2,u.length ≤ 16
 | [],c,ex,h,_ => h
 | n :: r,c,ex,h,hb => by
  simp only [List.length_cons] at hb
  rw [lp2_cons]
  split
  · exact lp2_mem r _ _ (fun u hu => by
     rcases List.mem_append.1 hu with hu | hu
     · exact h u hu
     · simp at hu; subst hu; exact (pfx_len 101 ex.length (by omega)).1) (by simp; omega)
  · exact lp2_mem r c ex h (by omega)
theorem lp3_mem (called : Cal) (names : List (List UInt8)) (ts : List Ty) (Q : Gv → Prop) : ∀ (l : List Nat) (acc : List Gv),(∀ g ∈ acc,Q g) → (∀ k ∈ l,∀ i,i < acc.length + l.length → Q ⟨givF i,.mk 1 (univF k) 0 [],drenF called names (ts.getD k zTy)⟩) → (∀ g ∈ lp3 called names ts l acc,Q g) ∧ (lp3 called names ts l acc).length = acc.length + l.length
 | [],acc,h,_ => ⟨h,rfl⟩
 | k :: r,acc,h,hq => by
  rw [lp3_cons]
  obtain ⟨q1,q2⟩ := lp3_mem called names ts Q r (acc ++ [⟨givF acc.length,.mk 1 (univF k) 0 [],drenF called names (ts.getD k zTy)⟩]) (fun g hg => by
   rcases List.mem_append.1 hg with hg | hg
   · exact h g hg
   · simp at hg; subst hg; exact hq k (by simp) acc.length (by simp)) (fun k' hk' i hi => hq k' (by simp [hk']) i (by simp at hi ⊢; omega))
  exact ⟨q1,by rw [q2]; simp; omega⟩
theorem spF_sz : ∀ (n : Nat) (t : Ty) (acc : List Ty),t.sz ≤ n → GT t → ∀ x ∈ (spF n t acc).1,x ∉ acc → x.sz ≤ t.sz
 | 0,t,acc,h,_ => by have := sz_eq t; omega
 | n + 1,t,acc,hn,hg => by
  cases hk : t.kind == 4
  · rw [spF_rest _ t acc hk]; exact fun x hx hx2 => absurd hx hx2
  · obtain ⟨u,v,rfl,hu,hv⟩ := hg.fn_inv hk
    rw [sz_mk,szs_two] at hn
    rw [spF_fn]
    intro x hx hx2
    by_cases hxu : x = u
    · subst hxu; rw [sz_mk,szs_two]; omega
    · have := spF_sz n v (acc ++ [u]) (by omega) hv x hx (by simp [hx2,hxu])
      rw [sz_mk,szs_two]; omega
theorem made_ok (d : De) (c : Co) (hg : GT c.ty) (hb : c.ty.sz < 12000) (hn : c.name.length ≤ 16) (hd : d.name.length ≤ 16) (X : CX) (hm : madeF d c = some X) (k : Nat) (hk : k < 100000000) : OkX { X with tag := (k : Int) } := by
 have hfl := freeT_le _ c.ty (Nat.le_refl _) [] []
 simp only [List.length_nil,Nat.zero_add] at hfl
 have hbd : c.ty.sz * ((freeT c.ty [] []).length + 1) ≤ 900000000 := Nat.le_trans (Nat.mul_le_mul (show c.ty.sz ≤ 12000 by omega) (show _ ≤ 12001 by omega)) (by omega)
 obtain ⟨g1,s1,n1,o1⟩ := peel_ok 112 (freeT c.ty [] []) c.ty.sz c.ty 0 (Nat.le_refl _) hg (by omega) (by omega)
 unfold madeF at hm
 simp only at hm
 generalize peelF 112 (freeT c.ty [] []) c.ty.sz c.ty 0 = p at *
 obtain ⟨names,body⟩ := p
 simp only at g1 s1 n1 o1 hm
 obtain ⟨g2,s2,a2,n2⟩ := spF_ok body.sz body [] (Nat.le_refl _) g1 (fun x hx => by cases hx) (by omega)
 have a3 := spF_sz body.sz body [] (Nat.le_refl _) g1
 generalize spF body.sz body [] = q at *
 obtain ⟨acc,t⟩ := q
 simp only at g2 s2 a2 n2 hm a3
 split at hm
 case isFalse => cases hm
 injection hm with hm
 have hta := g2.args
 have hal := args_len t
 have hsz := sz_eq t
 obtain ⟨w1o,w1i,w1l⟩ := lp1_ok t.args 0 [] [] (fun p hp => by cases hp) (by omega) (fun k hk => by cases hk)
 obtain ⟨w2o,w2n,_,w2l⟩ := lp2_ok names (lp1 t.args 0 [] []).1 [] w1o (by simp; omega)
 have w2m := lp2_mem names (lp1 t.args 0 [] []).1 [] (fun u hu => by cases hu) (by simp; omega)
 generalize lp1 t.args 0 [] [] = a at *
 obtain ⟨C1,IX⟩ := a
 simp only at hm w1o w1i w1l w2o w2n w2l w2m
 generalize lp2 names C1 [] = b at *
 obtain ⟨C2,EX⟩ := b
 simp only at hm w2o w2n w2l w2m
 have hcal : ∀ n ∈ names,(lookK n C2).getD [] ≠ [] ∧ ((lookK n C2).getD []).length ≤ 16 := fun n hn => by
  have h1 := w2n n hn
  cases h2 : lookK n C2 with
  | none => rw [h2] at h1; cases h1
  | some v => exact w2o.look h2
 have gvs := lp3_mem C2 names t.args (fun g => g.name.length ≤ 16 ∧ (GT g.l ∧ g.l.sz < 20000) ∧ GT g.r ∧ g.r.sz < 20000) IX [] (fun g hg => by cases hg) (fun k hk i hi => by
  have hkt := w1i k hk
  obtain ⟨y,hy⟩ := getS (l := t.args) (i := k) (by omega)
  have hyd : t.args.getD k zTy = y := by rw [List.getD_eq_getElem?_getD,hy]; rfl
  have hym := List.mem_of_getElem? hy
  have hys := szs_mem hym
  obtain ⟨_,gr,sr⟩ := dren_den C2 names y (by omega) hcal (hta y hym) (by omega)
  simp only [List.length_nil] at hi w1l
  refine ⟨(pfx_len 103 i (by omega)).1,⟨.var _ (pfx_len 117 k (by omega)).1,by rw [var_sz]; omega⟩,by simp only [hyd]; exact gr,by simp only [hyd]; omega⟩)
 subst hm
 simp only [List.length_nil] at w2l w1l n2 gvs
 refine ⟨hn,hd,⟨by simp only; omega,by simp only; omega⟩,⟨hg,by simp only; omega⟩,⟨by simp; omega,fun u hu => ?_⟩,⟨by simp only; omega,w2m⟩,⟨by rw [gvs.2]; omega,gvs.1⟩,⟨by simp; omega,fun u hu => ?_⟩⟩
 · obtain ⟨i,hi,rfl⟩ := List.mem_map.1 hu
   have := List.mem_range.1 hi
   exact (pfx_len 117 i (by omega)).1
 · obtain ⟨y,hy,rfl⟩ := List.mem_map.1 hu
   have := a3 y hy (by simp)
   obtain ⟨_,gr,sr⟩ := dren_den C2 names y (by omega) hcal (a2 y hy).1 (by omega)
   exact ⟨gr,by omega⟩
def AllX (m : CMap) : Prop := ∀ p ∈ m,OkX p.2
theorem AllX.upd {m : CMap} (h : AllX m) {k : List UInt8} {x : CX} (hx : OkX x) : AllX (updK k x m) := by
 induction m with
 | nil => intro p hp; simp [updK] at hp; subst hp; exact hx
 | cons a r ih =>
  intro p hp
  rw [updK] at hp
  split at hp
  · rcases List.mem_cons.1 hp with rfl | hp
    · exact hx
    · exact h p (by simp [hp])
  · rcases List.mem_cons.1 hp with rfl | hp
    · exact h _ (by simp)
    · exact ih (fun q hq => h q (by simp [hq])) p hp
theorem AllX.look {m : CMap} (h : AllX m) {k : List UInt8} {x : CX} (hk : lookK k m = some x) : OkX x := by
 induction m with
 | nil => cases hk
 | cons a r ih =>
  rw [lookK] at hk
  split at hk
  · injection hk with hk; subst hk; exact h a (by simp)
  · exact ih (fun q hq => h q (by simp [hq])) hk
theorem consF_ok (ar : List (List UInt8 × Int)) (d : De) (hd : d.name.length ≤ 16) : ∀ (l : List Co) (i : Nat) (m m' : CMap),(∀ c ∈ l,c.name.length ≤ 16 ∧ GT c.ty ∧ c.ty.sz < 12000) → i + l.length ≤ 1000000 → AllX m → consF ar d l i m = .inr m' → AllX m'
 | [],i,m,m',_,_,hm,h => by
  have h : (.inr m : (List UInt8 × Int) ⊕ CMap) = .inr m' := h
  injection h with h; subst h; exact hm
 | c :: r,i,m,m',hl,hi,hm,h => by
  simp only [List.length_cons] at hi
  obtain ⟨c1,c2,c3⟩ := hl c (by simp)
  rw [consF_cons] at h
  split at h
  · cases hmd : madeF d c with
    | none => rw [hmd] at h; simp only at h; cases h
    | some x =>
     rw [hmd] at h
     simp only at h
     exact consF_ok ar d hd r (i + 1) _ m' (fun c hc => hl c (by simp [hc])) (by omega) (hm.upd (made_ok d c c2 c3 c1 hd x hmd i (by omega))) h
  · cases h
theorem gd_cons {d : De} (h : GD d) : d.name.length ≤ 16 ∧ ∀ c ∈ d.cons,c.name.length ≤ 16 ∧ GT c.ty := by
 cases h with
 | data s vs cs h1 _ h3 => exact ⟨h1,h3⟩
 | sig s t h1 _ => exact ⟨h1,fun c hc => by cases hc⟩
 | bind s x h1 _ => exact ⟨h1,fun c hc => by cases hc⟩
theorem desF_ok (ar : List (List UInt8 × Int)) : ∀ (l : List De) (m m' : CMap),(∀ d ∈ l,GD d ∧ d.tot ≤ 12000) → AllX m → desF ar l m = .inr m' → AllX m'
 | [],m,m',_,hm,h => by
  have h : (.inr m : (List UInt8 × Int) ⊕ CMap) = .inr m' := h
  injection h with h; subst h; exact hm
 | d :: r,m,m',hl,hm,h => by
  obtain ⟨hgd,ht⟩ := hl d (by simp)
  obtain ⟨g1,g2⟩ := gd_cons hgd
  have hp := tot_pos d.val
  unfold De.tot at ht
  rw [desF_cons] at h
  split at h
  · cases h
  · cases hc : consF ar d d.cons 0 m with
    | inl e => rw [hc] at h; simp only at h; cases h
    | inr m2 =>
     rw [hc] at h
     simp only at h
     refine desF_ok ar r m2 m' (fun x hx => hl x (by simp [hx])) ?_ h
     refine consF_ok ar d g1 d.cons 0 m m2 (fun c hc => ?_) (by omega) hm hc
     have := cons_sz hc
     exact ⟨(g2 c hc).1,(g2 c hc).2,by omega⟩
theorem newF_ok (l : List De) (hg : ∀ d ∈ l,GD d) (hs : De.sum l ≤ 12000) (m : CMap) (h : newF l = .inr m) : AllX m :=
 desF_ok _ l [] m (fun d hd => ⟨hg d hd,Nat.le_trans (desum_mem hd) hs⟩) (fun p hp => by cases hp) h
theorem GX.sx {e : Ex} (h : GX e) : SX e := by
 induction h with
 | nam k s hk _ => exact .mk _ (fun _ => ⟨rfl,rfl⟩) (fun h3 => by rcases hk with rfl | rfl <;> simp [Ex.kind] at h3) (fun h3 => by rcases hk with rfl | rfl <;> simp [Ex.kind] at h3) (by simp [Ex.kids]) (by simp [Ex.alts])
 | lam s x _ _ ih => exact .mk _ (by simp [Ex.kind]) (fun _ => ⟨⟨x,rfl⟩,rfl⟩) (by simp [Ex.kind]) (by simp [Ex.kids,ih]) (by simp [Ex.alts])
 | app x y _ _ ih1 ih2 => exact .mk _ (by simp [Ex.kind]) (by simp [Ex.kind]) (by simp [Ex.kind]) (by simp [Ex.kids,ih1,ih2]) (by simp [Ex.alts])
 | lett s t x y _ _ _ _ ih1 ih2 => exact .mk _ (by simp [Ex.kind]) (by simp [Ex.kind]) (fun _ => ⟨⟨x,y,rfl⟩,rfl⟩) (by simp [Ex.kids,ih1,ih2]) (by simp [Ex.alts])
 | letu s x y _ _ _ ih1 ih2 => exact .mk _ (by simp [Ex.kind]) (by simp [Ex.kind]) (fun _ => ⟨⟨x,y,rfl⟩,rfl⟩) (by simp [Ex.kids,ih1,ih2]) (by simp [Ex.alts])
 | cas x al _ _ _ ih1 ih2 => exact .mk _ (by simp [Ex.kind]) (by simp [Ex.kind]) (by simp [Ex.kind]) (by simp [Ex.kids,ih1]) (fun a ha => ih2 a ha)
 | ann x t _ _ ih => exact .mk _ (by simp [Ex.kind]) (by simp [Ex.kind]) (by simp [Ex.kind]) (by simp [Ex.kids,ih]) (by simp [Ex.alts])
theorem GD.sx {d : De} (h : GD d) (hk : d.kind = 3) : SX d.val := by
 cases h with
 | data => simp at hk
 | sig => simp at hk
 | bind s x _ hx => exact hx.sx
def readV (p : List De × Int) : AVal := if p.2 != 0 then .tup [.slice [],.slice [],.bool false] else .tup [.slice (p.1.map deV),.slice (p.1.map deV),.bool ((chkS p.1).2 == 0)]
theorem read_den {f : Nat} {s : List UInt8} {p : List De × Int} (hp : parseO f s = some p) : den E 24 [.str s] [] = some (readV p,[]) := by
 obtain ⟨h1,h2⟩ := parse_two hp
 unfold parV at h1 h2
 rw [den_eq prim_24,body_24]
 unfold readV
 cases h0 : (p.2 != 0)
 · have h00 : p.2 = 0 := by rw [bne_not] at h0; simpa using h0
   have key := parse_good hp h00
   have h3 := check_den p.1 (fun d hd hk => (key.1 d hd).sx hk) (by have := key.2; omega)
   unfold seV at h3
   simp only [go_sem,Tryz.f24,h1,h2,h0,h3]
 · simp only [go_sem,Tryz.f24,h1,h2,h0]
theorem tcon_den (ar : List (List UInt8 × Int)) (cs : List AVal) (m : CMap) (n : List UInt8) : den E 27 [.ptr (.par 0) 0,.str n] [tabB ar cs (entM conA m)] = some (match lookK n m with
 | none => .tup [.agg (xcC zCX),.bool false]
 | some x => .tup [.agg (xcC x),.bool true],[tabB ar cs (entM conA m)]) := by
 have hf := find_entM conA n m
 rw [den_eq prim_27,body_27]
 cases hk : lookK n m with
 | none =>
  rw [hk] at hf
  simp only [Option.map_none] at hf
  simp only [go_sem,Tryz.f27,hf,xcC,zCX,zTy,List.map_nil,kind_mk,name_mk,n_mk,args_mk,tysV_nil]
 | some x =>
  rw [hk] at hf
  simp only [Option.map_some,conA,xcC] at hf
  simp only [go_sem,Tryz.f27,hf,xcC]
def isInl (n : List UInt8) (t : List UInt8) (r : (List UInt8 × Int) ⊕ CMap) : Bool := match r with
 | .inl e => decide (0 ≤ e.2) && (decide (e.2 < 1000) && (decide (e.1.length ≤ 1000) && t == e.1 ++ [32] ++ Lib.itoa e.2))
 | .inr m => match lookK n m with
  | none => false
  | some x => textF x == t
def chkC (f : Nat) (s n t : List UInt8) : Bool := match parseO f s with
 | some p => p.2 == 0 && ((chkS p.1).2 == 0 && isInl n t (newF p.1))
 | none => false
theorem con_chk {f : Nat} {s n t : List UInt8} (h : chkC f s n t = true) : den E 77 [.str s,.str n] [] = some (.str t,[]) := by
 unfold chkC at h
 split at h
 case h_2 => cases h
 rename_i p hp
 simp only [Bool.and_eq_true] at h
 obtain ⟨h0,h1,h2⟩ := h
 have h00 : p.2 = 0 := by simpa using h0
 have key := parse_good hp h00
 have dr := read_den hp
 have dn := new_den p.1 key.1 key.2
 have ok := newF_ok p.1 key.1 key.2
 unfold readV at dr
 rw [h1] at dr
 have hb : (p.2 != 0) = false := by rw [h00]; rfl
 rw [hb] at dr
 simp only [Bool.false_eq_true,if_false] at dr
 rw [den_eq prim_77,body_77]
 unfold isInl at h2
 cases hn : newF p.1 with
 | inl e =>
  rw [hn] at h2 dn
  simp only [Bool.and_eq_true,decide_eq_true_eq] at h2
  obtain ⟨q1,q2,q3,q4⟩ := h2
  unfold newV at dn
  simp only at dn
  obtain ⟨k,hk⟩ : ∃ k : Nat,e.2 = k := ⟨e.2.toNat,by omega⟩
  have hm : (if (k : Int) > 0 then (k : Int) else 0) = (k : Int) := by split <;> omega
  have dd := decimal_den k (by omega)
  have li := itoa_len 8 k (by
   have e : (10 : Nat) ^ (8 + 1) = 1000000000 := by decide
   omega)
  have l1 : (e.1.length + 1 ≤ strMax) = True := sle (by omega)
  have l2 : ((e.1 ++ [32]).length + (Lib.itoa (k : Int)).length ≤ strMax) = True := sle (by simp; omega)
  have ht : t = e.1 ++ [32] ++ Lib.itoa e.2 := by simpa using q4
  rw [ht]
  rw [hk] at dn ⊢
  simp only [go_sem,Tryz.f77,dr,dn,hm,dd,l1,l2]
 | inr m =>
  rw [hn] at h2 dn
  simp only at h2
  unfold newV tabB at dn
  simp only at dn
  cases hl : lookK n m with
  | none => rw [hl] at h2; simp at h2
  | some x =>
   rw [hl] at h2
   have ht : textF x = t := by simpa using h2
   have dc := tcon_den (arU p.1) (entM lsA (csU p.1)) m n
   rw [hl] at dc
   simp only at dc
   have dx := ctext_den x ((ok m hn).look hl)
   unfold tabB at dc
   unfold xcC at dc dx
   rw [ht] at dx
   simp only [go_sem,Tryz.f77,dr,dn,dc,dx]
theorem run0 : chkC 1000 [100,97,116,97,32,73,110,116,32,123,73,32,58,32,73,110,116,125,59,32,100,97,116,97,32,69,32,97,32,123,76,32,58,32,73,110,116,32,45,62,32,69,32,73,110,116,59,32,80,32,58,32,102,111,114,97,108,108,32,98,32,99,46,32,69,32,98,32,45,62,32,69,32,99,32,45,62,32,69,32,40,81,32,98,32,99,41,59,32,85,32,58,32,102,111,114,97,108,108,32,100,46,32,100,32,45,62,32,69,32,100,125,59,32,100,97,116,97,32,81,32,120,32,121,32,123,77,32,58,32,102,111,114,97,108,108,32,120,32,121,46,32,120,32,45,62,32,121,32,45,62,32,81,32,120,32,121,59,32,68,32,58,32,102,111,114,97,108,108,32,122,46,32,122,32,45,62,32,81,32,122,32,122,125] [76] [76,32,69,32,48,32,73,110,116,32,45,62,32,69,32,73,110,116,32,117,48,59,59,32,103,48,58,32,117,48,32,126,32,73,110,116,59,32,73,110,116] = true := by kernel_rfl
theorem run1 : chkC 1000 [100,97,116,97,32,73,110,116,32,123,73,32,58,32,73,110,116,125,59,32,100,97,116,97,32,69,32,97,32,123,76,32,58,32,73,110,116,32,45,62,32,69,32,73,110,116,59,32,80,32,58,32,102,111,114,97,108,108,32,98,32,99,46,32,69,32,98,32,45,62,32,69,32,99,32,45,62,32,69,32,40,81,32,98,32,99,41,59,32,85,32,58,32,102,111,114,97,108,108,32,100,46,32,100,32,45,62,32,69,32,100,125,59,32,100,97,116,97,32,81,32,120,32,121,32,123,77,32,58,32,102,111,114,97,108,108,32,120,32,121,46,32,120,32,45,62,32,121,32,45,62,32,81,32,120,32,121,59,32,68,32,58,32,102,111,114,97,108,108,32,122,46,32,122,32,45,62,32,81,32,122,32,122,125] [80] [80,32,69,32,49,32,102,111,114,97,108,108,32,120,48,32,120,49,46,32,69,32,120,48,32,45,62,32,69,32,120,49,32,45,62,32,69,32,40,81,32,120,48,32,120,49,41,32,117,48,59,32,101,48,32,101,49,59,32,103,48,58,32,117,48,32,126,32,81,32,101,48,32,101,49,59,32,69,32,101,48,59,32,69,32,101,49] = true := by kernel_rfl
theorem run2 : chkC 1000 [100,97,116,97,32,73,110,116,32,123,73,32,58,32,73,110,116,125,59,32,100,97,116,97,32,69,32,97,32,123,76,32,58,32,73,110,116,32,45,62,32,69,32,73,110,116,59,32,80,32,58,32,102,111,114,97,108,108,32,98,32,99,46,32,69,32,98,32,45,62,32,69,32,99,32,45,62,32,69,32,40,81,32,98,32,99,41,59,32,85,32,58,32,102,111,114,97,108,108,32,100,46,32,100,32,45,62,32,69,32,100,125,59,32,100,97,116,97,32,81,32,120,32,121,32,123,77,32,58,32,102,111,114,97,108,108,32,120,32,121,46,32,120,32,45,62,32,121,32,45,62,32,81,32,120,32,121,59,32,68,32,58,32,102,111,114,97,108,108,32,122,46,32,122,32,45,62,32,81,32,122,32,122,125] [68] [68,32,81,32,49,32,102,111,114,97,108,108,32,120,48,46,32,120,48,32,45,62,32,81,32,120,48,32,120,48,32,117,48,32,117,49,59,59,32,103,48,58,32,117,49,32,126,32,117,48,59,32,117,48] = true := by kernel_rfl
theorem run3 : chkC 1000 [100,97,116,97,32,84,32,97,32,123,75,32,58,32,84,125] [75] [75,32,49,49,48] = true := by kernel_rfl
theorem run4 : chkC 1000 [100,97,116,97,32,84,32,123,75,32,58,32,97,32,45,62,32,84,125] [75] [75,32,49,49,49] = true := by kernel_rfl
theorem run5 : chkC 1000 [100,97,116,97,32,84,32,123,75,32,58,32,102,111,114,97,108,108,32,98,46,32,98,125] [75] [75,32,49,49,50] = true := by kernel_rfl
theorem run6 : chkC 1000 [100,97,116,97,32,84,32,97,32,123,75,32,58,32,102,111,114,97,108,108,32,98,46,32,84,32,40,102,111,114,97,108,108,32,99,46,32,99,41,125] [75] [75,32,49,49,50] = true := by kernel_rfl
theorem awake_den : den E 23 [] [] = some (.bool true,[]) := by
 rw [den_eq prim_23,body_23]
 have t0 := con_chk run0
 try dsimp only at t0
 have t1 := con_chk run1
 try dsimp only at t1
 have t2 := con_chk run2
 try dsimp only at t2
 have t3 := con_chk run3
 try dsimp only at t3
 have t4 := con_chk run4
 try dsimp only at t4
 have t5 := con_chk run5
 try dsimp only at t5
 have t6 := con_chk run6
 try dsimp only at t6
 simp only [go_sem,Tryz.f23,List.append_eq,t0,t1,t2,t3,t4,t5,t6]
theorem consF_good (ar : List (List UInt8 × Int)) (d : De) : ∀ (l : List Co) (i : Nat) (m m' : CMap),consF ar d l i m = .inr m' → ∀ c ∈ l,(goodR ar c.ty == 0) = true
 | [],_,_,_,_,c,hc => by cases hc
 | a :: r,i,m,m',h,c,hc => by
  rw [consF_cons] at h
  split at h
  · rename_i hz
    cases hmd : madeF d a with
    | none => rw [hmd] at h; simp only at h; cases h
    | some x =>
     rw [hmd] at h
     simp only at h
     rcases List.mem_cons.1 hc with rfl | hc
     · exact hz
     · exact consF_good ar d r _ _ m' h c hc
  · cases h
theorem desF_good (ar : List (List UInt8 × Int)) : ∀ (l : List De) (m m' : CMap),desF ar l m = .inr m' → ∀ d ∈ l,((d.kind == 2) = true → (goodR ar d.ty == 0) = true) ∧ ∀ c ∈ d.cons,(goodR ar c.ty == 0) = true
 | [],_,_,_,d,hd => by cases hd
 | a :: r,m,m',h,d,hd => by
  rw [desF_cons] at h
  split at h
  · cases h
  · rename_i hz
    cases hc : consF ar a a.cons 0 m with
    | inl e => rw [hc] at h; simp only at h; cases h
    | inr m2 =>
     rw [hc] at h
     simp only at h
     rcases List.mem_cons.1 hd with rfl | hd
     · refine ⟨fun hk => ?_,consF_good ar d d.cons 0 m m2 hc⟩
       rw [hk] at hz
       simpa [bne] using hz
     · exact desF_good ar r m2 m' h d hd
theorem form_met (ar : List (List UInt8 × Int)) : ∀ (n : Nat) (t : Ty),t.sz ≤ n → formT ar t = true → ∀ acc,metT t acc = acc := by
 intro n
 induction n with
 | zero => intro t h; have := sz_eq t; omega
 | succ n ih =>
  intro t hn hf acc
  have hsz := sz_eq t
  rw [formT_eq] at hf
  simp only [Bool.and_eq_true,Bool.not_eq_true',Bool.or_eq_false_iff] at hf
  obtain ⟨⟨h2,_⟩,hl⟩ := hf
  have key : ∀ (l : List Ty) acc,Ty.szs l ≤ n → formL ar l = true → metTs l acc = acc := by
   intro l
   induction l with
   | nil => intro acc _ _; rw [metTs_nil]
   | cons x r ihr =>
    intro acc h1 h3
    rw [szs_cons] at h1
    rw [formL_cons,Bool.and_eq_true] at h3
    rw [metTs_cons,ih x (by omega) h3.1,ihr acc (by omega) h3.2]
  rw [metT_eq]
  have e : metAt t acc = acc := by unfold metAt; rw [h2]; rfl
  rw [e]
  exact key t.args acc (by omega) hl
def tA (v : Ty) : Ty := .mk 4 [] 0 [v,.mk 1 [122,122] 0 []]
def tM (v : Ty) : Ty := .mk 4 [] 0 [v,.mk 2 [] 1 []]
theorem good_A (ar : List (List UInt8 × Int)) (v : Ty) : goodR ar (tA v) = if formT ar v then 111 else 110 := by
 have e1 : formT ar (tA v) = formT ar v := by
  unfold tA
  rw [formT_eq]
  simp only [kind_mk,args_mk,name_mk]
  rw [formL_cons,formL_cons,formT_eq ar (.mk 1 _ _ _)]
  simp only [kind_mk,args_mk,name_mk,formL]
  cases formT ar v <;> rfl
 have e2 : freeT (tA v) [] [] ≠ [] := by
  unfold tA
  rw [freeT_eq]
  simp only [kind_mk,args_mk,name_mk,freeTs_cons,freeTs_nil]
  have : ∀ acc : List (List UInt8),freeT (.mk 1 [122,122] 0 []) [] acc ≠ [] := by
   intro acc
   rw [freeT_eq]
   simp only [args_mk,freeTs_nil]
   show (if acc.contains [122,122] = true then acc else acc ++ [[122,122]]) ≠ []
   by_cases h : acc.contains [122,122] = true
   · rw [if_pos h]
     intro e; rw [e] at h; cases h
   · rw [if_neg h]; simp
  exact this _
 unfold goodR
 rw [e1,if_neg e2]
theorem good_M (ar : List (List UInt8 × Int)) (v : Ty) : goodR ar (tM v) = 110 := by
 have e1 : formT ar (tM v) = false := by
  unfold tM
  rw [formT_eq]
  simp only [kind_mk,args_mk,name_mk]
  rw [formL_cons,formL_cons,formT_eq ar (.mk 2 _ _ _)]
  simp only [kind_mk,args_mk,name_mk,formL]
  cases formT ar v <;> rfl
 unfold goodR
 rw [e1]; rfl
theorem sig_law (s u : List UInt8) : den E 6 [.str s,.str u] [] = some (.bool true,[]) := by
 have ha := awake_den
 obtain ⟨p,hp⟩ := parseO_tot s
 have dr := read_den hp
 unfold readV at dr
 rw [den_eq prim_6,body_6]
 rcases tparse_ex u with ⟨e,he,du⟩ | ⟨l,v,_,_,_,hgv,hsv,du⟩
 · rw [zTyV] at du
   cases h0 : (p.2 != 0)
   · rw [h0] at dr
     simp only [Bool.false_eq_true,if_false] at dr
     cases hc : (chkS p.1).2 == 0
     · rw [hc] at dr
       simp only [go_sem,Tryz.f6,ha,dr,du]
     · rw [hc] at dr
       simp only [go_sem,Tryz.f6,ha,dr,du,he]
   · rw [h0] at dr
     simp only [if_true] at dr
     simp only [go_sem,Tryz.f6,ha,dr,du]
 · rw [tyV_eq] at du
   cases h0 : (p.2 != 0)
   · rw [h0] at dr
     simp only [Bool.false_eq_true,if_false] at dr
     cases hc : (chkS p.1).2 == 0
     · rw [hc] at dr
       simp only [go_sem,Tryz.f6,ha,dr,du]
     · rw [hc] at dr
       have h00 : p.2 = 0 := by rw [bne_not] at h0; simpa using h0
       have key := parse_good hp h00
       have dn := new_den p.1 key.1 key.2
       have hne : ((0 : Int) != 0) = false := rfl
       cases hn : newF p.1 with
       | inl e =>
        rw [hn] at dn
        unfold newV at dn
        simp only at dn
        simp only [go_sem,Tryz.f6,ha,dr,du,dn,hne]
       | inr m =>
        rw [hn] at dn
        unfold newV tabB at dn
        simp only at dn
        have hgood := desF_good (arU p.1) p.1 [] m hn
        generalize arU p.1 = ar at *
        generalize entM lsA (csU p.1) = cs at *
        obtain ⟨L,hL⟩ : ∃ L,L = p.1 := ⟨_,rfl⟩
        rw [← hL] at key hgood dr dn
        have hlen := desum_len L
        obtain ⟨fin,hfin⟩ : ∃ fin,fin = (some (.bool true,[]) : Option (AVal × Heap)) := ⟨_,rfl⟩
        rw [← hfin]
        simp only [go_sem,Tryz.f6,ha,dr,du,dn,hne]
        refine run_ind (fun i : Nat => i ≤ L.length) (fun i => ⟨[(5,.bool true),(6,.slice (L.map deV)),(9,.ptr (.loc 9) 0),(11,.ptr (.loc 44) 0),(14,.int .i64 i)],[],[(9,tB v),(44,tabB ar cs (entM conA m))],1⟩) (fun _ => fin) (fun i => L.length - i) 0 (Nat.zero_le _) ?_ ?_
        · simp only [go_sem]
        · intro i hi h
          by_cases hlt : i < L.length
          · obtain ⟨d,hx⟩ := getS hlt
            have hmem := List.mem_of_getElem? hx
            have hm := desum_mem hmem
            obtain ⟨q1,q2⟩ := hgood d hmem
            have hcs := fun c hc => cons_sz (l := d.cons) (c := c) hc
            unfold De.tot at hm
            have w1 : IntKind.i64.wrap ((i : Int) + 1) = ((i + 1 : Nat) : Int) := wrapN (i + 1) (by omega)
            have hdl : (L.map deV)[i]? = some (deV d) := by simp [hx]
            have dg := good_den ar cs (entM conA m) d.ty (by omega)
            rw [tyV_eq] at dg
            unfold tabB at dg
            cases k2 : d.kind == 2
            · simp only [go_sem,List.length_map,natlt,decide_eq_true hlt,natge0,tonat,hdl,deV,deC,k2]
              refine run_ind (fun k : Nat => k ≤ d.cons.length) (fun k => ⟨[(5,.bool true),(6,.slice (L.map deV)),(9,.ptr (.loc 9) 0),(11,.ptr (.loc 44) 0),(14,.int .i64 i),(16,.int .i64 k)],[],[(9,tB v),(44,tabB ar cs (entM conA m))],1⟩) (fun _ => fin) (fun k => d.cons.length - k) 0 (Nat.zero_le _) ?_ ?_
              · simp only [go_sem]
              · intro k hk hh
                by_cases hltk : k < d.cons.length
                · obtain ⟨c,hc⟩ := getS hltk
                  have hcm := List.mem_of_getElem? hc
                  have hcz := hcs c hcm
                  have w2 : IntKind.i64.wrap ((k : Int) + 1) = ((k + 1 : Nat) : Int) := wrapN (k + 1) (by omega)
                  have hcl : (d.cons.map coV)[k]? = some (coV c) := by simp [hc]
                  have dgc := good_den ar cs (entM conA m) c.ty (by omega)
                  rw [tyV_eq] at dgc
                  unfold tabB at dgc
                  have hz := q2 c hcm
                  simp only [go_sem,List.length_map,natlt,decide_eq_true hltk,natge0,tonat,hdl,deV,deC,hcl,coV_eq,dgc,hz,bne]
                  refine hh (k + 1) _ (by omega) (by omega) ?_
                  simp only [go_sem,w2]
                · have hke : k = d.cons.length := by omega
                  subst hke
                  simp only [go_sem,List.length_map,natlt,natge0,tonat,hdl,deV,deC,Nat.lt_irrefl]
                  refine h (i + 1) _ (by omega) (by omega) ?_
                  simp only [go_sem,w1]
            · have hz2 := q1 k2
              simp only [go_sem,List.length_map,natlt,decide_eq_true hlt,natge0,tonat,hdl,deV,deC,k2,dg,hz2,bne]
              refine run_ind (fun k : Nat => k ≤ d.cons.length) (fun k => ⟨[(5,.bool true),(6,.slice (L.map deV)),(9,.ptr (.loc 9) 0),(11,.ptr (.loc 44) 0),(14,.int .i64 i),(16,.int .i64 k)],[],[(9,tB v),(44,tabB ar cs (entM conA m))],1⟩) (fun _ => fin) (fun k => d.cons.length - k) 0 (Nat.zero_le _) ?_ ?_
              · simp only [go_sem]
              · intro k hk hh
                by_cases hltk : k < d.cons.length
                · obtain ⟨c,hc⟩ := getS hltk
                  have hcm := List.mem_of_getElem? hc
                  have hcz := hcs c hcm
                  have w2 : IntKind.i64.wrap ((k : Int) + 1) = ((k + 1 : Nat) : Int) := wrapN (k + 1) (by omega)
                  have hcl : (d.cons.map coV)[k]? = some (coV c) := by simp [hc]
                  have dgc := good_den ar cs (entM conA m) c.ty (by omega)
                  rw [tyV_eq] at dgc
                  unfold tabB at dgc
                  have hz := q2 c hcm
                  simp only [go_sem,List.length_map,natlt,decide_eq_true hltk,natge0,tonat,hdl,deV,deC,hcl,coV_eq,dgc,hz,bne]
                  refine hh (k + 1) _ (by omega) (by omega) ?_
                  simp only [go_sem,w2]
                · have hke : k = d.cons.length := by omega
                  subst hke
                  simp only [go_sem,List.length_map,natlt,natge0,tonat,hdl,deV,deC,Nat.lt_irrefl]
                  refine h (i + 1) _ (by omega) (by omega) ?_
                  simp only [go_sem,w1]
          · have hie : i = L.length := by omega
            subst hie
            have g1 := good_den ar cs (entM conA m) v (by omega)
            have g2 := good_den ar cs (entM conA m) (tA v) (by
             have e0 : Ty.szs [] = 0 := rfl
             unfold tA
             simp only [sz_mk,szs_two,e0]
             omega)
            have g3 := good_den ar cs (entM conA m) (tM v) (by
             have e0 : Ty.szs [] = 0 := rfl
             unfold tM
             simp only [sz_mk,szs_two,e0]
             omega)
            have df := tfree_den v (by omega)
            have dm := metas_den v (by omega)
            rw [good_A] at g2
            rw [good_M] at g3
            unfold tA at g2
            unfold tM at g3
            rw [tyV_mk,tysV_cons,tysV_cons,tysV_nil,tyV_mk,tysV_nil] at g2 g3
            rw [tyV_eq v] at g1 g2 g3 df dm
            unfold tabB at g1 g2 g3
            rw [hfin]
            have n1 : ((110 : Int) != 0) = true := rfl
            have n2 : ((111 : Int) != 0) = true := rfl
            have n3 : ((110 : Int) == 110) = true := rfl
            have n4 : ((111 : Int) == 111) = true := rfl
            have n5 : ((111 : Int) == 110) = false := rfl
            have n6 : ((0 : Int) == 110) = false := rfl
            have n7 : ((0 : Int) != 0) = false := rfl
            have n8 : ((0 : Int) == 0) = true := rfl
            cases hf : formT ar v
            · have e : goodR ar v = 110 := by unfold goodR; rw [hf]; rfl
              rw [e] at g1
              rw [hf] at g2
              simp only [Bool.false_eq_true,if_false] at g2
              simp only [go_sem,List.length_map,natlt,Nat.lt_irrefl,g1,g2,g3,df,dm,n1,n3]
            · rw [hf] at g2
              simp only [if_true] at g2
              cases hfr : freeT v [] [] with
              | nil =>
               have e : goodR ar v = 0 := by unfold goodR; rw [hf,hfr]; rfl
               rw [e] at g1
               have em := form_met ar _ v (Nat.le_refl _) hf []
               rw [em] at dm
               rw [hfr] at df
               simp only [go_sem,List.length_map,natlt,Nat.lt_irrefl,g1,g2,g3,df,dm,n2,n3,n4,n6,n7,n8]
              | cons x r =>
               have e : goodR ar v = 111 := by unfold goodR; rw [hf,hfr]; rfl
               rw [e] at g1
               simp only [go_sem,List.length_map,natlt,Nat.lt_irrefl,g1,g2,g3,df,dm,n2,n3,n4,n5]
   · rw [h0] at dr
     simp only [if_true] at dr
     simp only [go_sem,Tryz.f6,ha,dr,du]
end Go.Proofs
