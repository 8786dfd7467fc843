/- What a constructor is; all constructors of a program. -/
import Derived.Test.YtjfghnkmladbkaaGreatDoorAvL
namespace Go.Proofs
open Go.Av
set_option maxHeartbeats 64000000
set_option maxRecDepth 100000
structure Gv where
 name : List UInt8
 l : Ty
 r : Ty
structure CX where
 name : List UInt8
 data : List UInt8
 tag : Int
 ty : Ty
 univ : List (List UInt8)
 exis : List (List UInt8)
 givens : List Gv
 args : List Ty
def gvV (g : Gv) : AVal := .agg [.str g.name,.int .i64 g.l.kind,.str g.l.name,.int .i64 g.l.n,.slice (tysV g.l.args),.int .i64 g.r.kind,.str g.r.name,.int .i64 g.r.n,.slice (tysV g.r.args)]
def xcC (c : CX) : List AVal := [.str c.name,.str c.data,.int .i64 c.tag,.int .i64 c.ty.kind,.str c.ty.name,.int .i64 c.ty.n,.slice (tysV c.ty.args),.slice (c.univ.map .str),.slice (c.exis.map .str),.slice (c.givens.map gvV),.slice (tysV c.args)]
def zCX : CX := ⟨[],[],0,zTy,[],[],[],[]⟩
def spF : Nat → Ty → List Ty → List Ty × Ty
 | 0,t,acc => (acc,t)
 | n + 1,.mk k s m l,acc => if k == 4 then (match l with
  | [u,v] => spF n v (acc ++ [u])
  | _ => (acc,.mk k s m l)) else (acc,.mk k s m l)
def univF (i : Nat) : List UInt8 := 117 :: Lib.itoa (i : Int)
def exisF (i : Nat) : List UInt8 := 101 :: Lib.itoa (i : Int)
def givF (i : Nat) : List UInt8 := 103 :: Lib.itoa (i : Int)
abbrev Cal := List (List UInt8 × List UInt8)
def lp1 : List Ty → Nat → Cal → List Nat → Cal × List Nat
 | [],_,c,ix => (c,ix)
 | t :: r,i,c,ix => if t.kind == 1 && (lookK t.name c).isNone then lp1 r (i + 1) (updK t.name (univF i) c) ix else lp1 r (i + 1) c (ix ++ [i])
def lp2 : List (List UInt8) → Cal → List (List UInt8) → Cal × List (List UInt8)
 | [],c,ex => (c,ex)
 | n :: r,c,ex => if (lookK n c).isNone then lp2 r (updK n (exisF ex.length) c) (ex ++ [exisF ex.length]) else lp2 r c ex
def lp3 (called : Cal) (names : List (List UInt8)) (ts : List Ty) : List Nat → List Gv → List Gv
 | [],acc => acc
 | k :: r,acc => lp3 called names ts r (acc ++ [⟨givF acc.length,.mk 1 (univF k) 0 [],drenF called names (ts.getD k zTy)⟩])
def madeF (d : De) (c : Co) : Option CX :=
 let p := peelF 112 (freeT c.ty [] []) c.ty.sz c.ty 0
 let q := spF p.2.sz p.2 []
 if q.2.kind == 3 && (q.2.name == d.name && !polyL q.2.args) then
  let a := lp1 q.2.args 0 [] []
  let b := lp2 p.1 a.1 []
  some ⟨c.name,d.name,0,c.ty,(List.range q.2.args.length).map univF,b.2,lp3 b.1 p.1 q.2.args a.2 [],q.1.map (drenF b.1 p.1)⟩
 else none
theorem pfx_len (a : UInt8) (i : Nat) (h : i < 1000000000) : (a :: Lib.itoa (i : Int)).length ≤ 16 ∧ (a :: Lib.itoa (i : Int)) ≠ [] ∧ 1 + (Lib.itoa (i : Int)).length ≤ strMax := candL_len i a h
def OkC (c : Cal) : Prop := ∀ p ∈ c,p.2 ≠ [] ∧ p.2.length ≤ 16
theorem OkC.upd {c : Cal} (h : OkC c) {k v : List UInt8} (hv : v ≠ [] ∧ v.length ≤ 16) : OkC (updK k v c) := by
 induction c with
 | nil => intro p hp; simp [updK] at hp; subst hp; exact hv
 | cons a r ih =>
  intro p hp
  rw [updK] at hp
  split at hp
  · rcases List.mem_cons.1 hp with rfl | hp
    · exact hv
    · exact h p (by simp [hp])
  · rcases List.mem_cons.1 hp with rfl | hp
    · exact h _ (by simp)
    · exact ih (fun q hq => h q (by simp [hq])) p hp
theorem OkC.look {c : Cal} (h : OkC c) {k v : List UInt8} (hk : lookK k c = some v) : v ≠ [] ∧ v.length ≤ 16 := by
 induction c with
 | nil => cases hk
 | cons a r ih =>
  rw [lookK] at hk
  split at hk
  · injection hk with hk; subst hk; exact h a (by simp)
  · exact ih (fun q hq => h q (by simp [hq])) hk
theorem look_upd {α : Type} (k : List UInt8) (v : α) : ∀ l : List (List UInt8 × α),lookK k (updK k v l) = some v
 | [] => by simp [updK,lookK]
 | p :: r => by
  rw [updK]
  cases h : k == p.1
  · simp only [Bool.false_eq_true,if_false,lookK,h]; exact look_upd k v r
  · simp [lookK]
theorem look_keep {α : Type} (k n : List UInt8) (v : α) : ∀ l : List (List UInt8 × α),(lookK n l).isSome = true → (lookK n (updK k v l)).isSome = true
 | [],h => by cases h
 | p :: r,h => by
  rw [updK]
  rw [lookK] at h
  cases h2 : k == p.1
  · simp only [Bool.false_eq_true,if_false,lookK]
    cases h3 : n == p.1
    · rw [h3] at h
      simp only [Bool.false_eq_true,if_false] at h ⊢
      exact look_keep k n v r h
    · simp
  · simp only [if_true,lookK]
    cases h3 : n == k
    · have : (n == p.1) = false := by
       have e : k = p.1 := by simpa using h2
       rw [← e]; exact h3
      rw [this] at h
      simpa using h
    · simp
theorem lp1_ok : ∀ (l : List Ty) (i : Nat) (c : Cal) (ix : List Nat),OkC c → i + l.length ≤ 100000000 → (∀ k ∈ ix,k < i) → OkC (lp1 l i c ix).1 ∧ (∀ k ∈ (lp1 l i c ix).2,k < i + l.length) ∧ (lp1 l i c ix).2.length ≤ ix.length + l.length
 | [],i,c,ix,h,_,hx => ⟨h,fun k hk => by have := hx k hk; simp; omega,by simp [lp1]⟩
 | t :: r,i,c,ix,h,hb,hx => by
  rw [lp1,List.length_cons]
  simp only [List.length_cons] at hb
  split
  · obtain ⟨q1,q2,q3⟩ := lp1_ok r (i + 1) (updK t.name (univF i) c) ix (h.upd ⟨(pfx_len 117 i (by omega)).2.1,(pfx_len 117 i (by omega)).1⟩) (by omega) (fun k hk => by have := hx k hk; omega)
    exact ⟨q1,fun k hk => by have := q2 k hk; omega,by omega⟩
  · obtain ⟨q1,q2,q3⟩ := lp1_ok r (i + 1) c (ix ++ [i]) h (by omega) (fun k hk => by
     rcases List.mem_append.1 hk with hk | hk
     · have := hx k hk; omega
     · simp at hk; omega)
    exact ⟨q1,fun k hk => by have := q2 k hk; omega,by simp at q3; omega⟩
theorem lp2_ok : ∀ (l : List (List UInt8)) (c : Cal) (ex : List (List UInt8)),OkC c → ex.length + l.length ≤ 100000000 → OkC (lp2 l c ex).1 ∧ (∀ n ∈ l,(lookK n (lp2 l c ex).1).isSome = true) ∧ (∀ n,(lookK n c).isSome = true → (lookK n (lp2 l c ex).1).isSome = true) ∧ (lp2 l c ex).2.length ≤ ex.length + l.length
 | [],c,ex,h,_ => ⟨h,fun n hn => (by cases hn),fun n hn => hn,by simp [lp2]⟩
 | n :: r,c,ex,h,hb => by
  rw [lp2,List.length_cons]
  simp only [List.length_cons] at hb
  split
  · obtain ⟨q1,q2,q3,q4⟩ := lp2_ok r (updK n (exisF ex.length) c) (ex ++ [exisF ex.length]) (h.upd ⟨(pfx_len 101 ex.length (by omega)).2.1,(pfx_len 101 ex.length (by omega)).1⟩) (by simp; omega)
    refine ⟨q1,fun m hm => ?_,fun m hm => q3 m (look_keep _ _ _ _ hm),by simp at q4; omega⟩
    rcases List.mem_cons.1 hm with rfl | hm
    · exact q3 m (by rw [look_upd]; rfl)
    · exact q2 m hm
  · rename_i hs
    obtain ⟨q1,q2,q3,q4⟩ := lp2_ok r c ex h (by omega)
    refine ⟨q1,fun m hm => ?_,q3,by omega⟩
    rcases List.mem_cons.1 hm with rfl | hm
    · exact q3 m (by cases hq : lookK m c <;> simp [hq] at hs ⊢)
    · exact q2 m hm
theorem GT.fn_inv {t : Ty} (h : GT t) (hk : (t.kind == 4) = true) : ∃ u v,t = .mk 4 [] 0 [u,v] ∧ GT u ∧ GT v := by
 cases h with
 | fn u v hu hv => exact ⟨u,v,rfl,hu,hv⟩
 | _ => simp [Ty.kind] at hk
theorem spF_rest (n : Nat) (t : Ty) (acc : List Ty) (h : (t.kind == 4) = false) : spF n t acc = (acc,t) := by
 cases n with
 | zero => rfl
 | succ n => cases t; simp only [Ty.kind] at h; simp only [spF,h]; rfl
theorem spF_fn (n : Nat) (u v : Ty) (acc : List Ty) : spF (n + 1) (.mk 4 [] 0 [u,v]) acc = spF n v (acc ++ [u]) := rfl
theorem spF_ok : ∀ (n : Nat) (t : Ty) (acc : List Ty),t.sz ≤ n → GT t → (∀ x ∈ acc,GT x ∧ x.sz < 300000) → t.sz < 300000 → GT (spF n t acc).2 ∧ (spF n t acc).2.sz ≤ t.sz ∧ (∀ x ∈ (spF n t acc).1,GT x ∧ x.sz < 300000) ∧ (spF n t acc).1.length ≤ acc.length + t.sz
 | 0,t,acc,h,_,_,_ => by have := sz_eq t; omega
 | n + 1,t,acc,hn,hg,ha,hb => by
  cases hk : t.kind == 4
  · rw [spF_rest _ t acc hk]; exact ⟨hg,Nat.le_refl _,ha,by show acc.length ≤ _; omega⟩
  · obtain ⟨u,v,rfl,hu,hv⟩ := hg.fn_inv hk
    rw [sz_mk,szs_two] at hn hb
    rw [spF_fn]
    obtain ⟨q1,q2,q3,q4⟩ := spF_ok n v (acc ++ [u]) (by omega) hv (fun x hx => by
     rcases List.mem_append.1 hx with hx | hx
     · exact ha x hx
     · simp at hx; subst hx; exact ⟨hu,by omega⟩) (by omega)
    refine ⟨q1,?_,q3,?_⟩
    · rw [sz_mk,szs_two]; omega
    · rw [sz_mk,szs_two]; simp at q4; omega
theorem GT.args {t : Ty} (h : GT t) : ∀ x ∈ t.args,GT x := by
 cases h with
 | var s hs => intro x hx; simp [Ty.args] at hx
 | unk m h1 h2 => intro x hx; simp [Ty.args] at hx
 | con s l hs hl => exact hl
 | fn u v hu hv => intro x hx; simp [Ty.args] at hx; rcases hx with rfl | rfl; exact hu; exact hv
 | all s y hs hy => intro x hx; simp [Ty.args] at hx; subst hx; exact hy
def xB (c : Co) (d : De) (univ exis : List (List UInt8)) (gs : List Gv) (ts : List Ty) : List AVal := [.str c.name,.str d.name,.int .i64 0,.int .i64 c.ty.kind,.str c.ty.name,.int .i64 c.ty.n,.slice (tysV c.ty.args),.own 9 0 (univ.map .str),.own 9 0 (exis.map .str),.own 110 0 (gs.map gvV),.own 25 0 (tysV ts)]
def tB (t : Ty) : List AVal := [.int .i64 t.kind,.str t.name,.int .i64 t.n,.slice (tysV t.args)]
def zB : List AVal := [.str [],.str [],.int .i64 0,.int .i64 0,.str [],.int .i64 0,.own 25 0 [],.own 9 0 [],.own 9 0 [],.own 110 0 [],.own 25 0 []]
attribute [go_sem] xB tB zB
theorem tysV_snoc (l : List Ty) (t : Ty) : tysV (l ++ [t]) = tysV l ++ [.agg [.int .i64 t.kind,.str t.name,.int .i64 t.n,.slice (tysV t.args)]] := by
 induction l with
 | nil => rw [List.nil_append,tysV_cons,tysV_nil,tyV_eq]; rfl
 | cons a l ih => rw [List.cons_append,tysV_cons,tysV_cons,ih]; rfl
theorem range_snoc (i : Nat) : (List.range (i + 1)).map univF = (List.range i).map univF ++ [univF i] := by rw [List.range_succ,List.map_append]; rfl
theorem args_mk (k : Int) (s : List UInt8) (n : Int) (a : List Ty) : (Ty.mk k s n a).args = a := rfl
structure SpS where
 n : Nat
 t : Ty
 acc : List Ty
structure L1S where
 i : Nat
 c : Cal
 ix : List Nat
structure L2S where
 i : Nat
 c : Cal
 ex : List (List UInt8)
def okV (o : Option CX) : AVal := match o with
 | some x => .tup [.agg (xcC x),.bool true]
 | none => .tup [.agg (xcC zCX),.bool false]
theorem made_no (d : De) (c : Co) (hg : GT c.ty) (hb : c.ty.sz < 12000) (hm : madeF d c = none) : den E 82 [.agg (deC d),coV c] [] = some (okV (madeF d c),[]) := by
 rw [hm]
 have hfl := freeT_le _ c.ty (Nat.le_refl _) [] []
 simp only [List.length_nil,Nat.zero_add] at hfl
 have hbd : c.ty.sz * ((freeT c.ty [] []).length + 1) ≤ 900000000 := Nat.le_trans (Nat.mul_le_mul (show c.ty.sz ≤ 12000 by omega) (show _ ≤ 12001 by omega)) (by omega)
 have df := tfree_den c.ty (by omega)
 have dp := peeled_den 112 (freeT c.ty [] []) (by omega) c.ty hg (by omega) hbd
 obtain ⟨g1,s1,n1,o1⟩ := peel_ok 112 (freeT c.ty [] []) c.ty.sz c.ty 0 (Nat.le_refl _) hg (by omega) (by omega)
 unfold madeF at hm
 simp only at hm
 generalize peelF 112 (freeT c.ty [] []) c.ty.sz c.ty 0 = p at *
 obtain ⟨names,body⟩ := p
 simp only at dp g1 s1 n1 o1 hm
 obtain ⟨g2,s2,a2,n2⟩ := spF_ok body.sz body [] (Nat.le_refl _) g1 (fun x hx => by cases hx) (by omega)
 have dpl := poly_den _ (.mk 0 [] 0 (spF body.sz body []).2.args) (Nat.le_refl _) (by rw [sz_mk]; have := sz_eq (spF body.sz body []).2; omega)
 have dP : den E 143 [.agg [.int .i64 c.ty.kind,.str c.ty.name,.int .i64 c.ty.n,.slice (tysV c.ty.args)]] [] = some (.tup [.slice (names.map .str),tyV body],[]) := by
  rw [den_eq prim_143,body_143]
  rw [tyV_eq c.ty] at df dp
  rw [tyV_eq body] at dp ⊢
  simp only [go_sem,Tryz.f143,df,dp]
 rw [tyV_eq body] at dP
 have dA := anyP_den (spF body.sz body []).2.args (by have := args_len (spF body.sz body []).2; omega) (fun x hx => poly_den _ x (Nat.le_refl _) (by have := szs_mem hx; have := sz_eq (spF body.sz body []).2; omega))
 rw [den_eq prim_82,body_82]
 obtain ⟨fin,hfin⟩ : ∃ fin,fin = (some (okV none,[]) : Option (AVal × Heap)) := ⟨_,rfl⟩
 rw [← hfin]
 simp only [go_sem,Tryz.f82,deC,coV,dP]
 refine run_ind (fun a : SpS => a.t.sz ≤ a.n ∧ GT a.t ∧ a.t.sz < 300000 ∧ a.acc.length + a.n ≤ body.sz ∧ spF a.n a.t a.acc = spF body.sz body [])
  (fun a => ⟨[(2,.ptr (.loc 2) 0),(4,.ptr (.loc 4) 0),(6,.slice (names.map .str)),(7,.ptr (.loc 7) 0),(8,.ptr (.loc 8) 0),(9,.own 25 0 (tysV a.acc))],[],[(2,deC d),(4,zB),(7,tB a.t),(8,xB c d [] [] [] [])],1⟩)
  (fun _ => fin) (fun a => a.n) ⟨body.sz,body,[]⟩ ⟨Nat.le_refl _,g1,by show body.sz < 300000; omega,by simp,rfl⟩ ?_ ?_
 · simp only [go_sem,deC,tysV_nil]
 · rintro ⟨n,t,acc⟩ ⟨hn,hgt,hbt,hl,hsp⟩ h
   simp only at hn hgt hbt hl hsp ⊢
   cases hk : t.kind == 4
   · rw [spF_rest n t acc hk] at hsp
     rw [← hsp] at hm dA
     simp only at hm dA
     cases k3 : t.kind == 3
     · simp only [go_sem,deC,hk,k3,bne]
       rw [hfin]; rfl
     · rw [k3] at hm
       cases kn : t.name == d.name
       · simp only [go_sem,deC,hk,k3,kn,bne]
         rw [hfin]; rfl
       · rw [kn] at hm
         cases kp : polyL t.args
         · rw [kp] at hm; simp at hm
         · rw [kp] at dA
           simp only [go_sem,deC,hk,k3,kn,bne,dA]
           rw [hfin]; rfl
   · obtain ⟨u,v,rfl,hu,hv⟩ := hgt.fn_inv hk
     rw [sz_mk,szs_two] at hn hbt
     obtain ⟨m,rfl⟩ : ∃ m,n = m + 1 := ⟨n - 1,by omega⟩
     rw [spF_fn] at hsp
     have a1 : acc.length + 1 ≤ appMax := by unfold appMax; omega
     have rl := tysV_len acc
     have hts := tysV_snoc acc u
     simp only [tB,kind_mk,name_mk,n_mk,args_mk,tysV_cons,tysV_nil]
     rw [tyV_eq u,tyV_eq v]
     simp only [go_sem,deC,Int.le_refl,Int.toNat_zero,Int.toNat_one,Int.zero_le_ofNat,rl,a1]
     refine h ⟨m,v,acc ++ [u]⟩ _ ⟨show v.sz ≤ m by omega,hv,show v.sz < 300000 by omega,by simp; omega,hsp⟩ (show m < m + 1 by omega) ?_
     simp only [go_sem,hts,deC]
theorem gvV_eq (g : Gv) : gvV g = .agg [.str g.name,.int .i64 g.l.kind,.str g.l.name,.int .i64 g.l.n,.slice (tysV g.l.args),.int .i64 g.r.kind,.str g.r.name,.int .i64 g.r.n,.slice (tysV g.r.args)] := rfl
def natV (k : Nat) : AVal := .int .i64 (k : Int)
theorem nats_get (l : List Nat) (i : Nat) : (l.map natV)[i]? = (l[i]?).map natV := by simp
theorem lp1_cons (t : Ty) (r : List Ty) (i : Nat) (c : Cal) (ix : List Nat) : lp1 (t :: r) i c ix = if t.kind == 1 && (lookK t.name c).isNone then lp1 r (i + 1) (updK t.name (univF i) c) ix else lp1 r (i + 1) c (ix ++ [i]) := rfl
theorem lp2_cons (n : List UInt8) (r : List (List UInt8)) (c : Cal) (ex : List (List UInt8)) : lp2 (n :: r) c ex = if (lookK n c).isNone then lp2 r (updK n (exisF ex.length) c) (ex ++ [exisF ex.length]) else lp2 r c ex := rfl
theorem lp3_cons (called : Cal) (names : List (List UInt8)) (ts : List Ty) (k : Nat) (r : List Nat) (acc : List Gv) : lp3 called names ts (k :: r) acc = lp3 called names ts r (acc ++ [⟨givF acc.length,.mk 1 (univF k) 0 [],drenF called names (ts.getD k zTy)⟩]) := rfl
theorem drop_map {α β : Type} (f : α → β) (l : List α) (i : Nat) (x : α) (h : l[i]? = some x) : (l.take (i + 1)).map f = (l.take i).map f ++ [f x] := by
 rw [List.take_add_one,h]; simp
structure L3S where
 i : Nat
 gs : List Gv
theorem made_yes (d : De) (c : Co) (hg : GT c.ty) (hb : c.ty.sz < 12000) (X : CX) (hm : madeF d c = some X) : den E 82 [.agg (deC d),coV c] [] = some (okV (some X),[]) := by
 have hfl := freeT_le _ c.ty (Nat.le_refl _) [] []
 simp only [List.length_nil,Nat.zero_add] at hfl
 have hbd : c.ty.sz * ((freeT c.ty [] []).length + 1) ≤ 900000000 := Nat.le_trans (Nat.mul_le_mul (show c.ty.sz ≤ 12000 by omega) (show _ ≤ 12001 by omega)) (by omega)
 have df := tfree_den c.ty (by omega)
 have dp := peeled_den 112 (freeT c.ty [] []) (by omega) c.ty hg (by omega) hbd
 obtain ⟨g1,s1,n1,o1⟩ := peel_ok 112 (freeT c.ty [] []) c.ty.sz c.ty 0 (Nat.le_refl _) hg (by omega) (by omega)
 unfold madeF at hm
 simp only at hm
 generalize peelF 112 (freeT c.ty [] []) c.ty.sz c.ty 0 = p at *
 obtain ⟨names,body⟩ := p
 simp only at dp g1 s1 n1 o1 hm
 obtain ⟨g2,s2,a2,n2⟩ := spF_ok body.sz body [] (Nat.le_refl _) g1 (fun x hx => by cases hx) (by omega)
 have dpl := poly_den _ (.mk 0 [] 0 (spF body.sz body []).2.args) (Nat.le_refl _) (by rw [sz_mk]; have := sz_eq (spF body.sz body []).2; omega)
 have dP : den E 143 [.agg [.int .i64 c.ty.kind,.str c.ty.name,.int .i64 c.ty.n,.slice (tysV c.ty.args)]] [] = some (.tup [.slice (names.map .str),tyV body],[]) := by
  rw [den_eq prim_143,body_143]
  rw [tyV_eq c.ty] at df dp
  rw [tyV_eq body] at dp ⊢
  simp only [go_sem,Tryz.f143,df,dp]
 rw [tyV_eq body] at dP
 have dA := anyP_den (spF body.sz body []).2.args (by have := args_len (spF body.sz body []).2; omega) (fun x hx => poly_den _ x (Nat.le_refl _) (by have := szs_mem hx; have := sz_eq (spF body.sz body []).2; omega))
 rw [den_eq prim_82,body_82]
 obtain ⟨fin,hfin⟩ : ∃ fin,fin = (some (okV (some X),[]) : Option (AVal × Heap)) := ⟨_,rfl⟩
 rw [← hfin]
 simp only [go_sem,Tryz.f82,deC,coV,dP]
 refine run_ind (fun a : SpS => a.t.sz ≤ a.n ∧ GT a.t ∧ a.t.sz < 300000 ∧ a.acc.length + a.n ≤ body.sz ∧ spF a.n a.t a.acc = spF body.sz body [])
  (fun a => ⟨[(2,.ptr (.loc 2) 0),(4,.ptr (.loc 4) 0),(6,.slice (names.map .str)),(7,.ptr (.loc 7) 0),(8,.ptr (.loc 8) 0),(9,.own 25 0 (tysV a.acc))],[],[(2,deC d),(4,zB),(7,tB a.t),(8,xB c d [] [] [] [])],1⟩)
  (fun _ => fin) (fun a => a.n) ⟨body.sz,body,[]⟩ ⟨Nat.le_refl _,g1,by show body.sz < 300000; omega,by simp,rfl⟩ ?_ ?_
 · simp only [go_sem,deC,tysV_nil]
 · rintro ⟨n,t,acc⟩ ⟨hn,hgt,hbt,hl,hsp⟩ h
   simp only at hn hgt hbt hl hsp ⊢
   cases hk : t.kind == 4
   · rw [spF_rest n t acc hk] at hsp
     rw [← hsp] at hm dA
     simp only at hm dA
     obtain ⟨k3,kn,kp⟩ : (t.kind == 3) = true ∧ (t.name == d.name) = true ∧ polyL t.args = false := by
      cases k3 : t.kind == 3 <;> cases kn : t.name == d.name <;> cases kp : polyL t.args <;> simp [k3,kn,kp] at hm ⊢
     rw [k3,kn,kp] at hm
     rw [kp] at dA
     simp only [Bool.not_false,Bool.and_self,if_true] at hm
     injection hm with hm
     rw [← hsp] at g2 s2 a2 n2
     simp only at g2 s2 a2 n2
     have hta := g2.args
     have hal := args_len t
     obtain ⟨w1o,w1i,w1l⟩ := lp1_ok t.args 0 [] [] (fun p hp => by cases hp) (by omega) (fun k hk => by cases hk)
     obtain ⟨w2o,w2n,_,w2l⟩ := lp2_ok names (lp1 t.args 0 [] []).1 [] w1o (by simp; omega)
     obtain ⟨C1,IX,hC1⟩ : ∃ C1 IX,lp1 t.args 0 [] [] = (C1,IX) := ⟨_,_,rfl⟩
     rw [hC1] at hm w1o w1i w1l w2o w2n w2l
     simp only at hm w1o w1i w1l w2o w2n w2l
     obtain ⟨C2,EX,hC2⟩ : ∃ C2 EX,lp2 names C1 [] = (C2,EX) := ⟨_,_,rfl⟩
     rw [hC2] at hm w2o w2n w2l
     simp only at hm w2o w2n w2l
     have hcal : ∀ n ∈ names,(lookK n C2).getD [] ≠ [] ∧ ((lookK n C2).getD []).length ≤ 16 := fun n hn => by
      have h1 := w2n n hn
      cases h2 : lookK n C2 with
      | none => rw [h2] at h1; cases h1
      | some v => exact w2o.look h2
     have rl := tysV_len t.args
     have rla := tysV_len acc
     simp only [go_sem,deC,hk,k3,kn,bne,dA,rl]
     clear h dA
     refine run_ind (fun a : L1S => a.i ≤ t.args.length ∧ lp1 (t.args.drop a.i) a.i a.c a.ix = (C1,IX) ∧ a.ix.length ≤ a.i)
      (fun a => ⟨[(4,.ptr (.loc 4) 0),(6,.slice (names.map .str)),(7,.ptr (.loc 7) 0),(8,.ptr (.loc 8) 0),(9,.own 25 0 (tysV acc)),(10,.own 1099511627777 0 (entM strE a.c)),(11,.own 3 0 (a.ix.map natV)),(69,.slice (tysV t.args)),(70,.int .i64 t.args.length),(71,.int .i64 a.i)],[],[(4,zB),(7,tB t),(8,xB c d ((List.range a.i).map univF) [] [] [])],1⟩)
      (fun _ => fin) (fun a => t.args.length - a.i) ⟨0,[],[]⟩ ⟨Nat.zero_le _,hC1,Nat.le_refl _⟩ ?_ ?_
     · simp only [go_sem,entM,List.range_zero,tysV_nil]
     · rintro ⟨i,cl,ix⟩ ⟨hi,hlp,hix⟩ h
       simp only at hi hlp hix ⊢
       by_cases hlt : i < t.args.length
       · obtain ⟨x,hx⟩ := getS hlt
         rw [dropGet hx,lp1_cons] at hlp
         have w1 : IntKind.i64.wrap ((i : Int) + 1) = ((i + 1 : Nat) : Int) := wrapN (i + 1) (by omega)
         have d1 := fitoa_den i (by omega)
         have m1 := (pfx_len 117 i (by omega)).2.2
         have hf := find_entM strE x.name cl
         have hu := upd_entM strE x.name (univF i) cl
         have a1 : i + 1 ≤ appMax := by unfold appMax; omega
         have a2 : ix.length + 1 ≤ appMax := by unfold appMax; omega
         have hrg : ((List.range i).map univF).length = i := by simp
         have hrs := range_snoc i
         have hgt2 : (((List.range i).map univF).map AVal.str ++ [.str (117 :: Lib.itoa (i : Int))])[i]? = some (.str (117 :: Lib.itoa (i : Int))) := by
          rw [List.getElem?_append_right (by simp)]; simp
         unfold univF at hu
         simp only [strE] at hu
         cases kx : x.kind == 1
         · rw [kx] at hlp
           simp only [Bool.false_and,Bool.false_eq_true,if_false] at hlp
           cases hk2 : lookK x.name cl with
           | none =>
            rw [hk2] at hf
            simp only [Option.map_none] at hf
            simp only [go_sem,natlt,decide_eq_true hlt,natge0,tonat,tysGet,hx,tyV_eq,d1,m1,kx,hf,List.length_map,hrg,a1,a2]
            refine h ⟨i + 1,cl,ix ++ [i]⟩ _ ⟨show i + 1 ≤ t.args.length by omega,hlp,by simp; omega⟩ (show t.args.length - (i + 1) < t.args.length - i by omega) ?_
            simp only [go_sem,w1,List.map_append,univF,natV]
           | some v =>
            rw [hk2] at hf
            simp only [Option.map_some,strE] at hf
            simp only [go_sem,natlt,decide_eq_true hlt,natge0,tonat,tysGet,hx,tyV_eq,d1,m1,kx,hf,List.length_map,hrg,a1,a2]
            refine h ⟨i + 1,cl,ix ++ [i]⟩ _ ⟨show i + 1 ≤ t.args.length by omega,hlp,by simp; omega⟩ (show t.args.length - (i + 1) < t.args.length - i by omega) ?_
            simp only [go_sem,w1,List.map_append,univF,natV]
         · rw [kx] at hlp
           cases hk2 : lookK x.name cl with
           | none =>
            rw [hk2] at hf hlp
            simp only [Option.map_none,Option.isNone_none,Bool.and_self,if_true] at hf hlp
            simp only [go_sem,natlt,decide_eq_true hlt,natge0,tonat,tysGet,hx,tyV_eq,d1,m1,kx,hf,List.length_map,hrg,a1,hgt2,hu]
            refine h ⟨i + 1,updK x.name (univF i) cl,ix⟩ _ ⟨show i + 1 ≤ t.args.length by omega,hlp,show ix.length ≤ i + 1 by omega⟩ (show t.args.length - (i + 1) < t.args.length - i by omega) ?_
            simp only [go_sem,w1,List.map_append,univF]
           | some v =>
            rw [hk2] at hf hlp
            simp only [Option.map_some,strE,Option.isNone_some,Bool.and_false,Bool.false_eq_true,if_false] at hf hlp
            simp only [go_sem,natlt,decide_eq_true hlt,natge0,tonat,tysGet,hx,tyV_eq,d1,m1,kx,hf,List.length_map,hrg,a1,a2]
            refine h ⟨i + 1,cl,ix ++ [i]⟩ _ ⟨show i + 1 ≤ t.args.length by omega,hlp,by simp; omega⟩ (show t.args.length - (i + 1) < t.args.length - i by omega) ?_
            simp only [go_sem,w1,List.map_append,univF,natV]
       · have hie : i = t.args.length := by omega
         subst hie
         rw [List.drop_length] at hlp
         have e1 : cl = C1 ∧ ix = IX := by simpa [lp1] using hlp
         obtain ⟨rfl,rfl⟩ := e1
         simp only [go_sem,natlt,Nat.lt_irrefl,List.length_map]
         clear h
         refine run_ind (fun a : L2S => a.i ≤ names.length ∧ lp2 (names.drop a.i) a.c a.ex = (C2,EX) ∧ a.ex.length ≤ a.i)
          (fun a => ⟨[(4,.ptr (.loc 4) 0),(6,.slice (names.map .str)),(7,.ptr (.loc 7) 0),(8,.ptr (.loc 8) 0),(9,.own 25 0 (tysV acc)),(10,.own 1099511627777 0 (entM strE a.c)),(11,.own 3 0 (ix.map natV)),(111,.slice (names.map .str)),(112,.int .i64 names.length),(113,.int .i64 a.i)],[],[(4,zB),(7,tB t),(8,xB c d ((List.range t.args.length).map univF) a.ex [] [])],1⟩)
          (fun _ => fin) (fun a => names.length - a.i) ⟨0,cl,[]⟩ ⟨Nat.zero_le _,hC2,Nat.le_refl _⟩ ?_ ?_
         · simp only [go_sem,tysV_nil]
         · rintro ⟨i,cl2,ex⟩ ⟨hi,hlp,hex⟩ h
           simp only at hi hlp hex ⊢
           by_cases hlt : i < names.length
           · obtain ⟨x,hx⟩ := getS hlt
             rw [dropGet hx,lp2_cons] at hlp
             have w1 : IntKind.i64.wrap ((i : Int) + 1) = ((i + 1 : Nat) : Int) := wrapN (i + 1) (by omega)
             have d1 := fitoa_den ex.length (by omega)
             have m1 := (pfx_len 101 ex.length (by omega)).2.2
             have hf := find_entM strE x cl2
             have hu := upd_entM strE x (exisF ex.length) cl2
             have hf2 := find_entM strE x (updK x (exisF ex.length) cl2)
             rw [look_upd] at hf2
             simp only [Option.map_some] at hf2
             unfold exisF at hu hf2
             simp only [strE] at hu hf2
             have a1 : ex.length + 1 ≤ appMax := by unfold appMax; omega
             cases hk2 : lookK x cl2 with
             | none =>
              rw [hk2] at hf hlp
              simp only [Option.map_none,Option.isNone_none,if_true] at hf hlp
              simp only [go_sem,natlt,decide_eq_true hlt,natge0,tonat,strsGet,hx,d1,m1,hf,hf2,List.length_map,a1,hu]
              refine h ⟨i + 1,updK x (exisF ex.length) cl2,ex ++ [exisF ex.length]⟩ _ ⟨show i + 1 ≤ names.length by omega,hlp,by simp; omega⟩ (show names.length - (i + 1) < names.length - i by omega) ?_
              simp only [go_sem,w1,List.map_append,exisF]
             | some v =>
              rw [hk2] at hf hlp
              simp only [Option.map_some,strE,Option.isNone_some,Bool.false_eq_true,if_false] at hf hlp
              simp only [go_sem,natlt,decide_eq_true hlt,natge0,tonat,strsGet,hx,hf]
              refine h ⟨i + 1,cl2,ex⟩ _ ⟨show i + 1 ≤ names.length by omega,hlp,show ex.length ≤ i + 1 by omega⟩ (show names.length - (i + 1) < names.length - i by omega) ?_
              simp only [go_sem,w1]
           · have hie : i = names.length := by omega
             subst hie
             rw [List.drop_length] at hlp
             have e1 : cl2 = C2 ∧ ex = EX := by simpa [lp2] using hlp
             obtain ⟨rfl,rfl⟩ := e1
             simp only [go_sem,natlt,Nat.lt_irrefl,List.length_map]
             clear h
             refine run_ind (fun a : L3S => a.i ≤ ix.length ∧ lp3 cl2 names t.args (ix.drop a.i) a.gs = lp3 cl2 names t.args ix [] ∧ a.gs.length ≤ a.i)
              (fun a => ⟨[(4,.ptr (.loc 4) 0),(6,.slice (names.map .str)),(7,.ptr (.loc 7) 0),(8,.ptr (.loc 8) 0),(9,.own 25 0 (tysV acc)),(10,.pmap (entM strE cl2)),(141,.slice (ix.map natV)),(142,.int .i64 ix.length),(143,.int .i64 a.i)],[],[(4,zB),(7,tB t),(8,xB c d ((List.range t.args.length).map univF) ex a.gs [])],1⟩)
              (fun _ => fin) (fun a => ix.length - a.i) ⟨0,[]⟩ ⟨Nat.zero_le _,rfl,Nat.le_refl _⟩ ?_ ?_
             · simp only [go_sem,tysV_nil]
             · rintro ⟨i,gs⟩ ⟨hi,hlp,hgs⟩ h
               simp only at hi hlp hgs ⊢
               by_cases hlt : i < ix.length
               · obtain ⟨k,hx⟩ := getS hlt
                 rw [dropGet hx,lp3_cons] at hlp
                 have hkt : k < t.args.length := by have := w1i k (List.mem_of_getElem? hx); omega
                 obtain ⟨y,hy⟩ := getS hkt
                 have hyd : t.args.getD k zTy = y := by rw [List.getD_eq_getElem?_getD,hy]; rfl
                 rw [hyd] at hlp
                 have hym := List.mem_of_getElem? hy
                 have hys := szs_mem hym
                 have hts := sz_eq t
                 obtain ⟨dr,_,_⟩ := dren_den cl2 names y (by omega) hcal (hta y hym) (by omega)
                 have w1 : IntKind.i64.wrap ((i : Int) + 1) = ((i + 1 : Nat) : Int) := wrapN (i + 1) (by omega)
                 have d1 := fitoa_den gs.length (by omega)
                 have m1 := (pfx_len 103 gs.length (by omega)).2.2
                 have a1 : gs.length + 1 ≤ appMax := by unfold appMax; omega
                 have hug : (((List.range t.args.length).map univF).map AVal.str)[k]? = some (.str (univF k)) := by simp [hkt]
                 rw [tyV_eq y,tyV_eq (drenF _ _ _)] at dr
                 have hnx : (ix.map natV)[i]? = some (.int .i64 (k : Int)) := by rw [nats_get,hx]; rfl
                 simp only [go_sem,natlt,decide_eq_true hlt,natge0,tonat,hnx,hug,tysGet,hy,tyV_eq,d1,m1,dr,List.length_map,a1]
                 refine h ⟨i + 1,gs ++ [⟨givF gs.length,.mk 1 (univF k) 0 [],drenF cl2 names y⟩]⟩ _ ⟨show i + 1 ≤ ix.length by omega,hlp,by simp; omega⟩ (show ix.length - (i + 1) < ix.length - i by omega) ?_
                 simp only [go_sem,w1,List.map_append,gvV_eq,givF,kind_mk,name_mk,n_mk,args_mk,tysV_nil]
               · have hie : i = ix.length := by omega
                 subst hie
                 rw [List.drop_length] at hlp
                 have hlp : gs = lp3 cl2 names t.args ix [] := hlp
                 simp only [go_sem,natlt,Nat.lt_irrefl,rla]
                 clear h
                 refine run_ind (fun i : Nat => i ≤ acc.length)
                  (fun i => ⟨[(4,.ptr (.loc 4) 0),(6,.slice (names.map .str)),(8,.ptr (.loc 8) 0),(10,.pmap (entM strE cl2)),(173,.slice (tysV acc)),(174,.int .i64 acc.length),(175,.int .i64 i)],[],[(4,zB),(8,xB c d ((List.range t.args.length).map univF) ex gs ((acc.take i).map (drenF cl2 names)))],1⟩)
                  (fun _ => fin) (fun i => acc.length - i) 0 (Nat.zero_le _) ?_ ?_
                 · simp only [go_sem,tysV_nil,List.take_zero]
                 · intro i hi h
                   by_cases hlt : i < acc.length
                   · obtain ⟨y,hy⟩ := getS hlt
                     obtain ⟨hgy,hby⟩ := a2 y (List.mem_of_getElem? hy)
                     obtain ⟨dr,_,_⟩ := dren_den cl2 names y (by omega) hcal hgy hby
                     have w1 : IntKind.i64.wrap ((i : Int) + 1) = ((i + 1 : Nat) : Int) := wrapN (i + 1) (by omega)
                     have hdm := drop_map (drenF cl2 names) acc i y hy
                     have htk := tysV_len ((acc.take i).map (drenF cl2 names))
                     have htl : ((acc.take i).map (drenF cl2 names)).length ≤ i := by simp; omega
                     have a1 : ((acc.take i).map (drenF cl2 names)).length + 1 ≤ appMax := by unfold appMax; omega
                     have hts := tysV_snoc ((acc.take i).map (drenF cl2 names)) (drenF cl2 names y)
                     rw [tyV_eq y,tyV_eq (drenF _ _ _)] at dr
                     generalize hQ : (acc.take i).map (drenF cl2 names) = Q at *
                     simp only [go_sem,natlt,decide_eq_true hlt,natge0,tonat,tysGet,hy,tyV_eq,dr,htk,a1]
                     refine h (i + 1) _ (by omega) (by omega) ?_
                     simp only [go_sem,w1,hdm,hts]
                   · have hie : i = acc.length := by omega
                     subst hie
                     rw [List.take_length]
                     simp only [go_sem,natlt,Nat.lt_irrefl]
                     rw [hfin,← hm,← hlp]
                     rfl
   · obtain ⟨u,v,rfl,hu,hv⟩ := hgt.fn_inv hk
     rw [sz_mk,szs_two] at hn hbt
     obtain ⟨m,rfl⟩ : ∃ m,n = m + 1 := ⟨n - 1,by omega⟩
     rw [spF_fn] at hsp
     have a1 : acc.length + 1 ≤ appMax := by unfold appMax; omega
     have rl := tysV_len acc
     have hts := tysV_snoc acc u
     simp only [tB,kind_mk,name_mk,n_mk,args_mk,tysV_cons,tysV_nil]
     rw [tyV_eq u,tyV_eq v]
     simp only [go_sem,deC,Int.le_refl,Int.toNat_zero,Int.toNat_one,Int.zero_le_ofNat,rl,a1]
     refine h ⟨m,v,acc ++ [u]⟩ _ ⟨show v.sz ≤ m by omega,hv,show v.sz < 300000 by omega,by simp; omega,hsp⟩ (show m < m + 1 by omega) ?_
     simp only [go_sem,hts,deC]
end Go.Proofs
namespace Go.Proofs
open Go.Av
open Go.Kn (Dc nmF arF csF)
set_option maxHeartbeats 64000000
set_option maxRecDepth 100000
def dcT (d : De) : Dc := ⟨d.kind,ba d.name,d.vars.length,d.cons.map fun c => ba c.name⟩
def arU (l : List De) : List (List UInt8 × Int) := (arF (l.map dcT)).map fun p => (p.1.data.toList,p.2)
def csU (l : List De) : List (List UInt8 × List (List UInt8)) := (csF (l.map dcT)).map fun p => (p.1.data.toList,p.2.map fun s => s.data.toList)
def lsA (l : List (List UInt8)) : AVal := .slice (l.map .str)
def conA (x : CX) : AVal := .agg (xcC x)
theorem consOf_co : ∀ l : List Co,consOf (l.map coV) = some (l.map fun c => ba c.name)
 | [] => rfl
 | c :: r => by
  rw [List.map_cons,List.map_cons]
  show (if [AVal.int .i64 c.ty.kind,.str c.ty.name,.int .i64 c.ty.n,.slice (tysV c.ty.args)].length = 4 then (consOf (r.map coV)).map (ba c.name :: ·) else none) = _
  simp only [List.length_cons,List.length_nil,Nat.reduceAdd,if_true,consOf_co r,Option.map_some]
theorem dcOf_de (d : De) (h1 : d.vars.length ≤ 1073741824) (h2 : d.cons.length ≤ 1073741824) : dcOf (deV d) = some (dcT d) := by
 unfold deV deC dcOf
 simp only
 rw [if_pos ⟨rfl,by rw [List.length_map]; exact h1,by rw [List.length_map]; exact h2⟩,consOf_co]
 simp only [Option.map_some,List.length_map]; rfl
theorem dcsOf_des : ∀ l : List De,(∀ d ∈ l,d.vars.length ≤ 1073741824 ∧ d.cons.length ≤ 1073741824) → dcsOf (l.map deV) = some (l.map dcT)
 | [],_ => rfl
 | d :: r,h => by
  rw [List.map_cons,List.map_cons,dcsOf,dcOf_de d (h d (by simp)).1 (h d (by simp)).2,Option.bind_some,dcsOf_des r fun x hx => h x (by simp [hx])]; rfl
theorem nmF_le : ∀ (l : List De) (n : Nat),(l.map dcT).foldl Go.Kn.nmS n ≤ n + De.sum l
 | [],n => Nat.le_add_right _ _
 | d :: r,n => by
  rw [List.map_cons,List.foldl_cons]
  refine Nat.le_trans (nmF_le r _) ?_
  have h1 : Go.Kn.nmS n (dcT d) ≤ n + d.tot := by
   have : d.cons.length ≤ d.tot := by unfold De.tot; omega
   unfold Go.Kn.nmS dcT
   split
   · simp; omega
   · omega
  have h2 : De.sum (d :: r) = d.tot + De.sum r := by simp [De.sum]
  omega
theorem known_den (l : List De) (h : De.sum l ≤ 12000) : den E 81 [.slice (l.map deV)] [] = some (.ptr (.par 0) 0,[[.own 1099511627777 0 (entM intA (arU l)),.own 1099511627777 0 (entM lsA (csU l)),.own 1099511627777 0 (entM conA [])]]) := by
 have hl := desum_len l
 rw [den_prim prim_81]
 unfold knownP
 simp only
 rw [dcsOf_des l fun d hd => by
  have := desum_mem hd
  unfold De.tot at this
  exact ⟨by omega,by omega⟩]
 simp only [Option.bind_some,List.length_map]
 have hn : nmF (l.map dcT) ≤ 1073741824 := by
  have := nmF_le l 0
  unfold nmF; omega
 rw [if_pos ⟨by omega,hn⟩]
 have e1 : arA (arF (l.map dcT)) = entM intA (arU l) := by unfold arA entM arU intA strA; rw [List.map_map]; rfl
 have e2 : csA (csF (l.map dcT)) = entM lsA (csU l) := by
  unfold csA entM csU lsA strA
  rw [List.map_map]
  congr 1
  funext p
  simp
 rw [e1,e2]; rfl
abbrev CMap := List (List UInt8 × CX)
def consF (ar : List (List UInt8 × Int)) (d : De) : List Co → Nat → CMap → (List UInt8 × Int) ⊕ CMap
 | [],_,m => .inr m
 | c :: r,i,m => if goodR ar c.ty == 0 then (match madeF d c with
  | none => .inl (c.name,112)
  | some x => consF ar d r (i + 1) (updK c.name { x with tag := (i : Int) } m)) else .inl (c.name,goodR ar c.ty)
def desF (ar : List (List UInt8 × Int)) : List De → CMap → (List UInt8 × Int) ⊕ CMap
 | [],m => .inr m
 | d :: r,m => if d.kind == 2 && goodR ar d.ty != 0 then .inl (d.name,goodR ar d.ty) else (match consF ar d d.cons 0 m with
  | .inl e => .inl e
  | .inr m' => desF ar r m')
def newF (l : List De) : (List UInt8 × Int) ⊕ CMap := desF (arU l) l []
def newV (l : List De) : (List UInt8 × Int) ⊕ CMap → AVal × Heap
 | .inl e => (.tup [.nilp,.str e.1,.int .i64 e.2],[])
 | .inr m => (.tup [.ptr (.par 0) 0,.str [],.int .i64 0],[tabB (arU l) (entM lsA (csU l)) (entM conA m)])
theorem consF_cons (ar : List (List UInt8 × Int)) (d : De) (c : Co) (r : List Co) (i : Nat) (m : CMap) : consF ar d (c :: r) i m = if goodR ar c.ty == 0 then (match madeF d c with
 | none => .inl (c.name,112)
 | some x => consF ar d r (i + 1) (updK c.name { x with tag := (i : Int) } m)) else .inl (c.name,goodR ar c.ty) := rfl
theorem desF_cons (ar : List (List UInt8 × Int)) (d : De) (r : List De) (m : CMap) : desF ar (d :: r) m = if d.kind == 2 && goodR ar d.ty != 0 then .inl (d.name,goodR ar d.ty) else (match consF ar d d.cons 0 m with
 | .inl e => .inl e
 | .inr m' => desF ar r m') := rfl
theorem coV_eq (c : Co) : coV c = .agg [.str c.name,.int .i64 c.ty.kind,.str c.ty.name,.int .i64 c.ty.n,.slice (tysV c.ty.args)] := rfl
structure NewS where
 i : Nat
 m : CMap
theorem new_den (l : List De) (hg : ∀ d ∈ l,GD d) (hs : De.sum l ≤ 12000) : den E 25 [.slice (l.map deV)] [] = some (newV l (newF l)) := by
 have hlen := desum_len l
 have dk := known_den l (by omega)
 obtain ⟨ar,har⟩ : ∃ ar,ar = arU l := ⟨_,rfl⟩
 obtain ⟨cs,hcs⟩ : ∃ cs,cs = entM lsA (csU l) := ⟨_,rfl⟩
 obtain ⟨fin,hfin⟩ : ∃ fin,fin = (some (newV l (newF l)) : Option (AVal × Heap)) := ⟨_,rfl⟩
 rw [← hfin]
 unfold newV newF at hfin
 rw [← har,← hcs] at hfin dk
 rw [den_eq prim_25,body_25]
 simp only [go_sem,Tryz.f25,dk,List.length_map]
 refine run_ind (fun a : NewS => a.i ≤ l.length ∧ desF ar (l.drop a.i) a.m = desF ar l []) (fun a => ⟨[(2,.ptr (.loc 14) 0),(15,.slice (l.map deV)),(16,.int .i64 l.length),(17,.int .i64 a.i)],[],[(14,tabB ar cs (entM conA a.m))],1⟩)
  (fun _ => fin) (fun a => l.length - a.i) ⟨0,[]⟩ ⟨Nat.zero_le _,rfl⟩ ?_ ?_
 · simp only [go_sem]
 · rintro ⟨i,m⟩ ⟨hi,hdf⟩ h
   simp only at hi hdf ⊢
   by_cases hlt : i < l.length
   · obtain ⟨d,hx⟩ := getS hlt
     have hmem := List.mem_of_getElem? hx
     have hm := desum_mem hmem
     have hgd := hg d hmem
     rw [dropGet hx,desF_cons] at hdf
     have w1 : IntKind.i64.wrap ((i : Int) + 1) = ((i + 1 : Nat) : Int) := wrapN (i + 1) (by omega)
     have hdl : (l.map deV)[i]? = some (deV d) := by simp [hx]
     have dg := good_den ar cs (entM conA m) d.ty (by unfold De.tot at hm; omega)
     rw [tyV_eq] at dg
     unfold tabB at dg
     have hcons : ∀ c ∈ d.cons,GT c.ty ∧ c.ty.sz < 12000 := fun c hc => by
      have h1 : c.ty.sz ≤ Ty.szs (d.cons.map Co.ty) := cons_sz hc
      have h2 := tot_pos d.val
      unfold De.tot at hm
      refine ⟨?_,by omega⟩
      cases hgd with
      | data s vs cs _ _ h3 => exact (h3 c hc).2
      | sig _ _ _ _ => cases hc
      | bind _ _ _ _ => cases hc
     have hclen : d.cons.length ≤ 12000 := by unfold De.tot at hm; omega
     cases k2 : d.kind == 2
     · rw [k2] at hdf
       simp only [Bool.false_and,Bool.false_eq_true,if_false] at hdf
       simp only [go_sem,natlt,decide_eq_true hlt,natge0,tonat,hdl,deV,deC,k2,List.length_map]
       refine run_ind (fun a : NewS => a.i ≤ d.cons.length ∧ consF ar d (d.cons.drop a.i) a.i a.m = consF ar d d.cons 0 m) (fun a => ⟨[(2,.ptr (.loc 14) 0),(6,.ptr (.loc 6) 0),(15,.slice (l.map deV)),(16,.int .i64 l.length),(17,.int .i64 i),(34,.slice (d.cons.map coV)),(35,.int .i64 d.cons.length),(36,.int .i64 a.i)],[],[(6,deC d),(14,tabB ar cs (entM conA a.m))],1⟩)
        (fun _ => fin) (fun a => d.cons.length - a.i) ⟨0,m⟩ ⟨Nat.zero_le _,rfl⟩ ?_ ?_
       · simp only [go_sem,deC]
       · rintro ⟨k,m2⟩ ⟨hk,hcf⟩ hh
         simp only at hk hcf ⊢
         by_cases hltk : k < d.cons.length
         · obtain ⟨c,hc⟩ := getS hltk
           have hcm := List.mem_of_getElem? hc
           obtain ⟨gc,sc⟩ := hcons c hcm
           rw [dropGet hc,consF_cons] at hcf
           have w2 : IntKind.i64.wrap ((k : Int) + 1) = ((k + 1 : Nat) : Int) := wrapN (k + 1) (by omega)
           have hcl : (d.cons.map coV)[k]? = some (coV c) := by simp [hc]
           have dgc := good_den ar cs (entM conA m2) c.ty (by omega)
           rw [tyV_eq] at dgc
           unfold tabB at dgc
           cases hz : goodR ar c.ty == 0
           · rw [hz] at hcf
             simp only [Bool.false_eq_true,if_false] at hcf
             rw [← hcf] at hdf
             simp only at hdf
             rw [← hdf] at hfin
             simp only at hfin
             simp only [go_sem,natlt,decide_eq_true hltk,natge0,tonat,hcl,coV,deC,dgc,hz,bne]
             rw [hfin]
           · rw [hz] at hcf
             simp only [if_true] at hcf
             cases hmd : madeF d c with
             | none =>
              rw [hmd] at hcf
              simp only at hcf
              rw [← hcf] at hdf
              simp only at hdf
              rw [← hdf] at hfin
              simp only at hfin
              have dm := made_no d c gc sc hmd
              rw [hmd] at dm
              unfold deC okV xcC zCX zTy at dm
              rw [coV_eq c] at dm
              simp only [List.map_nil,kind_mk,name_mk,n_mk,args_mk,tysV_nil] at dm
              simp only [go_sem,natlt,decide_eq_true hltk,natge0,tonat,hcl,coV,deC,dgc,hz,bne,dm]
              rw [hfin]
             | some x =>
              rw [hmd] at hcf
              simp only at hcf
              have dm := made_yes d c gc sc x hmd
              unfold deC okV xcC at dm
              rw [coV_eq c] at dm
              simp only at dm
              have hu : updE (.str c.name) (.agg [.str x.name,.str x.data,.int .i64 (k : Int),.int .i64 x.ty.kind,.str x.ty.name,.int .i64 x.ty.n,.slice (tysV x.ty.args),.slice (x.univ.map .str),.slice (x.exis.map .str),.slice (x.givens.map gvV),.slice (tysV x.args)]) (entM conA m2) = some (entM conA (updK c.name { x with tag := (k : Int) } m2)) := upd_entM conA c.name { x with tag := (k : Int) } m2
              simp only [go_sem,natlt,decide_eq_true hltk,natge0,tonat,hcl,coV,deC,dgc,hz,bne,dm,hu]
              refine hh ⟨k + 1,updK c.name { x with tag := (k : Int) } m2⟩ _ ⟨show k + 1 ≤ d.cons.length by omega,hcf⟩ (show d.cons.length - (k + 1) < d.cons.length - k by omega) ?_
              simp only [go_sem,w2,deC]
         · have hke : k = d.cons.length := by omega
           subst hke
           rw [List.drop_length] at hcf
           have hcf : (.inr m2 : (List UInt8 × Int) ⊕ CMap) = consF ar d d.cons 0 m := hcf
           rw [← hcf] at hdf
           simp only at hdf
           simp only [go_sem,natlt,Nat.lt_irrefl]
           refine h ⟨i + 1,m2⟩ _ ⟨show i + 1 ≤ l.length by omega,hdf⟩ (show l.length - (i + 1) < l.length - i by omega) ?_
           simp only [go_sem,w1]
     · cases hz : goodR ar d.ty == 0
       · rw [k2] at hdf
         simp only [bne,hz,Bool.not_false,Bool.and_self,if_true] at hdf
         rw [← hdf] at hfin
         simp only at hfin
         simp only [go_sem,natlt,decide_eq_true hlt,natge0,tonat,hdl,deV,deC,k2,dg,hz,bne]
         rw [hfin]
       · rw [k2] at hdf
         simp only [bne,hz,Bool.not_true,Bool.and_false,Bool.false_eq_true,if_false] at hdf
         simp only [go_sem,natlt,decide_eq_true hlt,natge0,tonat,hdl,deV,deC,k2,dg,hz,bne,List.length_map]
         refine run_ind (fun a : NewS => a.i ≤ d.cons.length ∧ consF ar d (d.cons.drop a.i) a.i a.m = consF ar d d.cons 0 m) (fun a => ⟨[(2,.ptr (.loc 14) 0),(6,.ptr (.loc 6) 0),(15,.slice (l.map deV)),(16,.int .i64 l.length),(17,.int .i64 i),(34,.slice (d.cons.map coV)),(35,.int .i64 d.cons.length),(36,.int .i64 a.i)],[],[(6,deC d),(14,tabB ar cs (entM conA a.m))],1⟩)
          (fun _ => fin) (fun a => d.cons.length - a.i) ⟨0,m⟩ ⟨Nat.zero_le _,rfl⟩ ?_ ?_
         · simp only [go_sem,deC]
         · rintro ⟨k,m2⟩ ⟨hk,hcf⟩ hh
           simp only at hk hcf ⊢
           by_cases hltk : k < d.cons.length
           · obtain ⟨c,hc⟩ := getS hltk
             have hcm := List.mem_of_getElem? hc
             obtain ⟨gc,sc⟩ := hcons c hcm
             rw [dropGet hc,consF_cons] at hcf
             have w2 : IntKind.i64.wrap ((k : Int) + 1) = ((k + 1 : Nat) : Int) := wrapN (k + 1) (by omega)
             have hcl : (d.cons.map coV)[k]? = some (coV c) := by simp [hc]
             have dgc := good_den ar cs (entM conA m2) c.ty (by omega)
             rw [tyV_eq] at dgc
             unfold tabB at dgc
             cases hz : goodR ar c.ty == 0
             · rw [hz] at hcf
               simp only [Bool.false_eq_true,if_false] at hcf
               rw [← hcf] at hdf
               simp only at hdf
               rw [← hdf] at hfin
               simp only at hfin
               simp only [go_sem,natlt,decide_eq_true hltk,natge0,tonat,hcl,coV,deC,dgc,hz,bne]
               rw [hfin]
             · rw [hz] at hcf
               simp only [if_true] at hcf
               cases hmd : madeF d c with
               | none =>
                rw [hmd] at hcf
                simp only at hcf
                rw [← hcf] at hdf
                simp only at hdf
                rw [← hdf] at hfin
                simp only at hfin
                have dm := made_no d c gc sc hmd
                rw [hmd] at dm
                unfold deC okV xcC zCX zTy at dm
                rw [coV_eq c] at dm
                simp only [List.map_nil,kind_mk,name_mk,n_mk,args_mk,tysV_nil] at dm
                simp only [go_sem,natlt,decide_eq_true hltk,natge0,tonat,hcl,coV,deC,dgc,hz,bne,dm]
                rw [hfin]
               | some x =>
                rw [hmd] at hcf
                simp only at hcf
                have dm := made_yes d c gc sc x hmd
                unfold deC okV xcC at dm
                rw [coV_eq c] at dm
                simp only at dm
                have hu : updE (.str c.name) (.agg [.str x.name,.str x.data,.int .i64 (k : Int),.int .i64 x.ty.kind,.str x.ty.name,.int .i64 x.ty.n,.slice (tysV x.ty.args),.slice (x.univ.map .str),.slice (x.exis.map .str),.slice (x.givens.map gvV),.slice (tysV x.args)]) (entM conA m2) = some (entM conA (updK c.name { x with tag := (k : Int) } m2)) := upd_entM conA c.name { x with tag := (k : Int) } m2
                simp only [go_sem,natlt,decide_eq_true hltk,natge0,tonat,hcl,coV,deC,dgc,hz,bne,dm,hu]
                refine hh ⟨k + 1,updK c.name { x with tag := (k : Int) } m2⟩ _ ⟨show k + 1 ≤ d.cons.length by omega,hcf⟩ (show d.cons.length - (k + 1) < d.cons.length - k by omega) ?_
                simp only [go_sem,w2,deC]
           · have hke : k = d.cons.length := by omega
             subst hke
             rw [List.drop_length] at hcf
             have hcf : (.inr m2 : (List UInt8 × Int) ⊕ CMap) = consF ar d d.cons 0 m := hcf
             rw [← hcf] at hdf
             simp only at hdf
             simp only [go_sem,natlt,Nat.lt_irrefl]
             refine h ⟨i + 1,m2⟩ _ ⟨show i + 1 ≤ l.length by omega,hdf⟩ (show l.length - (i + 1) < l.length - i by omega) ?_
             simp only [go_sem,w1]
   · have hie : i = l.length := by omega
     subst hie
     rw [List.drop_length] at hdf
     have hdf : (.inr m : (List UInt8 × Int) ⊕ CMap) = desF ar l [] := hdf
     rw [← hdf] at hfin
     simp only at hfin
     simp only [go_sem,natlt,Nat.lt_irrefl]
     rw [hfin]; rfl
end Go.Proofs
