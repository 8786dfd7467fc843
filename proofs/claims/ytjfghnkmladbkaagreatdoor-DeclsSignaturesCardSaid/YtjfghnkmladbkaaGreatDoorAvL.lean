/- Types: well formed, renamed, with canonical names, put in the place of names, peeled. -/
import Derived.Test.YtjfghnkmladbkaaGreatDoorAvK
namespace Go.Proofs
open Go.Av
set_option maxHeartbeats 16000000
set_option maxRecDepth 100000
mutual
def polyT : Ty → Bool
 | .mk k _ _ l => k == 5 || polyL l
def polyL : List Ty → Bool
 | [] => false
 | t :: l => polyT t || polyL l
end
theorem polyL_cons (t : Ty) (l : List Ty) : polyL (t :: l) = (polyT t || polyL l) := rfl
def idxT (p : Ty → Bool) : List Ty → Nat → Int
 | [],_ => -1
 | x :: r,i => if p x then (i : Int) else idxT p r (i + 1)
theorem idxT_ge (p : Ty → Bool) : ∀ (l : List Ty) (i : Nat),decide (0 ≤ idxT p l i) = l.any p
 | [],i => rfl
 | x :: r,i => by
  unfold idxT
  cases h : p x
  · simp only [Bool.false_eq_true,if_false,List.any_cons,h,Bool.false_or]; exact idxT_ge p r (i + 1)
  · simp [h]
theorem polyL_any : ∀ l : List Ty,polyL l = l.any polyT
 | [] => rfl
 | t :: l => by rw [polyL_cons,List.any_cons,polyL_any l]
theorem ixP_den (l : List Ty) (hl : l.length < 1000000) (hc : ∀ x ∈ l,den E 145 [tyV x] [] = some (.bool (polyT x),[])) : den E 212 [.slice (tysV l),.func 145 [] []] [] = some (.int .i64 (idxT polyT l 0),[]) := by
 rw [den_eq prim_212,body_212]
 have rl := tysV_len l
 simp only [go_sem,Tryz.f212,rl]
 refine run_ind (fun i : Nat => i ≤ l.length) (fun i => ⟨[(0,.slice (tysV l)),(1,.func 145 [] []),(7,.int .i64 l.length),(8,.int .i64 i)],[],[],1⟩) (fun i => some (.int .i64 (idxT polyT (l.drop i) i),[])) (fun i => l.length - i) 0 (Nat.zero_le _) ?_ ?_
 · simp only [go_sem]
 · intro i hi h
   by_cases hlt : i < l.length
   · obtain ⟨x,hx⟩ := getS hlt
     rw [dropGet hx]
     have w1 : IntKind.i64.wrap ((i : Int) + 1) = ((i + 1 : Nat) : Int) := wrapN (i + 1) (by omega)
     have d := hc x (List.mem_of_getElem? hx)
     rw [tyV_eq] at d
     cases hq : polyT x
     · rw [hq] at d
       simp only [go_sem,natlt,decide_eq_true hlt,natge0,tonat,tysGet,hx,hq,d,tyV_eq,idxT]
       refine h (i + 1) _ (by omega) (by omega) ?_
       simp only [go_sem,w1]
     · rw [hq] at d
       simp only [go_sem,natlt,decide_eq_true hlt,natge0,tonat,tysGet,hx,hq,d,tyV_eq,idxT]
   · have hie : i = l.length := by omega
     subst hie
     rw [List.drop_length]
     simp only [go_sem,natlt,Nat.lt_irrefl,idxT]
theorem anyP_den (l : List Ty) (hl : l.length < 1000000) (hc : ∀ x ∈ l,den E 145 [tyV x] [] = some (.bool (polyT x),[])) : den E 144 [.slice (tysV l),.func 145 [] []] [] = some (.bool (polyL l),[]) := by
 rw [den_eq prim_144,body_144]
 have d := ixP_den l hl hc
 have e := idxT_ge polyT l 0
 rw [polyL_any]
 simp only [go_sem,Tryz.f144,d,e,ge_iff_le]
theorem poly_den : ∀ (n : Nat) (t : Ty),t.sz ≤ n → t.sz < 1000000 → den E 145 [tyV t] [] = some (.bool (polyT t),[]) := by
 intro n
 induction n with
 | zero => intro t h; have := sz_eq t; omega
 | succ n ih =>
  intro t hn hb
  have hsz := sz_eq t
  have hal := args_len t
  have d := anyP_den t.args (by omega) fun x hx => by
   have := szs_mem hx
   exact ih x (by omega) (by omega)
  rw [den_eq prim_145,body_145]
  have e : polyT t = (t.kind == 5 || polyL t.args) := by cases t; rfl
  rw [e,tyV_eq]
  cases hk : t.kind == 5
  · simp only [go_sem,Tryz.f145,hk,d,Bool.false_or]
  · simp only [go_sem,Tryz.f145,hk,Bool.true_or]
def entM {α : Type} (f : α → AVal) (l : List (List UInt8 × α)) : List AVal := l.map fun p => .tup [.str p.1,f p.2]
theorem isL_entM {α : Type} (f : α → AVal) (l : List (List UInt8 × α)) : isL (entM f l) = none := by
 cases l with
 | nil => rfl
 | cons a r => cases r <;> rfl
attribute [go_sem ↓] isL_entM
def lookK {α : Type} (k : List UInt8) : List (List UInt8 × α) → Option α
 | [] => none
 | p :: r => if k == p.1 then some p.2 else lookK k r
def updK {α : Type} (k : List UInt8) (v : α) : List (List UInt8 × α) → List (List UInt8 × α)
 | [] => [(k,v)]
 | p :: r => if k == p.1 then (k,v) :: r else p :: updK k v r
theorem find_entM {α : Type} (f : α → AVal) (k : List UInt8) : ∀ l : List (List UInt8 × α),findE (.str k) (entM f l) = some ((lookK k l).map f)
 | [] => rfl
 | p :: r => by
  have ih := find_entM f k r
  unfold entM at ih ⊢
  rw [List.map_cons]
  simp only [findE,keyEq,Option.bind_some,lookK]
  cases h : k == p.1
  · simp only [Bool.false_eq_true,if_false]; exact ih
  · simp
theorem upd_entM {α : Type} (f : α → AVal) (k : List UInt8) (v : α) : ∀ l : List (List UInt8 × α),updE (.str k) (f v) (entM f l) = some (entM f (updK k v l))
 | [] => rfl
 | p :: r => by
  have ih := upd_entM f k v r
  unfold entM at ih ⊢
  rw [List.map_cons]
  simp only [updE,keyEq,Option.bind_some,updK]
  cases h : k == p.1
  · simp only [Bool.false_eq_true,if_false,ih,Option.map_some,List.map_cons]
  · simp
def intA (n : Int) : AVal := .int .i64 n
def badC (ar : List (List UInt8 × Int)) (s : List UInt8) (n : Nat) : Bool := match lookK s ar with
 | none => true
 | some m => m != (n : Int)
mutual
def formT (ar : List (List UInt8 × Int)) : Ty → Bool
 | .mk k s _ l => !(k == 2 || (k == 3 && badC ar s l.length)) && formL ar l
def formL (ar : List (List UInt8 × Int)) : List Ty → Bool
 | [] => true
 | t :: l => formT ar t && formL ar l
end
theorem formL_cons (ar : List (List UInt8 × Int)) (t : Ty) (l : List Ty) : formL ar (t :: l) = (formT ar t && formL ar l) := rfl
theorem formT_eq (ar : List (List UInt8 × Int)) (t : Ty) : formT ar t = (!(t.kind == 2 || (t.kind == 3 && badC ar t.name t.args.length)) && formL ar t.args) := by cases t; rfl
theorem formL_any (ar : List (List UInt8 × Int)) : ∀ l : List Ty,(l.any fun t => !formT ar t) = !formL ar l
 | [] => rfl
 | t :: l => by rw [List.any_cons,formL_any ar l,formL_cons]; cases formT ar t <;> rfl
def tabB (ar : List (List UInt8 × Int)) (cs co : List AVal) : List AVal := [.own 1099511627777 0 (entM intA ar),.own 1099511627777 0 cs,.own 1099511627777 0 co]
attribute [go_sem] tabB
theorem ixF_den (ar : List (List UInt8 × Int)) (cs co : List AVal) (l : List Ty) (hl : l.length < 1000000)
 (hc : ∀ x ∈ l,den E 154 [tyV x,.ptr (.par 0) 0] [[.ptr (.par 1) 0],tabB ar cs co] = some (.bool (!formT ar x),[[.ptr (.par 1) 0],tabB ar cs co])) :
 den E 212 [.slice (tysV l),.func 154 [] [.ptr (.par 0) 0]] [[.ptr (.par 1) 0],tabB ar cs co] = some (.int .i64 (idxT (fun x => !formT ar x) l 0),[[.ptr (.par 1) 0],tabB ar cs co]) := by
 rw [den_eq prim_212,body_212]
 have rl := tysV_len l
 simp only [go_sem,Tryz.f212,rl]
 refine run_ind (fun i : Nat => i ≤ l.length) (fun i => ⟨[(0,.slice (tysV l)),(1,.func 154 [] [.ptr (.par 0) 0]),(7,.int .i64 l.length),(8,.int .i64 i)],[[.ptr (.par 1) 0],tabB ar cs co],[],1⟩) (fun i => some (.int .i64 (idxT (fun x => !formT ar x) (l.drop i) i),[[.ptr (.par 1) 0],tabB ar cs co])) (fun i => l.length - i) 0 (Nat.zero_le _) ?_ ?_
 · simp only [go_sem]
 · intro i hi h
   by_cases hlt : i < l.length
   · obtain ⟨x,hx⟩ := getS hlt
     rw [dropGet hx]
     have w1 : IntKind.i64.wrap ((i : Int) + 1) = ((i + 1 : Nat) : Int) := wrapN (i + 1) (by omega)
     have d := hc x (List.mem_of_getElem? hx)
     rw [tyV_eq] at d
     unfold tabB at d
     cases hq : formT ar x
     · rw [hq] at d
       simp only [go_sem,natlt,decide_eq_true hlt,natge0,tonat,tysGet,hx,hq,d,tyV_eq,idxT]
     · rw [hq] at d
       simp only [go_sem,natlt,decide_eq_true hlt,natge0,tonat,tysGet,hx,hq,d,tyV_eq,idxT]
       refine h (i + 1) _ (by omega) (by omega) ?_
       simp only [go_sem,w1]
   · have hie : i = l.length := by omega
     subst hie
     rw [List.drop_length]
     simp only [go_sem,natlt,Nat.lt_irrefl,idxT]
theorem anyF_den (ar : List (List UInt8 × Int)) (cs co : List AVal) (l : List Ty) (hl : l.length < 1000000)
 (hc : ∀ x ∈ l,den E 154 [tyV x,.ptr (.par 0) 0] [[.ptr (.par 1) 0],tabB ar cs co] = some (.bool (!formT ar x),[[.ptr (.par 1) 0],tabB ar cs co])) :
 den E 144 [.slice (tysV l),.func 154 [] [.ptr (.par 0) 0]] [[.ptr (.par 1) 0],tabB ar cs co] = some (.bool (!formL ar l),[[.ptr (.par 1) 0],tabB ar cs co]) := by
 rw [den_eq prim_144,body_144]
 have d := ixF_den ar cs co l hl hc
 have e := idxT_ge (fun x => !formT ar x) l 0
 rw [formL_any] at e
 unfold tabB at d
 simp only [go_sem,Tryz.f144,d,e,ge_iff_le]
theorem formc_den (ar : List (List UInt8 × Int)) (cs co : List AVal) (x : Ty) (h : den E 89 [.ptr (.par 0) 0,tyV x] [tabB ar cs co] = some (.bool (formT ar x),[tabB ar cs co])) :
 den E 154 [tyV x,.ptr (.par 0) 0] [[.ptr (.par 1) 0],tabB ar cs co] = some (.bool (!formT ar x),[[.ptr (.par 1) 0],tabB ar cs co]) := by
 rw [den_eq prim_154,body_154]
 rw [tyV_eq] at h ⊢
 unfold tabB at h
 simp only [go_sem,Tryz.f154,h]
theorem formed_den (ar : List (List UInt8 × Int)) (cs co : List AVal) : ∀ (n : Nat) (t : Ty),t.sz ≤ n → t.sz < 1000000 → den E 89 [.ptr (.par 0) 0,tyV t] [tabB ar cs co] = some (.bool (formT ar t),[tabB ar cs co]) := by
 intro n
 induction n with
 | zero => intro t h; have := sz_eq t; omega
 | succ n ih =>
  intro t hn hb
  have hsz := sz_eq t
  have hal := args_len t
  have d := anyF_den ar cs co t.args (by omega) fun x hx => by
   have := szs_mem hx
   exact formc_den ar cs co x (ih x (by omega) (by omega))
  have hf := find_entM intA t.name ar
  have rl := tysV_len t.args
  rw [den_eq prim_89,body_89]
  rw [formT_eq,tyV_eq]
  unfold badC
  unfold tabB at d
  cases hk : lookK t.name ar with
  | none =>
   rw [hk] at hf
   simp only [Option.map_none] at hf
   cases h2 : t.kind == 2 <;> cases h3 : t.kind == 3 <;> simp only [go_sem,Tryz.f89,hf,h2,h3,d,Bool.not_not]
  | some m =>
   rw [hk] at hf
   simp only [Option.map_some,intA] at hf
   cases h2 : t.kind == 2 <;> cases h3 : t.kind == 3 <;> cases h4 : m != (t.args.length : Int) <;> simp only [go_sem,Tryz.f89,hf,h2,h3,h4,rl,d,Bool.not_not]
def goodR (ar : List (List UInt8 × Int)) (t : Ty) : Int := if formT ar t then (if freeT t [] [] = [] then 0 else 111) else 110
theorem good_den (ar : List (List UInt8 × Int)) (cs co : List AVal) (t : Ty) (hb : t.sz < 1000000) : den E 31 [.ptr (.par 0) 0,tyV t] [tabB ar cs co] = some (.int .i64 (goodR ar t),[tabB ar cs co]) := by
 have d := formed_den ar cs co _ t (Nat.le_refl _) hb
 have df := tfree_den t hb
 rw [den_eq prim_31,body_31]
 unfold goodR
 rw [tyV_eq] at d df ⊢
 unfold tabB at d
 cases hf : formT ar t
 · rw [hf] at d
   simp only [go_sem,Tryz.f31,d]
 · rw [hf] at d
   cases hl : freeT t [] [] with
   | nil =>
    rw [hl] at df
    have h0 : decide ((0 : Int) > 0) = false := rfl
    simp only [go_sem,Tryz.f31,d,df,h0]
   | cons a r =>
    rw [hl] at df
    have h0 : decide (((r.length + 1 : Nat) : Int) > 0) = true := by simp
    simp only [go_sem,Tryz.f31,d,df,h0,List.length_map]
def seek (f : Nat → List UInt8) (l : List (List UInt8)) : Nat → Nat → Nat
 | 0,i => i
 | n + 1,i => if l.contains (f i) then seek f l n (i + 1) else i
theorem seek_at {f : Nat → List UInt8} {l : List (List UInt8)} {i0 : Nat} (h0 : l.contains (f i0) = false) (h : ∀ j,j < i0 → l.contains (f j) = true) : ∀ (n i : Nat),i ≤ i0 → i0 ≤ i + n → seek f l n i = i0
 | 0,i,h1,h2 => by simp only [seek]; omega
 | n + 1,i,h1,h2 => by
  rw [seek]
  by_cases e : i = i0
  · subst e; rw [h0]; rfl
  · rw [h i (by omega),if_pos rfl]
    exact seek_at h0 h n (i + 1) (by omega) (by omega)
theorem seek_spec (f : Nat → List UInt8) (hinj : ∀ i j,f i = f j → i = j) (l : List (List UInt8)) :
 seek f l (l.length + 1) 0 ≤ l.length ∧ l.contains (f (seek f l (l.length + 1) 0)) = false ∧ ∀ j,j < seek f l (l.length + 1) 0 → l.contains (f j) = true := by
 obtain ⟨i0,h1,h2,h3⟩ := first_free f hinj l
 have e := seek_at h2 h3 (l.length + 1) 0 (Nat.zero_le _) (by omega)
 rw [e]; exact ⟨h1,h2,h3⟩
def freshF (s : List UInt8) (but : List (List UInt8)) : List UInt8 := candF s (seek (candF s) but (but.length + 1) 0)
theorem fresh_ok (s : List UInt8) (but : List (List UInt8)) (h : but.length < 999999) : freshF s but ≠ [] ∧ (freshF s but).length ≤ 16 := cand_len s _ (by have := (seek_spec (candF s) (cand_inj s) but).1; omega)
theorem freshF_den (s : List UInt8) (but : List (List UInt8)) (hs : s ≠ []) (hl : s.length ≤ 1000) (hb : but.length < 1000000) : den E 98 [.str s,.slice (but.map .str)] [] = some (.str (freshF s but),[]) := by
 obtain ⟨h1,h2,h3⟩ := seek_spec (candF s) (cand_inj s) but
 unfold freshF
 generalize seek (candF s) but (but.length + 1) 0 = i0 at h1 h2 h3 ⊢
 rw [den_eq prim_98,body_98]
 have hl1 : 1 ≤ s.length := List.length_pos_iff.2 hs
 have l1 : (s.take 1).length + 1 ≤ strMax := by rw [List.length_take]; unfold strMax; omega
 simp only [go_sem,Tryz.f98]
 refine run_ind (fun i : Nat => i ≤ i0) (fun i => ⟨[(0,.str s),(1,.slice (but.map .str)),(5,.int .i64 i)],[],[],1⟩) (fun _ => some (.str (candF s i0),[])) (fun i => i0 - i) 0 (Nat.zero_le _) ?_ ?_
 · simp only [go_sem]
 · intro i hi h
   have w1 : IntKind.i64.wrap ((i : Int) + 1) = ((i + 1 : Nat) : Int) := wrapN (i + 1) (by omega)
   have d1 := fitoa_den i (by omega)
   have dc := contains_den but (candF s i) hb
   have l2 : (s.take 1 ++ [95]).length + (Lib.itoa (i : Int)).length ≤ strMax := by
    have := itoa_len 8 i (by
     have e : (10 : Nat) ^ (8 + 1) = 1000000000 := by decide
     omega)
    rw [List.length_append,List.length_take]; unfold strMax; simp; omega
   by_cases hlt : i < i0
   · rw [h3 i hlt] at dc
     unfold candF at dc
     simp only [go_sem,hl1,Nat.zero_le,l1,l2,d1,dc,Int.toNat_one,Int.zero_le_ofNat]
     refine h (i + 1) _ (by omega) (by omega) ?_
     simp only [go_sem,w1]
   · have hie : i = i0 := by omega
     subst hie
     rw [h2] at dc
     unfold candF at dc ⊢
     simp only [go_sem,hl1,Nat.zero_le,l1,l2,d1,dc,Int.toNat_one,Int.zero_le_ofNat]
def renF : Nat → Ty → List UInt8 → List UInt8 → Ty
 | 0,t,_,_ => t
 | n + 1,.mk k s m l,a,b =>
  if k == 1 && s == a then .mk k b m l
  else if k == 5 && s == a then .mk k s m l
  else if k == 5 && s == b then (match l with
   | [x] => .mk 5 (freshF b (freeT x [] [] ++ [a,b])) 0 [renF n (renF n x b (freshF b (freeT x [] [] ++ [a,b]))) a b]
   | _ => .mk k s m l)
  else .mk k s m (l.map fun x => renF n x a b)
theorem renF_var (n : Nat) (s : List UInt8) (a b : List UInt8) : renF (n + 1) (.mk 1 s 0 []) a b = if s == a then .mk 1 b 0 [] else .mk 1 s 0 [] := by
 unfold renF; cases h : s == a <;> simp
theorem renF_all (n : Nat) (s : List UInt8) (x : Ty) (a b : List UInt8) : renF (n + 1) (.mk 5 s 0 [x]) a b = if s == a then .mk 5 s 0 [x] else if s == b then .mk 5 (freshF b (freeT x [] [] ++ [a,b])) 0 [renF n (renF n x b (freshF b (freeT x [] [] ++ [a,b]))) a b] else .mk 5 s 0 [renF n x a b] := by
 rw [renF]; cases h : s == a <;> cases h2 : s == b <;> simp
theorem renF_den : ∀ (n : Nat) (t : Ty),t.sz ≤ n → GT t → t.sz < 300000 → ∀ (a b : List UInt8),b ≠ [] → b.length ≤ 16 → den E 100 [tyV t,.str a,.str b] [] = some (tyV (renF n t a b),[]) ∧ GT (renF n t a b) ∧ (renF n t a b).sz = t.sz := by
 intro n
 induction n with
 | zero => intro t h; have := sz_eq t; omega
 | succ n ih =>
  intro t hn hg hb a b hb0 hb1
  have hsz := sz_eq t
  cases hg with
  | var s hs =>
   rw [renF_var]
   cases h : s == a
   · exact ⟨renT_plain (.mk 1 s 0 []) [] a b rfl (by omega) (fun i x y hx => by simp [Ty.args] at hx) (by simpa [Ty.kind,Ty.name] using h) rfl rfl,.var s hs,rfl⟩
   · exact ⟨ren_var (.mk 1 s 0 []) a b rfl h,.var b hb1,rfl⟩
  | unk m h1 h2 => exact ⟨renT_plain (.mk 2 [] m []) [] a b rfl (by omega) (fun i x y hx => by simp [Ty.args] at hx) rfl rfl rfl,.unk m h1 h2,rfl⟩
  | con s l hs hl =>
   rw [sz_mk] at hn hb
   have e : renF (n + 1) (.mk 3 s 0 l) a b = .mk 3 s 0 (l.map fun x => renF n x a b) := rfl
   rw [e]
   have h2 : ∀ (i : Nat) (x y : Ty),l[i]? = some x → (l.map fun x => renF n x a b)[i]? = some y → den E 100 [tyV x,.str a,.str b] [] = some (tyV y,[]) ∧ GT y ∧ y.sz = x.sz := by
    intro i x y hx hy
    simp [hx] at hy; subst hy
    have := szs_mem (List.mem_of_getElem? hx)
    exact ih x (by omega) (hl x (List.mem_of_getElem? hx)) (by omega) a b hb0 hb1
   refine ⟨renT_plain (.mk 3 s 0 l) _ a b (by simp [Ty.args]) (by rw [sz_mk]; omega) (fun i x y hx hy => (h2 i x y hx hy).1) rfl rfl rfl,.con s _ hs fun y hy => ?_,?_⟩
   · obtain ⟨x,hx,rfl⟩ := List.mem_map.1 hy
     obtain ⟨i,hi⟩ := mem_get hx
     exact (h2 i x _ hi (by simp [hi])).2.1
   · rw [sz_mk,sz_mk]
     exact congrArg (· + 1) (szs_eq (by simp) fun i x y hx hy => (h2 i x y hx hy).2.2)
  | fn u v hu hv =>
   rw [sz_mk,szs_two] at hn hb
   have e : renF (n + 1) (.mk 4 [] 0 [u,v]) a b = .mk 4 [] 0 [renF n u a b,renF n v a b] := rfl
   rw [e]
   obtain ⟨d1,g1,s1⟩ := ih u (by omega) hu (by omega) a b hb0 hb1
   obtain ⟨d2,g2,s2⟩ := ih v (by omega) hv (by omega) a b hb0 hb1
   refine ⟨renT_plain (.mk 4 [] 0 [u,v]) [_,_] a b rfl (by rw [sz_mk,szs_two]; omega) (fun i x y hx hy => ?_) rfl rfl rfl,.fn _ _ g1 g2,by simp only [sz_mk,szs_two,s1,s2]⟩
   match i with
   | 0 => simp [Ty.args] at hx hy; subst hx hy; exact d1
   | 1 => simp [Ty.args] at hx hy; subst hx hy; exact d2
   | i + 2 => simp [Ty.args] at hx
  | all s x hs hx =>
   rw [sz_mk,szs_one] at hn hb
   rw [renF_all]
   cases ha : s == a
   · cases hq : s == b
     · obtain ⟨d1,g1,s1⟩ := ih x (by omega) hx (by omega) a b hb0 hb1
       refine ⟨renT_plain (.mk 5 s 0 [x]) [_] a b rfl (by rw [sz_mk,szs_one]; omega) (fun i u v hu hv => ?_) rfl (by simpa [Ty.kind,Ty.name] using ha) (by simpa [Ty.kind,Ty.name] using hq),.all s _ hs g1,by simp only [Bool.false_eq_true,if_false,sz_mk,szs_one,s1]⟩
       match i with
       | 0 => simp [Ty.args] at hu hv; subst hu hv; exact d1
       | i + 1 => simp [Ty.args] at hu
     · have hle := freeT_le _ x (Nat.le_refl _) [] []
       simp only [List.length_nil,Nat.zero_add] at hle
       have hd := freshF_den b (freeT x [] [] ++ [a,b]) hb0 (by omega) (by simp; omega)
       obtain ⟨c0,c1⟩ := fresh_ok b (freeT x [] [] ++ [a,b]) (by simp; omega)
       obtain ⟨r1,g1,s1⟩ := ih x (by omega) hx (by omega) b (freshF b (freeT x [] [] ++ [a,b])) c0 c1
       obtain ⟨r2,g2,s2⟩ := ih (renF n x b (freshF b (freeT x [] [] ++ [a,b]))) (by omega) g1 (by omega) a b hb0 hb1
       simp only [Bool.false_eq_true,if_false,if_true]
       exact ⟨ren_fresh (.mk 5 s 0 [x]) x _ _ a b _ rfl rfl rfl ha hq (by rw [sz_mk,szs_one]; omega) s1 hd r1 r2,.all _ _ c1 g2,by rw [sz_mk,sz_mk,szs_one,szs_one,s2,s1]⟩
   · exact ⟨ren_hide (.mk 5 s 0 [x]) a b rfl rfl ha,.all s x hs hx,rfl⟩
def numL (g : Ty → Nat → Ty × Nat) : List Ty → Nat → List Ty × Nat
 | [],k => ([],k)
 | t :: l,k => ((g t k).1 :: (numL g l (g t k).2).1,(numL g l (g t k).2).2)
def nextX (fr : List (List UInt8)) (k : Nat) : Nat := k + seek (fun i => candX (k + i)) fr (fr.length + 1) 0
def numF (fr : List (List UInt8)) : Nat → Ty → Nat → Ty × Nat
 | 0,t,k => (t,k)
 | n + 1,.mk q s m l,k =>
  if q == 5 then (match l with
   | [x] => (.mk 5 (candX (nextX fr k)) 0 [(numF fr n (renF n x s (candX (nextX fr k))) (nextX fr k + 1)).1],(numF fr n (renF n x s (candX (nextX fr k))) (nextX fr k + 1)).2)
   | _ => (.mk q s m l,k))
  else (.mk q s m (numL (numF fr n) l k).1,(numL (numF fr n) l k).2)
theorem numF_all (fr : List (List UInt8)) (n : Nat) (s : List UInt8) (x : Ty) (k : Nat) : numF fr (n + 1) (.mk 5 s 0 [x]) k = (.mk 5 (candX (nextX fr k)) 0 [(numF fr n (renF n x s (candX (nextX fr k))) (nextX fr k + 1)).1],(numF fr n (renF n x s (candX (nextX fr k))) (nextX fr k + 1)).2) := rfl
def numK (g : Ty → Nat → Ty × Nat) : List Ty → Nat → List Nat
 | [],k => [k]
 | t :: l,k => k :: numK g l (g t k).2
theorem numK_zero (g : Ty → Nat → Ty × Nat) (l : List Ty) (k : Nat) : (numK g l k).getD 0 0 = k := by cases l <;> rfl
theorem numK_end (g : Ty → Nat → Ty × Nat) : ∀ (l : List Ty) (k : Nat),(numK g l k).getD l.length 0 = (numL g l k).2
 | [],k => rfl
 | t :: l,k => by rw [numK,List.length_cons,List.getD_cons_succ,numK_end g l]; rfl
theorem numL_len (g : Ty → Nat → Ty × Nat) : ∀ (l : List Ty) (k : Nat),(numL g l k).1.length = l.length
 | [],k => rfl
 | t :: l,k => by rw [numL,List.length_cons,numL_len g l]; rfl
theorem numL_get (g : Ty → Nat → Ty × Nat) : ∀ (l : List Ty) (k i : Nat) (x y : Ty),l[i]? = some x → (numL g l k).1[i]? = some y → y = (g x ((numK g l k).getD i 0)).1 ∧ (numK g l k).getD (i + 1) 0 = (g x ((numK g l k).getD i 0)).2
 | [],k,i,x,y,h,_ => by simp at h
 | t :: l,k,0,x,y,h,h2 => by
  simp [numL] at h h2
  subst h
  rw [← h2,numK,List.getD_cons_zero,List.getD_cons_succ,numK_zero]; exact ⟨rfl,rfl⟩
 | t :: l,k,i + 1,x,y,h,h2 => by
  rw [numK,List.getD_cons_succ,List.getD_cons_succ]
  exact numL_get g l (g t k).2 i x y (by simpa using h) (by simpa [numL] using h2)
theorem numF_den (fr : List (List UInt8)) (hf : fr.length < 1000000) : ∀ (n : Nat) (t : Ty),t.sz ≤ n → GT t → t.sz < 300000 → ∀ k : Nat,k + t.sz * (fr.length + 1) ≤ 900000000 →
 den E 151 [tyV t,.slice (fr.map .str),.int .i64 k] [] = some (.tup [tyV (numF fr n t k).1,.int .i64 (numF fr n t k).2],[]) ∧ GT (numF fr n t k).1 ∧ (numF fr n t k).1.sz = t.sz ∧ (numF fr n t k).2 ≤ k + t.sz * (fr.length + 1) := by
 intro n
 induction n with
 | zero => intro t h; have := sz_eq t; omega
 | succ n ih =>
  intro t hn hg hb k hk
  have bound : ∀ (l : List Ty),(∀ x,x ∈ l → GT x) → Ty.szs l ≤ n → Ty.szs l < 300000 → ∀ k : Nat,k + Ty.szs l * (fr.length + 1) ≤ 900000000 →
   (∀ (i : Nat) (x : Ty),l[i]? = some x → (numK (numF fr n) l k).getD i 0 + x.sz * (fr.length + 1) ≤ 900000000) ∧ (numL (numF fr n) l k).2 ≤ k + Ty.szs l * (fr.length + 1) := by
   intro l
   induction l with
   | nil => intro _ _ _ k _; exact ⟨fun i x h => by simp at h,by simp [numL]⟩
   | cons t l ihl =>
    intro hl h1 h2 k hk
    rw [szs_cons,Nat.add_mul] at hk
    rw [szs_cons] at h1 h2
    obtain ⟨_,_,_,q4⟩ := ih t (by omega) (hl t (List.mem_cons_self ..)) (by omega) k (by omega)
    obtain ⟨b1,b2⟩ := ihl (fun x hx => hl x (List.mem_cons_of_mem _ hx)) (by omega) (by omega) (numF fr n t k).2 (by omega)
    refine ⟨fun i x hx => ?_,?_⟩
    · cases i with
      | zero => simp at hx; subst hx; rw [numK,List.getD_cons_zero]; omega
      | succ i => rw [numK,List.getD_cons_succ]; exact b1 i x (by simpa using hx)
    · rw [numL,szs_cons,Nat.add_mul]; simp only; omega
  have kids : ∀ l : List Ty,(∀ x,x ∈ l → GT x) → Ty.szs l ≤ n → Ty.szs l < 300000 → k + Ty.szs l * (fr.length + 1) ≤ 900000000 →
   ∀ (i : Nat) (x y : Ty),l[i]? = some x → (numL (numF fr n) l k).1[i]? = some y → den E 151 [tyV x,.slice (fr.map .str),.int .i64 ((numK (numF fr n) l k).getD i 0 : Nat)] [] = some (.tup [tyV y,.int .i64 ((numK (numF fr n) l k).getD (i + 1) 0 : Nat)],[]) ∧ GT y ∧ y.sz = x.sz := by
   intro l hl h1 h2 h3 i x y hx hy
   obtain ⟨e1,e2⟩ := numL_get _ l k i x y hx hy
   have hm := List.mem_of_getElem? hx
   have := szs_mem hm
   obtain ⟨q1,q2,q3,_⟩ := ih x (by omega) (hl x hm) (by omega) _ ((bound l hl h1 h2 k h3).1 i x hx)
   rw [e1,e2]; exact ⟨q1,q2,q3⟩
  have mono : ∀ a b : Nat,a ≤ b → a * (fr.length + 1) ≤ b * (fr.length + 1) := fun a b h => Nat.mul_le_mul_right _ h
  cases hg with
  | var s hs =>
   exact ⟨num_plain (.mk 1 s 0 []) [] _ [k] rfl (by omega) rfl (fun i x y hx => by simp [Ty.args] at hx),.var s hs,rfl,by show k ≤ _; omega⟩
  | unk m h1 h2 =>
   exact ⟨num_plain (.mk 2 [] m []) [] _ [k] rfl (by omega) rfl (fun i x y hx => by simp [Ty.args] at hx),.unk m h1 h2,rfl,by show k ≤ _; omega⟩
  | con s l hs hl =>
   rw [sz_mk] at hn hb hk ⊢
   have := mono (Ty.szs l) (Ty.szs l + 1) (by omega)
   have e : numF fr (n + 1) (.mk 3 s 0 l) k = (.mk 3 s 0 (numL (numF fr n) l k).1,(numL (numF fr n) l k).2) := rfl
   have e3 := kids l hl (by omega) (by omega) (by omega)
   have e2 := (bound l hl (by omega) (by omega) k (by omega)).2
   have d := num_plain (.mk 3 s 0 l) (numL (numF fr n) l k).1 (fr.map .str) (numK (numF fr n) l k) (numL_len _ l k) (by rw [sz_mk]; omega) rfl (fun i x y hx hy => (e3 i x y hx hy).1)
   rw [numK_zero] at d
   have e4 : (Ty.mk 3 s 0 l).args.length = l.length := rfl
   rw [e4,numK_end] at d
   rw [e]
   refine ⟨d,.con s _ hs fun y hy => ?_,?_,by show (numL (numF fr n) l k).2 ≤ _; omega⟩
   · obtain ⟨i,hi⟩ := mem_get hy
     have : i < l.length := by have := (List.getElem?_eq_some_iff.1 hi).1; rw [numL_len] at this; exact this
     obtain ⟨x,hx⟩ := getS this
     exact (e3 i x y hx hi).2.1
   · show (Ty.mk 3 s 0 (numL (numF fr n) l k).1).sz = _
     rw [sz_mk]
     exact congrArg (· + 1) (szs_eq (numL_len _ l k) fun i x y hx hy => (e3 i x y hx hy).2.2)
  | fn u v hu hv =>
   rw [sz_mk,szs_two] at hn hb hk ⊢
   have := mono (u.sz + v.sz) (u.sz + v.sz + 1) (by omega)
   have hl : ∀ x,x ∈ [u,v] → GT x := fun x hx => by simp at hx; rcases hx with rfl | rfl; exact hu; exact hv
   have e : numF fr (n + 1) (.mk 4 [] 0 [u,v]) k = (.mk 4 [] 0 (numL (numF fr n) [u,v] k).1,(numL (numF fr n) [u,v] k).2) := rfl
   have e3 := kids [u,v] hl (by rw [szs_two]; omega) (by rw [szs_two]; omega) (by rw [szs_two]; omega)
   have e2 := (bound [u,v] hl (by rw [szs_two]; omega) (by rw [szs_two]; omega) k (by rw [szs_two]; omega)).2
   rw [szs_two] at e2
   have d := num_plain (.mk 4 [] 0 [u,v]) (numL (numF fr n) [u,v] k).1 (fr.map .str) (numK (numF fr n) [u,v] k) (numL_len _ [u,v] k) (by rw [sz_mk,szs_two]; omega) rfl (fun i x y hx hy => (e3 i x y hx hy).1)
   rw [numK_zero] at d
   have e4 : (Ty.mk 4 [] 0 [u,v]).args.length = [u,v].length := rfl
   rw [e4,numK_end] at d
   rw [e]
   have f1 := e3 0 u _ rfl rfl
   have f2 := e3 1 v _ rfl rfl
   refine ⟨d,.fn _ _ f1.2.1 f2.2.1,?_,by show (numL (numF fr n) [u,v] k).2 ≤ _; omega⟩
   show (Ty.mk 4 [] 0 [_,_]).sz = _
   rw [sz_mk,szs_two,f1.2.2,f2.2.2]
  | all s x hs hx =>
   rw [sz_mk,szs_one] at hn hb hk ⊢
   have e : (x.sz + 1) * (fr.length + 1) = x.sz * (fr.length + 1) + (fr.length + 1) := by rw [Nat.add_mul]; omega
   obtain ⟨h1,h2,h3⟩ := seek_spec (fun i => candX (k + i)) (fun i j h => by have := candX_inj _ _ h; omega) fr
   rw [numF_all]
   unfold nextX
   generalize seek (fun i => candX (k + i)) fr (fr.length + 1) 0 = i at h1 h2 h3 ⊢
   obtain ⟨c1,c2,_⟩ := candX_len (k + i) (by omega)
   obtain ⟨r1,g1,s1⟩ := renF_den n x (by omega) hx (by omega) s (candX (k + i)) c2 c1
   obtain ⟨r2,g2,s2,b2⟩ := ih (renF n x s (candX (k + i))) (by omega) g1 (by omega) (k + i + 1) (by rw [s1]; omega)
   rw [s1] at b2
   refine ⟨num_all (.mk 5 s 0 [x]) x _ _ fr k (k + i) _ rfl rfl hf (by omega) (by omega) h2 (fun j hj1 hj2 => by
    have := h3 (j - k) (by omega)
    rwa [show k + (j - k) = j by omega] at this) (by omega) r1 r2,.all _ _ c1 g2,by rw [sz_mk,szs_one,s2,s1],by show (numF fr n _ _).2 ≤ _; omega⟩
def canonT (t : Ty) : Ty := (numF (freeT t [] []) t.sz t 0).1
theorem canonF_den (t : Ty) (hg : GT t) (hb : t.sz < 20000) : ∃ s,(∀ f,3 * (canonT t).sz ≤ f → prR f .pr (canonT t) = some s) ∧ den E 85 [tyV t] [] = some (.str s,[]) := by
 have df := tfree_den t (by omega)
 have hle := freeT_le _ t (Nat.le_refl _) [] []
 simp only [List.length_nil,Nat.zero_add] at hle
 have hp : t.sz * ((freeT t [] []).length + 1) ≤ 20000 * 20001 := Nat.mul_le_mul (by omega) (by omega)
 obtain ⟨d,g,hs,_⟩ := numF_den (freeT t [] []) (by omega) _ t (Nat.le_refl _) hg (by omega) 0 (by omega)
 obtain ⟨s,_,hp⟩ := pr_tot g (by omega)
 refine ⟨s,hp,?_⟩
 have dp := tprint_den _ _ s (by omega) (hp _ (Nat.le_refl _))
 generalize (numF (freeT t [] []) t.sz t 0).1 = y at d dp
 generalize (numF (freeT t [] []) t.sz t 0).2 = k' at d
 rw [den_eq prim_85,body_85]
 rw [tyV_eq] at d df dp ⊢
 rw [tyV_eq,show ((0 : Nat) : Int) = 0 from rfl] at d
 simp only [go_sem,Tryz.f85,df,d,dp]
theorem withP_den (t : Ty) (ys : List Ty) (a : List UInt8) (u : Ty) (hl : ys.length = t.args.length) (hb : t.sz < 1000000)
 (hc : ∀ (i : Nat) (x y : Ty),t.args[i]? = some x → ys[i]? = some y → den E 102 [tyV x,.ptr (.par 0) 0,.ptr (.par 1) 0] [[.str a],[.int .i64 u.kind,.str u.name,.int .i64 u.n,.slice (tysV u.args)]] = some (tyV y,[[.str a],[.int .i64 u.kind,.str u.name,.int .i64 u.n,.slice (tysV u.args)]])) :
 den E 101 [tyV t,.func 102 [] [.ptr (.par 0) 0,.ptr (.par 1) 0]] [[.str a],[.int .i64 u.kind,.str u.name,.int .i64 u.n,.slice (tysV u.args)]] = some (tyV (.mk t.kind t.name t.n ys),[[.str a],[.int .i64 u.kind,.str u.name,.int .i64 u.n,.slice (tysV u.args)]]) := by
 rw [den_eq prim_101,body_101]
 have hal := args_len t
 have rl := tysV_len t.args
 have n0 := nat_eq0 t.args.length
 by_cases h0 : t.args = []
 · have hy : ys = [] := List.eq_nil_of_length_eq_zero (by rw [hl,h0]; rfl)
   subst hy
   rw [tyV_mk,tyV_eq]
   rw [h0] at n0
   simp only [go_sem,Tryz.f101,h0,tysV_nil]
 · have h0' : ¬ t.args.length = 0 := fun e => h0 (List.eq_nil_of_length_eq_zero e)
   rw [decide_eq_false h0'] at n0
   rw [tyV_mk,tyV_eq]
   obtain ⟨n,hn⟩ : ∃ n,n = t.args.length := ⟨_,rfl⟩
   rw [← hn] at hl n0 rl
   have l1 : ((n : Int) ≤ 1073741824) = True := by simp; omega
   have hz : ∀ m,List.map stampH (List.map (stamp1 m) (repA n [.int .i64 0,.str [],.int .i64 0,.own 25 0 []])) = cellsA ys n 0 := fun m => cellsA_new ys n m
   obtain ⟨fin,hfin⟩ : ∃ fin,fin = (some (.agg [.int .i64 t.kind,.str t.name,.int .i64 t.n,.slice (tysV ys)],[[.str a],[.int .i64 u.kind,.str u.name,.int .i64 u.n,.slice (tysV u.args)]]) : Option (AVal × Heap)) := ⟨_,rfl⟩
   try rw [← hn] at hfin
   try rw [← hn]
   rw [← hfin]
   simp only [go_sem,Tryz.f101,rl,n0,natge0,tonat,l1]
   refine run_for (fun i => ⟨[(1,.func 102 [] [.ptr (.par 0) 0,.ptr (.par 1) 0]),(2,.ptr (.loc 2) 0),(4,.ptr (.loc 4) 0),(5,.ptr (.loc 16) (bsBase + n)),(18,.slice (tysV t.args)),(19,.int .i64 n),(20,.int .i64 i)],[[.str a],[.int .i64 u.kind,.str u.name,.int .i64 u.n,.slice (tysV u.args)]],[(2,tyC t),(4,zC),(16,cellsA ys n i)],1⟩) n ?_ ?_ ?_
   · simp only [go_sem,hz,cellsA_names,tyC,zC]
   · intro i hi h
     have hia : i < t.args.length := by omega
     have hiy : i < ys.length := by omega
     obtain ⟨x,hx⟩ := getS hia
     obtain ⟨y,hy⟩ := getS hiy
     have d := hc i x y hx hy
     have hxs := szs_mem (List.mem_of_getElem? hx)
     have hsz := sz_eq t
     have w1 : IntKind.i64.wrap ((i : Int) + 1) = ((i + 1 : Nat) : Int) := wrapN (i + 1) (by omega)
     have i1 : ((i : Int) < (n : Int)) = True := by simp; omega
     have i2 : (i * 4 < bsBase) = True := by rw [bsBase_eq]; simp; omega
     have cl : (cellsA ys n i).length = n * 4 := cellsA_len hl (by omega)
     have i3 : (i * 4 + 4 ≤ n * 4) = True := by simp; omega
     have hput := cellsA_put hl hy
     rw [tyV_eq,tyV_eq] at d
     simp only [go_sem,natge0,tonat,tysGet,hx,tyV_eq,tyC,zC,d,i1,i2,cl,i3]
     refine h _ ?_
     simp only [go_sem,w1,hput,cellsA_head,cellsA_names,tyC,zC]
   · have cl : (cellsA ys n n).length = n * 4 := cellsA_len hl (Nat.le_refl _)
     have ce := cellsA_end hl
     have ch := flat_chunks ys
     rw [hl] at ch
     rw [ce] at cl
     simp only [go_sem,natlt,Nat.lt_irrefl,true_or,tyC,zC,ce,cl,flat_strip,flat_pure,ch,hfin]
theorem withQ_den (t : Ty) (ys : List Ty) (u : Ty) (fr : List (List UInt8)) (m : Int) (hl : ys.length = t.args.length) (hb : t.sz < 1000000)
 (hc : ∀ (i : Nat) (x y : Ty),t.args[i]? = some x → ys[i]? = some y → den E 261 [tyV x,.ptr (.par 0) 0,.ptr (.par 1) 0,.ptr (.par 2) 0] [[.int .i64 u.kind,.str u.name,.int .i64 u.n,.slice (tysV u.args)],[.slice (fr.map .str)],[.func 245 [] [.ptr (.par 3) 0]],[.int .i64 m]] = some (tyV y,[[.int .i64 u.kind,.str u.name,.int .i64 u.n,.slice (tysV u.args)],[.slice (fr.map .str)],[.func 245 [] [.ptr (.par 3) 0]],[.int .i64 m]])) :
 den E 101 [tyV t,.func 261 [] [.ptr (.par 0) 0,.ptr (.par 1) 0,.ptr (.par 2) 0]] [[.int .i64 u.kind,.str u.name,.int .i64 u.n,.slice (tysV u.args)],[.slice (fr.map .str)],[.func 245 [] [.ptr (.par 3) 0]],[.int .i64 m]] = some (tyV (.mk t.kind t.name t.n ys),[[.int .i64 u.kind,.str u.name,.int .i64 u.n,.slice (tysV u.args)],[.slice (fr.map .str)],[.func 245 [] [.ptr (.par 3) 0]],[.int .i64 m]]) := by
 rw [den_eq prim_101,body_101]
 have hal := args_len t
 have rl := tysV_len t.args
 have n0 := nat_eq0 t.args.length
 by_cases h0 : t.args = []
 · have hy : ys = [] := List.eq_nil_of_length_eq_zero (by rw [hl,h0]; rfl)
   subst hy
   rw [tyV_mk,tyV_eq]
   rw [h0] at n0
   simp only [go_sem,Tryz.f101,h0,tysV_nil]
 · have h0' : ¬ t.args.length = 0 := fun e => h0 (List.eq_nil_of_length_eq_zero e)
   rw [decide_eq_false h0'] at n0
   rw [tyV_mk,tyV_eq]
   obtain ⟨n,hn⟩ : ∃ n,n = t.args.length := ⟨_,rfl⟩
   rw [← hn] at hl n0 rl
   have l1 : ((n : Int) ≤ 1073741824) = True := by simp; omega
   have hz : ∀ m,List.map stampH (List.map (stamp1 m) (repA n [.int .i64 0,.str [],.int .i64 0,.own 25 0 []])) = cellsA ys n 0 := fun m => cellsA_new ys n m
   obtain ⟨fin,hfin⟩ : ∃ fin,fin = (some (.agg [.int .i64 t.kind,.str t.name,.int .i64 t.n,.slice (tysV ys)],[[.int .i64 u.kind,.str u.name,.int .i64 u.n,.slice (tysV u.args)],[.slice (fr.map .str)],[.func 245 [] [.ptr (.par 3) 0]],[.int .i64 m]]) : Option (AVal × Heap)) := ⟨_,rfl⟩
   try rw [← hn] at hfin
   try rw [← hn]
   rw [← hfin]
   simp only [go_sem,Tryz.f101,rl,n0,natge0,tonat,l1]
   refine run_for (fun i => ⟨[(1,.func 261 [] [.ptr (.par 0) 0,.ptr (.par 1) 0,.ptr (.par 2) 0]),(2,.ptr (.loc 2) 0),(4,.ptr (.loc 4) 0),(5,.ptr (.loc 16) (bsBase + n)),(18,.slice (tysV t.args)),(19,.int .i64 n),(20,.int .i64 i)],[[.int .i64 u.kind,.str u.name,.int .i64 u.n,.slice (tysV u.args)],[.slice (fr.map .str)],[.func 245 [] [.ptr (.par 3) 0]],[.int .i64 m]],[(2,tyC t),(4,zC),(16,cellsA ys n i)],1⟩) n ?_ ?_ ?_
   · simp only [go_sem,hz,cellsA_names,tyC,zC]
   · intro i hi h
     have hia : i < t.args.length := by omega
     have hiy : i < ys.length := by omega
     obtain ⟨x,hx⟩ := getS hia
     obtain ⟨y,hy⟩ := getS hiy
     have d := hc i x y hx hy
     have hxs := szs_mem (List.mem_of_getElem? hx)
     have hsz := sz_eq t
     have w1 : IntKind.i64.wrap ((i : Int) + 1) = ((i + 1 : Nat) : Int) := wrapN (i + 1) (by omega)
     have i1 : ((i : Int) < (n : Int)) = True := by simp; omega
     have i2 : (i * 4 < bsBase) = True := by rw [bsBase_eq]; simp; omega
     have cl : (cellsA ys n i).length = n * 4 := cellsA_len hl (by omega)
     have i3 : (i * 4 + 4 ≤ n * 4) = True := by simp; omega
     have hput := cellsA_put hl hy
     rw [tyV_eq,tyV_eq] at d
     simp only [go_sem,natge0,tonat,tysGet,hx,tyV_eq,tyC,zC,d,i1,i2,cl,i3]
     refine h _ ?_
     simp only [go_sem,w1,hput,cellsA_head,cellsA_names,tyC,zC]
   · have cl : (cellsA ys n n).length = n * 4 := cellsA_len hl (Nat.le_refl _)
     have ce := cellsA_end hl
     have ch := flat_chunks ys
     rw [hl] at ch
     rw [ce] at cl
     simp only [go_sem,natlt,Nat.lt_irrefl,true_or,tyC,zC,ce,cl,flat_strip,flat_pure,ch,hfin]
theorem kind_mk (k : Int) (s : List UInt8) (n : Int) (a : List Ty) : (Ty.mk k s n a).kind = k := rfl
theorem name_mk (k : Int) (s : List UInt8) (n : Int) (a : List Ty) : (Ty.mk k s n a).name = s := rfl
theorem n_mk (k : Int) (s : List UInt8) (n : Int) (a : List Ty) : (Ty.mk k s n a).n = n := rfl
theorem concat3_den (a b c : List (List UInt8)) (h : a.length + b.length + c.length ≤ 1000000) : den E 99 [.slice [.slice (a.map .str),.slice (b.map .str),.slice (c.map .str)]] [] = some (.slice ((a ++ (b ++ c)).map .str),[]) := by
 have hs : ∀ l : List (List UInt8),strsL (l.map .str) = some (l.map ba) := by
  intro l
  induction l with
  | nil => rfl
  | cons x l ih => rw [List.map_cons,strsL,ih]; rfl
 have hb : ∀ l : List (List UInt8),(l.map ba).map strA = l.map .str := by
  intro l
  induction l with
  | nil => rfl
  | cons x l ih => rw [List.map_cons,List.map_cons,List.map_cons,ih]; rfl
 rw [den_prim prim_99]
 unfold concatP
 simp only [listsL,hs,Option.bind_some,Option.map_some]
 rw [if_pos (by simp; omega)]
 simp only [List.flatten_cons,List.flatten_nil,List.append_nil,List.map_append,hb]
def putF : Nat → Ty → List UInt8 → Ty → Ty
 | 0,t,_,_ => t
 | n + 1,.mk k s m l,a,u =>
  if k == 5 && s == a then .mk k s m l
  else if k == 1 && s == a then u
  else if k == 5 && (freeT u [] []).contains s then (match l with
   | [x] => .mk 5 (freshF s (freeT u [] [] ++ (freeT x [] [] ++ [s,a]))) 0 [putF n (renF n x s (freshF s (freeT u [] [] ++ (freeT x [] [] ++ [s,a])))) a u]
   | _ => .mk k s m l)
  else .mk k s m (l.map fun x => putF n x a u)
theorem putc_den {x y u : Ty} {a : List UInt8} (h : den E 40 [tyV x,.str a,tyV u] [] = some (tyV y,[])) :
 den E 102 [tyV x,.ptr (.par 0) 0,.ptr (.par 1) 0] [[.str a],[.int .i64 u.kind,.str u.name,.int .i64 u.n,.slice (tysV u.args)]] = some (tyV y,[[.str a],[.int .i64 u.kind,.str u.name,.int .i64 u.n,.slice (tysV u.args)]]) := by
 rw [den_eq prim_102,body_102]
 rw [tyV_eq,tyV_eq,tyV_eq] at h
 rw [tyV_eq,tyV_eq]
 simp only [go_sem,Tryz.f102,h]
theorem put_plain (t : Ty) (ys : List Ty) (a : List UInt8) (u : Ty) (hl : ys.length = t.args.length) (hb : t.sz < 1000000) (hu : u.sz < 1000000)
 (hc : ∀ (i : Nat) (x y : Ty),t.args[i]? = some x → ys[i]? = some y → den E 40 [tyV x,.str a,tyV u] [] = some (tyV y,[]))
 (h1 : (t.kind == 5 && t.name == a) = false) (h2 : (t.kind == 1 && t.name == a) = false) (h3 : (t.kind == 5 && (freeT u [] []).contains t.name) = false) :
 den E 40 [tyV t,.str a,tyV u] [] = some (tyV (.mk t.kind t.name t.n ys),[]) := by
 have d := withP_den t ys a u hl hb fun i x y hx hy => putc_den (hc i x y hx hy)
 have df := tfree_den u hu
 have hle := freeT_le _ u (Nat.le_refl _) [] []
 simp only [List.length_nil,Nat.zero_add] at hle
 have dc := contains_den (freeT u [] []) t.name (by omega)
 rw [den_eq prim_40,body_40]
 rw [tyV_eq] at df
 rw [tyV_mk,tyV_eq] at d ⊢
 rw [tyV_eq u]
 cases k5 : t.kind == 5 <;> cases na : t.name == a <;> cases k1 : t.kind == 1 <;> simp only [k1,k5,na,Bool.and_true,Bool.and_false,Bool.true_and,Bool.false_and,Bool.true_eq_false] at h1 h2 h3 <;>
 (try rw [h3] at dc) <;>
 simp only [go_sem,Tryz.f40,k1,k5,na,df,dc,d]
theorem put_hide (t : Ty) (a : List UInt8) (u : Ty) (h1 : (t.kind == 5) = true) (h2 : (t.name == a) = true) : den E 40 [tyV t,.str a,tyV u] [] = some (tyV t,[]) := by
 rw [den_eq prim_40,body_40,tyV_eq,tyV_eq u]
 simp only [go_sem,Tryz.f40,h1,h2]
theorem put_var (t : Ty) (a : List UInt8) (u : Ty) (h0 : (t.kind == 5) = false) (h1 : (t.kind == 1) = true) (h2 : (t.name == a) = true) : den E 40 [tyV t,.str a,tyV u] [] = some (tyV u,[]) := by
 rw [den_eq prim_40,body_40,tyV_eq,tyV_eq u]
 simp only [go_sem,Tryz.f40,h0,h1,h2]
theorem put_fresh (t x x' y : Ty) (a c : List UInt8) (u : Ty) (hx : t.args = [x]) (h0 : (t.kind == 1) = false) (h1 : (t.kind == 5) = true) (h2 : (t.name == a) = false) (h3 : (freeT u [] []).contains t.name = true) (hb : t.sz < 300000) (hu : u.sz < 300000) (hs : x'.sz = x.sz)
 (hd : den E 98 [.str t.name,.slice ((freeT u [] [] ++ (freeT x [] [] ++ [t.name,a])).map .str)] [] = some (.str c,[])) (r1 : den E 100 [tyV x,.str t.name,.str c] [] = some (tyV x',[])) (r2 : den E 40 [tyV x',.str a,tyV u] [] = some (tyV y,[])) :
 den E 40 [tyV t,.str a,tyV u] [] = some (tyV (.mk 5 c 0 [y]),[]) := by
 have hsz := sz_eq t
 rw [hx,szs_one] at hsz
 have d := withP_den (.mk 5 c 0 [x']) [y] a u rfl (by rw [sz_mk,szs_one]; omega) fun i u v hu hv => putc_den (by
  cases i with
  | zero => simp [Ty.args] at hu hv; subst hu hv; exact r2
  | succ i => simp [Ty.args] at hu)
 have df := tfree_den x (by omega)
 have dfu := tfree_den u (by omega)
 have hle := freeT_le _ x (Nat.le_refl _) [] []
 have hle2 := freeT_le _ u (Nat.le_refl _) [] []
 simp only [List.length_nil,Nat.zero_add] at hle hle2
 have dc := contains_den (freeT u [] []) t.name (by omega)
 rw [h3] at dc
 have dk := concat3_den (freeT u [] []) (freeT x [] []) [t.name,a] (by simp; omega)
 rw [den_eq prim_40,body_40]
 simp only [tyV_mk,tysV_cons,tysV_nil,kind_mk,name_mk,n_mk] at d
 simp only [List.map_cons,List.map_nil] at dk
 rw [tyV_mk,tysV_cons,tysV_nil]
 rw [tyV_eq] at r1 r2 d df ⊢
 rw [tyV_eq] at dfu
 rw [tyV_eq u,tyV_eq y] at r2
 rw [tyV_eq y] at d ⊢
 rw [tyV_eq x'] at r1
 rw [hx,tysV_cons,tysV_nil,tyV_eq x,tyV_eq u]
 simp only [go_sem,Tryz.f40,h0,h1,h2,Int.le_refl,Int.toNat_zero,df,dfu,dc,dk,hd,r1,d]
theorem szs_le {c : Nat} : ∀ {l m : List Ty},m.length = l.length → (∀ (i : Nat) (x y : Ty),l[i]? = some x → m[i]? = some y → y.sz ≤ x.sz * c) → Ty.szs m ≤ Ty.szs l * c
 | [],[],_,_ => Nat.zero_le _
 | a :: l,b :: m,h,hs => by
  rw [szs_cons,szs_cons,Nat.add_mul]
  exact Nat.add_le_add (hs 0 a b rfl rfl) (szs_le (by simpa using h) fun i x y hx hy => hs (i + 1) x y (by simpa using hx) (by simpa using hy))
 | [],b :: m,h,_ => by simp at h
 | a :: l,[],h,_ => by simp at h
theorem putF_var (n : Nat) (s a : List UInt8) (u : Ty) : putF (n + 1) (.mk 1 s 0 []) a u = if s == a then u else .mk 1 s 0 [] := by
 unfold putF; cases h : s == a <;> simp
theorem putF_all (n : Nat) (s : List UInt8) (x : Ty) (a : List UInt8) (u : Ty) : putF (n + 1) (.mk 5 s 0 [x]) a u = if s == a then .mk 5 s 0 [x] else if (freeT u [] []).contains s then .mk 5 (freshF s (freeT u [] [] ++ (freeT x [] [] ++ [s,a]))) 0 [putF n (renF n x s (freshF s (freeT u [] [] ++ (freeT x [] [] ++ [s,a])))) a u] else .mk 5 s 0 [putF n x a u] := by
 rw [putF]; cases h : s == a <;> cases h2 : (freeT u [] []).contains s <;> simp
theorem putF_den (u : Ty) (hu : GT u) (hub : u.sz < 300000) (hun : ∀ s,(freeT u [] []).contains s = true → s ≠ []) (a : List UInt8) : ∀ (n : Nat) (t : Ty),t.sz ≤ n → GT t → t.sz < 300000 → den E 40 [tyV t,.str a,tyV u] [] = some (tyV (putF n t a u),[]) ∧ GT (putF n t a u) ∧ (putF n t a u).sz ≤ t.sz * u.sz := by
 intro n
 have hu1 : 1 ≤ u.sz := by have := sz_eq u; omega
 have lift : ∀ k : Nat,k ≤ k * u.sz := fun k => Nat.le_mul_of_pos_right k hu1
 induction n with
 | zero => intro t h; have := sz_eq t; omega
 | succ n ih =>
  intro t hn hg hb
  have hsz := sz_eq t
  cases hg with
  | var s hs =>
   rw [putF_var]
   cases h : s == a
   · exact ⟨put_plain (.mk 1 s 0 []) [] a u rfl (by omega) (by omega) (fun i x y hx => by simp [Ty.args] at hx) rfl (by simpa [Ty.kind,Ty.name] using h) rfl,.var s hs,lift _⟩
   · refine ⟨put_var (.mk 1 s 0 []) a u rfl rfl h,hu,?_⟩
     show u.sz ≤ (Ty.mk 1 s 0 []).sz * u.sz
     rw [sz_mk]; simp [Ty.szs]
  | unk m h1 h2 => exact ⟨put_plain (.mk 2 [] m []) [] a u rfl (by omega) (by omega) (fun i x y hx => by simp [Ty.args] at hx) rfl rfl rfl,.unk m h1 h2,lift _⟩
  | con s l hs hl =>
   rw [sz_mk] at hn hb
   have e : putF (n + 1) (.mk 3 s 0 l) a u = .mk 3 s 0 (l.map fun x => putF n x a u) := rfl
   rw [e]
   have h2 : ∀ (i : Nat) (x y : Ty),l[i]? = some x → (l.map fun x => putF n x a u)[i]? = some y → den E 40 [tyV x,.str a,tyV u] [] = some (tyV y,[]) ∧ GT y ∧ y.sz ≤ x.sz * u.sz := by
    intro i x y hx hy
    simp [hx] at hy; subst hy
    have := szs_mem (List.mem_of_getElem? hx)
    exact ih x (by omega) (hl x (List.mem_of_getElem? hx)) (by omega)
   refine ⟨put_plain (.mk 3 s 0 l) _ a u (by simp [Ty.args]) (by rw [sz_mk]; omega) (by omega) (fun i x y hx hy => (h2 i x y hx hy).1) rfl rfl rfl,.con s _ hs fun y hy => ?_,?_⟩
   · obtain ⟨x,hx,rfl⟩ := List.mem_map.1 hy
     obtain ⟨i,hi⟩ := mem_get hx
     exact (h2 i x _ hi (by simp [hi])).2.1
   · rw [sz_mk,sz_mk,Nat.add_mul,Nat.one_mul]
     have := szs_le (c := u.sz) (m := l.map fun x => putF n x a u) (l := l) (by simp) fun i x y hx hy => (h2 i x y hx hy).2.2
     omega
  | fn v w hv hw =>
   rw [sz_mk,szs_two] at hn hb
   have e : putF (n + 1) (.mk 4 [] 0 [v,w]) a u = .mk 4 [] 0 [putF n v a u,putF n w a u] := rfl
   rw [e]
   obtain ⟨d1,g1,s1⟩ := ih v (by omega) hv (by omega)
   obtain ⟨d2,g2,s2⟩ := ih w (by omega) hw (by omega)
   refine ⟨put_plain (.mk 4 [] 0 [v,w]) [_,_] a u rfl (by rw [sz_mk,szs_two]; omega) (by omega) (fun i x y hx hy => ?_) rfl rfl rfl,.fn _ _ g1 g2,?_⟩
   · match i with
     | 0 => simp [Ty.args] at hx hy; subst hx hy; exact d1
     | 1 => simp [Ty.args] at hx hy; subst hx hy; exact d2
     | i + 2 => simp [Ty.args] at hx
   · rw [sz_mk,sz_mk,szs_two,szs_two,Nat.add_mul,Nat.add_mul,Nat.one_mul]; omega
  | all s x hs hx =>
   rw [sz_mk,szs_one] at hn hb
   rw [putF_all]
   cases ha : s == a
   · cases hq : (freeT u [] []).contains s
     · obtain ⟨d1,g1,s1⟩ := ih x (by omega) hx (by omega)
       refine ⟨put_plain (.mk 5 s 0 [x]) [_] a u rfl (by rw [sz_mk,szs_one]; omega) (by omega) (fun i p q hp hq => ?_) (by simpa [Ty.kind,Ty.name] using ha) rfl (by simpa [Ty.kind,Ty.name] using hq),.all s _ hs g1,?_⟩
       · match i with
         | 0 => simp [Ty.args] at hp hq; subst hp hq; exact d1
         | i + 1 => simp [Ty.args] at hp
       · simp only [Bool.false_eq_true,if_false]
         rw [sz_mk,sz_mk,szs_one,szs_one,Nat.add_mul,Nat.one_mul]; omega
     · have hle := freeT_le _ x (Nat.le_refl _) [] []
       have hle2 := freeT_le _ u (Nat.le_refl _) [] []
       simp only [List.length_nil,Nat.zero_add] at hle hle2
       have hsne : s ≠ [] := hun s hq
       have hsl : s.length ≤ 1000 := by omega
       have hd := freshF_den s (freeT u [] [] ++ (freeT x [] [] ++ [s,a])) hsne hsl (by simp; omega)
       obtain ⟨c0,c1⟩ := fresh_ok s (freeT u [] [] ++ (freeT x [] [] ++ [s,a])) (by simp; omega)
       obtain ⟨r1,g1,s1⟩ := renF_den n x (by omega) hx (by omega) s (freshF s (freeT u [] [] ++ (freeT x [] [] ++ [s,a]))) c0 c1
       obtain ⟨r2,g2,s2⟩ := ih (renF n x s (freshF s (freeT u [] [] ++ (freeT x [] [] ++ [s,a])))) (by omega) g1 (by omega)
       simp only [Bool.false_eq_true,if_false,if_true]
       refine ⟨put_fresh (.mk 5 s 0 [x]) x _ _ a _ u rfl rfl rfl ha hq (by rw [sz_mk,szs_one]; omega) hub s1 hd r1 r2,.all _ _ c1 g2,?_⟩
       rw [s1] at s2
       rw [sz_mk,sz_mk,szs_one,szs_one,Nat.add_mul,Nat.one_mul]; omega
   · refine ⟨put_hide (.mk 5 s 0 [x]) a u rfl ha,.all s x hs hx,?_⟩
     simp only [if_true]
     exact lift _
def candL (c : UInt8) (i : Nat) : List UInt8 := c :: Lib.itoa (i : Int)
theorem candL_inj (c : UInt8) (i j : Nat) (h : candL c i = candL c j) : i = j := itoa_inj i j (by unfold candL at h; injection h)
theorem candL_len (i : Nat) (c : UInt8) (h : i < 1000000000) : (candL c i).length ≤ 16 ∧ candL c i ≠ [] ∧ 1 + (Lib.itoa (i : Int)).length ≤ strMax := by
 have := itoa_len 8 i (by
  have e : (10 : Nat) ^ (8 + 1) = 1000000000 := by decide
  omega)
 unfold candL strMax
 exact ⟨by simp; omega,by simp,by omega⟩
def nextL (c : UInt8) (but : List (List UInt8)) (k : Nat) : Nat := k + seek (fun i => candL c (k + i)) but (but.length + 1) 0
def peelF (c : UInt8) (but : List (List UInt8)) : Nat → Ty → Nat → List (List UInt8) × Ty
 | 0,t,_ => ([],t)
 | n + 1,.mk k s m l,i =>
  if k == 5 then (match l with
   | [x] => (candL c (nextL c but i) :: (peelF c but n (putF x.sz x s (.mk 1 (candL c (nextL c but i)) 0 [])) (nextL c but i + 1)).1,(peelF c but n (putF x.sz x s (.mk 1 (candL c (nextL c but i)) 0 [])) (nextL c but i + 1)).2)
   | _ => ([],.mk k s m l))
  else ([],.mk k s m l)
theorem peelF_all (c : UInt8) (but : List (List UInt8)) (n : Nat) (s : List UInt8) (x : Ty) (i : Nat) : peelF c but (n + 1) (.mk 5 s 0 [x]) i = (candL c (nextL c but i) :: (peelF c but n (putF x.sz x s (.mk 1 (candL c (nextL c but i)) 0 [])) (nextL c but i + 1)).1,(peelF c but n (putF x.sz x s (.mk 1 (candL c (nextL c but i)) 0 [])) (nextL c but i + 1)).2) := rfl
theorem var_free (s : List UInt8) : freeT (.mk 1 s 0 []) [] [] = [s] := rfl
theorem var_sz (s : List UInt8) : (Ty.mk 1 s 0 []).sz = 1 := rfl
theorem putV_den {x : Ty} (hx : GT x) (hb : x.sz < 300000) (a s : List UInt8) (hs : s ≠ []) (hl : s.length ≤ 16) : den E 40 [tyV x,.str a,tyV (.mk 1 s 0 [])] [] = some (tyV (putF x.sz x a (.mk 1 s 0 [])),[]) ∧ GT (putF x.sz x a (.mk 1 s 0 [])) ∧ (putF x.sz x a (.mk 1 s 0 [])).sz ≤ x.sz := by
 have := putF_den (.mk 1 s 0 []) (.var s hl) (by rw [var_sz]; omega) (fun s' h => by
  rw [var_free] at h
  have : s' = s := by simpa using h
  rw [this]; exact hs) a x.sz x (Nat.le_refl _) hx hb
 rw [var_sz,Nat.mul_one] at this
 exact this
theorem peel_rest (c : UInt8) (but : List (List UInt8)) (n : Nat) (t : Ty) (i : Nat) (h : (t.kind == 5) = false) : peelF c but n t i = ([],t) := by
 cases n with
 | zero => rfl
 | succ n => cases t; simp only [Ty.kind] at h; simp only [peelF,h]; rfl
theorem GT.all_inv {t : Ty} (h : GT t) (hk : (t.kind == 5) = true) : ∃ s x,t = .mk 5 s 0 [x] ∧ s.length ≤ 16 ∧ GT x := by
 cases h with
 | all s x hs hx => exact ⟨s,x,rfl,hs,hx⟩
 | _ => simp [Ty.kind] at hk
theorem nextL_spec (c : UInt8) (but : List (List UInt8)) (k : Nat) : k ≤ nextL c but k ∧ nextL c but k ≤ k + but.length ∧ but.contains (candL c (nextL c but k)) = false ∧ ∀ j,k ≤ j → j < nextL c but k → but.contains (candL c j) = true := by
 obtain ⟨h1,h2,h3⟩ := seek_spec (fun i => candL c (k + i)) (fun i j h => by have := candL_inj c _ _ h; omega) but
 unfold nextL
 exact ⟨by omega,by omega,h2,fun j hj1 hj2 => by
  have := h3 (j - k) (by omega)
  rwa [show k + (j - k) = j by omega] at this⟩
structure PeelS where
 ns : List (List UInt8)
 n : Nat
 t : Ty
 i : Nat
theorem peel_ok (c : UInt8) (but : List (List UInt8)) : ∀ (n : Nat) (t : Ty) (i : Nat),t.sz ≤ n → GT t → t.sz < 300000 → i + n * (but.length + 1) ≤ 900000000 → GT (peelF c but n t i).2 ∧ (peelF c but n t i).2.sz ≤ t.sz ∧ (peelF c but n t i).1.length ≤ t.sz ∧ ∀ s ∈ (peelF c but n t i).1,s ≠ [] ∧ s.length ≤ 16 := by
 intro n
 induction n with
 | zero => intro t i h; have := sz_eq t; omega
 | succ n ih =>
  intro t i hn hg hb hi
  cases hk : t.kind == 5
  · rw [peel_rest c but _ t i hk]; exact ⟨hg,Nat.le_refl _,Nat.zero_le _,fun s hs => by simp at hs⟩
  · obtain ⟨s,x,rfl,hs,hx⟩ := hg.all_inv hk
    rw [sz_mk,szs_one] at hn hb
    rw [peelF_all]
    obtain ⟨q1,q2,_,_⟩ := nextL_spec c but i
    have e : (n + 1) * (but.length + 1) = n * (but.length + 1) + (but.length + 1) := by rw [Nat.add_mul]; omega
    obtain ⟨c1,c2,_⟩ := candL_len (nextL c but i) c (by omega)
    obtain ⟨_,g,hsz⟩ := putV_den hx (by omega) s (candL c (nextL c but i)) c2 c1
    obtain ⟨r1,r2,r3,r4⟩ := ih _ (nextL c but i + 1) (by omega) g (by omega) (by omega)
    refine ⟨r1,?_,?_,fun s' hs' => ?_⟩
    · rw [sz_mk,szs_one]; simp only; omega
    · rw [sz_mk,szs_one]; simp only [List.length_cons]; omega
    · rcases List.mem_cons.1 hs' with rfl | hs'
      · exact ⟨c2,c1⟩
      · exact r4 s' hs'
theorem peeled_den (c : UInt8) (but : List (List UInt8)) (hbut : but.length < 1000000) (t0 : Ty) (hg0 : GT t0) (hb0 : t0.sz < 300000) (hi0 : t0.sz * (but.length + 1) ≤ 900000000) :
 den E 103 [tyV t0,.str [c],.slice (but.map .str)] [] = some (.tup [.slice ((peelF c but t0.sz t0 0).1.map .str),tyV (peelF c but t0.sz t0 0).2],[]) := by
 rw [den_eq prim_103,body_103,tyV_eq t0]
 simp only [go_sem,Tryz.f103]
 refine run_ind (fun a : PeelS => a.t.sz ≤ a.n ∧ GT a.t ∧ a.t.sz < 300000 ∧ a.i + a.n * (but.length + 1) ≤ 900000000 ∧ a.ns.length + a.n ≤ t0.sz)
  (fun a => ⟨[(1,.str [c]),(2,.slice (but.map .str)),(3,.ptr (.loc 3) 0),(6,.own 9 0 (a.ns.map .str)),(7,.ptr (.loc 7) 0),(8,.int .i64 a.i)],[],[(3,[.int .i64 a.t.kind,.str a.t.name,.int .i64 a.t.n,.slice (tysV a.t.args)]),(7,[.int .i64 0,.str [],.int .i64 0,.own 25 0 []])],1⟩)
  (fun a => some (.tup [.slice ((a.ns ++ (peelF c but a.n a.t a.i).1).map .str),tyV (peelF c but a.n a.t a.i).2],[])) (fun a => a.n) ⟨[],t0.sz,t0,0⟩ ⟨Nat.le_refl _,hg0,hb0,by show 0 + t0.sz * (but.length + 1) ≤ 900000000; omega,by simp⟩ ?_ ?_
 · simp only [go_sem]
 · rintro ⟨ns,n,t,i⟩ ⟨hn,hg,hb,hi,hl⟩ h
   simp only at hn hg hb hi hl ⊢
   cases hk : t.kind == 5
   · rw [peel_rest c but n t i hk,List.append_nil,tyV_eq t]
     simp only [go_sem,hk]
   · obtain ⟨s,x,rfl,hs,hx⟩ := hg.all_inv hk
     rw [sz_mk,szs_one] at hn hb
     obtain ⟨m,rfl⟩ : ∃ m,n = m + 1 := ⟨n - 1,by omega⟩
     rw [peelF_all]
     obtain ⟨q1,q2,q3,q4⟩ := nextL_spec c but i
     have e : (m + 1) * (but.length + 1) = m * (but.length + 1) + (but.length + 1) := by rw [Nat.add_mul]; omega
     obtain ⟨c1,c2,_⟩ := candL_len (nextL c but i) c (by omega)
     obtain ⟨dp,g,hsz⟩ := putV_den hx (by omega) s (candL c (nextL c but i)) c2 c1
     generalize hN : nextL c but i = N at *
     have m0 := (candL_len i c (by omega)).2.2
     have d0 := fitoa_den i (by omega)
     have w0 : IntKind.i64.wrap ((i : Int) + 1) = ((i + 1 : Nat) : Int) := wrapN (i + 1) (by omega)
     simp only [Ty.kind,Ty.name,Ty.n,Ty.args,tysV_cons,tysV_nil]
     rw [tyV_mk,tysV_nil] at dp
     rw [tyV_eq x] at dp ⊢
     rw [tyV_eq (putF _ _ _ _)] at dp
     obtain ⟨fin,hfin⟩ : ∃ fin,fin = (some (.tup [.slice ((ns ++ (candL c N :: (peelF c but m (putF x.sz x s (.mk 1 (candL c N) 0 [])) (N + 1)).1)).map .str),tyV (peelF c but m (putF x.sz x s (.mk 1 (candL c N) 0 [])) (N + 1)).2],[]) : Option (AVal × Heap)) := ⟨_,rfl⟩
     rw [← hfin]
     simp only [go_sem,d0,m0,w0]
     refine run_ind (fun j : Nat => i ≤ j ∧ j ≤ N) (fun j => ⟨[(1,.str [c]),(2,.slice (but.map .str)),(3,.ptr (.loc 3) 0),(6,.own 9 0 (ns.map .str)),(7,.ptr (.loc 7) 0),(8,.int .i64 ((j + 1 : Nat) : Int)),(9,.str (candL c j))],[],
      [(3,[.int .i64 5,.str s,.int .i64 0,.slice [.agg [.int .i64 x.kind,.str x.name,.int .i64 x.n,.slice (tysV x.args)]]]),(7,[.int .i64 0,.str [],.int .i64 0,.own 25 0 []])],1⟩) (fun _ => fin) (fun j => N - j) i ⟨Nat.le_refl _,q1⟩ ?_ ?_
     · simp only [go_sem,candL]
     · intro j hj hh
       have dc := contains_den but (candL c j) hbut
       obtain ⟨p,hp⟩ : ∃ p : Nat,p = j + 1 := ⟨_,rfl⟩
       simp only [← hp]
       have w1 : IntKind.i64.wrap ((p : Int) + 1) = ((p + 1 : Nat) : Int) := wrapN (p + 1) (by omega)
       by_cases hlt : j < N
       · rw [q4 j hj.1 hlt] at dc
         have d1 := fitoa_den p (by omega)
         have m1 := (candL_len p c (by omega)).2.2
         simp only [go_sem,dc,w1,d1,m1]
         refine hh p _ ⟨by omega,by omega⟩ (by omega) ?_
         simp only [go_sem,candL]
       · have hje : j = N := by omega
         subst hje
         rw [q3] at dc
         have a1 : ns.length + 1 ≤ appMax := by unfold appMax; omega
         simp only [go_sem,dc,List.length_map,a1,Int.le_refl,Int.toNat_zero,dp]
         rw [hfin]
         have := h ⟨ns ++ [candL c j],m,putF x.sz x s (.mk 1 (candL c j) 0 []),p⟩
         rw [← hp]
         simp only [List.append_assoc,List.cons_append,List.nil_append] at this
         refine this _ ⟨by omega,g,by omega,by omega,by simp; omega⟩ (by omega) ?_
         simp only [go_sem,List.map_append]
def filF : Nat → Ty → Int → Ty → Ty
 | 0,t,_,_ => t
 | n + 1,.mk k s q l,m,u =>
  if k == 2 && q == m then u
  else if k == 5 && (freeT u [] []).contains s then (match l with
   | [x] => .mk 5 (freshF s (freeT u [] [] ++ (freeT x [] [] ++ [s]))) 0 [filF n (renF n x s (freshF s (freeT u [] [] ++ (freeT x [] [] ++ [s])))) m u]
   | _ => .mk k s q l)
  else .mk k s q (l.map fun x => filF n x m u)
theorem fillc_den (x : Ty) (m : Int) : den E 245 [tyV x,.ptr (.par 0) 0] [[.int .i64 m]] = some (.bool (x.kind == 2 && x.n == m),[[.int .i64 m]]) := by
 rw [den_eq prim_245,body_245,tyV_eq]
 cases h : x.kind == 2 <;> simp only [go_sem,Tryz.f245,h]
theorem ptc_den {x y u : Ty} {fr : List (List UInt8)} {m : Int} (h : den E 244 [tyV x,tyV u,.slice (fr.map .str),.func 245 [] [.ptr (.par 0) 0]] [[.int .i64 m]] = some (tyV y,[[.int .i64 m]])) :
 den E 261 [tyV x,.ptr (.par 0) 0,.ptr (.par 1) 0,.ptr (.par 2) 0] [[.int .i64 u.kind,.str u.name,.int .i64 u.n,.slice (tysV u.args)],[.slice (fr.map .str)],[.func 245 [] [.ptr (.par 3) 0]],[.int .i64 m]] = some (tyV y,[[.int .i64 u.kind,.str u.name,.int .i64 u.n,.slice (tysV u.args)],[.slice (fr.map .str)],[.func 245 [] [.ptr (.par 3) 0]],[.int .i64 m]]) := by
 rw [den_eq prim_261,body_261]
 rw [tyV_eq x,tyV_eq u,tyV_eq y] at h
 rw [tyV_eq x,tyV_eq y]
 simp only [go_sem,Tryz.f261,h]
theorem pt_plain (t : Ty) (ys : List Ty) (u : Ty) (fr : List (List UInt8)) (m : Int) (hl : ys.length = t.args.length) (hb : t.sz < 1000000) (hf : fr.length < 1000000)
 (hc : ∀ (i : Nat) (x y : Ty),t.args[i]? = some x → ys[i]? = some y → den E 244 [tyV x,tyV u,.slice (fr.map .str),.func 245 [] [.ptr (.par 0) 0]] [[.int .i64 m]] = some (tyV y,[[.int .i64 m]]))
 (h1 : (t.kind == 2 && t.n == m) = false) (h3 : (t.kind == 5 && fr.contains t.name) = false) :
 den E 244 [tyV t,tyV u,.slice (fr.map .str),.func 245 [] [.ptr (.par 0) 0]] [[.int .i64 m]] = some (tyV (.mk t.kind t.name t.n ys),[[.int .i64 m]]) := by
 have d := withQ_den t ys u fr m hl hb fun i x y hx hy => ptc_den (hc i x y hx hy)
 have dl := fillc_den t m
 rw [h1] at dl
 have dc := contains_den fr t.name hf
 rw [den_eq prim_244,body_244]
 rw [tyV_mk,tyV_eq t] at d ⊢
 rw [tyV_eq t] at dl
 rw [tyV_eq u]
 cases k5 : t.kind == 5 <;> simp only [k5,Bool.true_and,Bool.false_and] at h3 <;>
 (try rw [h3] at dc) <;>
 simp only [go_sem,Tryz.f244,k5,dl,dc,d]
theorem pt_hit (t : Ty) (u : Ty) (fr : List (List UInt8)) (m : Int) (h1 : (t.kind == 2 && t.n == m) = true) :
 den E 244 [tyV t,tyV u,.slice (fr.map .str),.func 245 [] [.ptr (.par 0) 0]] [[.int .i64 m]] = some (tyV u,[[.int .i64 m]]) := by
 have dl := fillc_den t m
 rw [h1] at dl
 rw [den_eq prim_244,body_244]
 rw [tyV_eq t] at dl ⊢
 rw [tyV_eq u]
 simp only [go_sem,Tryz.f244,dl]
theorem pt_fresh (t x x' y : Ty) (c : List UInt8) (u : Ty) (fr : List (List UInt8)) (m : Int) (hx : t.args = [x]) (h0 : (t.kind == 2) = false) (h1 : (t.kind == 5) = true) (h3 : fr.contains t.name = true) (hb : t.sz < 300000) (hf : fr.length < 300000) (hs : x'.sz = x.sz)
 (hd : den E 98 [.str t.name,.slice ((fr ++ (freeT x [] [] ++ [t.name])).map .str)] [] = some (.str c,[])) (r1 : den E 100 [tyV x,.str t.name,.str c] [] = some (tyV x',[]))
 (r2 : den E 244 [tyV x',tyV u,.slice (fr.map .str),.func 245 [] [.ptr (.par 0) 0]] [[.int .i64 m]] = some (tyV y,[[.int .i64 m]])) :
 den E 244 [tyV t,tyV u,.slice (fr.map .str),.func 245 [] [.ptr (.par 0) 0]] [[.int .i64 m]] = some (tyV (.mk 5 c 0 [y]),[[.int .i64 m]]) := by
 have hsz := sz_eq t
 rw [hx,szs_one] at hsz
 have d := withQ_den (.mk 5 c 0 [x']) [y] u fr m rfl (by rw [sz_mk,szs_one]; omega) fun i p q hp hq => ptc_den (by
  cases i with
  | zero => simp [Ty.args] at hp hq; subst hp hq; exact r2
  | succ i => simp [Ty.args] at hp)
 have df := tfree_den x (by omega)
 have hle := freeT_le _ x (Nat.le_refl _) [] []
 simp only [List.length_nil,Nat.zero_add] at hle
 have dl := fillc_den t m
 rw [h0,Bool.false_and] at dl
 have dc := contains_den fr t.name (by omega)
 rw [h3] at dc
 have dk := concat3_den fr (freeT x [] []) [t.name] (by simp; omega)
 rw [den_eq prim_244,body_244]
 simp only [tyV_mk,tysV_cons,tysV_nil,kind_mk,name_mk,n_mk] at d
 simp only [List.map_cons,List.map_nil] at dk
 rw [tyV_mk,tysV_cons,tysV_nil]
 rw [tyV_eq t] at dl ⊢
 rw [tyV_eq x] at r1 df
 rw [tyV_eq x'] at r1 d
 rw [tyV_eq y] at d ⊢
 rw [hx,tysV_cons,tysV_nil,tyV_eq x] at dl ⊢
 rw [tyV_eq u]
 simp only [go_sem,Tryz.f244,h1,dl,Int.le_refl,Int.toNat_zero,df,dc,dk,hd,r1,d]
theorem filF_unk (n : Nat) (q m : Int) (u : Ty) : filF (n + 1) (.mk 2 [] q []) m u = if q == m then u else .mk 2 [] q [] := by
 unfold filF; cases h : q == m <;> simp
theorem filF_all (n : Nat) (s : List UInt8) (x : Ty) (m : Int) (u : Ty) : filF (n + 1) (.mk 5 s 0 [x]) m u = if (freeT u [] []).contains s then .mk 5 (freshF s (freeT u [] [] ++ (freeT x [] [] ++ [s]))) 0 [filF n (renF n x s (freshF s (freeT u [] [] ++ (freeT x [] [] ++ [s])))) m u] else .mk 5 s 0 [filF n x m u] := by
 rw [filF]; cases h2 : (freeT u [] []).contains s <;> simp
theorem filF_den (u : Ty) (hu : GT u) (hub : u.sz < 300000) (hun : ∀ s,(freeT u [] []).contains s = true → s ≠ []) (m : Int) : ∀ (n : Nat) (t : Ty),t.sz ≤ n → GT t → t.sz < 300000 →
 den E 244 [tyV t,tyV u,.slice ((freeT u [] []).map .str),.func 245 [] [.ptr (.par 0) 0]] [[.int .i64 m]] = some (tyV (filF n t m u),[[.int .i64 m]]) ∧ GT (filF n t m u) ∧ (filF n t m u).sz ≤ t.sz * u.sz := by
 intro n
 have hu1 : 1 ≤ u.sz := by have := sz_eq u; omega
 have lift : ∀ k : Nat,k ≤ k * u.sz := fun k => Nat.le_mul_of_pos_right k hu1
 have hle2 := freeT_le _ u (Nat.le_refl _) [] []
 simp only [List.length_nil,Nat.zero_add] at hle2
 induction n with
 | zero => intro t h; have := sz_eq t; omega
 | succ n ih =>
  intro t hn hg hb
  have hsz := sz_eq t
  cases hg with
  | var s hs => exact ⟨pt_plain (.mk 1 s 0 []) [] u _ m rfl (by omega) (by omega) (fun i x y hx => by simp [Ty.args] at hx) rfl rfl,.var s hs,lift _⟩
  | unk q h1 h2 =>
   rw [filF_unk]
   cases h : q == m
   · exact ⟨pt_plain (.mk 2 [] q []) [] u _ m rfl (by omega) (by omega) (fun i x y hx => by simp [Ty.args] at hx) (by simpa [Ty.kind,Ty.n] using h) rfl,.unk q h1 h2,lift _⟩
   · refine ⟨pt_hit (.mk 2 [] q []) u _ m (by simpa [Ty.kind,Ty.n] using h),hu,?_⟩
     show u.sz ≤ (Ty.mk 2 [] q []).sz * u.sz
     rw [sz_mk]; simp [Ty.szs]
  | con s l hs hl =>
   rw [sz_mk] at hn hb
   have e : filF (n + 1) (.mk 3 s 0 l) m u = .mk 3 s 0 (l.map fun x => filF n x m u) := rfl
   rw [e]
   have h2 : ∀ (i : Nat) (x y : Ty),l[i]? = some x → (l.map fun x => filF n x m u)[i]? = some y → den E 244 [tyV x,tyV u,.slice ((freeT u [] []).map .str),.func 245 [] [.ptr (.par 0) 0]] [[.int .i64 m]] = some (tyV y,[[.int .i64 m]]) ∧ GT y ∧ y.sz ≤ x.sz * u.sz := by
    intro i x y hx hy
    simp [hx] at hy; subst hy
    have := szs_mem (List.mem_of_getElem? hx)
    exact ih x (by omega) (hl x (List.mem_of_getElem? hx)) (by omega)
   refine ⟨pt_plain (.mk 3 s 0 l) _ u _ m (by simp [Ty.args]) (by rw [sz_mk]; omega) (by omega) (fun i x y hx hy => (h2 i x y hx hy).1) rfl rfl,.con s _ hs fun y hy => ?_,?_⟩
   · obtain ⟨x,hx,rfl⟩ := List.mem_map.1 hy
     obtain ⟨i,hi⟩ := mem_get hx
     exact (h2 i x _ hi (by simp [hi])).2.1
   · rw [sz_mk,sz_mk,Nat.add_mul,Nat.one_mul]
     have := szs_le (c := u.sz) (m := l.map fun x => filF n x m u) (l := l) (by simp) fun i x y hx hy => (h2 i x y hx hy).2.2
     omega
  | fn v w hv hw =>
   rw [sz_mk,szs_two] at hn hb
   have e : filF (n + 1) (.mk 4 [] 0 [v,w]) m u = .mk 4 [] 0 [filF n v m u,filF n w m u] := rfl
   rw [e]
   obtain ⟨d1,g1,s1⟩ := ih v (by omega) hv (by omega)
   obtain ⟨d2,g2,s2⟩ := ih w (by omega) hw (by omega)
   refine ⟨pt_plain (.mk 4 [] 0 [v,w]) [_,_] u _ m rfl (by rw [sz_mk,szs_two]; omega) (by omega) (fun i x y hx hy => ?_) rfl rfl,.fn _ _ g1 g2,?_⟩
   · match i with
     | 0 => simp [Ty.args] at hx hy; subst hx hy; exact d1
     | 1 => simp [Ty.args] at hx hy; subst hx hy; exact d2
     | i + 2 => simp [Ty.args] at hx
   · rw [sz_mk,sz_mk,szs_two,szs_two,Nat.add_mul,Nat.add_mul,Nat.one_mul]; omega
  | all s x hs hx =>
   rw [sz_mk,szs_one] at hn hb
   rw [filF_all]
   cases hq : (freeT u [] []).contains s
   · obtain ⟨d1,g1,s1⟩ := ih x (by omega) hx (by omega)
     refine ⟨pt_plain (.mk 5 s 0 [x]) [_] u _ m rfl (by rw [sz_mk,szs_one]; omega) (by omega) (fun i p q hp hq => ?_) rfl (by simpa [Ty.kind,Ty.name] using hq),.all s _ hs g1,?_⟩
     · match i with
       | 0 => simp [Ty.args] at hp hq; subst hp hq; exact d1
       | i + 1 => simp [Ty.args] at hp
     · simp only [Bool.false_eq_true,if_false]
       rw [sz_mk,sz_mk,szs_one,szs_one,Nat.add_mul,Nat.one_mul]; omega
   · have hle := freeT_le _ x (Nat.le_refl _) [] []
     simp only [List.length_nil,Nat.zero_add] at hle
     have hd := freshF_den s (freeT u [] [] ++ (freeT x [] [] ++ [s])) (hun s hq) (by omega) (by simp; omega)
     obtain ⟨c0,c1⟩ := fresh_ok s (freeT u [] [] ++ (freeT x [] [] ++ [s])) (by simp; omega)
     obtain ⟨r1,g1,s1⟩ := renF_den n x (by omega) hx (by omega) s (freshF s (freeT u [] [] ++ (freeT x [] [] ++ [s]))) c0 c1
     obtain ⟨r2,g2,s2⟩ := ih (renF n x s (freshF s (freeT u [] [] ++ (freeT x [] [] ++ [s])))) (by omega) g1 (by omega)
     simp only [if_true]
     refine ⟨pt_fresh (.mk 5 s 0 [x]) x _ _ _ u _ m rfl rfl rfl hq (by rw [sz_mk,szs_one]; omega) (by omega) s1 hd r1 r2,.all _ _ c1 g2,?_⟩
     rw [s1] at s2
     rw [sz_mk,sz_mk,szs_one,szs_one,Nat.add_mul,Nat.one_mul]; omega
theorem fill_den (u : Ty) (hu : GT u) (hub : u.sz < 300000) (hun : ∀ s,(freeT u [] []).contains s = true → s ≠ []) (m : Int) (t : Ty) (hg : GT t) (hb : t.sz < 300000) :
 den E 213 [tyV t,.int .i64 m,tyV u] [] = some (tyV (filF t.sz t m u),[]) := by
 obtain ⟨d,_,_⟩ := filF_den u hu hub hun m _ t (Nat.le_refl _) hg hb
 have df := tfree_den u (by omega)
 rw [den_eq prim_213,body_213]
 rw [tyV_eq t,tyV_eq u] at d
 rw [tyV_eq (filF _ _ _ _)] at d ⊢
 rw [tyV_eq u] at df
 rw [tyV_eq t,tyV_eq u]
 simp only [go_sem,Tryz.f213,df,d]
def strE (s : List UInt8) : AVal := .str s
def metaT (i : Nat) : Ty := .mk 2 [] ((900000 + i : Nat) : Int) []
def put1 : List (List UInt8) → Nat → Ty → Ty
 | [],_,t => t
 | n :: r,i,t => put1 r (i + 1) (putF t.sz t n (metaT i))
def fil1 (called : List (List UInt8 × List UInt8)) : List (List UInt8) → Nat → Ty → Ty
 | [],_,t => t
 | n :: r,i,t => fil1 called r (i + 1) (filF t.sz t ((900000 + i : Nat) : Int) (.mk 1 ((lookK n called).getD []) 0 []))
def drenF (called : List (List UInt8 × List UInt8)) (names : List (List UInt8)) (t : Ty) : Ty := fil1 called names 0 (put1 names 0 t)
theorem meta_free (i : Nat) : freeT (metaT i) [] [] = [] := rfl
theorem meta_sz (i : Nat) : (metaT i).sz = 1 := rfl
theorem putM_den {x : Ty} (hx : GT x) (hb : x.sz < 300000) (a : List UInt8) (i : Nat) (hi : i < 100000) : den E 40 [tyV x,.str a,tyV (metaT i)] [] = some (tyV (putF x.sz x a (metaT i)),[]) ∧ GT (putF x.sz x a (metaT i)) ∧ (putF x.sz x a (metaT i)).sz ≤ x.sz := by
 have := putF_den (metaT i) (.unk _ (by omega) (by omega)) (by rw [meta_sz]; omega) (fun s' h => by
  rw [meta_free] at h; simp at h) a x.sz x (Nat.le_refl _) hx hb
 rw [meta_sz,Nat.mul_one] at this
 exact this
theorem filV_den {x : Ty} (hx : GT x) (hb : x.sz < 300000) (m : Int) (s : List UInt8) (hs : s ≠ []) (hl : s.length ≤ 16) : den E 213 [tyV x,.int .i64 m,tyV (.mk 1 s 0 [])] [] = some (tyV (filF x.sz x m (.mk 1 s 0 [])),[]) ∧ GT (filF x.sz x m (.mk 1 s 0 [])) ∧ (filF x.sz x m (.mk 1 s 0 [])).sz ≤ x.sz := by
 have hun : ∀ s',(freeT (.mk 1 s 0 []) [] []).contains s' = true → s' ≠ [] := fun s' h => by
  rw [var_free] at h
  have : s' = s := by simpa using h
  rw [this]; exact hs
 have h1 := filF_den (.mk 1 s 0 []) (.var s hl) (by rw [var_sz]; omega) hun m x.sz x (Nat.le_refl _) hx hb
 rw [var_sz,Nat.mul_one] at h1
 exact ⟨fill_den _ (.var s hl) (by rw [var_sz]; omega) hun m x hx hb,h1.2⟩
theorem put1_ok : ∀ (l : List (List UInt8)) (i : Nat) (t : Ty),GT t → t.sz < 300000 → i + l.length ≤ 100000 → GT (put1 l i t) ∧ (put1 l i t).sz ≤ t.sz
 | [],i,t,h,_,_ => ⟨h,Nat.le_refl _⟩
 | n :: r,i,t,h,hb,hi => by
  simp only [List.length_cons] at hi
  obtain ⟨_,g,hs⟩ := putM_den h hb n i (by omega)
  obtain ⟨g2,hs2⟩ := put1_ok r (i + 1) _ g (by omega) (by omega)
  exact ⟨g2,by rw [put1]; omega⟩
theorem fil1_ok (called : List (List UInt8 × List UInt8)) : ∀ (l : List (List UInt8)) (i : Nat) (t : Ty),(∀ n ∈ l,(lookK n called).getD [] ≠ [] ∧ ((lookK n called).getD []).length ≤ 16) → GT t → t.sz < 300000 → GT (fil1 called l i t) ∧ (fil1 called l i t).sz ≤ t.sz
 | [],i,t,_,h,_ => ⟨h,Nat.le_refl _⟩
 | n :: r,i,t,hc,h,hb => by
  obtain ⟨c1,c2⟩ := hc n (by simp)
  obtain ⟨_,g,hs⟩ := filV_den h hb ((900000 + i : Nat) : Int) _ c1 c2
  obtain ⟨g2,hs2⟩ := fil1_ok called r (i + 1) _ (fun m hm => hc m (by simp [hm])) g (by omega)
  exact ⟨g2,by rw [fil1]; omega⟩
structure RenS where
 i : Nat
 t : Ty
theorem dren_den (called : List (List UInt8 × List UInt8)) (names : List (List UInt8)) (t0 : Ty) (hn : names.length ≤ 99999) (hc : ∀ n ∈ names,(lookK n called).getD [] ≠ [] ∧ ((lookK n called).getD []).length ≤ 16) (hg0 : GT t0) (hb0 : t0.sz < 300000) :
 den E 146 [tyV t0,.slice (names.map .str),.pmap (entM strE called)] [] = some (tyV (drenF called names t0),[]) ∧ GT (drenF called names t0) ∧ (drenF called names t0).sz ≤ t0.sz := by
 obtain ⟨g1,s1⟩ := put1_ok names 0 t0 hg0 hb0 (by omega)
 refine ⟨?_,?_⟩
 rotate_left
 · obtain ⟨g2,s2⟩ := fil1_ok called names 0 _ hc g1 (by omega)
   exact ⟨g2,by unfold drenF; omega⟩
 rw [den_eq prim_146,body_146,tyV_eq t0]
 unfold drenF
 obtain ⟨T1,hT1⟩ : ∃ T1,T1 = put1 names 0 t0 := ⟨_,rfl⟩
 rw [← hT1] at g1 s1 ⊢
 obtain ⟨fin,hfin⟩ : ∃ fin,fin = (some (tyV (fil1 called names 0 T1),[]) : Option (AVal × Heap)) := ⟨_,rfl⟩
 rw [← hfin]
 simp only [go_sem,Tryz.f146,List.length_map]
 refine run_ind (fun a : RenS => a.i ≤ names.length ∧ GT a.t ∧ a.t.sz < 300000 ∧ put1 (names.drop a.i) a.i a.t = T1)
  (fun a => ⟨[(1,.slice (names.map .str)),(2,.pmap (entM strE called)),(3,.ptr (.loc 3) 0),(6,.ptr (.loc 6) 0),(11,.slice (names.map .str)),(12,.int .i64 names.length),(13,.int .i64 a.i)],[],[(3,[.int .i64 a.t.kind,.str a.t.name,.int .i64 a.t.n,.slice (tysV a.t.args)]),(6,[.int .i64 0,.str [],.int .i64 0,.own 25 0 []])],1⟩)
  (fun _ => fin) (fun a => names.length - a.i) ⟨0,t0⟩ ⟨Nat.zero_le _,hg0,hb0,by rw [hT1]; rfl⟩ ?_ ?_
 · simp only [go_sem]
 · rintro ⟨i,t⟩ ⟨hi,hg,hb,hp⟩ h
   simp only at hi hg hb hp ⊢
   by_cases hlt : i < names.length
   · obtain ⟨x,hx⟩ := getS hlt
     rw [dropGet hx] at hp
     have w1 : IntKind.i64.wrap ((i : Int) + 1) = ((i + 1 : Nat) : Int) := wrapN (i + 1) (by omega)
     have w2 : IntKind.i64.wrap ((900000 : Int) + (i : Int)) = ((900000 + i : Nat) : Int) := wrapN (900000 + i) (by omega)
     obtain ⟨d,g,hs⟩ := putM_den hg hb x i (by omega)
     rw [metaT,tyV_mk,tysV_nil] at d
     rw [tyV_eq t,tyV_eq (putF _ _ _ _)] at d
     simp only [go_sem,natlt,decide_eq_true hlt,natge0,tonat,strsGet,hx,w2,d]
     refine h ⟨i + 1,putF t.sz t x (metaT i)⟩ _ ⟨show i + 1 ≤ names.length by omega,g,show (putF t.sz t x (metaT i)).sz < 300000 by omega,hp⟩ (show names.length - (i + 1) < names.length - i by omega) ?_
     simp only [go_sem,w1,metaT]
   · have hie : i = names.length := by omega
     subst hie
     rw [List.drop_length] at hp
     have hp : t = T1 := hp
     subst hp
     simp only [go_sem,natlt,Nat.lt_irrefl]
     refine run_ind (fun a : RenS => a.i ≤ names.length ∧ GT a.t ∧ a.t.sz < 300000 ∧ fil1 called (names.drop a.i) a.i a.t = fil1 called names 0 t)
      (fun a => ⟨[(2,.pmap (entM strE called)),(3,.ptr (.loc 3) 0),(6,.ptr (.loc 6) 0),(25,.slice (names.map .str)),(26,.int .i64 names.length),(27,.int .i64 a.i)],[],[(3,[.int .i64 a.t.kind,.str a.t.name,.int .i64 a.t.n,.slice (tysV a.t.args)]),(6,[.int .i64 0,.str [],.int .i64 0,.own 25 0 []])],1⟩)
      (fun _ => fin) (fun a => names.length - a.i) ⟨0,t⟩ ⟨Nat.zero_le _,hg,hb,rfl⟩ ?_ ?_
     · simp only [go_sem,List.length_map]
     · rintro ⟨i,t2⟩ ⟨hi,hg,hb,hp⟩ hh
       simp only at hi hg hb hp ⊢
       by_cases hlt : i < names.length
       · obtain ⟨x,hx⟩ := getS hlt
         rw [dropGet hx] at hp
         have hxm := List.mem_of_getElem? hx
         obtain ⟨c1,c2⟩ := hc x hxm
         have w1 : IntKind.i64.wrap ((i : Int) + 1) = ((i + 1 : Nat) : Int) := wrapN (i + 1) (by omega)
         have w2 : IntKind.i64.wrap ((900000 : Int) + (i : Int)) = ((900000 + i : Nat) : Int) := wrapN (900000 + i) (by omega)
         obtain ⟨d,g,hs⟩ := filV_den hg hb ((900000 + i : Nat) : Int) _ c1 c2
         have hf := find_entM strE x called
         cases hk : lookK x called with
         | none => rw [hk] at c1; exact absurd rfl c1
         | some y =>
          rw [hk] at hf d g hs
          simp only [Option.map_some,strE,Option.getD_some] at hf d g hs
          rw [tyV_mk,tysV_nil] at d
          rw [tyV_eq t2,tyV_eq (filF _ _ _ _)] at d
          simp only [go_sem,natlt,decide_eq_true hlt,natge0,tonat,strsGet,hx,w2,hf,d]
          refine hh ⟨i + 1,filF t2.sz t2 ((900000 + i : Nat) : Int) (.mk 1 y 0 [])⟩ _ ⟨show i + 1 ≤ names.length by omega,g,show (filF t2.sz t2 ((900000 + i : Nat) : Int) (.mk 1 y 0 [])).sz < 300000 by omega,?_⟩ (show names.length - (i + 1) < names.length - i by omega) ?_
          · rw [fil1,hk] at hp; exact hp
          · simp only [go_sem,w1]
       · have hie : i = names.length := by omega
         subst hie
         rw [List.drop_length] at hp
         have hp : t2 = fil1 called names 0 t := hp
         rw [hfin,← hp,tyV_eq]
         simp only [go_sem,natlt,Nat.lt_irrefl]
end Go.Proofs
