/- Lists and sets of names; whether all names of a program are as they may be; a type with other names. -/
import Derived.Test.YtjfghnkmladbkaaGreatDoorAvF
import Derived.Test.YtjfghnkmladbkaaGreatDoorAvG
import Derived.Test.YtjfghnkmladbkaaGreatDoorAvI
import Derived.Test.YtjfghnkmladbkaaGreatDoorAvH
namespace Go.Proofs
open Go.Av
set_option maxHeartbeats 16000000
set_option maxRecDepth 100000
theorem strsGet (l : List (List UInt8)) (i : Nat) : (l.map AVal.str)[i]? = (l[i]?).map AVal.str := by simp
theorem dropGet {α : Type} {l : List α} {i : Nat} {x : α} (h : l[i]? = some x) : l.drop i = x :: l.drop (i + 1) := by
 obtain ⟨h1,h2⟩ := List.getElem?_eq_some_iff.1 h
 rw [List.drop_eq_getElem_cons h1,h2]
theorem getS {α : Type} {l : List α} {i : Nat} (h : i < l.length) : ∃ x,l[i]? = some x := ⟨l[i],List.getElem?_eq_getElem h⟩
def idxR : List (List UInt8) → List UInt8 → Nat → Int
 | [],_,_ => -1
 | x :: r,n,i => if n == x then (i : Int) else idxR r n (i + 1)
theorem idxR_ge : ∀ (l : List (List UInt8)) (n : List UInt8) (i : Nat),decide (idxR l n i ≥ 0) = l.contains n
 | [],n,i => rfl
 | x :: r,n,i => by
  rw [List.contains_cons]
  unfold idxR
  cases h : n == x
  · simp only [Bool.false_eq_true,if_false,Bool.false_or]; exact idxR_ge r n (i + 1)
  · simp
theorem index_den (l : List (List UInt8)) (n : List UInt8) (hl : l.length < 1000000) : den E 119 [.slice (l.map .str),.str n] [] = some (.int .i64 (idxR l n 0),[]) := by
 rw [den_eq prim_119,body_119]
 simp only [go_sem,Tryz.f119,List.length_map]
 refine run_ind (fun i : Nat => i ≤ l.length) (fun i => ⟨[(0,.slice (l.map .str)),(1,.str n),(7,.int .i64 l.length),(8,.int .i64 i)],[],[],1⟩) (fun i => some (.int .i64 (idxR (l.drop i) n i),[])) (fun i => l.length - i) 0 (Nat.zero_le _) ?_ ?_
 · simp only [go_sem]
 · intro i hi h
   by_cases hlt : i < l.length
   · obtain ⟨x,hx⟩ := getS hlt
     rw [dropGet hx]
     have w1 : IntKind.i64.wrap ((i : Int) + 1) = ((i + 1 : Nat) : Int) := wrapN (i + 1) (by omega)
     cases hq : n == x
     · simp only [go_sem,natlt,decide_eq_true hlt,natge0,tonat,strsGet,hx,hq,idxR]
       refine h (i + 1) _ (by omega) (by omega) ?_
       simp only [go_sem,w1]
     · simp only [go_sem,natlt,decide_eq_true hlt,natge0,tonat,strsGet,hx,hq,idxR]
   · have hie : i = l.length := by omega
     subst hie
     rw [List.drop_length]
     simp only [go_sem,natlt,Nat.lt_irrefl,idxR]
theorem contains_den (l : List (List UInt8)) (n : List UInt8) (hl : l.length < 1000000) : den E 57 [.slice (l.map .str),.str n] [] = some (.bool (l.contains n),[]) := by
 rw [den_eq prim_57,body_57]
 have h1 := index_den l n hl
 have h2 := idxR_ge l n 0
 simp only [go_sem,Tryz.f57,h1,h2]
def twR (all others : List (List UInt8)) : List (List UInt8) → Nat → List UInt8 × Bool
 | [],_ => ([],false)
 | x :: r,i => if (all.take i).contains x || others.contains x then (x,true) else twR all others r (i + 1)
def twV (p : List UInt8 × Bool) : AVal := .tup [.str p.1,.bool p.2]
theorem twice_den (l o : List (List UInt8)) (hl : l.length < 1000000) (ho : o.length < 1000000) : den E 203 [.slice (l.map .str),.slice (o.map .str)] [] = some (twV (twR l o l 0),[]) := by
 rw [den_eq prim_203,body_203]
 simp only [go_sem,Tryz.f203,List.length_map]
 refine run_ind (fun i : Nat => i ≤ l.length) (fun i => ⟨[(0,.slice (l.map .str)),(1,.slice (o.map .str)),(8,.slice (l.map .str)),(9,.int .i64 l.length),(10,.int .i64 i)],[],[],1⟩) (fun i => some (twV (twR l o (l.drop i) i),[])) (fun i => l.length - i) 0 (Nat.zero_le _) ?_ ?_
 · simp only [go_sem]
 · intro i hi h
   by_cases hlt : i < l.length
   · obtain ⟨x,hx⟩ := getS hlt
     rw [dropGet hx]
     have w1 : IntKind.i64.wrap ((i : Int) + 1) = ((i + 1 : Nat) : Int) := wrapN (i + 1) (by omega)
     have hsz : ∀ y,esOK 1 (y :: []) = esOK 1 (y :: []) := fun _ => rfl
     have e0 : (l.map AVal.str).head? = some (.str (l.headD [])) := by
      cases l with
      | nil => simp at hlt
      | cons a r => rfl
     have d1 := contains_den (l.take i) x (by rw [List.length_take]; omega)
     have d2 := contains_den o x ho
     rw [List.map_take] at d1
     cases hq : (l.take i).contains x
     · cases hq2 : o.contains x
       · simp only [go_sem,natlt,decide_eq_true hlt,natge0,tonat,strsGet,hx,Nat.zero_le,Nat.le_of_lt hlt,e0,List.length_map,d1,d2,hq,hq2,twR]
         refine h (i + 1) _ (by omega) (by omega) ?_
         simp only [go_sem,w1]
       · simp only [go_sem,natlt,decide_eq_true hlt,natge0,tonat,strsGet,hx,Nat.zero_le,Nat.le_of_lt hlt,e0,List.length_map,d1,d2,hq,hq2,twR,twV]
     · simp only [go_sem,natlt,decide_eq_true hlt,natge0,tonat,strsGet,hx,Nat.zero_le,Nat.le_of_lt hlt,e0,List.length_map,d1,hq,twR,twV]
   · have hie : i = l.length := by omega
     subst hie
     rw [List.drop_length]
     simp only [go_sem,natlt,Nat.lt_irrefl,twR,twV]
def entsV (l : List (List UInt8)) : List AVal := l.map fun n => .tup [.str n,.bool true]
theorem isL_ents (l : List (List UInt8)) : isL (entsV l) = none := by
 cases l with
 | nil => rfl
 | cons a r => cases r <;> rfl
attribute [go_sem ↓] isL_ents
def addS (l : List (List UInt8)) (n : List UInt8) : List (List UInt8) := if l.contains n then l else l ++ [n]
def withS (b ns : List (List UInt8)) : List (List UInt8) := ns.foldl addS b
theorem find_ents (n : List UInt8) : ∀ l,findE (.str n) (entsV l) = some (if l.contains n then some (.bool true) else none)
 | [] => rfl
 | x :: r => by
  have ih := find_ents n r
  unfold entsV at ih ⊢
  rw [List.map_cons,List.contains_cons]
  simp only [findE,keyEq,Option.bind_some]
  cases h : n == x
  · simp only [Bool.false_eq_true,if_false,Bool.false_or]; exact ih
  · simp
theorem upd_ents (n : List UInt8) : ∀ l,updE (.str n) (.bool true) (entsV l) = some (entsV (addS l n))
 | [] => rfl
 | x :: r => by
  have ih := upd_ents n r
  unfold entsV addS at ih ⊢
  rw [List.contains_cons,List.map_cons]
  simp only [updE,keyEq,Option.bind_some]
  cases h : n == x
  · simp only [Bool.false_eq_true,if_false,Bool.false_or,ih,Option.map_some]
    cases r.contains n <;> simp
  · have hx : n = x := by simpa using h
    subst hx
    simp
theorem with_den (b ns : List (List UInt8)) (hl : ns.length < 1000000) : den E 239 [.pmap (entsV b),.slice (ns.map .str)] [] = some (.pmap (entsV (withS b ns)),[]) := by
 rw [den_eq prim_239,body_239]
 have hc : den E 155 [.pmap (entsV b)] [] = some (.own mapT 0 (entsV b),[]) := den_prim prim_155
 simp only [go_sem,Tryz.f239,List.length_map,hc]
 refine run_ind (fun i : Nat => i ≤ ns.length) (fun i => ⟨[(0,.own mapT 0 (entsV (withS b (ns.take i)))),(9,.slice (ns.map .str)),(10,.int .i64 ns.length),(11,.int .i64 i)],[],[],1⟩) (fun _ => some (.pmap (entsV (withS b ns)),[])) (fun i => ns.length - i) 0 (Nat.zero_le _) ?_ ?_
 · simp only [go_sem,withS,List.foldl_nil]
 · intro i hi h
   by_cases hlt : i < ns.length
   · obtain ⟨x,hx⟩ := getS hlt
     have w1 : IntKind.i64.wrap ((i : Int) + 1) = ((i + 1 : Nat) : Int) := wrapN (i + 1) (by omega)
     have hts : ns.take (i + 1) = ns.take i ++ [x] := by rw [List.take_add_one,hx]; rfl
     simp only [go_sem,natlt,decide_eq_true hlt,natge0,tonat,strsGet,hx,upd_ents]
     refine h (i + 1) _ (by omega) (by omega) ?_
     simp only [go_sem,w1,hts,withS,List.foldl_append,List.foldl_cons,List.foldl_nil]
   · have hie : i = ns.length := by omega
     subst hie
     simp only [go_sem,natlt,Nat.lt_irrefl,List.take_length]
def metN (n : Nat) (l : List (List UInt8)) : AVal := if l = [] then .nilm else .own mapT n (entsV l)
theorem met_nil (n : Nat) : metN n [] = .nilm := rfl
theorem met_cons (n : Nat) (a : List UInt8) (r : List (List UInt8)) : metN n (a :: r) = .own mapT n (entsV (a :: r)) := rfl
theorem met_stamp (m n : Nat) (l : List (List UInt8)) : stamp1 m (metN n l) = metN m l := by
 unfold metN; split <;> rfl
theorem met_stampH (n : Nat) (l : List (List UInt8)) : stampH (metN n l) = metN 0 l := by
 unfold metN; split <;> rfl
theorem met_names (n : Nat) (l : List (List UInt8)) : names1 (metN n l) = [] := by
 unfold metN; split <;> rfl
theorem met_ren (ρ : BName → BName) (n : Nat) (l : List (List UInt8)) : ren1 ρ (metN n l) = metN n l := by
 unfold metN; split <;> rfl
theorem met_rs (ρ : BName → BName) (m n : Nat) (l : List (List UInt8)) : ren1 ρ (stamp1 m (metN n l)) = metN m l := by rw [met_stamp,met_ren]
def cellIn (ns : List BName) (c : AVal) : AVal := ren1 (toPar ns) (stamp1 0 c)
def cellOut (ns : List BName) (n : Nat) (c : AVal) : AVal := ren1 (ofPar ns) (stamp1 n c)
theorem callF_func {D : FuncId → List AVal → Heap → Option (AVal × Heap)} {s : St} {n : Nat} {dst : Option Nat} {args : List AVal} {f : FuncId} {first cap : List AVal} : callF D s n dst args (.func f first cap) = (match (first ++ (args ++ cap)).flatMap names with
 | [] => (D f (first ++ (args ++ cap)) []).bind fun r => match r.2 with
  | [] => some (s.putD dst (recvC n r.1))
  | _ :: _ => none
 | b :: bs => (reach s 100 (b :: bs) []).bind fun ns => (boxesAt s ns).bind fun H =>
  (D f ((first ++ (args ++ cap)).map (ren (toPar ns))) (H.map (List.map (cellIn ns)))).bind fun r =>
    (setBoxes s ns (r.2.map (List.map (cellOut ns n)))).map fun s' => s'.putD dst (recvC n (ren (ofPar ns) r.1))) := rfl
theorem met_in (ns : List BName) (n : Nat) (l : List (List UInt8)) : cellIn ns (metN n l) = metN 0 l := by unfold cellIn; rw [met_rs]
theorem met_out (ns : List BName) (m n : Nat) (l : List (List UInt8)) : cellOut ns m (metN n l) = metN m l := by unfold cellOut; rw [met_rs]
def setH (l : List (List UInt8)) : List AVal := [.own 9 0 (l.map .str),metN 0 l]
theorem add_den (l : List (List UInt8)) (n : List UInt8) (hl : l.length < 1000000) : den E 237 [.ptr (.par 0) 0,.str n] [setH l] = some (.tup [],[setH (addS l n)]) := by
 rw [den_eq prim_237,body_237]
 have ht : l.length + 1 ≤ appMax := by unfold appMax; omega
 cases l with
 | nil =>
  have hu := upd_ents n []
  have hf := find_ents n []
  have e : addS [] n = [n] := rfl
  rw [e] at hu ⊢
  unfold entsV at hu hf
  simp only [List.map_cons,List.map_nil] at hu hf
  have h1 : 1 ≤ appMax := by unfold appMax; omega
  simp only [go_sem,Tryz.f237,setH,met_nil,met_cons,h1,entsV]
 | cons a r =>
  have hu := upd_ents n (a :: r)
  have hf := find_ents n (a :: r)
  cases hc : (a :: r).contains n
  · have e : addS (a :: r) n = (a :: r) ++ [n] := by unfold addS; rw [hc]; rfl
    rw [e] at hu ⊢
    rw [hc] at hf
    have hs : (setH ((a :: r) ++ [n])) = [.own 9 0 (((a :: r) ++ [n]).map .str),.own mapT 0 (entsV ((a :: r) ++ [n]))] := rfl
    have hs2 : (setH (a :: r)) = [.own 9 0 ((a :: r).map .str),.own mapT 0 (entsV (a :: r))] := rfl
    rw [hs,hs2]
    generalize (a :: r) = l at *
    simp only [go_sem,Tryz.f237,hu,hf,List.length_map,ht,List.map_append]
  · have e : addS (a :: r) n = a :: r := by unfold addS; rw [hc]; rfl
    rw [e]
    rw [hc] at hf
    have hs2 : (setH (a :: r)) = [.own 9 0 ((a :: r).map .str),.own mapT 0 (entsV (a :: r))] := rfl
    rw [hs2]
    generalize (a :: r) = l at *
    simp only [go_sem,Tryz.f237,hf]
def freeAt (t : Ty) (b acc : List (List UInt8)) : List (List UInt8) := if t.kind == 1 && !b.contains t.name then addS acc t.name else acc
mutual
def freeT : Ty → List (List UInt8) → List (List UInt8) → List (List UInt8)
 | .mk k s n a,b,acc => freeTs a (if k == 5 then addS b s else b) (freeAt (.mk k s n a) b acc)
def freeTs : List Ty → List (List UInt8) → List (List UInt8) → List (List UInt8)
 | [],_,acc => acc
 | t :: r,b,acc => freeTs r b (freeT t b acc)
end
theorem freeT_eq (t : Ty) (b acc : List (List UInt8)) : freeT t b acc = freeTs t.args (if t.kind == 5 then addS b t.name else b) (freeAt t b acc) := by
 cases t; simp only [freeT,Ty.args,Ty.kind,Ty.name]; rfl
theorem freeTs_nil (b acc : List (List UInt8)) : freeTs [] b acc = acc := by simp only [freeTs]
theorem freeTs_cons (t : Ty) (r : List Ty) (b acc : List (List UInt8)) : freeTs (t :: r) b acc = freeTs r b (freeT t b acc) := by simp only [freeTs]
theorem addS_le (l : List (List UInt8)) (n : List UInt8) : (addS l n).length ≤ l.length + 1 := by
 unfold addS; split
 · omega
 · simp
theorem freeAt_le (t : Ty) (b acc : List (List UInt8)) : (freeAt t b acc).length ≤ acc.length + 1 := by
 unfold freeAt; split
 · exact addS_le _ _
 · omega
theorem szs_cons (t : Ty) (r : List Ty) : Ty.szs (t :: r) = t.sz + Ty.szs r := by simp [Ty.szs]
theorem freeT_le : ∀ (n : Nat) (t : Ty),t.sz ≤ n → ∀ b acc,(freeT t b acc).length ≤ acc.length + t.sz := by
 intro n
 induction n with
 | zero => intro t h; have := sz_eq t; omega
 | succ n ih =>
  have hs : ∀ (l : List Ty) b acc,Ty.szs l ≤ n → (freeTs l b acc).length ≤ acc.length + Ty.szs l := by
   intro l
   induction l with
   | nil => intro b acc _; rw [freeTs_nil]; omega
   | cons x r ihr =>
    intro b acc hl
    rw [szs_cons] at hl ⊢
    rw [freeTs_cons]
    have := ih x (by omega) b acc
    have := ihr b (freeT x b acc) (by omega)
    omega
  intro t h b acc
  have := sz_eq t
  have h1 := freeAt_le t b acc
  have h2 := hs t.args (if t.kind == 5 then addS b t.name else b) (freeAt t b acc) (by omega)
  rw [freeT_eq]; omega
theorem freefn_den (t : Ty) (b acc : List (List UInt8)) (h : acc.length < 1000000) : den E 91 [tyV t,.pmap (entsV b),.ptr (.par 0) 0] [[.own 9 0 (acc.map .str)]] = some (.tup [],[[.own 9 0 ((freeAt t b acc).map .str)]]) := by
 rw [den_eq prim_91,body_91,tyV_eq]
 have hf := find_ents t.name b
 have hc := contains_den acc t.name h
 have a1 : acc.length + 1 ≤ appMax := by unfold appMax; omega
 unfold freeAt addS
 cases h1 : t.kind == 1
 · simp only [go_sem,Tryz.f91,h1]
 · cases h2 : b.contains t.name
   · rw [h2] at hf
     cases h3 : acc.contains t.name
     · rw [h3] at hc
       simp only [go_sem,Tryz.f91,h1,hf,hc,a1,List.length_map,List.map_append]
     · rw [h3] at hc
       simp only [go_sem,Tryz.f91,h1,hf,hc]
   · rw [h2] at hf
     simp only [go_sem,Tryz.f91,h1,hf]
theorem args_len (t : Ty) : t.args.length + 1 ≤ t.sz := by
 have : ∀ l : List Ty,l.length ≤ Ty.szs l := by
  intro l
  induction l with
  | nil => simp
  | cons x r ih => rw [szs_cons,List.length_cons]; have := sz_eq x; omega
 have := this t.args
 have := sz_eq t
 omega
theorem tysGet (l : List Ty) (i : Nat) : (tysV l)[i]? = (l[i]?).map tyV := by simp [tysV_map]
theorem twalk_den : ∀ (n : Nat) (t : Ty),t.sz ≤ n → ∀ (b acc : List (List UInt8)),acc.length + t.sz < 1000000 → den E 90 [tyV t,.pmap (entsV b),.func 91 [] [.ptr (.par 0) 0]] [[.own 9 0 (acc.map .str)]] = some (.tup [],[[.own 9 0 ((freeT t b acc).map .str)]]) := by
 intro n
 induction n with
 | zero => intro t h; have := sz_eq t; omega
 | succ n ih =>
 intro t hn b acc hm
 have hsz := sz_eq t
 have d0 := freefn_den t b acc (by omega)
 have hl0 := freeAt_le t b acc
 rw [den_eq prim_90,body_90,freeT_eq]
 generalize freeAt t b acc = a0 at *
 rw [tyV_eq] at d0 ⊢
 obtain ⟨b',hb'⟩ : ∃ b',b' = (if t.kind == 5 then addS b t.name else b) := ⟨_,rfl⟩
 rw [← hb']
 cases h5 : t.kind == 5
 · rw [h5] at hb'
   simp only [Bool.false_eq_true,if_false] at hb'
   subst hb'
   simp only [go_sem,Tryz.f90,d0,h5,tysV_len]
   refine run_ind (fun x : Nat × List (List UInt8) => x.1 ≤ t.args.length ∧ x.2.length + Ty.szs (t.args.drop x.1) ≤ a0.length + Ty.szs t.args ∧ freeTs (t.args.drop x.1) b' x.2 = freeTs t.args b' a0)
    (fun x => ⟨[(1,.pmap (entsV b')),(2,.func 91 [] [.ptr (.par 0) 0]),(21,.slice (tysV t.args)),(22,.int .i64 t.args.length),(23,.int .i64 x.1)],[[.own 9 0 (x.2.map .str)]],[],1⟩)
    (fun _ => some (.tup [],[[.own 9 0 ((freeTs t.args b' a0).map .str)]])) (fun x => t.args.length - x.1) (0,a0) ⟨Nat.zero_le _,by simp,rfl⟩ ?_ ?_
   · simp only [go_sem]
   · rintro ⟨i,a1⟩ ⟨hi,ha,hf⟩ h
     simp only at hi ha hf h ⊢
     by_cases hlt : i < t.args.length
     · obtain ⟨x,hx⟩ := getS hlt
       have hxs := szs_mem (List.mem_of_getElem? hx)
       rw [dropGet hx,szs_cons] at ha
       rw [dropGet hx,freeTs_cons] at hf
       have w1 : IntKind.i64.wrap ((i : Int) + 1) = ((i + 1 : Nat) : Int) := wrapN (i + 1) (by have := args_len t; omega)
       have d := ih x (by omega) b' a1 (by omega)
       have hl := freeT_le _ x (Nat.le_refl _) b' a1
       generalize freeT x b' a1 = a2 at *
       rw [tyV_eq] at d
       simp only [go_sem,natlt,decide_eq_true hlt,natge0,tonat,tysGet,hx,tyV_eq,d]
       refine h (i + 1,a2) _ ⟨by omega,by simp only; omega,hf⟩ (by simp only; omega) ?_
       simp only [go_sem,w1]
     · have hie : i = t.args.length := by omega
       subst hie
       rw [List.drop_length,freeTs_nil] at hf
       subst hf
       simp only [go_sem,natlt,Nat.lt_irrefl]
 · rw [h5] at hb'
   simp only [if_true] at hb'
   have hc : den E 155 [.pmap (entsV b)] [] = some (.own mapT 0 (entsV b),[]) := den_prim prim_155
   have hu := upd_ents t.name b
   rw [← hb'] at hu
   clear hb'
   simp only [go_sem,Tryz.f90,d0,h5,tysV_len,hc,hu]
   refine run_ind (fun x : Nat × List (List UInt8) => x.1 ≤ t.args.length ∧ x.2.length + Ty.szs (t.args.drop x.1) ≤ a0.length + Ty.szs t.args ∧ freeTs (t.args.drop x.1) b' x.2 = freeTs t.args b' a0)
    (fun x => ⟨[(1,.pmap (entsV b')),(2,.func 91 [] [.ptr (.par 0) 0]),(21,.slice (tysV t.args)),(22,.int .i64 t.args.length),(23,.int .i64 x.1)],[[.own 9 0 (x.2.map .str)]],[],1⟩)
    (fun _ => some (.tup [],[[.own 9 0 ((freeTs t.args b' a0).map .str)]])) (fun x => t.args.length - x.1) (0,a0) ⟨Nat.zero_le _,by simp,rfl⟩ ?_ ?_
   · simp only [go_sem]
   · rintro ⟨i,a1⟩ ⟨hi,ha,hf⟩ h
     simp only at hi ha hf h ⊢
     by_cases hlt : i < t.args.length
     · obtain ⟨x,hx⟩ := getS hlt
       have hxs := szs_mem (List.mem_of_getElem? hx)
       rw [dropGet hx,szs_cons] at ha
       rw [dropGet hx,freeTs_cons] at hf
       have w1 : IntKind.i64.wrap ((i : Int) + 1) = ((i + 1 : Nat) : Int) := wrapN (i + 1) (by have := args_len t; omega)
       have d := ih x (by omega) b' a1 (by omega)
       have hl := freeT_le _ x (Nat.le_refl _) b' a1
       generalize freeT x b' a1 = a2 at *
       rw [tyV_eq] at d
       simp only [go_sem,natlt,decide_eq_true hlt,natge0,tonat,tysGet,hx,tyV_eq,d]
       refine h (i + 1,a2) _ ⟨by omega,by simp only; omega,hf⟩ (by simp only; omega) ?_
       simp only [go_sem,w1]
     · have hie : i = t.args.length := by omega
       subst hie
       rw [List.drop_length,freeTs_nil] at hf
       subst hf
       simp only [go_sem,natlt,Nat.lt_irrefl]
theorem tfree_den (t : Ty) (h : t.sz < 1000000) : den E 32 [tyV t] [] = some (.own 9 0 ((freeT t [] []).map .str),[]) := by
 have d := twalk_den _ t (Nat.le_refl _) [] [] (by simpa using h)
 rw [den_eq prim_32,body_32]
 rw [show entsV [] = [] from rfl] at d
 rw [tyV_eq] at d ⊢
 simp only [List.map_nil] at d
 simp only [go_sem,Tryz.f32,d]
theorem itoa_ne (n : Nat) : Lib.itoa (n : Int) ≠ [] := by
 by_cases h : n < 10
 · rw [dig_lt n h]; simp
 · rw [dig_ge n (by omega)]; simp
theorem dig_inj {a b : Nat} (ha : a < 10) (hb : b < 10) (h : UInt8.ofNat (48 + a) = UInt8.ofNat (48 + b)) : a = b := by
 have := congrArg UInt8.toNat h
 simp only [UInt8.toNat_ofNat'] at this
 omega
theorem itoa_inj : ∀ (i j : Nat),Lib.itoa (i : Int) = Lib.itoa (j : Int) → i = j
 | i,j,h => by
  by_cases hi : i < 10
  · rw [dig_lt i hi] at h
    by_cases hj : j < 10
    · rw [dig_lt j hj] at h
      injection h with h _
      exact dig_inj hi hj h
    · rw [dig_ge j (by omega)] at h
      have h2 := congrArg List.length h
      have h3 : 0 < (Lib.itoa ((j / 10 : Nat) : Int)).length := List.length_pos_iff.2 (itoa_ne _)
      simp only [List.length_append,List.length_singleton] at h2
      omega
  · rw [dig_ge i (by omega)] at h
    by_cases hj : j < 10
    · rw [dig_lt j hj] at h
      have h2 := congrArg List.length h
      have h3 : 0 < (Lib.itoa ((i / 10 : Nat) : Int)).length := List.length_pos_iff.2 (itoa_ne _)
      simp only [List.length_append,List.length_singleton] at h2
      omega
    · rw [dig_ge j (by omega)] at h
      obtain ⟨h1,h2⟩ := List.append_inj' h rfl
      have := itoa_inj (i / 10) (j / 10) h1
      injection h2 with h2 _
      have := dig_inj (Nat.mod_lt _ (by omega)) (Nat.mod_lt _ (by omega)) h2
      omega
theorem pig {f : Nat → List UInt8} : ∀ (n : Nat) (l : List (List UInt8)),(∀ i j,i < n → j < n → f i = f j → i = j) → (∀ i,i < n → f i ∈ l) → n ≤ l.length
 | 0,l,_,_ => Nat.zero_le _
 | n + 1,l,hinj,hm => by
  have h1 := hm n (by omega)
  have h2 := pig n (l.erase (f n)) (fun i j hi hj => hinj i j (by omega) (by omega)) (fun i hi => (List.mem_erase_of_ne (fun e => by have := hinj i n (by omega) (by omega) e; omega)).2 (hm i (by omega)))
  rw [List.length_erase_of_mem h1] at h2
  have : 0 < l.length := List.length_pos_of_mem h1
  omega
theorem first_free (f : Nat → List UInt8) (hinj : ∀ i j,f i = f j → i = j) (l : List (List UInt8)) : ∃ i,i ≤ l.length ∧ l.contains (f i) = false ∧ ∀ j,j < i → l.contains (f j) = true := by
 have ex : ∃ i,i ≤ l.length ∧ l.contains (f i) = false := by
  refine Classical.byContradiction fun hc => ?_
  have := pig (f := f) (l.length + 1) l (fun i j _ _ => hinj i j) (fun i hi => by
   have : ¬ l.contains (f i) = false := fun h => hc ⟨i,by omega,h⟩
   simpa using this)
  omega
 have key : ∀ n i,i ≤ n → i ≤ l.length → l.contains (f i) = false → ∃ i,i ≤ l.length ∧ l.contains (f i) = false ∧ ∀ j,j < i → l.contains (f j) = true := by
  intro n
  induction n with
  | zero => intro i h1 h2 h3; exact ⟨i,h2,h3,fun j hj => by omega⟩
  | succ n ih =>
   intro i h1 h2 h3
   by_cases hs : ∃ j,j < i ∧ l.contains (f j) = false
   · obtain ⟨j,h4,h5⟩ := hs
     exact ih j (by omega) (by omega) h5
   · refine ⟨i,h2,h3,fun j hj => ?_⟩
     cases hq : l.contains (f j)
     · exact absurd ⟨j,hj,hq⟩ hs
     · rfl
 obtain ⟨i,h1,h2⟩ := ex
 exact key i i (Nat.le_refl _) h1 h2
def candF (s : List UInt8) (i : Nat) : List UInt8 := s.take 1 ++ [95] ++ Lib.itoa (i : Int)
theorem cand_inj (s : List UInt8) (i j : Nat) (h : candF s i = candF s j) : i = j := by
 unfold candF at h
 exact itoa_inj i j (List.append_cancel_left h)
theorem fitoa_den (n : Nat) (h : n < 1000000000) : den E 120 [.int .i64 n] [] = some (.str (Lib.itoa n),[]) := by
 rw [den_prim prim_120]
 unfold itoaP
 simp only
 rw [if_pos (by omega)]
def tyC (t : Ty) : List AVal := [.int .i64 t.kind,.str t.name,.int .i64 t.n,.slice (tysV t.args)]
theorem tyC_len (t : Ty) : (tyC t).length = 4 := rfl
def zC : List AVal := [.int .i64 0,.str [],.int .i64 0,.own 25 0 []]
def cellsA (ys : List Ty) (n i : Nat) : List AVal := (ys.take i).flatMap tyC ++ repA (n - i) zC
theorem repA_map (f : AVal → AVal) (z : List AVal) : ∀ n,(repA n z).map f = repA n (z.map f)
 | 0 => rfl
 | n + 1 => by rw [repA,List.map_append,repA_map f z n]; rfl
theorem tyC_flat_len : ∀ l : List Ty,(l.flatMap tyC).length = l.length * 4
 | [] => rfl
 | t :: l => by rw [List.flatMap_cons,List.length_append,tyC_flat_len l,tyC_len,List.length_cons]; omega
theorem cellsA_len {ys : List Ty} {n i : Nat} (h : ys.length = n) (hi : i ≤ n) : (cellsA ys n i).length = n * 4 := by
 unfold cellsA
 rw [List.length_append,tyC_flat_len,repA_len,List.length_take]
 have : zC.length = 4 := rfl
 rw [this]; omega
theorem tyC_head (t : Ty) : (tyC t).map stampH = tyC t := rfl
theorem flat_head : ∀ l : List Ty,(l.flatMap tyC).map stampH = l.flatMap tyC
 | [] => rfl
 | t :: l => by rw [List.flatMap_cons,List.map_append,tyC_head,flat_head l]
theorem cellsA_head (ys : List Ty) (n i : Nat) : (cellsA ys n i).map stampH = cellsA ys n i := by
 unfold cellsA
 rw [List.map_append,flat_head,repA_map]; rfl
theorem cellsA_new (ys : List Ty) (n m : Nat) : ((repA n zC).map (stamp1 m)).map stampH = cellsA ys n 0 := by
 rw [repA_map,repA_map]; rfl
theorem flat_names : ∀ l : List Ty,(l.flatMap tyC).flatMap names1 = []
 | [] => rfl
 | t :: l => by rw [List.flatMap_cons,List.flatMap_append,flat_names l]; rfl
theorem repA_names : ∀ n,(repA n zC).flatMap names1 = []
 | 0 => rfl
 | n + 1 => by rw [repA,List.flatMap_append,repA_names n]; rfl
theorem cellsA_names (ys : List Ty) (n i : Nat) : (cellsA ys n i).flatMap names1 = [] := by
 unfold cellsA
 rw [List.flatMap_append,flat_names,repA_names]; rfl
theorem cellsA_put {ys : List Ty} {n i : Nat} (hl : ys.length = n) {y : Ty} (hy : ys[i]? = some y) :
 (cellsA ys n i).take (i * 4) ++ (.int .i64 y.kind :: .str y.name :: .int .i64 y.n :: .slice (tysV y.args) :: (cellsA ys n i).drop (i * 4 + 4)) = cellsA ys n (i + 1) := by
 have hi : i < n := by have := (List.getElem?_eq_some_iff.1 hy).1; omega
 unfold cellsA
 have h1 : ((ys.take i).flatMap tyC).length = i * 4 := by rw [tyC_flat_len,List.length_take]; omega
 have h2 : n - i = (n - (i + 1)) + 1 := by omega
 have h3 : zC.length = 4 := rfl
 rw [List.take_left' h1,take_snoc hy,List.flatMap_append,h2,repA,← h1,List.drop_length_add_append,← h3,List.drop_left]
 simp only [List.flatMap_cons,List.flatMap_nil,List.append_nil,tyC,List.append_assoc,List.cons_append,List.nil_append]
theorem cellsA_end {ys : List Ty} {n : Nat} (hl : ys.length = n) : cellsA ys n n = ys.flatMap tyC := by
 unfold cellsA
 rw [List.take_of_length_le (by omega),Nat.sub_self]; simp [repA]
theorem flat_strip : ∀ l : List Ty,(l.flatMap tyC).map strip1 = l.flatMap tyC
 | [] => rfl
 | t :: l => by rw [List.flatMap_cons,List.map_append,flat_strip l]; rfl
theorem flat_pure : ∀ l : List Ty,(l.flatMap tyC).all pure1 = true
 | [] => rfl
 | t :: l => by rw [List.flatMap_cons,List.all_append,flat_pure l]; rfl
theorem flat_chunks : ∀ (l : List Ty),chunks true 4 l.length (l.flatMap tyC) = tysV l
 | [] => by rw [tysV_nil]; rfl
 | t :: l => by
  rw [List.length_cons,chunks,List.flatMap_cons,tysV_cons,tyV_eq]
  have h4 : (tyC t).length = 4 := rfl
  rw [List.take_left' h4,← h4,List.drop_left,h4,flat_chunks l]; rfl
theorem withA_den (t : Ty) (ys : List Ty) (a b : List UInt8) (hl : ys.length = t.args.length) (hb : t.sz < 1000000)
 (hc : ∀ (i : Nat) (x y : Ty),t.args[i]? = some x → ys[i]? = some y → den E 159 [tyV x,.ptr (.par 0) 0,.ptr (.par 1) 0] [[.str a],[.str b]] = some (tyV y,[[.str a],[.str b]])) :
 den E 101 [tyV t,.func 159 [] [.ptr (.par 0) 0,.ptr (.par 1) 0]] [[.str a],[.str b]] = some (tyV (.mk t.kind t.name t.n ys),[[.str a],[.str b]]) := by
 rw [den_eq prim_101,body_101]
 have hal := args_len t
 have rl := tysV_len t.args
 have n0 := nat_eq0 t.args.length
 by_cases h0 : t.args = []
 · have hy : ys = [] := List.eq_nil_of_length_eq_zero (by rw [hl,h0]; rfl)
   subst hy
   rw [tyV_mk,tyV_eq]
   rw [h0] at n0
   simp only [go_sem,Tryz.f101,h0,tysV_nil]
 · have h0' : ¬ t.args.length = 0 := fun e => h0 (List.eq_nil_of_length_eq_zero e)
   rw [decide_eq_false h0'] at n0
   rw [tyV_mk,tyV_eq]
   obtain ⟨n,hn⟩ : ∃ n,n = t.args.length := ⟨_,rfl⟩
   rw [← hn] at hl n0 rl
   have l1 : ((n : Int) ≤ 1073741824) = True := by simp; omega
   have hz : ∀ m,List.map stampH (List.map (stamp1 m) (repA n [.int .i64 0,.str [],.int .i64 0,.own 25 0 []])) = cellsA ys n 0 := fun m => cellsA_new ys n m
   obtain ⟨fin,hfin⟩ : ∃ fin,fin = (some (.agg [.int .i64 t.kind,.str t.name,.int .i64 t.n,.slice (tysV ys)],[[.str a],[.str b]]) : Option (AVal × Heap)) := ⟨_,rfl⟩
   try rw [← hn] at hfin
   try rw [← hn]
   rw [← hfin]
   simp only [go_sem,Tryz.f101,rl,n0,natge0,tonat,l1]
   refine run_for (fun i => ⟨[(1,.func 159 [] [.ptr (.par 0) 0,.ptr (.par 1) 0]),(2,.ptr (.loc 2) 0),(4,.ptr (.loc 4) 0),(5,.ptr (.loc 16) (bsBase + n)),(18,.slice (tysV t.args)),(19,.int .i64 n),(20,.int .i64 i)],[[.str a],[.str b]],[(2,tyC t),(4,zC),(16,cellsA ys n i)],1⟩) n ?_ ?_ ?_
   · simp only [go_sem,hz,cellsA_names,tyC,zC]
   · intro i hi h
     have hia : i < t.args.length := by omega
     have hiy : i < ys.length := by omega
     obtain ⟨x,hx⟩ := getS hia
     obtain ⟨y,hy⟩ := getS hiy
     have d := hc i x y hx hy
     have hxs := szs_mem (List.mem_of_getElem? hx)
     have hsz := sz_eq t
     have w1 : IntKind.i64.wrap ((i : Int) + 1) = ((i + 1 : Nat) : Int) := wrapN (i + 1) (by omega)
     have i1 : ((i : Int) < (n : Int)) = True := by simp; omega
     have i2 : (i * 4 < bsBase) = True := by rw [bsBase_eq]; simp; omega
     have cl : (cellsA ys n i).length = n * 4 := cellsA_len hl (by omega)
     have i3 : (i * 4 + 4 ≤ n * 4) = True := by simp; omega
     have hput := cellsA_put hl hy
     rw [tyV_eq,tyV_eq] at d
     simp only [go_sem,natge0,tonat,tysGet,hx,tyV_eq,tyC,zC,d,i1,i2,cl,i3]
     refine h _ ?_
     simp only [go_sem,w1,hput,cellsA_head,cellsA_names,tyC,zC]
   · have cl : (cellsA ys n n).length = n * 4 := cellsA_len hl (Nat.le_refl _)
     have ce := cellsA_end hl
     have ch := flat_chunks ys
     rw [hl] at ch
     rw [ce] at cl
     simp only [go_sem,natlt,Nat.lt_irrefl,true_or,tyC,zC,ce,cl,flat_strip,flat_pure,ch,hfin]
theorem withB_den (t : Ty) (ys : List Ty) (fr : List AVal) (ns : Nat → Int) (hl : ys.length = t.args.length) (hb : t.sz < 1000000)
 (hc : ∀ (i : Nat) (x y : Ty),t.args[i]? = some x → ys[i]? = some y → den E 214 [tyV x,.ptr (.par 0) 0,.ptr (.par 1) 0] [[.slice fr],[.int .i64 (ns i)]] = some (tyV y,[[.slice fr],[.int .i64 (ns (i + 1))]])) :
 den E 101 [tyV t,.func 214 [] [.ptr (.par 0) 0,.ptr (.par 1) 0]] [[.slice fr],[.int .i64 (ns 0)]] = some (tyV (.mk t.kind t.name t.n ys),[[.slice fr],[.int .i64 (ns t.args.length)]]) := by
 rw [den_eq prim_101,body_101]
 have hal := args_len t
 have rl := tysV_len t.args
 have n0 := nat_eq0 t.args.length
 by_cases h0 : t.args = []
 · have hy : ys = [] := List.eq_nil_of_length_eq_zero (by rw [hl,h0]; rfl)
   subst hy
   rw [tyV_mk,tyV_eq]
   rw [h0] at n0
   simp only [go_sem,Tryz.f101,h0,tysV_nil]
 · have h0' : ¬ t.args.length = 0 := fun e => h0 (List.eq_nil_of_length_eq_zero e)
   rw [decide_eq_false h0'] at n0
   rw [tyV_mk,tyV_eq]
   obtain ⟨n,hn⟩ : ∃ n,n = t.args.length := ⟨_,rfl⟩
   rw [← hn] at hl n0 rl
   have l1 : ((n : Int) ≤ 1073741824) = True := by simp; omega
   have hz : ∀ m,List.map stampH (List.map (stamp1 m) (repA n [.int .i64 0,.str [],.int .i64 0,.own 25 0 []])) = cellsA ys n 0 := fun m => cellsA_new ys n m
   obtain ⟨fin,hfin⟩ : ∃ fin,fin = (some (.agg [.int .i64 t.kind,.str t.name,.int .i64 t.n,.slice (tysV ys)],[[.slice fr],[.int .i64 (ns t.args.length)]]) : Option (AVal × Heap)) := ⟨_,rfl⟩
   try rw [← hn] at hfin
   try rw [← hn]
   rw [← hfin]
   simp only [go_sem,Tryz.f101,rl,n0,natge0,tonat,l1]
   refine run_for (fun i => ⟨[(1,.func 214 [] [.ptr (.par 0) 0,.ptr (.par 1) 0]),(2,.ptr (.loc 2) 0),(4,.ptr (.loc 4) 0),(5,.ptr (.loc 16) (bsBase + n)),(18,.slice (tysV t.args)),(19,.int .i64 n),(20,.int .i64 i)],[[.slice fr],[.int .i64 (ns i)]],[(2,tyC t),(4,zC),(16,cellsA ys n i)],1⟩) n ?_ ?_ ?_
   · simp only [go_sem,hz,cellsA_names,tyC,zC]
   · intro i hi h
     have hia : i < t.args.length := by omega
     have hiy : i < ys.length := by omega
     obtain ⟨x,hx⟩ := getS hia
     obtain ⟨y,hy⟩ := getS hiy
     have d := hc i x y hx hy
     have hxs := szs_mem (List.mem_of_getElem? hx)
     have hsz := sz_eq t
     have w1 : IntKind.i64.wrap ((i : Int) + 1) = ((i + 1 : Nat) : Int) := wrapN (i + 1) (by omega)
     have i1 : ((i : Int) < (n : Int)) = True := by simp; omega
     have i2 : (i * 4 < bsBase) = True := by rw [bsBase_eq]; simp; omega
     have cl : (cellsA ys n i).length = n * 4 := cellsA_len hl (by omega)
     have i3 : (i * 4 + 4 ≤ n * 4) = True := by simp; omega
     have hput := cellsA_put hl hy
     rw [tyV_eq,tyV_eq] at d
     simp only [go_sem,natge0,tonat,tysGet,hx,tyV_eq,tyC,zC,d,i1,i2,cl,i3]
     refine h _ ?_
     simp only [go_sem,w1,hput,cellsA_head,cellsA_names,tyC,zC]
   · have cl : (cellsA ys n n).length = n * 4 := cellsA_len hl (Nat.le_refl _)
     have ce := cellsA_end hl
     have ch := flat_chunks ys
     rw [hl] at ch
     rw [ce] at cl
     simp only [go_sem,natlt,Nat.lt_irrefl,true_or,tyC,zC,ce,cl,flat_strip,flat_pure,ch,hfin]
theorem ren1_den {x y : Ty} {a b : List UInt8} (h : den E 100 [tyV x,.str a,.str b] [] = some (tyV y,[])) :
 den E 159 [tyV x,.ptr (.par 0) 0,.ptr (.par 1) 0] [[.str a],[.str b]] = some (tyV y,[[.str a],[.str b]]) := by
 rw [den_eq prim_159,body_159]
 rw [tyV_eq,tyV_eq] at h ⊢
 simp only [go_sem,Tryz.f159,h]
theorem renT_plain (t : Ty) (ys : List Ty) (a b : List UInt8) (hl : ys.length = t.args.length) (hb : t.sz < 1000000)
 (hc : ∀ (i : Nat) (x y : Ty),t.args[i]? = some x → ys[i]? = some y → den E 100 [tyV x,.str a,.str b] [] = some (tyV y,[]))
 (h1 : (t.kind == 1 && t.name == a) = false) (h2 : (t.kind == 5 && t.name == a) = false) (h3 : (t.kind == 5 && t.name == b) = false) :
 den E 100 [tyV t,.str a,.str b] [] = some (tyV (.mk t.kind t.name t.n ys),[]) := by
 have d := withA_den t ys a b hl hb fun i x y hx hy => ren1_den (hc i x y hx hy)
 rw [den_eq prim_100,body_100]
 rw [tyV_mk,tyV_eq] at d ⊢
 cases k1 : t.kind == 1 <;> cases k5 : t.kind == 5 <;> cases na : t.name == a <;> cases nb : t.name == b <;> simp only [k1,k5,na,nb,Bool.and_true,Bool.and_false,Bool.true_eq_false] at h1 h2 h3 <;>
 simp only [go_sem,Tryz.f100,k1,k5,na,nb,d]
theorem ren_var (t : Ty) (a b : List UInt8) (h1 : (t.kind == 1) = true) (h2 : (t.name == a) = true) : den E 100 [tyV t,.str a,.str b] [] = some (tyV (.mk t.kind b t.n t.args),[]) := by
 rw [den_eq prim_100,body_100,tyV_mk,tyV_eq]
 simp only [go_sem,Tryz.f100,h1,h2]
theorem ren_hide (t : Ty) (a b : List UInt8) (h0 : (t.kind == 1) = false) (h1 : (t.kind == 5) = true) (h2 : (t.name == a) = true) : den E 100 [tyV t,.str a,.str b] [] = some (tyV t,[]) := by
 rw [den_eq prim_100,body_100,tyV_eq]
 simp only [go_sem,Tryz.f100,h0,h1,h2]
theorem ren_fresh (t x x' y : Ty) (a b c : List UInt8) (hx : t.args = [x]) (h0 : (t.kind == 1) = false) (h1 : (t.kind == 5) = true) (h2 : (t.name == a) = false) (h3 : (t.name == b) = true) (hb : t.sz < 300000) (hs : x'.sz = x.sz)
 (hd : den E 98 [.str b,.slice ((freeT x [] [] ++ [a,b]).map .str)] [] = some (.str c,[])) (r1 : den E 100 [tyV x,.str b,.str c] [] = some (tyV x',[])) (r2 : den E 100 [tyV x',.str a,.str b] [] = some (tyV y,[])) :
 den E 100 [tyV t,.str a,.str b] [] = some (tyV (.mk 5 c 0 [y]),[]) := by
 have hsz := sz_eq t
 rw [hx,szs_one] at hsz
 have d := withA_den (.mk 5 c 0 [x']) [y] a b rfl (by rw [sz_mk,szs_one]; omega) fun i u v hu hv => ren1_den (by
  cases i with
  | zero => simp [Ty.args] at hu hv; subst hu hv; exact r2
  | succ i => simp [Ty.args] at hu)
 have df := tfree_den x (by omega)
 have hle := freeT_le _ x (Nat.le_refl _) [] []
 have a1 : (freeT x [] []).length + 2 ≤ appMax := by unfold appMax; simp at hle; omega
 rw [den_eq prim_100,body_100]
 simp only [tyV_mk,tysV_cons,tysV_nil,Ty.kind,Ty.name,Ty.n] at d
 simp only [List.map_append,List.map_cons,List.map_nil] at hd
 rw [tyV_mk,tysV_cons,tysV_nil]
 rw [tyV_eq] at r1 r2 d df ⊢
 rw [tyV_eq y] at r2 d ⊢
 rw [tyV_eq x'] at r1
 rw [hx,tysV_cons,tysV_nil,tyV_eq]
 simp only [go_sem,Tryz.f100,h0,h1,h2,h3,Int.le_refl,Int.toNat_zero,df,a1,List.length_map,hd,r1,d]
theorem cand_len (b : List UInt8) (i : Nat) (h : i < 1000000) : candF b i ≠ [] ∧ (candF b i).length ≤ 16 := by
 have := itoa_len 5 i (by
  have e : (10 : Nat) ^ (5 + 1) = 1000000 := by decide
  omega)
 unfold candF
 refine ⟨by simp,?_⟩
 rw [List.length_append,List.length_append,List.length_take,List.length_singleton]; omega
theorem szs_eq : ∀ {l m : List Ty},m.length = l.length → (∀ (i : Nat) (x y : Ty),l[i]? = some x → m[i]? = some y → y.sz = x.sz) → Ty.szs m = Ty.szs l
 | [],[],_,_ => rfl
 | a :: l,b :: m,h,hs => by
  rw [szs_cons,szs_cons,hs 0 a b rfl rfl,szs_eq (by simpa using h) fun i x y hx hy => hs (i + 1) x y (by simpa using hx) (by simpa using hy)]
 | [],b :: m,h,_ => by simp at h
 | a :: l,[],h,_ => by simp at h
theorem mem_get {α : Type} {l : List α} {y : α} (h : y ∈ l) : ∃ i : Nat,l[i]? = some y := List.mem_iff_getElem?.1 h
def candX (i : Nat) : List UInt8 := 120 :: Lib.itoa (i : Int)
theorem candX_inj (i j : Nat) (h : candX i = candX j) : i = j := itoa_inj i j (by unfold candX at h; injection h)
theorem candX_len (i : Nat) (h : i < 1000000000) : (candX i).length ≤ 16 ∧ candX i ≠ [] ∧ 1 + (Lib.itoa (i : Int)).length ≤ strMax := by
 have := itoa_len 8 i (by
  have e : (10 : Nat) ^ (8 + 1) = 1000000000 := by decide
  omega)
 unfold candX strMax
 exact ⟨by simp; omega,by simp,by omega⟩
theorem num1_den {x y : Ty} {fr : List AVal} {k k' : Nat} (h : den E 151 [tyV x,.slice fr,.int .i64 k] [] = some (.tup [tyV y,.int .i64 k'],[])) :
 den E 214 [tyV x,.ptr (.par 0) 0,.ptr (.par 1) 0] [[.slice fr],[.int .i64 k]] = some (tyV y,[[.slice fr],[.int .i64 k']]) := by
 rw [den_eq prim_214,body_214]
 rw [tyV_eq,tyV_eq] at h ⊢
 simp only [go_sem,Tryz.f214,h]
theorem num_plain (t : Ty) (ys : List Ty) (fr : List AVal) (ks : List Nat) (hl : ys.length = t.args.length) (hb : t.sz < 1000000) (hk : (t.kind == 5) = false)
 (hc : ∀ (i : Nat) (x y : Ty),t.args[i]? = some x → ys[i]? = some y → den E 151 [tyV x,.slice fr,.int .i64 (ks.getD i 0 : Nat)] [] = some (.tup [tyV y,.int .i64 (ks.getD (i + 1) 0 : Nat)],[])) :
 den E 151 [tyV t,.slice fr,.int .i64 (ks.getD 0 0 : Nat)] [] = some (.tup [tyV (.mk t.kind t.name t.n ys),.int .i64 (ks.getD t.args.length 0 : Nat)],[]) := by
 have d := withB_den t ys fr (fun i => ((ks.getD i 0 : Nat) : Int)) hl hb fun i x y hx hy => num1_den (hc i x y hx hy)
 try simp only at d
 generalize ks.getD t.args.length 0 = k' at d ⊢
 generalize ks.getD 0 0 = k0 at d ⊢
 rw [den_eq prim_151,body_151]
 rw [tyV_mk,tyV_eq] at d ⊢
 simp only [go_sem,Tryz.f151,hk,d]
theorem num_all (t x x' y : Ty) (fr : List (List UInt8)) (k m k' : Nat) (hx : t.args = [x]) (hk : (t.kind == 5) = true) (hf : fr.length < 1000000) (hkm : k ≤ m) (hm : m < 999999999)
 (h2 : fr.contains (candX m) = false) (h3 : ∀ j,k ≤ j → j < m → fr.contains (candX j) = true) (hs : x'.sz < 300000)
 (r1 : den E 100 [tyV x,.str t.name,.str (candX m)] [] = some (tyV x',[])) (r2 : den E 151 [tyV x',.slice (fr.map .str),.int .i64 ((m + 1 : Nat) : Int)] [] = some (.tup [tyV y,.int .i64 k'],[])) :
 den E 151 [tyV t,.slice (fr.map .str),.int .i64 k] [] = some (.tup [tyV (.mk 5 (candX m) 0 [y]),.int .i64 k'],[]) := by
 have d := withB_den (.mk 5 (candX m) 0 [x']) [y] (fr.map .str) (fun j => if j = 0 then ((m + 1 : Nat) : Int) else (k' : Int)) rfl (by rw [sz_mk,szs_one]; omega) fun j u v hu hv => by
  cases j with
  | zero => simp [Ty.args] at hu hv; subst hu hv; exact num1_den r2
  | succ j => simp [Ty.args] at hu
 have e1 : (Ty.mk 5 (candX m) 0 [x']).args.length = 1 := rfl
 rw [e1] at d
 simp only [if_true,Nat.one_ne_zero,if_false] at d
 simp only [tyV_mk,tysV_cons,tysV_nil,Ty.kind,Ty.name,Ty.n] at d
 rw [den_eq prim_151,body_151]
 have d0 := fitoa_den k (by omega)
 have m0 := (candX_len k (by omega)).2.2
 rw [tyV_mk,tysV_cons,tysV_nil]
 rw [tyV_eq] at r1 d ⊢
 rw [tyV_eq y] at d ⊢
 rw [tyV_eq x'] at r1
 rw [hx,tysV_cons,tysV_nil,tyV_eq]
 obtain ⟨fin,hfin⟩ : ∃ fin,fin = (some (.tup [.agg [.int .i64 5,.str (candX m),.int .i64 0,.slice [.agg [.int .i64 y.kind,.str y.name,.int .i64 y.n,.slice (tysV y.args)]]],.int .i64 k'],[]) : Option (AVal × Heap)) := ⟨_,rfl⟩
 rw [← hfin]
 simp only [go_sem,Tryz.f151,hk,d0,m0]
 refine run_ind (fun j : Nat => k ≤ j ∧ j ≤ m) (fun j => ⟨[(3,.ptr (.loc 3) 0),(4,.ptr (.loc 4) 0),(5,.ptr (.loc 5) 0),(6,.ptr (.loc 6) 0),(8,.str (candX j))],[],
  [(3,[.int .i64 t.kind,.str t.name,.int .i64 t.n,.slice [.agg [.int .i64 x.kind,.str x.name,.int .i64 x.n,.slice (tysV x.args)]]]),(4,[.slice (fr.map .str)]),(5,[.int .i64 (j : Int)]),(6,[.int .i64 0,.str [],.int .i64 0,.own 25 0 []])],1⟩)
  (fun _ => fin) (fun j => m - j) k ⟨Nat.le_refl _,hkm⟩ ?_ ?_
 · simp only [go_sem,candX]
 · intro j hj h
   obtain ⟨q,w1,hq⟩ : ∃ q : Nat,IntKind.i64.wrap ((j : Int) + 1) = (q : Int) ∧ q = j + 1 := ⟨j + 1,wrapN (j + 1) (by omega),rfl⟩
   have dc := contains_den fr (candX j) hf
   by_cases hlt : j < m
   · rw [h3 j hj.1 hlt] at dc
     have d1 := fitoa_den q (by omega)
     have m1 := (candX_len q (by omega)).2.2
     simp only [go_sem,dc,w1,d1,m1]
     refine h q _ ⟨by omega,by omega⟩ (by omega) ?_
     simp only [go_sem,candX]
   · have hje : j = m := by omega
     subst hje
     rw [h2] at dc
     rw [← hq] at d
     simp only [go_sem,dc,w1,Int.le_refl,Int.toNat_zero,r1,d,hfin]
def outR (o : List (List UInt8)) : List (List UInt8) → Nat → Int
 | [],_ => -1
 | x :: r,i => if !o.contains x then (i : Int) else outR o r (i + 1)
def outS (l o : List (List UInt8)) : List UInt8 × Bool := match l.find? fun n => !o.contains n with
 | none => ([],false)
 | some n => (n,true)
theorem outR_spec (o : List (List UInt8)) : ∀ (l : List (List UInt8)) (i : Nat),(outR o l i = -1 ∧ l.find? (fun n => !o.contains n) = none) ∨ ∃ k n,outR o l i = ((i + k : Nat) : Int) ∧ l[k]? = some n ∧ l.find? (fun n => !o.contains n) = some n
 | [],i => .inl ⟨rfl,rfl⟩
 | x :: r,i => by
  unfold outR
  rw [List.find?_cons]
  cases h : o.contains x
  · exact .inr ⟨0,x,by simp,rfl,by simp⟩
  · simp only [Bool.not_true,Bool.false_eq_true,if_false]
    rcases outR_spec o r (i + 1) with ⟨h1,h2⟩ | ⟨k,n,h1,h2,h3⟩
    · exact .inl ⟨h1,h2⟩
    · exact .inr ⟨k + 1,n,by rw [h1]; congr 1; omega,by simpa using h2,h3⟩
theorem outfn_den (o : List (List UInt8)) (n : List UInt8) (ho : o.length < 1000000) : den E 205 [.str n,.ptr (.par 0) 0] [[.slice (o.map .str)]] = some (.bool (!o.contains n),[[.slice (o.map .str)]]) := by
 rw [den_eq prim_205,body_205]
 have h1 := contains_den o n ho
 simp only [go_sem,Tryz.f205,h1]
theorem ixfn_den (l o : List (List UInt8)) (hl : l.length < 1000000) (ho : o.length < 1000000) : den E 204 [.slice (l.map .str),.func 205 [] [.ptr (.par 0) 0]] [[.slice (o.map .str)]] = some (.int .i64 (outR o l 0),[[.slice (o.map .str)]]) := by
 rw [den_eq prim_204,body_204]
 simp only [go_sem,Tryz.f204,List.length_map]
 refine run_ind (fun i : Nat => i ≤ l.length) (fun i => ⟨[(0,.slice (l.map .str)),(1,.func 205 [] [.ptr (.par 0) 0]),(7,.int .i64 l.length),(8,.int .i64 i)],[[.slice (o.map .str)]],[],1⟩) (fun i => some (.int .i64 (outR o (l.drop i) i),[[.slice (o.map .str)]])) (fun i => l.length - i) 0 (Nat.zero_le _) ?_ ?_
 · simp only [go_sem]
 · intro i hi h
   by_cases hlt : i < l.length
   · obtain ⟨x,hx⟩ := getS hlt
     rw [dropGet hx]
     have w1 : IntKind.i64.wrap ((i : Int) + 1) = ((i + 1 : Nat) : Int) := wrapN (i + 1) (by omega)
     have d := outfn_den o x ho
     cases hq : o.contains x
     · simp only [go_sem,natlt,decide_eq_true hlt,natge0,tonat,strsGet,hx,hq,d,outR]
     · simp only [go_sem,natlt,decide_eq_true hlt,natge0,tonat,strsGet,hx,hq,d,outR]
       refine h (i + 1) _ (by omega) (by omega) ?_
       simp only [go_sem,w1]
   · have hie : i = l.length := by omega
     subst hie
     rw [List.drop_length]
     simp only [go_sem,natlt,Nat.lt_irrefl,outR]
theorem outside_den (l o : List (List UInt8)) (hl : l.length < 1000000) (ho : o.length < 1000000) : den E 141 [.slice (l.map .str),.slice (o.map .str)] [] = some (twV (outS l o),[]) := by
 rw [den_eq prim_141,body_141]
 have h1 := ixfn_den l o hl ho
 rcases outR_spec o l 0 with ⟨h2,h3⟩ | ⟨k,n,h2,h3,h4⟩
 · rw [h2] at h1
   have e : outS l o = ([],false) := by unfold outS; rw [h3]
   rw [e]
   simp only [go_sem,Tryz.f141,h1,twV]
 · rw [h2] at h1
   have e : outS l o = (n,true) := by unfold outS; rw [h4]
   rw [e]
   have h5 : decide (((0 + k : Nat) : Int) < 0) = false := by simp
   simp only [Nat.zero_add] at h1 h5
   simp only [go_sem,Tryz.f141,h1,h5,natge0,tonat,strsGet,h3,twV]
end Go.Proofs
namespace Go.Proofs
open Go.Av
set_option maxHeartbeats 16000000
set_option maxRecDepth 100000
section
variable {α : Type} (ext : List (List UInt8) → List (List UInt8) → List (List UInt8)) (fa : Ex → List (List UInt8) → α → α) (fb : Al → α → α)
mutual
def walkE : Ex → List (List UInt8) → α → α
 | .mk k s tl t ks al,b,acc =>
  if k == 3 then walkKs ks (ext b [s]) (fa (.mk k s tl t ks al) b acc)
  else if k == 5 then walkLet ks b s (fa (.mk k s tl t ks al) b acc)
  else walkAs al b (walkKs ks b (fa (.mk k s tl t ks al) b acc))
def walkKs : List Ex → List (List UInt8) → α → α
 | [],_,acc => acc
 | e :: r,b,acc => walkKs r b (walkE e b acc)
def walkLet : List Ex → List (List UInt8) → List UInt8 → α → α
 | [],_,_,acc => acc
 | e :: r,b,s,acc => walkKs r (ext b [s]) (walkE e b acc)
def walkA : Al → List (List UInt8) → α → α
 | .mk c vs e,b,acc => walkE e (ext b vs) (fb (.mk c vs e) acc)
def walkAs : List Al → List (List UInt8) → α → α
 | [],_,acc => acc
 | a :: r,b,acc => walkAs r b (walkA a b acc)
end
end
section
variable {α : Type} {ext : List (List UInt8) → List (List UInt8) → List (List UInt8)} {fa : Ex → List (List UInt8) → α → α} {fb : Al → α → α}
theorem walkE_eq (e : Ex) (b : List (List UInt8)) (acc : α) : walkE ext fa fb e b acc = if e.kind == 3 then walkKs ext fa fb e.kids (ext b [e.name]) (fa e b acc)
 else if e.kind == 5 then walkLet ext fa fb e.kids b e.name (fa e b acc)
 else walkAs ext fa fb e.alts b (walkKs ext fa fb e.kids b (fa e b acc)) := by
 cases e; simp only [walkE,Ex.kind,Ex.name,Ex.kids,Ex.alts]; rfl
theorem walkA_eq (a : Al) (b : List (List UInt8)) (acc : α) : walkA ext fa fb a b acc = walkE ext fa fb a.body (ext b a.vars) (fb a acc) := by
 cases a; simp only [walkA,Al.body,Al.vars]
theorem walkKs_nil (b : List (List UInt8)) (acc : α) : walkKs ext fa fb [] b acc = acc := by simp only [walkKs]
theorem walkKs_cons (e : Ex) (r : List Ex) (b : List (List UInt8)) (acc : α) : walkKs ext fa fb (e :: r) b acc = walkKs ext fa fb r b (walkE ext fa fb e b acc) := by simp only [walkKs]
theorem walkAs_nil (b : List (List UInt8)) (acc : α) : walkAs ext fa fb [] b acc = acc := by simp only [walkAs]
theorem walkAs_cons (e : Al) (r : List Al) (b : List (List UInt8)) (acc : α) : walkAs ext fa fb (e :: r) b acc = walkAs ext fa fb r b (walkA ext fa fb e b acc) := by simp only [walkAs]
theorem walkLet_cons (e : Ex) (r : List Ex) (b : List (List UInt8)) (s : List UInt8) (acc : α) : walkLet ext fa fb (e :: r) b s acc = walkKs ext fa fb r (ext b [s]) (walkE ext fa fb e b acc) := by simp only [walkLet]
theorem walkLet_nil (b : List (List UInt8)) (s : List UInt8) (acc : α) : walkLet ext fa fb [] b s acc = acc := by simp only [walkLet]
theorem walkKs_snoc (l : List Ex) (x : Ex) (b : List (List UInt8)) (acc : α) : walkKs ext fa fb (l ++ [x]) b acc = walkE ext fa fb x b (walkKs ext fa fb l b acc) := by
 induction l generalizing acc with
 | nil => rw [List.nil_append,walkKs_cons,walkKs_nil,walkKs_nil]
 | cons e r ih => rw [List.cons_append,walkKs_cons,walkKs_cons,ih]
theorem walkAs_snoc (l : List Al) (x : Al) (b : List (List UInt8)) (acc : α) : walkAs ext fa fb (l ++ [x]) b acc = walkA ext fa fb x b (walkAs ext fa fb l b acc) := by
 induction l generalizing acc with
 | nil => rw [List.nil_append,walkAs_cons,walkAs_nil,walkAs_nil]
 | cons e r ih => rw [List.cons_append,walkAs_cons,walkAs_cons,ih]
theorem tots_cons (e : Ex) (r : List Ex) : Ex.tots (e :: r) = e.tot + Ex.tots r := by simp [Ex.tots]
theorem altots_cons (a : Al) (r : List Al) : Al.tots (a :: r) = a.tot + Al.tots r := by simp [Al.tots]
theorem altot_eq (a : Al) : a.tot = a.body.tot + a.vars.length + 1 := by cases a; simp [Al.tot,Al.body,Al.vars]
theorem ty_pos (e : Ex) : 1 ≤ e.ty.sz := by rw [sz_eq]; omega
theorem walk_le (m : α → Nat) (h1 : ∀ e b acc,m (fa e b acc) ≤ m acc + 1) (h2 : ∀ a acc,m (fb a acc) ≤ m acc + a.vars.length + 1) : ∀ (n : Nat) (e : Ex),e.tot ≤ n → ∀ b acc,m (walkE ext fa fb e b acc) ≤ m acc + e.tot := by
 intro n
 induction n with
 | zero => intro e he; have := tot_eq e; have := ty_pos e; omega
 | succ n ih =>
  have hks : ∀ (l : List Ex) b acc,Ex.tots l ≤ n → m (walkKs ext fa fb l b acc) ≤ m acc + Ex.tots l := by
   intro l
   induction l with
   | nil => intro b acc _; rw [walkKs_nil]; omega
   | cons e r ihr =>
    intro b acc hl
    rw [tots_cons] at hl ⊢
    rw [walkKs_cons]
    have := ih e (by omega) b acc
    have := ihr b (walkE ext fa fb e b acc) (by omega)
    omega
  have hal : ∀ (l : List Al) b acc,Al.tots l ≤ n → m (walkAs ext fa fb l b acc) ≤ m acc + Al.tots l := by
   intro l
   induction l with
   | nil => intro b acc _; rw [walkAs_nil]; omega
   | cons e r ihr =>
    intro b acc hl
    rw [altots_cons,altot_eq] at hl ⊢
    rw [walkAs_cons,walkA_eq]
    have := h2 e acc
    have := ih e.body (by omega) (ext b e.vars) (fb e acc)
    have := ihr b (walkE ext fa fb e.body (ext b e.vars) (fb e acc)) (by omega)
    omega
  intro e he b acc
  have ht := tot_eq e
  have hp := ty_pos e
  have h0 := h1 e b acc
  rw [walkE_eq]
  split
  · have := hks e.kids (ext b [e.name]) (fa e b acc) (by omega)
    omega
  · split
    · cases hk : e.kids with
      | nil => rw [walkLet_nil]; omega
      | cons x r =>
       rw [hk,tots_cons] at ht
       rw [walkLet_cons]
       have := ih x (by omega) b (fa e b acc)
       have := hks r (ext b [e.name]) (walkE ext fa fb x b (fa e b acc)) (by omega)
       omega
    · have := hks e.kids b (fa e b acc) (by omega)
      have := hal e.alts b (walkKs ext fa fb e.kids b (fa e b acc)) (by omega)
      omega
end
inductive SX : Ex → Prop
 | mk (e : Ex) : (e.kind = 1 → e.kids = [] ∧ e.alts = []) → (e.kind = 3 → (∃ x,e.kids = [x]) ∧ e.alts = []) → (e.kind = 5 → (∃ x y,e.kids = [x,y]) ∧ e.alts = []) → (∀ x ∈ e.kids,SX x) → (∀ a ∈ e.alts,SX a.body) → SX e
theorem SX.nam {e : Ex} (h : SX e) (hk : (e.kind == 1) = true) : e.kids = [] ∧ e.alts = [] := by cases h with | mk _ h _ _ _ _ => exact h (by simpa using hk)
theorem SX.lam {e : Ex} (h : SX e) (hk : (e.kind == 3) = true) : ∃ x,e.kids = [x] := by cases h with | mk _ _ h _ _ _ => exact (h (by simpa using hk)).1
theorem SX.lett {e : Ex} (h : SX e) (hk : (e.kind == 5) = true) : ∃ x y,e.kids = [x,y] := by cases h with | mk _ _ _ h _ _ => exact (h (by simpa using hk)).1
theorem SX.kid {e x : Ex} (h : SX e) (hx : x ∈ e.kids) : SX x := by cases h with | mk _ _ _ _ h _ => exact h x hx
theorem SX.alt {e : Ex} {a : Al} (h : SX e) (hx : a ∈ e.alts) : SX a.body := by cases h with | mk _ _ _ _ _ h => exact h a hx
theorem tots_get {l : List Ex} {i : Nat} {x : Ex} (h : l[i]? = some x) : Ex.tots (l.take i) + x.tot ≤ Ex.tots l := by
 induction l generalizing i with
 | nil => simp at h
 | cons e r ih =>
  cases i with
  | zero => simp at h; subst h; simp [Ex.tots]
  | succ i =>
   rw [List.take_succ_cons,tots_cons,tots_cons]
   have := ih (i := i) (by simpa using h); omega
theorem altots_get {l : List Al} {i : Nat} {x : Al} (h : l[i]? = some x) : Al.tots (l.take i) + x.tot ≤ Al.tots l := by
 induction l generalizing i with
 | nil => simp at h
 | cons e r ih =>
  cases i with
  | zero => simp at h; subst h; simp [Al.tots]
  | succ i =>
   rw [List.take_succ_cons,altots_cons,altots_cons]
   have := ih (i := i) (by simpa using h); omega
theorem take_next {α : Type} {l : List α} {i : Nat} {x : α} (h : l[i]? = some x) : l.take (i + 1) = l.take i ++ [x] := by rw [List.take_add_one,h]; rfl
theorem walkKs_le {α : Type} {ext : List (List UInt8) → List (List UInt8) → List (List UInt8)} {fa : Ex → List (List UInt8) → α → α} {fb : Al → α → α} (m : α → Nat) (h1 : ∀ e b acc,m (fa e b acc) ≤ m acc + 1) (h2 : ∀ a acc,m (fb a acc) ≤ m acc + a.vars.length + 1) :
 ∀ (l : List Ex) b acc,m (walkKs ext fa fb l b acc) ≤ m acc + Ex.tots l := by
 intro l
 induction l with
 | nil => intro b acc; rw [walkKs_nil]; omega
 | cons e r ih =>
  intro b acc
  rw [walkKs_cons,tots_cons]
  have := walk_le (ext := ext) m h1 h2 _ e (Nat.le_refl _) b acc
  have := ih b (walkE ext fa fb e b acc)
  omega
theorem walkAs_le {α : Type} {ext : List (List UInt8) → List (List UInt8) → List (List UInt8)} {fa : Ex → List (List UInt8) → α → α} {fb : Al → α → α} (m : α → Nat) (h1 : ∀ e b acc,m (fa e b acc) ≤ m acc + 1) (h2 : ∀ a acc,m (fb a acc) ≤ m acc + a.vars.length + 1) :
 ∀ (l : List Al) b acc,m (walkAs ext fa fb l b acc) ≤ m acc + Al.tots l := by
 intro l
 induction l with
 | nil => intro b acc; rw [walkAs_nil]; omega
 | cons e r ih =>
  intro b acc
  rw [walkAs_cons,altots_cons,altot_eq,walkA_eq]
  have := h2 e acc
  have := walk_le (ext := ext) m h1 h2 _ e.body (Nat.le_refl _) (ext b e.vars) (fb e acc)
  have := ih b (walkE ext fa fb e.body (ext b e.vars) (fb e acc))
  omega
end Go.Proofs
namespace Go.Proofs
open Go.Av
set_option maxHeartbeats 16000000
set_option maxRecDepth 100000
theorem kids_len (e : Ex) : e.kids.length + 1 ≤ e.tot := by have := tots_len e.kids; have := tot_eq e; have := ty_pos e; omega
theorem add_le (l : List (List UInt8)) (n : List UInt8) : (addS l n).length ≤ l.length + 1 := by
 unfold addS; split
 · omega
 · simp
theorem adds_le : ∀ (ns l : List (List UInt8)),(ns.foldl addS l).length ≤ l.length + ns.length
 | [],l => by simp
 | n :: r,l => by
  rw [List.foldl_cons,List.length_cons]
  have := adds_le r (addS l n)
  have := add_le l n
  omega
def faF (e : Ex) (b acc : List (List UInt8)) : List (List UInt8) := if e.kind == 1 && !b.contains e.name then addS acc e.name else acc
def fbF (_ : Al) (acc : List (List UInt8)) : List (List UInt8) := acc
def faC (e : Ex) (_ acc : List (List UInt8)) : List (List UInt8) := if e.kind == 2 then addS acc e.name else acc
def fbC (a : Al) (acc : List (List UInt8)) : List (List UInt8) := addS acc a.con
def faB (e : Ex) (_ acc : List (List UInt8)) : List (List UInt8) := if e.kind == 3 || e.kind == 5 then addS acc e.name else acc
def fbB (a : Al) (acc : List (List UInt8)) : List (List UInt8) := a.vars.foldl addS acc
def faT (_ : Ex) (_ : List (List UInt8)) (acc : Bool × List UInt8) : Bool × List UInt8 := acc
def fbT (a : Al) (acc : Bool × List UInt8) : Bool × List UInt8 := if (twR a.vars [] a.vars 0).2 && !acc.1 then (true,(twR a.vars [] a.vars 0).1) else acc
theorem faF_le (e : Ex) (b acc : List (List UInt8)) : (faF e b acc).length ≤ acc.length + 1 := by
 unfold faF; split
 · exact add_le _ _
 · omega
theorem fbF_le (a : Al) (acc : List (List UInt8)) : (fbF a acc).length ≤ acc.length + a.vars.length + 1 := by unfold fbF; omega
theorem faC_le (e : Ex) (b acc : List (List UInt8)) : (faC e b acc).length ≤ acc.length + 1 := by
 unfold faC; split
 · exact add_le _ _
 · omega
theorem fbC_le (a : Al) (acc : List (List UInt8)) : (fbC a acc).length ≤ acc.length + a.vars.length + 1 := by unfold fbC; have := add_le acc a.con; omega
theorem faB_le (e : Ex) (b acc : List (List UInt8)) : (faB e b acc).length ≤ acc.length + 1 := by
 unfold faB; split
 · exact add_le _ _
 · omega
theorem fbB_le (a : Al) (acc : List (List UInt8)) : (fbB a acc).length ≤ acc.length + a.vars.length + 1 := by unfold fbB; have := adds_le a.vars acc; omega
theorem faT_le (e : Ex) (b : List (List UInt8)) (acc : Bool × List UInt8) : (fun _ : Bool × List UInt8 => 0) (faT e b acc) ≤ (fun _ : Bool × List UInt8 => 0) acc + 1 := Nat.zero_le _
theorem fbT_le (a : Al) (acc : Bool × List UInt8) : (fun _ : Bool × List UInt8 => 0) (fbT a acc) ≤ (fun _ : Bool × List UInt8 => 0) acc + a.vars.length + 1 := Nat.zero_le _
theorem faF_den (e : Ex) (b acc : List (List UInt8)) (h : acc.length < 1000000) : den E 240 [.agg (exC e),.pmap (entsV b),.ptr (.par 0) 0] [[.own 9 0 (acc.map .str),metN 0 acc]] = some (.tup [],[[.own 9 0 ((faF e b acc).map .str),metN 0 (faF e b acc)]]) := by
 rw [den_eq prim_240,body_240,exC_eq]
 have d := add_den acc e.name h
 have hf := find_ents e.name b
 unfold setH at d
 unfold faF
 cases h1 : e.kind == 1
 · simp only [go_sem,Tryz.f240,h1,↓met_stampH,↓met_names]
 · cases h2 : b.contains e.name
   · rw [h2] at hf
     simp only [go_sem,Tryz.f240,h1,hf,d,↓callF_func,↓met_in,↓met_out,cellIn,cellOut,↓met_stampH,↓met_names]
   · rw [h2] at hf
     simp only [go_sem,Tryz.f240,h1,hf,↓met_stampH,↓met_names]
theorem fbF_den (a : Al) (acc : List (List UInt8)) (_ : acc.length + a.vars.length < 1000000) : den E 241 [alV a] [] = some (.tup [],[]) := by
 rw [den_eq prim_241,body_241,alV_eq,exC_eq]
 simp only [go_sem,Tryz.f241]
theorem faC_den (e : Ex) (b acc : List (List UInt8)) (h : acc.length < 1000000) : den E 242 [.agg (exC e),.pmap (entsV b),.ptr (.par 0) 0] [[.own 9 0 (acc.map .str),metN 0 acc]] = some (.tup [],[[.own 9 0 ((faC e b acc).map .str),metN 0 (faC e b acc)]]) := by
 rw [den_eq prim_242,body_242,exC_eq]
 have d := add_den acc e.name h
 unfold setH at d
 unfold faC
 cases h1 : e.kind == 2
 · simp only [go_sem,Tryz.f242,h1,↓met_stampH,↓met_names]
 · simp only [go_sem,Tryz.f242,h1,d,↓callF_func,↓met_in,↓met_out,cellIn,cellOut,↓met_stampH,↓met_names]
theorem fbC_den (a : Al) (acc : List (List UInt8)) (h : acc.length + a.vars.length < 1000000) : den E 243 [alV a,.ptr (.par 0) 0] [[.own 9 0 (acc.map .str),metN 0 acc]] = some (.tup [],[[.own 9 0 ((fbC a acc).map .str),metN 0 (fbC a acc)]]) := by
 rw [den_eq prim_243,body_243,alV_eq,exC_eq]
 have d := add_den acc a.con (by omega)
 unfold setH at d
 unfold fbC
 simp only [go_sem,Tryz.f243,d,↓callF_func,↓met_in,↓met_out,cellIn,cellOut,↓met_stampH,↓met_names]
theorem faB_den (e : Ex) (b acc : List (List UInt8)) (h : acc.length < 1000000) : den E 236 [.agg (exC e),.pmap (entsV b),.ptr (.par 0) 0] [[.own 9 0 (acc.map .str),metN 0 acc]] = some (.tup [],[[.own 9 0 ((faB e b acc).map .str),metN 0 (faB e b acc)]]) := by
 rw [den_eq prim_236,body_236,exC_eq]
 have d := add_den acc e.name h
 unfold setH at d
 unfold faB
 cases h1 : e.kind == 3
 · cases h2 : e.kind == 5
   · simp only [go_sem,Tryz.f236,h1,h2,↓met_stampH,↓met_names]
   · simp only [go_sem,Tryz.f236,h1,h2,d,↓callF_func,↓met_in,↓met_out,cellIn,cellOut,↓met_stampH,↓met_names]
 · simp only [go_sem,Tryz.f236,h1,d,↓callF_func,↓met_in,↓met_out,cellIn,cellOut,↓met_stampH,↓met_names]
theorem fbB_den (a : Al) (acc : List (List UInt8)) (h : acc.length + a.vars.length < 1000000) : den E 238 [alV a,.ptr (.par 0) 0] [[.own 9 0 (acc.map .str),metN 0 acc]] = some (.tup [],[[.own 9 0 ((fbB a acc).map .str),metN 0 (fbB a acc)]]) := by
 rw [den_eq prim_238,body_238,alV_eq,exC_eq]
 unfold fbB
 simp only [go_sem,Tryz.f238,List.length_map]
 refine run_ind (fun i : Nat => i ≤ a.vars.length) (fun i => ⟨[(1,.ptr (.par 0) 0),(6,.slice (a.vars.map .str)),(7,.int .i64 a.vars.length),(8,.int .i64 i)],[[.own 9 0 (((a.vars.take i).foldl addS acc).map .str),metN 0 ((a.vars.take i).foldl addS acc)]],[],1⟩)
  (fun _ => some (.tup [],[[.own 9 0 ((a.vars.foldl addS acc).map .str),metN 0 (a.vars.foldl addS acc)]])) (fun i => a.vars.length - i) 0 (Nat.zero_le _) ?_ ?_
 · simp only [go_sem,List.take_zero,List.foldl_nil,↓met_stampH,↓met_names]
 · intro i hi hr
   by_cases hlt : i < a.vars.length
   · obtain ⟨x,hx⟩ := getS hlt
     have w1 : IntKind.i64.wrap ((i : Int) + 1) = ((i + 1 : Nat) : Int) := wrapN (i + 1) (by omega)
     have hle := adds_le (a.vars.take i) acc
     rw [List.length_take] at hle
     have d := add_den ((a.vars.take i).foldl addS acc) x (by omega)
     have e2 : addS ((a.vars.take i).foldl addS acc) x = (a.vars.take (i + 1)).foldl addS acc := by rw [take_next hx,List.foldl_append]; rfl
     rw [e2] at d
     unfold setH at d
     generalize (a.vars.take i).foldl addS acc = a1 at *
     simp only [go_sem,natlt,decide_eq_true hlt,natge0,tonat,strsGet,hx,d,↓callF_func,↓met_in,↓met_out,cellIn,cellOut,↓met_names]
     refine hr (i + 1) _ (by omega) (by omega) ?_
     simp only [go_sem,w1,↓met_stampH,↓met_names]
   · have hie : i = a.vars.length := by omega
     subst hie
     rw [List.take_length]
     simp only [go_sem,natlt,Nat.lt_irrefl,↓met_stampH,↓met_names]
theorem faT_den (e : Ex) (b : List (List UInt8)) (_acc : Bool × List UInt8) (_ : 0 < 1000000) : den E 208 [.agg (exC e),.pmap (entsV b)] [] = some (.tup [],[]) := by
 rw [den_eq prim_208,body_208,exC_eq]
 simp only [go_sem,Tryz.f208]
theorem fbT_den (a : Al) (acc : Bool × List UInt8) (h : a.vars.length < 1000000) : den E 209 [alV a,.ptr (.par 0) 0,.ptr (.par 1) 0] [[.bool acc.1],[.str acc.2]] = some (.tup [],[[.bool (fbT a acc).1],[.str (fbT a acc).2]]) := by
 rw [den_eq prim_209,body_209,alV_eq,exC_eq]
 have d := twice_den a.vars [] h (by simp)
 simp only [List.map_nil,twV] at d
 unfold fbT
 cases h1 : (twR a.vars [] a.vars 0).2
 · rw [h1] at d
   simp only [go_sem,Tryz.f209,d]
 · rw [h1] at d
   cases h2 : acc.1
   · simp only [go_sem,Tryz.f209,d]
   · simp only [go_sem,Tryz.f209,d,h2]
theorem walkF_den : ∀ (n : Nat) (e : Ex),e.tot ≤ n → SX e → ∀ (b : List (List UInt8)) (acc : List (List UInt8)),(acc).length + e.tot < 1000000 → den E 207 [.agg (exC e),.pmap (entsV b),.func 240 [] [.ptr (.par 0) 0],.func 241 [] []] [[.own 9 0 ((acc).map .str),metN 0 (acc)]] = some (.tup [],[[.own 9 0 ((walkE withS faF fbF e b acc).map .str),metN 0 (walkE withS faF fbF e b acc)]]) := by
 intro n
 induction n with
 | zero => intro e he; exfalso; have := tot_eq e; have := ty_pos e; omega
 | succ n ih =>
 intro e he hs b acc hm
 have ht := tot_eq e
 have hp := ty_pos e
 have d0 := faF_den e b acc (by omega)
 obtain ⟨a0,ha0⟩ : ∃ a0,a0 = faF e b acc := ⟨_,rfl⟩
 have m0 : (a0).length ≤ (acc).length + 1 := ha0 ▸ faF_le e b acc
 rw [exC_eq] at d0
 rw [den_eq prim_207,body_207,exC_eq,walkE_eq,← ha0]
 rw [← ha0] at d0
 cases h3 : e.kind == 3
 · cases h5 : e.kind == 5
   · simp only [Bool.false_eq_true,if_false]
     simp only [go_sem,Tryz.f207,d0,h3,h5,↓callF_func,↓met_in,↓met_out,cellIn,cellOut,↓met_names,exsV_len]
     refine run_ind (fun i : Nat => i ≤ e.kids.length) (fun i => ⟨[(1,.pmap (entsV b)),(2,.func 240 [] [.ptr (.par 0) 0]),(3,.func 241 [] []),(4,.ptr (.loc 4) 0),(55,.slice (exsV e.kids)),(56,.int .i64 e.kids.length),(57,.int .i64 i)],[[.own 9 0 ((walkKs withS faF fbF (e.kids.take i) b a0).map .str),metN 0 (walkKs withS faF fbF (e.kids.take i) b a0)]],[(4,[.int .i64 e.kind,.str e.name,.bool e.told,.int .i64 e.ty.kind,.str e.ty.name,.int .i64 e.ty.n,.slice (tysV e.ty.args),.slice (exsV e.kids),.slice (alsV e.alts)])],1⟩)
      (fun _ => some (.tup [],[[.own 9 0 ((walkAs withS faF fbF e.alts b (walkKs withS faF fbF e.kids b a0)).map .str),metN 0 (walkAs withS faF fbF e.alts b (walkKs withS faF fbF e.kids b a0))]])) (fun i => e.kids.length - i) 0 (Nat.zero_le _) ?_ ?_
     · simp only [go_sem,List.take_zero,walkKs_nil,↓met_stampH,↓met_names]
     · intro i hi h
       by_cases hlt : i < e.kids.length
       · obtain ⟨x,hx⟩ := getS hlt
         have w1 : IntKind.i64.wrap ((i : Int) + 1) = ((i + 1 : Nat) : Int) := wrapN (i + 1) (by have := kids_len e; omega)
         have hts := take_next hx
         have hg := tots_get hx
         have hle : (walkKs withS faF fbF (e.kids.take i) b a0).length ≤ (a0).length + Ex.tots (e.kids.take i) := walkKs_le (ext := withS) (fa := faF) (fb := fbF) List.length faF_le fbF_le (e.kids.take i) b a0
         have d := ih x (by have := kids_tot (List.mem_of_getElem? hx); omega) (hs.kid (List.mem_of_getElem? hx)) b (walkKs withS faF fbF (e.kids.take i) b a0) (by omega)
         rw [← walkKs_snoc,← hts] at d
         rw [exC_eq] at d
         generalize walkKs withS faF fbF (e.kids.take i) b a0 = a1 at *
         simp only [go_sem,natlt,decide_eq_true hlt,natge0,tonat,exsV_get,hx,exC_eq,d,↓callF_func,↓met_in,↓met_out,cellIn,cellOut,↓met_names]
         refine h (i + 1) _ (by omega) (by omega) ?_
         simp only [go_sem,w1,↓met_stampH,↓met_names]
       · have hie : i = e.kids.length := by omega
         subst hie
         rw [List.take_length]
         have hle : (walkKs withS faF fbF e.kids b a0).length ≤ (a0).length + Ex.tots e.kids := walkKs_le (ext := withS) (fa := faF) (fb := fbF) List.length faF_le fbF_le e.kids b a0
         generalize walkKs withS faF fbF e.kids b a0 = a1 at *
         clear h d0
         simp only [go_sem,natlt,Nat.lt_irrefl,alsV_len]
         refine run_ind (fun i : Nat => i ≤ e.alts.length) (fun i => ⟨[(1,.pmap (entsV b)),(2,.func 240 [] [.ptr (.par 0) 0]),(3,.func 241 [] []),(68,.slice (alsV e.alts)),(69,.int .i64 e.alts.length),(70,.int .i64 i)],[[.own 9 0 ((walkAs withS faF fbF (e.alts.take i) b a1).map .str),metN 0 (walkAs withS faF fbF (e.alts.take i) b a1)]],[],1⟩)
          (fun _ => some (.tup [],[[.own 9 0 ((walkAs withS faF fbF e.alts b a1).map .str),metN 0 (walkAs withS faF fbF e.alts b a1)]])) (fun i => e.alts.length - i) 0 (Nat.zero_le _) ?_ ?_
         · simp only [go_sem,List.take_zero,walkAs_nil,↓met_stampH,↓met_names]
         · intro i hi h
           by_cases hlt : i < e.alts.length
           · obtain ⟨x,hx⟩ := getS hlt
             have w1 : IntKind.i64.wrap ((i : Int) + 1) = ((i + 1 : Nat) : Int) := wrapN (i + 1) (by have := altsLen e; omega)
             have hts := take_next hx
             have hg := altots_get hx
             rw [altot_eq] at hg
             have hle2 : (walkAs withS faF fbF (e.alts.take i) b a1).length ≤ (a1).length + Al.tots (e.alts.take i) := walkAs_le (ext := withS) (fa := faF) (fb := fbF) List.length faF_le fbF_le (e.alts.take i) b a1
             have hb : (fbF x (walkAs withS faF fbF (e.alts.take i) b a1)).length ≤ (walkAs withS faF fbF (e.alts.take i) b a1).length + x.vars.length + 1 := fbF_le x (walkAs withS faF fbF (e.alts.take i) b a1)
             have db := fbF_den x (walkAs withS faF fbF (e.alts.take i) b a1) (by omega)
             have dw := with_den b x.vars (by omega)
             have d := ih x.body (by have := alts_tot (List.mem_of_getElem? hx); omega) (hs.alt (List.mem_of_getElem? hx)) (withS b x.vars) (fbF x (walkAs withS faF fbF (e.alts.take i) b a1)) (by omega)
             have e2 := walkAs_snoc (ext := withS) (fa := faF) (fb := fbF) (e.alts.take i) x b a1
             rw [walkA_eq,← hts] at e2
             rw [← e2] at d
             clear e2
             rw [exC_eq] at d
             rw [alV_eq,exC_eq] at db
             skip
             rw [show fbF x (walkAs withS faF fbF (e.alts.take i) b a1) = walkAs withS faF fbF (e.alts.take i) b a1 from rfl] at d
             generalize walkAs withS faF fbF (e.alts.take i) b a1 = a2 at *
             simp only [go_sem,natlt,decide_eq_true hlt,natge0,tonat,alsV_get,hx,alV_eq,exC_eq,db,dw,d,↓callF_func,↓met_in,↓met_out,cellIn,cellOut,↓met_names]
             refine h (i + 1) _ (by omega) (by omega) ?_
             simp only [go_sem,w1,↓met_stampH,↓met_names]
           · have hie : i = e.alts.length := by omega
             subst hie
             rw [List.take_length]
             simp only [go_sem,natlt,Nat.lt_irrefl,↓met_stampH,↓met_names]
   · obtain ⟨x,y,hk⟩ := hs.lett h5
     have hx := kids_tot (e := e) (x := x) (by rw [hk]; simp)
     have hy := kids_tot (e := e) (x := y) (by rw [hk]; simp)
     have hxy : x.tot + y.tot + 1 ≤ e.tot := by rw [ht,hk,tots_cons,tots_cons]; omega
     have hl : (walkE withS faF fbF x b a0).length ≤ (a0).length + x.tot := walk_le (ext := withS) (fa := faF) (fb := fbF) List.length faF_le fbF_le _ x (Nat.le_refl _) b a0
     have d1 := ih x (by omega) (hs.kid (by rw [hk]; simp)) b a0 (by omega)
     have d2 := ih y (by omega) (hs.kid (by rw [hk]; simp)) (withS b [e.name]) (walkE withS faF fbF x b a0) (by omega)
     have dw := with_den b [e.name] (by simp)
     simp only [List.map_cons,List.map_nil] at dw
     rw [exC_eq] at d1 d2
     rw [hk,exsV_cons,exsV_cons,exsV_nil,exC_eq,exC_eq] at d0
     simp only [Bool.false_eq_true,if_false,if_true]
     rw [hk,walkLet_cons,walkKs_cons,walkKs_nil]
     generalize walkE withS faF fbF x b a0 = a1 at *
     simp only [go_sem,Tryz.f207,d0,h3,h5,d1,d2,dw,exsV_cons,exsV_nil,exC_eq,Int.le_refl,Int.toNat_zero,Int.toNat_one,Int.zero_le_ofNat,↓callF_func,↓met_in,↓met_out,cellIn,cellOut,↓met_stampH,↓met_names]
 · obtain ⟨x,hk⟩ := hs.lam h3
   have hx := kids_tot (e := e) (x := x) (by rw [hk]; simp)
   have d := ih x (by omega) (hs.kid (by rw [hk]; simp)) (withS b [e.name]) a0 (by omega)
   have dw := with_den b [e.name] (by simp)
   simp only [List.map_cons,List.map_nil] at dw
   rw [exC_eq] at d
   rw [hk,exsV_cons,exsV_nil,exC_eq] at d0
   simp only [if_true]
   rw [hk,walkKs_cons,walkKs_nil]
   simp only [go_sem,Tryz.f207,d0,h3,d,dw,exsV_cons,exsV_nil,exC_eq,Int.le_refl,Int.toNat_zero,↓callF_func,↓met_in,↓met_out,cellIn,cellOut,↓met_stampH,↓met_names]
theorem walkC_den : ∀ (n : Nat) (e : Ex),e.tot ≤ n → SX e → ∀ (b : List (List UInt8)) (acc : List (List UInt8)),(acc).length + e.tot < 1000000 → den E 207 [.agg (exC e),.pmap (entsV b),.func 242 [] [.ptr (.par 0) 0],.func 243 [] [.ptr (.par 0) 0]] [[.own 9 0 ((acc).map .str),metN 0 (acc)]] = some (.tup [],[[.own 9 0 ((walkE withS faC fbC e b acc).map .str),metN 0 (walkE withS faC fbC e b acc)]]) := by
 intro n
 induction n with
 | zero => intro e he; exfalso; have := tot_eq e; have := ty_pos e; omega
 | succ n ih =>
 intro e he hs b acc hm
 have ht := tot_eq e
 have hp := ty_pos e
 have d0 := faC_den e b acc (by omega)
 obtain ⟨a0,ha0⟩ : ∃ a0,a0 = faC e b acc := ⟨_,rfl⟩
 have m0 : (a0).length ≤ (acc).length + 1 := ha0 ▸ faC_le e b acc
 rw [exC_eq] at d0
 rw [den_eq prim_207,body_207,exC_eq,walkE_eq,← ha0]
 rw [← ha0] at d0
 cases h3 : e.kind == 3
 · cases h5 : e.kind == 5
   · simp only [Bool.false_eq_true,if_false]
     simp only [go_sem,Tryz.f207,d0,h3,h5,↓callF_func,↓met_in,↓met_out,cellIn,cellOut,↓met_names,exsV_len]
     refine run_ind (fun i : Nat => i ≤ e.kids.length) (fun i => ⟨[(1,.pmap (entsV b)),(2,.func 242 [] [.ptr (.par 0) 0]),(3,.func 243 [] [.ptr (.par 0) 0]),(4,.ptr (.loc 4) 0),(55,.slice (exsV e.kids)),(56,.int .i64 e.kids.length),(57,.int .i64 i)],[[.own 9 0 ((walkKs withS faC fbC (e.kids.take i) b a0).map .str),metN 0 (walkKs withS faC fbC (e.kids.take i) b a0)]],[(4,[.int .i64 e.kind,.str e.name,.bool e.told,.int .i64 e.ty.kind,.str e.ty.name,.int .i64 e.ty.n,.slice (tysV e.ty.args),.slice (exsV e.kids),.slice (alsV e.alts)])],1⟩)
      (fun _ => some (.tup [],[[.own 9 0 ((walkAs withS faC fbC e.alts b (walkKs withS faC fbC e.kids b a0)).map .str),metN 0 (walkAs withS faC fbC e.alts b (walkKs withS faC fbC e.kids b a0))]])) (fun i => e.kids.length - i) 0 (Nat.zero_le _) ?_ ?_
     · simp only [go_sem,List.take_zero,walkKs_nil,↓met_stampH,↓met_names]
     · intro i hi h
       by_cases hlt : i < e.kids.length
       · obtain ⟨x,hx⟩ := getS hlt
         have w1 : IntKind.i64.wrap ((i : Int) + 1) = ((i + 1 : Nat) : Int) := wrapN (i + 1) (by have := kids_len e; omega)
         have hts := take_next hx
         have hg := tots_get hx
         have hle : (walkKs withS faC fbC (e.kids.take i) b a0).length ≤ (a0).length + Ex.tots (e.kids.take i) := walkKs_le (ext := withS) (fa := faC) (fb := fbC) List.length faC_le fbC_le (e.kids.take i) b a0
         have d := ih x (by have := kids_tot (List.mem_of_getElem? hx); omega) (hs.kid (List.mem_of_getElem? hx)) b (walkKs withS faC fbC (e.kids.take i) b a0) (by omega)
         rw [← walkKs_snoc,← hts] at d
         rw [exC_eq] at d
         generalize walkKs withS faC fbC (e.kids.take i) b a0 = a1 at *
         simp only [go_sem,natlt,decide_eq_true hlt,natge0,tonat,exsV_get,hx,exC_eq,d,↓callF_func,↓met_in,↓met_out,cellIn,cellOut,↓met_names]
         refine h (i + 1) _ (by omega) (by omega) ?_
         simp only [go_sem,w1,↓met_stampH,↓met_names]
       · have hie : i = e.kids.length := by omega
         subst hie
         rw [List.take_length]
         have hle : (walkKs withS faC fbC e.kids b a0).length ≤ (a0).length + Ex.tots e.kids := walkKs_le (ext := withS) (fa := faC) (fb := fbC) List.length faC_le fbC_le e.kids b a0
         generalize walkKs withS faC fbC e.kids b a0 = a1 at *
         clear h d0
         simp only [go_sem,natlt,Nat.lt_irrefl,alsV_len]
         refine run_ind (fun i : Nat => i ≤ e.alts.length) (fun i => ⟨[(1,.pmap (entsV b)),(2,.func 242 [] [.ptr (.par 0) 0]),(3,.func 243 [] [.ptr (.par 0) 0]),(68,.slice (alsV e.alts)),(69,.int .i64 e.alts.length),(70,.int .i64 i)],[[.own 9 0 ((walkAs withS faC fbC (e.alts.take i) b a1).map .str),metN 0 (walkAs withS faC fbC (e.alts.take i) b a1)]],[],1⟩)
          (fun _ => some (.tup [],[[.own 9 0 ((walkAs withS faC fbC e.alts b a1).map .str),metN 0 (walkAs withS faC fbC e.alts b a1)]])) (fun i => e.alts.length - i) 0 (Nat.zero_le _) ?_ ?_
         · simp only [go_sem,List.take_zero,walkAs_nil,↓met_stampH,↓met_names]
         · intro i hi h
           by_cases hlt : i < e.alts.length
           · obtain ⟨x,hx⟩ := getS hlt
             have w1 : IntKind.i64.wrap ((i : Int) + 1) = ((i + 1 : Nat) : Int) := wrapN (i + 1) (by have := altsLen e; omega)
             have hts := take_next hx
             have hg := altots_get hx
             rw [altot_eq] at hg
             have hle2 : (walkAs withS faC fbC (e.alts.take i) b a1).length ≤ (a1).length + Al.tots (e.alts.take i) := walkAs_le (ext := withS) (fa := faC) (fb := fbC) List.length faC_le fbC_le (e.alts.take i) b a1
             have hb : (fbC x (walkAs withS faC fbC (e.alts.take i) b a1)).length ≤ (walkAs withS faC fbC (e.alts.take i) b a1).length + x.vars.length + 1 := fbC_le x (walkAs withS faC fbC (e.alts.take i) b a1)
             have db := fbC_den x (walkAs withS faC fbC (e.alts.take i) b a1) (by omega)
             have dw := with_den b x.vars (by omega)
             have d := ih x.body (by have := alts_tot (List.mem_of_getElem? hx); omega) (hs.alt (List.mem_of_getElem? hx)) (withS b x.vars) (fbC x (walkAs withS faC fbC (e.alts.take i) b a1)) (by omega)
             have e2 := walkAs_snoc (ext := withS) (fa := faC) (fb := fbC) (e.alts.take i) x b a1
             rw [walkA_eq,← hts] at e2
             rw [← e2] at d
             clear e2
             rw [exC_eq] at d
             rw [alV_eq,exC_eq] at db
             skip
             generalize fbC x (walkAs withS faC fbC (e.alts.take i) b a1) = a3 at *
             generalize walkAs withS faC fbC (e.alts.take i) b a1 = a2 at *
             simp only [go_sem,natlt,decide_eq_true hlt,natge0,tonat,alsV_get,hx,alV_eq,exC_eq,db,dw,d,↓callF_func,↓met_in,↓met_out,cellIn,cellOut,↓met_names]
             refine h (i + 1) _ (by omega) (by omega) ?_
             simp only [go_sem,w1,↓met_stampH,↓met_names]
           · have hie : i = e.alts.length := by omega
             subst hie
             rw [List.take_length]
             simp only [go_sem,natlt,Nat.lt_irrefl,↓met_stampH,↓met_names]
   · obtain ⟨x,y,hk⟩ := hs.lett h5
     have hx := kids_tot (e := e) (x := x) (by rw [hk]; simp)
     have hy := kids_tot (e := e) (x := y) (by rw [hk]; simp)
     have hxy : x.tot + y.tot + 1 ≤ e.tot := by rw [ht,hk,tots_cons,tots_cons]; omega
     have hl : (walkE withS faC fbC x b a0).length ≤ (a0).length + x.tot := walk_le (ext := withS) (fa := faC) (fb := fbC) List.length faC_le fbC_le _ x (Nat.le_refl _) b a0
     have d1 := ih x (by omega) (hs.kid (by rw [hk]; simp)) b a0 (by omega)
     have d2 := ih y (by omega) (hs.kid (by rw [hk]; simp)) (withS b [e.name]) (walkE withS faC fbC x b a0) (by omega)
     have dw := with_den b [e.name] (by simp)
     simp only [List.map_cons,List.map_nil] at dw
     rw [exC_eq] at d1 d2
     rw [hk,exsV_cons,exsV_cons,exsV_nil,exC_eq,exC_eq] at d0
     simp only [Bool.false_eq_true,if_false,if_true]
     rw [hk,walkLet_cons,walkKs_cons,walkKs_nil]
     generalize walkE withS faC fbC x b a0 = a1 at *
     simp only [go_sem,Tryz.f207,d0,h3,h5,d1,d2,dw,exsV_cons,exsV_nil,exC_eq,Int.le_refl,Int.toNat_zero,Int.toNat_one,Int.zero_le_ofNat,↓callF_func,↓met_in,↓met_out,cellIn,cellOut,↓met_stampH,↓met_names]
 · obtain ⟨x,hk⟩ := hs.lam h3
   have hx := kids_tot (e := e) (x := x) (by rw [hk]; simp)
   have d := ih x (by omega) (hs.kid (by rw [hk]; simp)) (withS b [e.name]) a0 (by omega)
   have dw := with_den b [e.name] (by simp)
   simp only [List.map_cons,List.map_nil] at dw
   rw [exC_eq] at d
   rw [hk,exsV_cons,exsV_nil,exC_eq] at d0
   simp only [if_true]
   rw [hk,walkKs_cons,walkKs_nil]
   simp only [go_sem,Tryz.f207,d0,h3,d,dw,exsV_cons,exsV_nil,exC_eq,Int.le_refl,Int.toNat_zero,↓callF_func,↓met_in,↓met_out,cellIn,cellOut,↓met_stampH,↓met_names]
theorem walkB_den : ∀ (n : Nat) (e : Ex),e.tot ≤ n → SX e → ∀ (b : List (List UInt8)) (acc : List (List UInt8)),(acc).length + e.tot < 1000000 → den E 207 [.agg (exC e),.pmap (entsV b),.func 236 [] [.ptr (.par 0) 0],.func 238 [] [.ptr (.par 0) 0]] [[.own 9 0 ((acc).map .str),metN 0 (acc)]] = some (.tup [],[[.own 9 0 ((walkE withS faB fbB e b acc).map .str),metN 0 (walkE withS faB fbB e b acc)]]) := by
 intro n
 induction n with
 | zero => intro e he; exfalso; have := tot_eq e; have := ty_pos e; omega
 | succ n ih =>
 intro e he hs b acc hm
 have ht := tot_eq e
 have hp := ty_pos e
 have d0 := faB_den e b acc (by omega)
 obtain ⟨a0,ha0⟩ : ∃ a0,a0 = faB e b acc := ⟨_,rfl⟩
 have m0 : (a0).length ≤ (acc).length + 1 := ha0 ▸ faB_le e b acc
 rw [exC_eq] at d0
 rw [den_eq prim_207,body_207,exC_eq,walkE_eq,← ha0]
 rw [← ha0] at d0
 cases h3 : e.kind == 3
 · cases h5 : e.kind == 5
   · simp only [Bool.false_eq_true,if_false]
     simp only [go_sem,Tryz.f207,d0,h3,h5,↓callF_func,↓met_in,↓met_out,cellIn,cellOut,↓met_names,exsV_len]
     refine run_ind (fun i : Nat => i ≤ e.kids.length) (fun i => ⟨[(1,.pmap (entsV b)),(2,.func 236 [] [.ptr (.par 0) 0]),(3,.func 238 [] [.ptr (.par 0) 0]),(4,.ptr (.loc 4) 0),(55,.slice (exsV e.kids)),(56,.int .i64 e.kids.length),(57,.int .i64 i)],[[.own 9 0 ((walkKs withS faB fbB (e.kids.take i) b a0).map .str),metN 0 (walkKs withS faB fbB (e.kids.take i) b a0)]],[(4,[.int .i64 e.kind,.str e.name,.bool e.told,.int .i64 e.ty.kind,.str e.ty.name,.int .i64 e.ty.n,.slice (tysV e.ty.args),.slice (exsV e.kids),.slice (alsV e.alts)])],1⟩)
      (fun _ => some (.tup [],[[.own 9 0 ((walkAs withS faB fbB e.alts b (walkKs withS faB fbB e.kids b a0)).map .str),metN 0 (walkAs withS faB fbB e.alts b (walkKs withS faB fbB e.kids b a0))]])) (fun i => e.kids.length - i) 0 (Nat.zero_le _) ?_ ?_
     · simp only [go_sem,List.take_zero,walkKs_nil,↓met_stampH,↓met_names]
     · intro i hi h
       by_cases hlt : i < e.kids.length
       · obtain ⟨x,hx⟩ := getS hlt
         have w1 : IntKind.i64.wrap ((i : Int) + 1) = ((i + 1 : Nat) : Int) := wrapN (i + 1) (by have := kids_len e; omega)
         have hts := take_next hx
         have hg := tots_get hx
         have hle : (walkKs withS faB fbB (e.kids.take i) b a0).length ≤ (a0).length + Ex.tots (e.kids.take i) := walkKs_le (ext := withS) (fa := faB) (fb := fbB) List.length faB_le fbB_le (e.kids.take i) b a0
         have d := ih x (by have := kids_tot (List.mem_of_getElem? hx); omega) (hs.kid (List.mem_of_getElem? hx)) b (walkKs withS faB fbB (e.kids.take i) b a0) (by omega)
         rw [← walkKs_snoc,← hts] at d
         rw [exC_eq] at d
         generalize walkKs withS faB fbB (e.kids.take i) b a0 = a1 at *
         simp only [go_sem,natlt,decide_eq_true hlt,natge0,tonat,exsV_get,hx,exC_eq,d,↓callF_func,↓met_in,↓met_out,cellIn,cellOut,↓met_names]
         refine h (i + 1) _ (by omega) (by omega) ?_
         simp only [go_sem,w1,↓met_stampH,↓met_names]
       · have hie : i = e.kids.length := by omega
         subst hie
         rw [List.take_length]
         have hle : (walkKs withS faB fbB e.kids b a0).length ≤ (a0).length + Ex.tots e.kids := walkKs_le (ext := withS) (fa := faB) (fb := fbB) List.length faB_le fbB_le e.kids b a0
         generalize walkKs withS faB fbB e.kids b a0 = a1 at *
         clear h d0
         simp only [go_sem,natlt,Nat.lt_irrefl,alsV_len]
         refine run_ind (fun i : Nat => i ≤ e.alts.length) (fun i => ⟨[(1,.pmap (entsV b)),(2,.func 236 [] [.ptr (.par 0) 0]),(3,.func 238 [] [.ptr (.par 0) 0]),(68,.slice (alsV e.alts)),(69,.int .i64 e.alts.length),(70,.int .i64 i)],[[.own 9 0 ((walkAs withS faB fbB (e.alts.take i) b a1).map .str),metN 0 (walkAs withS faB fbB (e.alts.take i) b a1)]],[],1⟩)
          (fun _ => some (.tup [],[[.own 9 0 ((walkAs withS faB fbB e.alts b a1).map .str),metN 0 (walkAs withS faB fbB e.alts b a1)]])) (fun i => e.alts.length - i) 0 (Nat.zero_le _) ?_ ?_
         · simp only [go_sem,List.take_zero,walkAs_nil,↓met_stampH,↓met_names]
         · intro i hi h
           by_cases hlt : i < e.alts.length
           · obtain ⟨x,hx⟩ := getS hlt
             have w1 : IntKind.i64.wrap ((i : Int) + 1) = ((i + 1 : Nat) : Int) := wrapN (i + 1) (by have := altsLen e; omega)
             have hts := take_next hx
             have hg := altots_get hx
             rw [altot_eq] at hg
             have hle2 : (walkAs withS faB fbB (e.alts.take i) b a1).length ≤ (a1).length + Al.tots (e.alts.take i) := walkAs_le (ext := withS) (fa := faB) (fb := fbB) List.length faB_le fbB_le (e.alts.take i) b a1
             have hb : (fbB x (walkAs withS faB fbB (e.alts.take i) b a1)).length ≤ (walkAs withS faB fbB (e.alts.take i) b a1).length + x.vars.length + 1 := fbB_le x (walkAs withS faB fbB (e.alts.take i) b a1)
             have db := fbB_den x (walkAs withS faB fbB (e.alts.take i) b a1) (by omega)
             have dw := with_den b x.vars (by omega)
             have d := ih x.body (by have := alts_tot (List.mem_of_getElem? hx); omega) (hs.alt (List.mem_of_getElem? hx)) (withS b x.vars) (fbB x (walkAs withS faB fbB (e.alts.take i) b a1)) (by omega)
             have e2 := walkAs_snoc (ext := withS) (fa := faB) (fb := fbB) (e.alts.take i) x b a1
             rw [walkA_eq,← hts] at e2
             rw [← e2] at d
             clear e2
             rw [exC_eq] at d
             rw [alV_eq,exC_eq] at db
             skip
             generalize fbB x (walkAs withS faB fbB (e.alts.take i) b a1) = a3 at *
             generalize walkAs withS faB fbB (e.alts.take i) b a1 = a2 at *
             simp only [go_sem,natlt,decide_eq_true hlt,natge0,tonat,alsV_get,hx,alV_eq,exC_eq,db,dw,d,↓callF_func,↓met_in,↓met_out,cellIn,cellOut,↓met_names]
             refine h (i + 1) _ (by omega) (by omega) ?_
             simp only [go_sem,w1,↓met_stampH,↓met_names]
           · have hie : i = e.alts.length := by omega
             subst hie
             rw [List.take_length]
             simp only [go_sem,natlt,Nat.lt_irrefl,↓met_stampH,↓met_names]
   · obtain ⟨x,y,hk⟩ := hs.lett h5
     have hx := kids_tot (e := e) (x := x) (by rw [hk]; simp)
     have hy := kids_tot (e := e) (x := y) (by rw [hk]; simp)
     have hxy : x.tot + y.tot + 1 ≤ e.tot := by rw [ht,hk,tots_cons,tots_cons]; omega
     have hl : (walkE withS faB fbB x b a0).length ≤ (a0).length + x.tot := walk_le (ext := withS) (fa := faB) (fb := fbB) List.length faB_le fbB_le _ x (Nat.le_refl _) b a0
     have d1 := ih x (by omega) (hs.kid (by rw [hk]; simp)) b a0 (by omega)
     have d2 := ih y (by omega) (hs.kid (by rw [hk]; simp)) (withS b [e.name]) (walkE withS faB fbB x b a0) (by omega)
     have dw := with_den b [e.name] (by simp)
     simp only [List.map_cons,List.map_nil] at dw
     rw [exC_eq] at d1 d2
     rw [hk,exsV_cons,exsV_cons,exsV_nil,exC_eq,exC_eq] at d0
     simp only [Bool.false_eq_true,if_false,if_true]
     rw [hk,walkLet_cons,walkKs_cons,walkKs_nil]
     generalize walkE withS faB fbB x b a0 = a1 at *
     simp only [go_sem,Tryz.f207,d0,h3,h5,d1,d2,dw,exsV_cons,exsV_nil,exC_eq,Int.le_refl,Int.toNat_zero,Int.toNat_one,Int.zero_le_ofNat,↓callF_func,↓met_in,↓met_out,cellIn,cellOut,↓met_stampH,↓met_names]
 · obtain ⟨x,hk⟩ := hs.lam h3
   have hx := kids_tot (e := e) (x := x) (by rw [hk]; simp)
   have d := ih x (by omega) (hs.kid (by rw [hk]; simp)) (withS b [e.name]) a0 (by omega)
   have dw := with_den b [e.name] (by simp)
   simp only [List.map_cons,List.map_nil] at dw
   rw [exC_eq] at d
   rw [hk,exsV_cons,exsV_nil,exC_eq] at d0
   simp only [if_true]
   rw [hk,walkKs_cons,walkKs_nil]
   simp only [go_sem,Tryz.f207,d0,h3,d,dw,exsV_cons,exsV_nil,exC_eq,Int.le_refl,Int.toNat_zero,↓callF_func,↓met_in,↓met_out,cellIn,cellOut,↓met_stampH,↓met_names]
theorem walkT_den : ∀ (n : Nat) (e : Ex),e.tot ≤ n → SX e → ∀ (b : List (List UInt8)) (acc : Bool × List UInt8),0 + e.tot < 1000000 → den E 207 [.agg (exC e),.pmap (entsV b),.func 208 [] [],.func 209 [] [.ptr (.par 0) 0,.ptr (.par 1) 0]] [[.bool (acc).1],[.str (acc).2]] = some (.tup [],[[.bool (walkE withS faT fbT e b acc).1],[.str (walkE withS faT fbT e b acc).2]]) := by
 intro n
 induction n with
 | zero => intro e he; exfalso; have := tot_eq e; have := ty_pos e; omega
 | succ n ih =>
 intro e he hs b acc hm
 have ht := tot_eq e
 have hp := ty_pos e
 have d0 := faT_den e b acc (by omega)
 obtain ⟨a0,ha0⟩ : ∃ a0,a0 = faT e b acc := ⟨_,rfl⟩
 have m0 : 0 ≤ 0 + 1 := Nat.zero_le _
 rw [exC_eq] at d0
 rw [den_eq prim_207,body_207,exC_eq,walkE_eq,← ha0]
 have ha1 : a0 = acc := ha0
 subst ha1
 cases h3 : e.kind == 3
 · cases h5 : e.kind == 5
   · simp only [Bool.false_eq_true,if_false]
     simp only [go_sem,Tryz.f207,d0,h3,h5,exsV_len]
     refine run_ind (fun i : Nat => i ≤ e.kids.length) (fun i => ⟨[(1,.pmap (entsV b)),(2,.func 208 [] []),(3,.func 209 [] [.ptr (.par 0) 0,.ptr (.par 1) 0]),(4,.ptr (.loc 4) 0),(55,.slice (exsV e.kids)),(56,.int .i64 e.kids.length),(57,.int .i64 i)],[[.bool (walkKs withS faT fbT (e.kids.take i) b a0).1],[.str (walkKs withS faT fbT (e.kids.take i) b a0).2]],[(4,[.int .i64 e.kind,.str e.name,.bool e.told,.int .i64 e.ty.kind,.str e.ty.name,.int .i64 e.ty.n,.slice (tysV e.ty.args),.slice (exsV e.kids),.slice (alsV e.alts)])],1⟩)
      (fun _ => some (.tup [],[[.bool (walkAs withS faT fbT e.alts b (walkKs withS faT fbT e.kids b a0)).1],[.str (walkAs withS faT fbT e.alts b (walkKs withS faT fbT e.kids b a0)).2]])) (fun i => e.kids.length - i) 0 (Nat.zero_le _) ?_ ?_
     · simp only [go_sem,List.take_zero,walkKs_nil]
     · intro i hi h
       by_cases hlt : i < e.kids.length
       · obtain ⟨x,hx⟩ := getS hlt
         have w1 : IntKind.i64.wrap ((i : Int) + 1) = ((i + 1 : Nat) : Int) := wrapN (i + 1) (by have := kids_len e; omega)
         have hts := take_next hx
         have hg := tots_get hx
         have hle : 0 ≤ 0 + Ex.tots (e.kids.take i) := walkKs_le (ext := withS) (fa := faT) (fb := fbT) (fun _ : Bool × List UInt8 => 0) faT_le fbT_le (e.kids.take i) b a0
         have d := ih x (by have := kids_tot (List.mem_of_getElem? hx); omega) (hs.kid (List.mem_of_getElem? hx)) b (walkKs withS faT fbT (e.kids.take i) b a0) (by omega)
         rw [← walkKs_snoc,← hts] at d
         rw [exC_eq] at d
         generalize walkKs withS faT fbT (e.kids.take i) b a0 = a1 at *
         simp only [go_sem,natlt,decide_eq_true hlt,natge0,tonat,exsV_get,hx,exC_eq,d]
         refine h (i + 1) _ (by omega) (by omega) ?_
         simp only [go_sem,w1]
       · have hie : i = e.kids.length := by omega
         subst hie
         rw [List.take_length]
         have hle : 0 ≤ 0 + Ex.tots e.kids := walkKs_le (ext := withS) (fa := faT) (fb := fbT) (fun _ : Bool × List UInt8 => 0) faT_le fbT_le e.kids b a0
         generalize walkKs withS faT fbT e.kids b a0 = a1 at *
         clear h d0
         simp only [go_sem,natlt,Nat.lt_irrefl,alsV_len]
         refine run_ind (fun i : Nat => i ≤ e.alts.length) (fun i => ⟨[(1,.pmap (entsV b)),(2,.func 208 [] []),(3,.func 209 [] [.ptr (.par 0) 0,.ptr (.par 1) 0]),(68,.slice (alsV e.alts)),(69,.int .i64 e.alts.length),(70,.int .i64 i)],[[.bool (walkAs withS faT fbT (e.alts.take i) b a1).1],[.str (walkAs withS faT fbT (e.alts.take i) b a1).2]],[],1⟩)
          (fun _ => some (.tup [],[[.bool (walkAs withS faT fbT e.alts b a1).1],[.str (walkAs withS faT fbT e.alts b a1).2]])) (fun i => e.alts.length - i) 0 (Nat.zero_le _) ?_ ?_
         · simp only [go_sem,List.take_zero,walkAs_nil]
         · intro i hi h
           by_cases hlt : i < e.alts.length
           · obtain ⟨x,hx⟩ := getS hlt
             have w1 : IntKind.i64.wrap ((i : Int) + 1) = ((i + 1 : Nat) : Int) := wrapN (i + 1) (by have := altsLen e; omega)
             have hts := take_next hx
             have hg := altots_get hx
             rw [altot_eq] at hg
             have hle2 : 0 ≤ 0 + Al.tots (e.alts.take i) := walkAs_le (ext := withS) (fa := faT) (fb := fbT) (fun _ : Bool × List UInt8 => 0) faT_le fbT_le (e.alts.take i) b a1
             have hb : 0 ≤ 0 + x.vars.length + 1 := fbT_le x (walkAs withS faT fbT (e.alts.take i) b a1)
             have db := fbT_den x (walkAs withS faT fbT (e.alts.take i) b a1) (by omega)
             have dw := with_den b x.vars (by omega)
             have d := ih x.body (by have := alts_tot (List.mem_of_getElem? hx); omega) (hs.alt (List.mem_of_getElem? hx)) (withS b x.vars) (fbT x (walkAs withS faT fbT (e.alts.take i) b a1)) (by omega)
             have e2 := walkAs_snoc (ext := withS) (fa := faT) (fb := fbT) (e.alts.take i) x b a1
             rw [walkA_eq,← hts] at e2
             rw [← e2] at d
             clear e2
             rw [exC_eq] at d
             rw [alV_eq,exC_eq] at db
             skip
             generalize fbT x (walkAs withS faT fbT (e.alts.take i) b a1) = a3 at *
             generalize walkAs withS faT fbT (e.alts.take i) b a1 = a2 at *
             simp only [go_sem,natlt,decide_eq_true hlt,natge0,tonat,alsV_get,hx,alV_eq,exC_eq,db,dw,d]
             refine h (i + 1) _ (by omega) (by omega) ?_
             simp only [go_sem,w1]
           · have hie : i = e.alts.length := by omega
             subst hie
             rw [List.take_length]
             simp only [go_sem,natlt,Nat.lt_irrefl]
   · obtain ⟨x,y,hk⟩ := hs.lett h5
     have hx := kids_tot (e := e) (x := x) (by rw [hk]; simp)
     have hy := kids_tot (e := e) (x := y) (by rw [hk]; simp)
     have hxy : x.tot + y.tot + 1 ≤ e.tot := by rw [ht,hk,tots_cons,tots_cons]; omega
     have hl : 0 ≤ 0 + x.tot := walk_le (ext := withS) (fa := faT) (fb := fbT) (fun _ : Bool × List UInt8 => 0) faT_le fbT_le _ x (Nat.le_refl _) b a0
     have d1 := ih x (by omega) (hs.kid (by rw [hk]; simp)) b a0 (by omega)
     have d2 := ih y (by omega) (hs.kid (by rw [hk]; simp)) (withS b [e.name]) (walkE withS faT fbT x b a0) (by omega)
     have dw := with_den b [e.name] (by simp)
     simp only [List.map_cons,List.map_nil] at dw
     rw [exC_eq] at d1 d2
     rw [hk,exsV_cons,exsV_cons,exsV_nil,exC_eq,exC_eq] at d0
     simp only [Bool.false_eq_true,if_false,if_true]
     rw [hk,walkLet_cons,walkKs_cons,walkKs_nil]
     generalize walkE withS faT fbT x b a0 = a1 at *
     simp only [go_sem,Tryz.f207,d0,h3,h5,d1,d2,dw,exsV_cons,exsV_nil,exC_eq,Int.le_refl,Int.toNat_zero,Int.toNat_one,Int.zero_le_ofNat]
 · obtain ⟨x,hk⟩ := hs.lam h3
   have hx := kids_tot (e := e) (x := x) (by rw [hk]; simp)
   have d := ih x (by omega) (hs.kid (by rw [hk]; simp)) (withS b [e.name]) a0 (by omega)
   have dw := with_den b [e.name] (by simp)
   simp only [List.map_cons,List.map_nil] at dw
   rw [exC_eq] at d
   rw [hk,exsV_cons,exsV_nil,exC_eq] at d0
   simp only [if_true]
   rw [hk,walkKs_cons,walkKs_nil]
   simp only [go_sem,Tryz.f207,d0,h3,d,dw,exsV_cons,exsV_nil,exC_eq,Int.le_refl,Int.toNat_zero]
def freeS (e : Ex) : List (List UInt8) := walkE withS faF fbF e [] []
def consS (e : Ex) : List (List UInt8) := walkE withS faC fbC e [] []
def boundS (e : Ex) : List (List UInt8) := walkE withS faB fbB e [] []
theorem free_le (e : Ex) : (freeS e).length ≤ e.tot := by
 have := walk_le (ext := withS) List.length faF_le fbF_le _ e (Nat.le_refl _) [] []
 unfold freeS; simpa using this
theorem cons_le (e : Ex) : (consS e).length ≤ e.tot := by
 have := walk_le (ext := withS) List.length faC_le fbC_le _ e (Nat.le_refl _) [] []
 unfold consS; simpa using this
theorem bound_le (e : Ex) : (boundS e).length ≤ e.tot := by
 have := walk_le (ext := withS) List.length faB_le fbB_le _ e (Nat.le_refl _) [] []
 unfold boundS; simpa using this
theorem free_den (e : Ex) (hs : SX e) (ht : e.tot < 1000000) : den E 210 [.agg (exC e)] [] = some (.slice ((freeS e).map .str),[]) := by
 have d := walkF_den _ e (Nat.le_refl _) hs [] [] (by simpa using ht)
 rw [den_eq prim_210,body_210]
 rw [exC_eq] at d ⊢
 rw [show entsV [] = [] from rfl] at d
 simp only [List.map_nil,met_nil] at d
 unfold freeS
 generalize walkE withS faF fbF e [] [] = r at *
 simp only [go_sem,Tryz.f210,d,↓callF_func,↓met_out,cellIn,cellOut]
theorem cons_den (e : Ex) (hs : SX e) (ht : e.tot < 1000000) : den E 211 [.agg (exC e)] [] = some (.slice ((consS e).map .str),[]) := by
 have d := walkC_den _ e (Nat.le_refl _) hs [] [] (by simpa using ht)
 rw [den_eq prim_211,body_211]
 rw [exC_eq] at d ⊢
 rw [show entsV [] = [] from rfl] at d
 simp only [List.map_nil,met_nil] at d
 unfold consS
 generalize walkE withS faC fbC e [] [] = r at *
 simp only [go_sem,Tryz.f211,d,↓callF_func,↓met_out,cellIn,cellOut]
theorem bound_den (e : Ex) (hs : SX e) (ht : e.tot < 1000000) : den E 206 [.agg (exC e)] [] = some (.slice ((boundS e).map .str),[]) := by
 have d := walkB_den _ e (Nat.le_refl _) hs [] [] (by simpa using ht)
 rw [den_eq prim_206,body_206]
 rw [exC_eq] at d ⊢
 rw [show entsV [] = [] from rfl] at d
 simp only [List.map_nil,met_nil] at d
 unfold boundS
 generalize walkE withS faB fbB e [] [] = r at *
 simp only [go_sem,Tryz.f206,d,↓callF_func,↓met_out,cellIn,cellOut]
structure Tab where
 data : List (List UInt8)
 cons : List (List UInt8)
 sigs : List (List UInt8)
 binds : List (List UInt8)
def Tab.len (T : Tab) : Nat := T.data.length + T.cons.length + T.sigs.length + T.binds.length
def tabH (T : Tab) : List AVal := [.own 9 0 (T.data.map .str),.own 9 0 (T.cons.map .str),.own 9 0 (T.sigs.map .str),.own 9 0 (T.binds.map .str)]
def restS (T : Tab) (e : Ex) : List UInt8 × Int :=
 if (walkE withS faT fbT e [] (false,[])).1 then ((walkE withS faT fbT e [] (false,[])).2,90)
 else if (outS (freeS e) T.binds).2 then ((outS (freeS e) T.binds).1,91)
 else if (outS (consS e) T.cons).2 then ((outS (consS e) T.cons).1,91)
 else ([],0)
def bindR (T : Tab) (e : Ex) : List (List UInt8) → List UInt8 × Int
 | [] => restS T e
 | x :: r => if T.binds.contains x then (x,90) else bindR T e r
def bindS (T : Tab) (e : Ex) : List UInt8 × Int := bindR T e (boundS e)
def seV (p : List UInt8 × Int) : AVal := .tup [.str p.1,.int .i64 p.2]
theorem binding_den (T : Tab) (e : Ex) (hs : SX e) (ht : e.tot < 1000000) (hT : T.len < 1000000) : den E 142 [.ptr (.par 0) 0,.agg (exC e)] [tabH T] = some (seV (bindS T e),[tabH T]) := by
 unfold Tab.len at hT
 have d1 := bound_den e hs ht
 have d2 := walkT_den _ e (Nat.le_refl _) hs [] (false,[]) (by simpa using ht)
 have d3 := free_den e hs ht
 have d4 := cons_den e hs ht
 have hb := bound_le e
 have d5 := outside_den (freeS e) T.binds (by have := free_le e; omega) (by omega)
 have d6 := outside_den (consS e) T.cons (by have := cons_le e; omega) (by omega)
 rw [den_eq prim_142,body_142]
 rw [exC_eq] at d1 d2 d3 d4 ⊢
 rw [show entsV [] = [] from rfl] at d2
 unfold tabH bindS
 simp only [twV] at d5 d6
 simp only [go_sem,Tryz.f142,d1,List.length_map]
 refine run_ind (fun i : Nat => i ≤ (boundS e).length) (fun i => ⟨[(0,.ptr (.par 0) 0),(3,.ptr (.loc 3) 0),(15,.slice ((boundS e).map .str)),(16,.int .i64 (boundS e).length),(17,.int .i64 i)],[[.own 9 0 (T.data.map .str),.own 9 0 (T.cons.map .str),.own 9 0 (T.sigs.map .str),.own 9 0 (T.binds.map .str)]],[(3,[.int .i64 e.kind,.str e.name,.bool e.told,.int .i64 e.ty.kind,.str e.ty.name,.int .i64 e.ty.n,.slice (tysV e.ty.args),.slice (exsV e.kids),.slice (alsV e.alts)])],1⟩)
  (fun i => some (seV (bindR T e ((boundS e).drop i)),[[.own 9 0 (T.data.map .str),.own 9 0 (T.cons.map .str),.own 9 0 (T.sigs.map .str),.own 9 0 (T.binds.map .str)]])) (fun i => (boundS e).length - i) 0 (Nat.zero_le _) ?_ ?_
 · simp only [go_sem]
 · intro i hi h
   by_cases hlt : i < (boundS e).length
   · obtain ⟨x,hx⟩ := getS hlt
     rw [dropGet hx]
     have w1 : IntKind.i64.wrap ((i : Int) + 1) = ((i + 1 : Nat) : Int) := wrapN (i + 1) (by omega)
     have d := contains_den T.binds x (by omega)
     cases hq : T.binds.contains x
     · rw [hq] at d
       simp only [go_sem,natlt,decide_eq_true hlt,natge0,tonat,strsGet,hx,d,hq,bindR]
       refine h (i + 1) _ (by omega) (by omega) ?_
       simp only [go_sem,w1]
     · rw [hq] at d
       simp only [go_sem,natlt,decide_eq_true hlt,natge0,tonat,strsGet,hx,d,hq,bindR,seV]
   · have hie : i = (boundS e).length := by omega
     subst hie
     rw [List.drop_length]
     unfold bindR restS seV
     generalize walkE withS faT fbT e [] (false,[]) = t at *
     generalize outS (freeS e) T.binds = p at *
     generalize outS (consS e) T.cons = q at *
     cases h1 : t.1
     · rw [h1] at d2
       cases h2 : p.2
       · rw [h2] at d5
         cases h3 : q.2
         · rw [h3] at d6
           simp only [go_sem,natlt,Nat.lt_irrefl,d2,d3,d4,d5,d6]
         · rw [h3] at d6
           simp only [go_sem,natlt,Nat.lt_irrefl,d2,d3,d4,d5,d6]
       · rw [h2] at d5
         simp only [go_sem,natlt,Nat.lt_irrefl,d2,d3,d5]
     · rw [h1] at d2
       simp only [go_sem,natlt,Nat.lt_irrefl,d2]
def anyW : List UInt8 := [65,110,121]
def declS (T : Tab) (d : De) : (List UInt8 × Bool) × Tab :=
 if d.kind == 2 then (twR [d.name] T.sigs [d.name] 0,{ T with sigs := T.sigs ++ [d.name] })
 else if d.kind == 3 then (twR [d.name] T.binds [d.name] 0,{ T with binds := T.binds ++ [d.name] })
 else if (twR [d.name] (T.data ++ [anyW]) [d.name] 0).2 then (twR [d.name] (T.data ++ [anyW]) [d.name] 0,T)
 else if (twR d.vars [] d.vars 0).2 then (twR d.vars [] d.vars 0,{ T with data := T.data ++ [d.name] })
 else (twR (d.cons.map Co.name) T.cons (d.cons.map Co.name) 0,{ T with data := T.data ++ [d.name],cons := T.cons ++ d.cons.map Co.name })
theorem decl_le (T : Tab) (d : De) : (declS T d).2.len ≤ T.len + 1 + d.cons.length := by
 unfold declS
 split
 · simp [Tab.len]; omega
 · split
   · simp [Tab.len]; omega
   · split
     · simp; omega
     · split
       · simp [Tab.len]; omega
       · simp [Tab.len]; omega
theorem coGet (l : List Co) (i : Nat) : (l.map coV)[i]? = (l[i]?).map coV := by simp
theorem nameGet {l : List Co} {i : Nat} {x : Co} (h : l[i]? = some x) : (l.map Co.name).take (i + 1) = (l.map Co.name).take i ++ [x.name] := take_next (by simp [h])
theorem declares_den (T : Tab) (d : De) (hd : d.tot < 1000000) (hT : T.len < 900000) : den E 140 [.ptr (.par 0) 0,.agg (deC d)] [tabH T] = some (twV (declS T d).1,[tabH (declS T d).2]) := by
 unfold Tab.len at hT
 unfold De.tot at hd
 have e1 := twice_den [d.name] T.sigs (by simp) (by omega)
 have e2 := twice_den [d.name] T.binds (by simp) (by omega)
 have e3 := twice_den [d.name] (T.data ++ [anyW]) (by simp) (by simp; omega)
 have e4 := twice_den d.vars [] (by omega) (by simp)
 have a1 : T.sigs.length + 1 ≤ appMax := by unfold appMax; omega
 have a2 : T.binds.length + 1 ≤ appMax := by unfold appMax; omega
 have a3 : T.data.length + 1 ≤ appMax := by unfold appMax; omega
 rw [den_eq prim_140,body_140]
 unfold declS tabH twV
 simp only [List.map_cons,List.map_nil,List.map_append,twV,anyW] at e1 e2 e3 e4
 simp only [anyW]
 cases k2 : d.kind == 2
 · cases k3 : d.kind == 3
   · simp only [Bool.false_eq_true,if_false]
     rcases Bool.eq_false_or_eq_true (twR [d.name] (T.data ++ [[65,110,121]]) [d.name] 0).2 with h3 | h3
     rotate_left
     · rw [h3] at e3
       simp only [h3,Bool.false_eq_true,if_false]
       rcases Bool.eq_false_or_eq_true (twR d.vars [] d.vars 0).2 with h4 | h4
       rotate_left
       · rw [h4] at e4
         simp only [h4,Bool.false_eq_true,if_false]
         have e5 := twice_den (d.cons.map Co.name) T.cons (by rw [List.length_map]; omega) (by omega)
         have a4 : T.cons.length + (d.cons.map Co.name).length ≤ appMax := by rw [List.length_map]; unfold appMax; omega
         simp only [twV] at e5
         simp only [go_sem,Tryz.f140,deC,k2,k3,e3,e4,a3,List.length_map,List.map_append]
         refine run_ind (fun i : Nat => i ≤ d.cons.length) (fun i => ⟨[(0,.ptr (.par 0) 0),(15,.own 9 0 (((d.cons.map Co.name).take i).map .str)),(108,.slice (d.cons.map coV)),(109,.int .i64 d.cons.length),(110,.int .i64 i)],[[.own 9 0 (T.data.map .str ++ [.str d.name]),.own 9 0 (T.cons.map .str),.own 9 0 (T.sigs.map .str),.own 9 0 (T.binds.map .str)]],[],1⟩)
          (fun _ => some (.tup [.str (twR (d.cons.map Co.name) T.cons (d.cons.map Co.name) 0).1,.bool (twR (d.cons.map Co.name) T.cons (d.cons.map Co.name) 0).2],[[.own 9 0 (T.data.map .str ++ [.str d.name]),.own 9 0 (T.cons.map .str ++ (d.cons.map Co.name).map .str),.own 9 0 (T.sigs.map .str),.own 9 0 (T.binds.map .str)]])) (fun i => d.cons.length - i) 0 (Nat.zero_le _) ?_ ?_
         · simp only [go_sem,List.take_zero]
         · intro i hi h
           by_cases hlt : i < d.cons.length
           · obtain ⟨x,hx⟩ := getS hlt
             have w1 : IntKind.i64.wrap ((i : Int) + 1) = ((i + 1 : Nat) : Int) := wrapN (i + 1) (by omega)
             have hts := nameGet hx
             have a5 : ((d.cons.map Co.name).take i).length + 1 ≤ appMax := by rw [List.length_take,List.length_map]; unfold appMax; omega
             generalize (d.cons.map Co.name).take i = ns at *
             simp only [go_sem,natlt,decide_eq_true hlt,natge0,tonat,coGet,hx,coV,List.length_map,a5]
             refine h (i + 1) _ (by omega) (by omega) ?_
             simp only [go_sem,w1,hts,List.map_append]
           · have hie : i = d.cons.length := by omega
             subst hie
             rw [show (d.cons.map Co.name).take d.cons.length = d.cons.map Co.name from List.take_of_length_le (by simp)]
             have e0 : ∀ l : List (List UInt8),(l.map AVal.str).head? = none ∨ ∃ a,(l.map AVal.str).head? = some (.str a) := fun l => by cases l <;> simp
             generalize d.cons.map Co.name = ns at *
             generalize twR ns T.cons ns 0 = p5 at *
             rcases e0 ns with e0 | ⟨z,e0⟩
             · simp only [go_sem,natlt,Nat.lt_irrefl,e5,List.length_map,a4,e0]
             · simp only [go_sem,natlt,Nat.lt_irrefl,e5,List.length_map,a4,e0]
       · rw [h4] at e4
         simp only [h4,if_true]
         simp only [go_sem,Tryz.f140,deC,k2,k3,e3,e4,a3,List.length_map,List.map_append]
     · rw [h3] at e3
       simp only [h3,if_true]
       simp only [go_sem,Tryz.f140,deC,k2,k3,e3,a3,List.length_map]
   · simp only [Bool.false_eq_true,if_false,if_true]
     generalize twR [d.name] T.binds [d.name] 0 = p2 at *
     simp only [go_sem,Tryz.f140,deC,k2,k3,e2,a2,List.length_map,List.map_append]
 · simp only [if_true]
   generalize twR [d.name] T.sigs [d.name] 0 = p1 at *
   simp only [go_sem,Tryz.f140,deC,k2,e1,a1,List.length_map,List.map_append]
def declAll : Tab → List De → Except (List UInt8) Tab
 | T,[] => .ok T
 | T,d :: r => if (declS T d).1.2 then .error (declS T d).1.1 else declAll (declS T d).2 r
def bindAll (T : Tab) : List De → List UInt8 × Int
 | [] => ([],0)
 | d :: r => if d.kind != 3 then bindAll T r else if (bindS T d.val).2 != 0 then bindS T d.val else bindAll T r
def chkR (T : Tab) (l0 l : List De) : List UInt8 × Int := match declAll T l with
 | .error n => (n,90)
 | .ok T => if (outS T.sigs T.binds).2 then ((outS T.sigs T.binds).1,92) else bindAll T l0
def chkS (l : List De) : List UInt8 × Int := chkR ⟨[],[],[],[]⟩ l l
theorem chkR_cons (T : Tab) (l0 : List De) (d : De) (r : List De) : chkR T l0 (d :: r) = if (declS T d).1.2 then ((declS T d).1.1,90) else chkR (declS T d).2 l0 r := by
 unfold chkR
 rw [declAll]
 rcases Bool.eq_false_or_eq_true (declS T d).1.2 with h | h
 · simp only [h,if_true]
 · simp only [h,Bool.false_eq_true,if_false]
theorem deGet (l : List De) (i : Nat) : (l.map deV)[i]? = (l[i]?).map deV := by simp
theorem check_den (l : List De) (hg : ∀ d ∈ l,d.kind = 3 → SX d.val) (hsum : De.sum l < 400000) : den E 80 [.slice (l.map deV)] [] = some (seV (chkS l),[]) := by
 have hlen := desum_len l
 rw [den_eq prim_80,body_80]
 unfold chkS
 simp only [go_sem,Tryz.f80,List.length_map]
 refine run_ind (fun x : Nat × Tab => x.1 ≤ l.length ∧ x.2.len + De.sum (l.drop x.1) ≤ De.sum l) (fun x => ⟨[(0,.slice (l.map deV)),(4,.ptr (.loc 4) 0),(15,.slice (l.map deV)),(16,.int .i64 l.length),(17,.int .i64 x.1)],[],[(4,[.own 9 0 (x.2.data.map .str),.own 9 0 (x.2.cons.map .str),.own 9 0 (x.2.sigs.map .str),.own 9 0 (x.2.binds.map .str)])],1⟩)
  (fun x => some (seV (chkR x.2 l (l.drop x.1)),[])) (fun x => l.length - x.1) (0,⟨[],[],[],[]⟩) ⟨Nat.zero_le _,by simp [Tab.len]⟩ ?_ ?_
 · simp only [go_sem]
 · rintro ⟨i,T⟩ ⟨hi,hT⟩ h
   simp only at hi hT h ⊢
   by_cases hlt : i < l.length
   · obtain ⟨d,hx⟩ := getS hlt
     have hm := desum_mem (List.mem_of_getElem? hx)
     rw [dropGet hx,desum_cons] at hT
     have w1 : IntKind.i64.wrap ((i : Int) + 1) = ((i + 1 : Nat) : Int) := wrapN (i + 1) (by omega)
     have dd := declares_den T d (by omega) (by omega)
     have hle := decl_le T d
     have hdt : 1 + d.cons.length ≤ d.tot := by unfold De.tot; have := tot_eq d.val; have := ty_pos d.val; omega
     rw [dropGet hx,chkR_cons]
     unfold tabH deC twV at dd
     generalize declS T d = p at *
     obtain ⟨⟨pn,pb⟩,T'⟩ := p
     simp only at dd hle ⊢
     cases pb
     · simp only [go_sem,natlt,decide_eq_true hlt,natge0,tonat,deGet,hx,deV,deC,dd]
       refine h (i + 1,T') _ ⟨by omega,?_⟩ (by simp only; omega) ?_
       · simp only; omega
       · simp only [go_sem,w1]
     · simp only [go_sem,natlt,decide_eq_true hlt,natge0,tonat,deGet,hx,deV,deC,dd,seV]
   · have hie : i = l.length := by omega
     subst hie
     have hT' : T.len < 900000 := by omega
     clear h
     rw [List.drop_length]
     unfold chkR declAll
     simp only
     have dout := outside_den T.sigs T.binds (by unfold Tab.len at hT'; omega) (by unfold Tab.len at hT'; omega)
     unfold twV at dout
     generalize outS T.sigs T.binds = p at *
     obtain ⟨pn,pb⟩ := p
     cases pb
     · simp only [Bool.false_eq_true,if_false]
       simp only [go_sem,natlt,Nat.lt_irrefl,dout,List.length_map]
       refine run_ind (fun j : Nat => j ≤ l.length) (fun j => ⟨[(4,.ptr (.loc 4) 0),(39,.slice (l.map deV)),(40,.int .i64 l.length),(41,.int .i64 j)],[],[(4,[.own 9 0 (T.data.map .str),.own 9 0 (T.cons.map .str),.own 9 0 (T.sigs.map .str),.own 9 0 (T.binds.map .str)])],1⟩)
        (fun j => some (seV (bindAll T (l.drop j)),[])) (fun j => l.length - j) 0 (Nat.zero_le _) ?_ ?_
       · simp only [go_sem]
       · intro j hj h
         by_cases hlt : j < l.length
         · obtain ⟨d,hx⟩ := getS hlt
           have hm := desum_mem (List.mem_of_getElem? hx)
           have w1 : IntKind.i64.wrap ((j : Int) + 1) = ((j + 1 : Nat) : Int) := wrapN (j + 1) (by omega)
           rw [dropGet hx]
           unfold bindAll
           cases hk : d.kind != 3
           · have hk3 : d.kind = 3 := by simpa using hk
             have db := binding_den T d.val (hg d (List.mem_of_getElem? hx) hk3) (by unfold De.tot at hm; omega) (by omega)
             unfold tabH at db
             rw [exC_eq] at db
             unfold seV at db
             simp only [Bool.false_eq_true,if_false]
             generalize bindS T d.val = q at *
             obtain ⟨qn,qe⟩ := q
             simp only at db ⊢
             cases hq : qe != 0
             · simp only [Bool.false_eq_true,if_false]
               simp only [go_sem,natlt,decide_eq_true hlt,natge0,tonat,deGet,hx,deV,deC,hk,db,hq]
               refine h (j + 1) _ (by omega) (by omega) ?_
               simp only [go_sem,w1]
             · simp only [if_true]
               simp only [go_sem,natlt,decide_eq_true hlt,natge0,tonat,deGet,hx,deV,deC,hk,db,hq,seV]
           · simp only [if_true]
             simp only [go_sem,natlt,decide_eq_true hlt,natge0,tonat,deGet,hx,deV,deC,hk]
             refine h (j + 1) _ (by omega) (by omega) ?_
             simp only [go_sem,w1]
         · have hje : j = l.length := by omega
           subst hje
           rw [List.drop_length]
           simp only [go_sem,natlt,Nat.lt_irrefl,bindAll,seV]
     · simp only [if_true]
       simp only [go_sem,natlt,Nat.lt_irrefl,dout,seV]
end Go.Proofs
