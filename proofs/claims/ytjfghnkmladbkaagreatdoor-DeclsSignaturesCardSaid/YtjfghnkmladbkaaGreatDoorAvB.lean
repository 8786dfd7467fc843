/- The abstract machine answers as the model does: operations, calls, maps. -/
import Derived.Test.YtjfghnkmladbkaaGreatDoorAvA
import Derived.Laws.Append
import Derived.IntWalk
import Derived.MapKept
import Derived.Orders
namespace Go.Av
section
variable {w w' : World} {V V' : Vis}
theorem RowV.length {sz : Nat} : ∀ {es : List AVal} {vs : List Value},RowV w V sz es vs → vs.length = es.length * sz
 | [],_,hr => by
  simp only [RowV] at hr; subst hr; simp
 | e :: es,_,⟨h1,xs,ys,h2,h3,h4⟩ => by
  subst h2
  rw [List.length_append,← h3.length,h1,RowV.length h4,List.length_cons,Nat.succ_mul,Nat.add_comm]
theorem row_vals {sz g : Nat} : ∀ {es : List AVal} {o : Nat},RowP w V sz g o es → ∃ vs,RowV w V sz es vs ∧ ∀ j x,vs[j]? = some x → w.cell? ⟨g,o + j,none⟩ = some x
 | [],_,_ => ⟨[],rfl,by simp⟩
 | e :: es,o,h => by
  rw [RowP_cons] at h
  obtain ⟨xs,h1,h2,h3⟩ := cells_all h.1.2
  obtain ⟨ys,h4,h5⟩ := row_vals h.2
  refine ⟨xs ++ ys,⟨h.1.1,xs,ys,rfl,h3,h4⟩,fun j x hj => ?_⟩
  have hl : xs.length = sz := h1.trans h.1.1
  by_cases hlt : j < xs.length
  · rw [List.getElem?_append_left hlt] at hj; exact h2 j x hj
  · rw [List.getElem?_append_right (by omega)] at hj
    have := h5 _ x hj
    rw [show o + j = o + sz + (j - xs.length) by omega]; exact this
theorem cells_of_vals {g : Nat} : ∀ {cs : List AVal} {xs : List Value} {o : Nat},All2 (RepP w V) cs xs → (∀ j,j < xs.length → V g (o + j)) → (∀ j x,xs[j]? = some x → w.cell? ⟨g,o + j,none⟩ = some x) → CellsP w V g o cs
 | [],[],_,_,_,_ => by simp [CellsP]
 | c :: cs,x :: xs,o,h,hv,hx => by
  simp only [CellsP]
  refine ⟨⟨hv 0 (by simp),x,hx 0 x rfl,h.1⟩,cells_of_vals h.2 (fun j hj => ?_) (fun j y hj => ?_)⟩
  · have := hv (j + 1) (by simpa using hj)
    rw [show o + 1 + j = o + (j + 1) by omega]; exact this
  · have := hx (j + 1) y (by simpa using hj)
    rw [show o + 1 + j = o + (j + 1) by omega]; exact this
 | [],_ :: _,_,h,_,_ => h.elim
 | _ :: _,[],_,h,_,_ => h.elim
theorem row_of_vals {sz g : Nat} : ∀ {es : List AVal} {vs : List Value} {o : Nat},RowV w V sz es vs → (∀ j,j < vs.length → V g (o + j)) → (∀ j x,vs[j]? = some x → w.cell? ⟨g,o + j,none⟩ = some x) → RowP w V sz g o es
 | [],_,_,_,_,_ => by simp [RowP]
 | e :: es,_,o,⟨h1,xs,ys,h2,h3,h4⟩,hv,hx => by
  subst h2
  rw [RowP_cons]
  have hl : xs.length = sz := h3.length.symm.trans h1
  refine ⟨⟨h1,cells_of_vals h3 (fun j hj => hv j (by simp; omega)) (fun j x hj => hx j x (by rw [List.getElem?_append_left (List.getElem?_eq_some_iff.1 hj).1]; exact hj))⟩,row_of_vals h4 (fun j hj => ?_) (fun j x hj => ?_)⟩
  · have := hv (sz + j) (by simp; omega)
    rw [Nat.add_assoc]; exact this
  · have := hx (sz + j) x (by rw [List.getElem?_append_right (by omega)]; rw [show sz + j - xs.length = j by omega]; exact hj)
    rw [Nat.add_assoc]; exact this
theorem RowV.one {sz : Nat} : ∀ {es : List AVal} {vs : List Value},RowV w V sz es vs → ∀ v ∈ vs,v.oneCell' = true
 | [],_,hr,v,hv => by simp only [RowV] at hr; subst hr; cases hv
 | e :: es,_,⟨h1,xs,ys,h2,h3,h4⟩,v,hv => by
  subst h2
  rcases List.mem_append.1 hv with hv | hv
  · exact all_one (μ := fun _ => none) (h3.imp fun _ _ => RepP.rep1) v hv
  · exact RowV.one h4 v hv
theorem run_append_grow' {P : Program} {t t2 ty e : TypeId} {i : TypeInfo} {z : Value} (ht : P.underlying t = some (.slice e)) {d : TypeDesc} (ht2 : P.underlying t2 = some d) (hd : ∀ k,d ≠ .int k) (hi : P.info? e = some i) (hz : i.zero = some z)
 {A : Option Addr} {sLen sCap m : Nat} {x : Value} {olds news : List Value} (hlen : (Builtin.lenOf x).run P w = .ok m w) (hfo : (Builtin.firstCells i.size sLen (.slice A sLen sCap)).run P w.drew = .ok olds.toArray w.drew)
 (hf : (Builtin.firstCells i.size m x).run P w.drew = .ok news.toArray w.drew) (hg : sCap < sLen + m) (h63 : ((sLen + m : Nat) : Int) ≤ 9223372036854775807) (hfit : Builtin.nextslicecap (sLen + m) sCap * i.bytes ≤ 281474976710656) :
 (Builtin.append_ #[t,t2] ty #[.slice A sLen sCap,x]).run P w =
   .ok (.slice (some ⟨w.heap.size,0,none⟩) (sLen + m) (grownCap w (sLen + m) sCap e)) (w.drew.alloc (.cells (olds.toArray ++ news.toArray ++ Builtin.zeroCells z.cells (grownCap w (sLen + m) sCap e - (sLen + m))) e)) := by
 have hn : ¬ (sLen + m ≤ sCap) := by omega
 have h63' : ¬ (9223372036854775807 < ((sLen : Int) + (m : Int))) := by omega
 have h48' : ¬ (281474976710656 < Builtin.nextslicecap (sLen + m) sCap * i.bytes) := by omega
 have hd' : (match d with | .int _ => true | _ => false) = false := by cases d <;> first | rfl | exact absurd rfl (hd _)
 simp [Builtin.append_,run_underlying' ht,run_underlying' ht2,Go.sizeOf,typeInfo,zeroValue,hi,hz,hlen,hn,h63',h48',Question.forced,hf,hfo,newRow,grownCap]
 congr 2
 apply Array.ext'
 simp [List.append_assoc]
theorem run_append_room' {P : Program} {t t2 ty e : TypeId} {i : TypeInfo} (ht : P.underlying t = some (.slice e)) {d : TypeDesc} (ht2 : P.underlying t2 = some d) (hd : ∀ k,d ≠ .int k) (hi : P.info? e = some i)
 {A : Option Addr} {sLen sCap m : Nat} {x : Value} {news : List Value} (hlen : (Builtin.lenOf x).run P w = .ok m w)
 (hf : (Builtin.firstCells i.size m x).run P w = .ok news.toArray w) (hg : sLen + m ≤ sCap) (hst : ∀ a,A = some a → (storeCells (a.add (sLen * i.size)) news).run P w = .ok () w') (hnil : A = none → w' = w) :
 (Builtin.append_ #[t,t2] ty #[.slice A sLen sCap,x]).run P w = .ok (.slice A (sLen + m) sCap) w' := by
 have hd' : (match d with | .int _ => true | _ => false) = false := by cases d <;> first | rfl | exact absurd rfl (hd _)
 cases A with
 | none =>
  rw [hnil rfl]
  simp [Builtin.append_,run_underlying' ht,run_underlying' ht2,Go.sizeOf,typeInfo,hi,hlen,hg,hf]
 | some ad =>
  simp [Builtin.append_,run_underlying' ht,run_underlying' ht2,Go.sizeOf,typeInfo,hi,hlen,hg,hf,hst ad rfl]
end
end Go.Av
namespace Go.Av
section
variable {E : Env} {w0 : World} {V0 : Vis} {T0 : Tch} {Q Q' : Nat → Prop} {s : St} {a : Act} {w w' : World} {V V' : Vis} {μ μ' : BMap} {γ γ' : GMap}
theorem SRel.demoteBox {P : Program} (h : SRel P Q s a w V μ γ) {b : BName} {off : Nat} {cs : List AVal} {T : TypeId} {n : Nat} {es : List AVal} (hT : T ≠ mapT) (hb : s.box b = some cs) (hc : cs[off]? = some (.own T n es)) :
 SRel P Q (s.setBox b (cs.set off (.dead T n es))) a w V μ γ := by
 obtain ⟨g,U,cur,h1,h2,h3,h4⟩ := h.bx b cs hb
 have hlt : off < cs.length := (List.getElem?_eq_some_iff.1 hc).1
 have hget : ∀ i c,(cs.set off (.dead T n es))[i]? = some c → (i = off ∧ c = .dead T n es) ∨ (i ≠ off ∧ cs[i]? = some c) := by
  intro i c hi
  by_cases hio : i = off
  · subst hio
    rw [List.getElem?_set_self (by exact hlt)] at hi
    injection hi with hi
    exact .inl ⟨rfl,hi.symm⟩
  · rw [List.getElem?_set_ne (Ne.symm hio)] at hi
    exact .inr ⟨hio,hi⟩
 refine h.setBox hb h1 (OnlyBlock.refl _ _) h2 (by simp [h3]) (GLe.refl _) h.gq (fun i c hi => ?_) (fun i T' m es' x g' hi hx hg => ?_)
 · rcases hget i c hi with ⟨rfl,rfl⟩ | ⟨_,hi'⟩
   · obtain ⟨x,h5,h6⟩ := h4 i _ hc
     exact ⟨x,h5,h6.1.slice hT,h6.2⟩
   · exact h4 i c hi'
 · rcases hget i _ hi with ⟨_,e⟩ | ⟨hne,hi'⟩
   · cases e
   · have hat : s.at (.cell b i) = some (.own T' m es') := by simp [St.at,hb,hi']
     refine ⟨(h.ow _ T' m es' x g' hat hx hg).1,(h.ow _ T' m es' x g' hat hx hg).2,fun p' T2 n2 es2 x2 hp hp2 hx2 hg2 => ?_,fun j T2 n2 es2 x2 hj hj2 hx2 hg2 => ?_⟩
     · exact hp i (h.ow2 p' (.cell b i) T2 n2 es2 T' m es' x2 x g' hp2 hat hx2 hx hg2 hg)
     · rcases hget j _ hj2 with ⟨_,e⟩ | ⟨_,hj'⟩
       · cases e
       · have := h.ow2 (.cell b j) (.cell b i) T2 n2 es2 T' m es' x2 x g' (by simp [St.at,hb,hj']) hat hx2 hx hg2 hg
         injection this with _ e; exact hj e
theorem demoteBox_at {b : BName} {off : Nat} {cs : List AVal} {T : TypeId} {n : Nat} {es : List AVal} (hb : s.box b = some cs) (hc : cs[off]? = some (.own T n es)) {p : Place} {T' n' es'}
 (h : (s.setBox b (cs.set off (.dead T n es))).at p = some (.own T' n' es')) : p ≠ .cell b off ∧ s.at p = some (.own T' n' es') := by
 have hlt : off < cs.length := (List.getElem?_eq_some_iff.1 hc).1
 rw [at_setBox hb] at h
 cases p with
 | tmp k => exact ⟨by simp,h⟩
 | cell b' i =>
  simp only at h
  by_cases hbb : b' = b
  · subst hbb
    simp only [if_true] at h
    by_cases hi : i = off
    · subst hi; rw [List.getElem?_set_self hlt] at h; cases h
    · rw [List.getElem?_set_ne (Ne.symm hi)] at h
      exact ⟨fun e => hi (by injection e),by simp [St.at,hb,h]⟩
  · simp only [hbb,if_false] at h
    exact ⟨fun e => hbb (by injection e),h⟩
theorem own_factsD (h : SRel E.P Q s a w V μ γ) (hl : Loc w0 T0 s μ γ) {k : Nat} {T : TypeId} {m : Nat} {es : List AVal} (hT : T ≠ mapT) (hk : alGet s.tm k = some (.own T m es)) :
 OwnRep E.P w V T es (a.eval (.tmp k)) ∧ ∀ g,ownBlock (a.eval (.tmp k)) = some g → (∀ b,μ b ≠ some g) ∧ (∀ o,V g o → o < es.length * E.P.cellsOf T) ∧
  (∀ p' T' n' es' x',(s.put k (.dead T m es)).at p' = some (.own T' n' es') → γ p' n' = some x' → ownBlock x' ≠ some g) ∧ (T0 g ∨ w0.heap.size ≤ g) := by
 have := own_facts h hl hk
 rwa [deadV_ne hT] at this
theorem SRel.demoteD {P : Program} (h : SRel P Q s a w V μ γ) {j : Nat} {T : TypeId} {n : Nat} {es : List AVal} (hT : T ≠ mapT) (hj : alGet s.tm j = some (.own T n es)) : SRel P Q (s.put j (.dead T n es)) a w V μ γ := by
 have := h.demote hj
 rwa [deadV_ne hT] at this
theorem Loc.demoteD (hl : Loc w0 T0 s μ γ) {k : Nat} {T : TypeId} {m : Nat} {es : List AVal} (hT : T ≠ mapT) : Loc w0 T0 (s.put k (.dead T m es)) μ γ := by
 have := Loc.demote (k := k) (T := T) (m := m) (es := es) hl
 rwa [deadV_ne hT] at this
theorem owner_cases (h : SRel E.P Q s a w V μ γ) (hl : Loc w0 T0 s μ γ) {T : TypeId} (hTm : T ≠ mapT) {x : Operand} {es : List AVal} {s1 : St} {fl : Bool} (ho : ownerF s T x = some (es,s1,fl)) :
 SRel E.P Q s1 a w V μ γ ∧ Loc w0 T0 s1 μ γ ∧ ((fl = true ∧ RepP w V (.slice es) (a.eval x) ∧ ∃ A,a.eval x = .slice A es.length es.length) ∨ (fl = false ∧ OwnRep E.P w V T es (a.eval x) ∧
  ∀ g,ownBlock (a.eval x) = some g → (∀ b,μ b ≠ some g) ∧ (∀ o,V g o → o < es.length * E.P.cellsOf T) ∧ (∀ p' T' n' es' x',s1.at p' = some (.own T' n' es') → γ p' n' = some x' → ownBlock x' ≠ some g) ∧ (T0 g ∨ w0.heap.size ≤ g))) := by
 have cnst : ∀ x : Operand,(if isNil x then some ([],s,false) else none) = some (es,s1,fl) → SRel E.P Q s1 a w V μ γ ∧ Loc w0 T0 s1 μ γ ∧ ((fl = true ∧ RepP w V (.slice es) (a.eval x) ∧ ∃ A,a.eval x = .slice A es.length es.length) ∨ (fl = false ∧ OwnRep E.P w V T es (a.eval x) ∧
  ∀ g,ownBlock (a.eval x) = some g → (∀ b,μ b ≠ some g) ∧ (∀ o,V g o → o < es.length * E.P.cellsOf T) ∧ (∀ p' T' n' es' x',s1.at p' = some (.own T' n' es') → γ p' n' = some x' → ownBlock x' ≠ some g) ∧ (T0 g ∨ w0.heap.size ≤ g))) := by
  intro x hx
  split at hx
  · rename_i hn
    injection hx with hx
    injection hx with h1 h2
    injection h2 with h2 h3
    subst h1; subst h2; subst h3
    refine ⟨h,hl,.inr ⟨rfl,.ofS hTm (.inl ⟨rfl,isNil_eval hn⟩),fun g hg => ?_⟩⟩
    rw [isNil_eval hn] at hg; cases hg
  · cases hx
 cases x with
 | const c => exact cnst _ ho
 | func f => exact cnst _ ho
 | global g => exact cnst _ ho
 | tmp k =>
  simp only [ownerF] at ho
  obtain ⟨v,h1,ho⟩ := bind_some ho
  cases v <;> simp only at ho <;> (try cases ho)
  case own U n es0 =>
   split at ho
   · rename_i hU
     injection ho with ho
     injection ho with e1 e2
     injection e2 with e2 e3
     subst e1; subst e2; subst e3; subst hU
     obtain ⟨h2,h3⟩ := own_factsD h hl hTm h1
     exact ⟨h.demoteD hTm h1,hl.demoteD hTm,.inr ⟨rfl,h2,h3⟩⟩
   · cases ho
  case full.refl =>
   obtain ⟨y,h2,h3⟩ := h.tm k _ h1
   have he : a.eval (.tmp k) = y := by simp [Act.eval,Array.getD_eq_getD_getElem?,h2]
   rw [he]
   exact ⟨h,hl,.inl ⟨rfl,h3.1,h3.2⟩⟩
  case view U n es0 p =>
   obtain ⟨y,h2,h3⟩ := h.tm k _ h1
   have he : a.eval (.tmp k) = y := by simp [Act.eval,Array.getD_eq_getD_getElem?,h2]
   rw [he]
   cases p with
   | tmp j =>
    simp only at ho
    obtain ⟨v,h4,ho⟩ := bind_some ho
    cases v <;> simp only at ho <;> (try cases ho)
    split at ho
    · rename_i hU
      injection ho with ho
      injection ho with e1 e2
      injection e2 with e2 e3
      subst e1; subst e2; subst e3
      obtain ⟨rfl,rfl⟩ := hU
      obtain ⟨h5,h6⟩ := own_factsD h hl hTm h4
      have hat : s.at (.tmp j) = some (.own _ _ _) := h4
      obtain ⟨z,hz,hzo⟩ := h.tm j _ h4
      have he2 : a.eval (.tmp j) = z := by simp [Act.eval,Array.getD_eq_getD_getElem?,hz]
      have hyz : y = z := by have := h3.2; rw [hzo.2] at this; injection this with this; exact this.symm
      rw [he2] at h5 h6
      rw [hyz]
      exact ⟨h.demoteD hTm h4,hl.demoteD hTm,.inr ⟨rfl,h5,h6⟩⟩
    · cases ho
   | cell b off =>
    simp only at ho
    obtain ⟨cs,h4,ho⟩ := bind_some ho
    obtain ⟨v,h5,ho⟩ := bind_some ho
    cases v <;> simp only at ho <;> (try cases ho)
    split at ho
    · rename_i T1 n1 es1 hU
      injection ho with ho
      injection ho with e1 e2
      injection e2 with e2 e3
      subst e1; subst e2; subst e3
      obtain ⟨rfl,rfl⟩ := hU
      have hat : s.at (.cell b off) = some (.own T1 n1 es1) := by simp [St.at,h4,h5]
      obtain ⟨z,hz,hzo⟩ := h.conc_own hat
      have hyz : y = z := by have := h3.2; rw [hz] at this; injection this with this; exact this.symm
      rw [hyz]
      refine ⟨h.demoteBox hTm h4 h5,⟨hl.box,hl.par,fun p T' n' es' x g hp hx hg => hl.own p T' n' es' x g (demoteBox_at h4 h5 hp).2 hx hg⟩,.inr ⟨rfl,hzo,fun g hg => ?_⟩⟩
      refine ⟨(h.ow _ _ _ _ z g hat hz hg).1,(h.ow _ _ _ _ z g hat hz hg).2,fun p' T' n' es' x' hp' hx' hg' => ?_,hl.own _ _ _ _ z g hat hz hg⟩
      obtain ⟨hne,hp⟩ := demoteBox_at h4 h5 hp'
      exact hne (h.ow2 p' (.cell b off) T' n' es' _ _ _ x' z g hp hat hx' hz hg' hg)
    · cases ho
theorem news_cases (h : SRel E.P Q s a w V μ γ) {T2 : Option TypeId} {y : Operand} {v : AVal} {news : List AVal} (hv : rd s y = some v) (hn : newsF E T2 v = some news) {sz : Nat} (hok : esOK sz news = true) :
 ∃ t2 d,T2 = some t2 ∧ E.P.underlying t2 = some d ∧ (∀ k,d ≠ .int k) ∧ (Builtin.lenOf (a.eval y)).run E.P w = .ok news.length w ∧ ∃ vs,RowV w V sz news vs ∧
  ∀ w2 : World,w2.heap = w.heap → (Builtin.firstCells sz news.length (a.eval y)).run E.P w2 = .ok vs.toArray w2 := by
 have hr := h.rd hv
 unfold esOK at hok
 simp only [Bool.and_eq_true,decide_eq_true_eq] at hok
 have sl : ∀ es,elems? v = some es → (if (T2.bind (telem E.P)).isSome then elems? v else none) = some news → ∃ t2 d,T2 = some t2 ∧ E.P.underlying t2 = some d ∧ (∀ k,d ≠ .int k) ∧ (Builtin.lenOf (a.eval y)).run E.P w = .ok news.length w ∧ ∃ vs,RowV w V sz news vs ∧
  ∀ w2 : World,w2.heap = w.heap → (Builtin.firstCells sz news.length (a.eval y)).run E.P w2 = .ok vs.toArray w2 := by
  intro es hes hh
  split at hh
  · rename_i hT
    cases T2 with
    | none => simp at hT
    | some t2 =>
     simp only [Option.bind_some] at hT
     obtain ⟨e,hte⟩ := Option.isSome_iff_exists.1 hT
     rw [hes] at hh; injection hh with hh
     rw [hh] at hes
     clear hh
     have h1 := elems_rep hr hes
     simp only [RepP] at h1
     obtain ⟨A,c,hy,hc,hrow⟩ := h1
     rw [hy]
     refine ⟨t2,_,rfl,telem_some hte,(fun k e => by cases e),by simp [Builtin.lenOf],?_⟩
     rcases hrow with rfl | ⟨g,o,sz',rfl,hpos,hrow⟩
     · refine ⟨[],rfl,fun w2 _ => ?_⟩
       cases A with
       | none => simp [Builtin.firstCells]
       | some A => simp [Builtin.firstCells,loadCells,loadCellsFrom]
     · obtain ⟨vs,h2,h3⟩ := row_vals hrow
       have hsz : news = [] ∨ sz' = sz := by
        cases news with
        | nil => exact .inl rfl
        | cons e es =>
         right
         have := hok.2
         simp only [List.head?_cons,decide_eq_true_eq] at this
         rw [RowP_cons] at hrow
         exact hrow.1.1.symm.trans this
       rcases hsz with rfl | rfl
       · exact ⟨[],rfl,fun w2 _ => by simp [Builtin.firstCells,loadCells,loadCellsFrom]⟩
       · refine ⟨vs,h2,fun w2 hw => ?_⟩
         refine run_firstCells_some w2 sz' _ _ _ _ vs h2.length (fun j x hj => ?_)
         rw [addr_add]
         have := h3 j x hj
         simpa [World.cell?,hw] using this
  · cases hh
 cases v <;> simp only [newsF] at hn <;> first | exact sl _ rfl hn | exact sl _ (by split at hn; · exact hn
                                                                                    · cases hn) hn | (simp only [elems?,ite_self] at hn; cases hn; done) | skip
 split at hn
 · rename_i b hT
   injection hn with hn; subst hn
   cases T2 with
   | none => simp at hT
   | some t2 =>
    simp only [Option.map_some] at hT
    have hT' : tstring E.P t2 = true := by injection hT
    have hy := rep_str hr
    rw [hy]
    have hsz : b = [] ∨ sz = 1 := by
     cases b with
     | nil => exact .inl rfl
     | cons c b =>
      right
      have h9 := hok.2
      simp only [List.map_cons,List.head?_cons,cellsOf,List.length_cons,List.length_nil] at h9
      have := of_decide_eq_true h9
      omega
    refine ⟨t2,_,rfl,tstring_some hT',(fun k e => by cases e),by simp [Builtin.lenOf,size_mk],?_⟩
    rcases hsz with rfl | rfl
    · exact ⟨[],rfl,fun w2 _ => by simp [Builtin.firstCells]⟩
    · refine ⟨b.map fun c => .int .u8 c.toNat,?_,fun w2 _ => ?_⟩
      · clear hy hr hv sl hok
        induction b with
        | nil => rfl
        | cons c b ih => exact ⟨rfl,[.int .u8 c.toNat],_,rfl,⟨rfl,trivial⟩,ih⟩
      · simp [Builtin.firstCells]
 · cases hn
end
end Go.Av
namespace Go.Av
section
variable {E : Env} {w0 : World} {V0 : Vis} {T0 : Tch} {Q Q' : Nat → Prop} {s s1 : St} {a : Act} {w w' : World} {V V' : Vis} {μ μ' : BMap} {γ γ' : GMap}
theorem grownCap_ge' (w : World) (need old : Nat) (e : TypeId) : need ≤ grownCap w need old e := by simp [grownCap,Question.cut]
theorem Fr.vis (h : Fr w0 V0 T0 w V) (hk : ∀ g o,V g o → V' g o) (hn : ∀ g o,V' g o → V g o ∨ w0.heap.size ≤ g ∨ T0 g) : Fr w0 V0 T0 w V' where
 os := h.os
 tape := h.tape
 output := h.output
 size := h.size
 keep := h.keep
 vkeep := fun g o hv => ⟨hk g o (h.vkeep g o hv).1,(h.vkeep g o hv).2⟩
 vnew g o hv := (hn g o hv).elim (h.vnew g o) .inr
 sl := h.sl
theorem Keeps.drew {V : Vis} (h : Keeps w0 V0 w V) : Keeps w0 V0 w.drew V := fun g o hv => ⟨(h g o hv).1,(h g o hv).2.cell,(h g o hv).2.map⟩
theorem Fr.drew (h : Fr w0 V0 T0 w V) : Fr w0 V0 T0 w.drew V := ⟨h.os,h.tape,h.output,h.size,h.keep,h.vkeep.drew,h.vnew,h.sl⟩
theorem own_vals {T : TypeId} {es : List AVal} {x : Value} (hTm : T ≠ mapT) (ho : OwnRep E.P w V T es x) : ∃ A c,x = .slice A es.length c ∧ es.length ≤ c ∧ ∃ vs,RowV w V (E.P.cellsOf T) es vs ∧
 ∀ w2 : World,w2.heap = w.heap → (Builtin.firstCells (E.P.cellsOf T) es.length (.slice A es.length c)).run E.P w2 = .ok vs.toArray w2 := by
 rcases ho.toS hTm with ⟨rfl,rfl⟩ | ⟨g,c,cur,rfl,hc,hh,hsz,hpos,hrow⟩
 · exact ⟨none,0,rfl,Nat.le_refl _,[],rfl,fun w2 _ => by simp [Builtin.firstCells]⟩
 · obtain ⟨vs,h2,h3⟩ := row_vals hrow
   refine ⟨_,c,rfl,hc,vs,h2,fun w2 hw => ?_⟩
   refine run_firstCells_some w2 _ _ _ _ _ vs h2.length (fun j x hj => ?_)
   rw [addr_add]
   have := h3 j x hj
   simpa [World.cell?,hw] using this
theorem full_vals {T : TypeId} {es : List AVal} {x : Value} {A : Option Addr} (hr : RepP w V (.slice es) x) (hx : x = .slice A es.length es.length) (hok : esOK (E.P.cellsOf T) es = true) : ∃ vs,RowV w V (E.P.cellsOf T) es vs ∧
 ∀ w2 : World,w2.heap = w.heap → (Builtin.firstCells (E.P.cellsOf T) es.length (.slice A es.length es.length)).run E.P w2 = .ok vs.toArray w2 := by
 unfold esOK at hok
 simp only [Bool.and_eq_true,decide_eq_true_eq] at hok
 simp only [RepP] at hr
 obtain ⟨A',c,hy,hc,hrow⟩ := hr
 rw [hx] at hy
 injection hy with e1 e2 e3
 subst e1
 rcases hrow with rfl | ⟨g,o,sz',rfl,hpos,hrow⟩
 · refine ⟨[],rfl,fun w2 _ => ?_⟩
   cases A with
   | none => simp [Builtin.firstCells]
   | some A => simp [Builtin.firstCells,loadCells,loadCellsFrom]
 · obtain ⟨vs,h2,h3⟩ := row_vals hrow
   have hsz : es = [] ∨ sz' = E.P.cellsOf T := by
    cases es with
    | nil => exact .inl rfl
    | cons e es =>
     right
     have h9 := hok.2
     simp only [List.head?_cons] at h9
     have := of_decide_eq_true h9
     rw [RowP_cons] at hrow
     exact hrow.1.1.symm.trans this
   rcases hsz with rfl | rfl
   · exact ⟨[],rfl,fun w2 _ => by simp [Builtin.firstCells,loadCells,loadCellsFrom]⟩
   · refine ⟨vs,h2,fun w2 hw => ?_⟩
     refine run_firstCells_some w2 _ _ _ _ _ vs h2.length (fun j x hj => ?_)
     rw [addr_add]
     have := h3 j x hj
     simpa [World.cell?,hw] using this
theorem RowV.append {sz : Nat} : ∀ {es es' : List AVal} {vs vs' : List Value},RowV w V sz es vs → RowV w V sz es' vs' → RowV w V sz (es ++ es') (vs ++ vs')
 | [],_,vs,_,h,h' => by simp only [RowV] at h; subst h; exact h'
 | e :: es,_,_,_,⟨h1,xs,ys,h2,h3,h4⟩,h' => by
  subst h2
  exact ⟨h1,xs,ys ++ _,by rw [List.append_assoc],h3,RowV.append h4 h'⟩
theorem sim_row (hd : a.defers = []) (h : SRel E.P Q s a w V μ γ) (hf : Fr w0 V0 T0 w V) (hl : Loc w0 T0 s μ γ) (hQ : QLe Q Q') {n : Nat} (hn : ¬ Q n) (hn' : Q' n) {dst : Option Nat} (hdst : ∀ k,dst = some k → k < a.tmps.size)
 {T : TypeId} {es : List AVal} {vs : List Value} {cells : Array Value} {cap : Nat} (hTm : T ≠ mapT) (hpos : 0 < E.P.cellsOf T) (hv : RowV w V (E.P.cellsOf T) es vs) (hc : ∀ (j : Nat) (x : Value),vs[j]? = some x → cells[j]? = some x) (hsz : cells.size = cap * E.P.cellsOf T)
 (hcap : es.length ≤ cap) : Sim E.P w0 V0 T0 Q' (s.putD dst (.own T n es)) (a.put dst (.slice (some ⟨w.heap.size,0,none⟩) es.length cap)) (w.alloc (.cells cells T)) := by
 let V' : Vis := fun g o => V g o ∨ (g = w.heap.size ∧ o < es.length * E.P.cellsOf T)
 have hkeep : Keeps w V (w.alloc (.cells cells T)) V' := fun g o hg => ⟨.inl hg,(alloc_keeps h.vis g o hg).2⟩
 have h1 : SRel E.P Q s a (w.alloc (.cells cells T)) V' μ γ := by
  refine h.world hkeep (fun _ _ hb => alloc_get (box_lt h hb)) (fun _ _ _ _ _ _ hp hx hg => alloc_get (own_lt h hp hx hg)) (fun g o hv => ?_) (fun g o hv => ?_)
  · rcases hv with hv | ⟨rfl,_⟩
    · exact .inl hv
    · exact .inr ⟨fun b hb => by have := box_lt h hb; omega,fun p T n es x hp hx hg => by have := own_lt h hp hx hg; omega⟩
  · rcases hv with hv | ⟨rfl,_⟩
    · have := h.vis g o hv; simp; omega
    · simp
 have hf1 : Fr w0 V0 T0 (w.alloc (.cells cells T)) V' := (hf.alloc h.vis _).vis (fun g o => .inl) (fun g o hv => by
  rcases hv with hv | ⟨rfl,_⟩
  · exact .inl hv
  · exact .inr (.inl hf.size))
 have hlen := hv.length
 have hrow : RowP (w.alloc (.cells cells T)) V' (E.P.cellsOf T) w.heap.size 0 es := by
  refine row_of_vals (hv.keep hkeep) (fun j hj => .inr ⟨rfl,by rw [hlen] at hj; omega⟩) (fun j x hj => ?_)
  rw [Nat.zero_add,box_cell alloc_new]
  exact hc j x hj
 refine sim_own hd h1 hf1 hl hQ hn hn' hdst (.ofS hTm (.inr ⟨w.heap.size,cap,cells,rfl,hcap,alloc_new,hsz,hpos,hrow⟩)) (fun k g hk hg => ?_)
 simp only [ownBlock] at hg
 injection hg with hg
 subst hg
 refine ⟨fun b hb => by have := box_lt h hb; omega,fun o hv => ?_,fun p' T' n' es' x' _ hp hx hg => by have := own_lt h hp hx hg; omega,.inr hf.size⟩
 rcases hv with hv | ⟨_,ho⟩
 · have := h.vis _ _ hv; omega
 · exact ho
theorem SRel.drew (h : SRel E.P Q s a w V μ γ) : SRel E.P Q s a w.drew V μ γ :=
 h.world (fun g o hv => ⟨hv,.of rfl⟩) (fun _ _ _ => rfl) (fun _ _ _ _ _ _ _ _ _ => rfl) (fun _ _ hv => .inl hv) h.vis
theorem sim_append (hd : a.defers = []) (h : SRel E.P Q s a w V μ γ) (hf : Fr w0 V0 T0 w V) (hl : Loc w0 T0 s μ γ) (hQ : QLe Q Q') {n : Nat} (hn : ¬ Q n) (hn' : Q' n) {o : Oper} (hdst : ∀ k,o.dst = some k → k < a.tmps.size)
 {x y : Operand} {ats : Array TypeId} (ho : o.op = .call { callee := .builtin .append,args := #[x,y],argTypes := ats }) {s' : St}
 (hs : (((ats[0]?).bind (telem E.P)).bind fun T => (rd s y).bind fun v => (newsF E (ats[1]?) v).bind fun news => (ownerF s T x).bind fun r =>
   if r.1.length + news.length ≤ appMax ∧ esOK (tsize E.P T) news = true ∧ E.P.bytesOf T ≤ 32768 ∧ tzero E.P T = some (tsize E.P T) ∧ (r.2.2 && news.isEmpty) = false ∧ (r.2.2 && !esOK (tsize E.P T) r.1) = false ∧ ats.size = 2 then
    some (r.2.1.putD o.dst (.own T n (r.1 ++ news))) else none) = some s') {X : Exit → Act → World → Prop} : o.wp E.P a w (Sim E.P w0 V0 T0 Q' s') X := by
 obtain ⟨T,hT,hs⟩ := bind_some hs
 obtain ⟨v,hv,hs⟩ := bind_some hs
 obtain ⟨news,hnews,hs⟩ := bind_some hs
 obtain ⟨⟨es,s1,fl⟩,how,hs⟩ := bind_some hs
 simp only at hs
 split at hs
 · rename_i hc
   obtain ⟨c1,c2,c3,c4,c5,c6,c7⟩ := hc
   injection hs with hs; subst hs
   obtain ⟨t,ht0,hte⟩ := bind_some hT
   unfold tsize at c2 c4 c6
   have hpos : 0 < E.P.cellsOf T := by unfold esOK at c2; simp only [Bool.and_eq_true,decide_eq_true_eq] at c2; exact c2.1
   obtain ⟨i,hi,hisz⟩ := info_of_cells (P := E.P) (t := T) (by omega)
   obtain ⟨z,hz0,hzs⟩ := map_some c4
   rw [hi,Option.bind_some] at hz0
   have hby : i.bytes ≤ 32768 := by unfold Program.bytesOf at c3; rw [hi] at c3; simpa using c3
   obtain ⟨t2,d,ht2,hud,hnd,hlen,nvs,hnv,hnf⟩ := news_cases h hv hnews c2
   have hTm := telem_ne hte
   obtain ⟨h1,hl1,hcase⟩ := owner_cases h hl hTm how
   have hats : ats = #[t,t2] := by
    apply Array.ext_getElem?
    intro j
    match j with
    | 0 => simpa using ht0
    | 1 => simpa using ht2
    | j + 2 => simp [Array.getElem?_eq_none (xs := ats) (i := j + 2) (by omega)]
   unfold appMax at c1
   have hexec : ∀ r w',(Builtin.append_ #[t,t2] o.type #[a.eval x,a.eval y]).run E.P w = .ok r w' → (execOp a.eval o).run E.P w = .ok (.value r) w' := by
    intro r w' hr
    simp [execOp,ho,hats,resolve,invoke,builtin,hr]
   have hfit : ∀ c,c < es.length + news.length → Builtin.nextslicecap (es.length + news.length) c * i.bytes ≤ 281474976710656 := fun c hc =>
    growslice_fits hc (Nat.le_trans (Nat.mul_le_mul c1 hby) (by decide))
   have hsize : (w.drew).heap = w.heap := rfl
   -- a new array
   have grow : ∀ A c vs,a.eval x = .slice A es.length c → c < es.length + news.length → RowV w V (E.P.cellsOf T) es vs → (∀ w2 : World,w2.heap = w.heap → (Builtin.firstCells (E.P.cellsOf T) es.length (.slice A es.length c)).run E.P w2 = .ok vs.toArray w2) →
    o.wp E.P a w (Sim E.P w0 V0 T0 Q' (s1.putD o.dst (.own T n (es ++ news)))) X := by
    intro A c vs hx hlt hvs hfc
    have hr := run_append_grow' (P := E.P) (w := w) (ty := o.type) (telem_some hte) hud hnd hi hz0 (A := A) (sLen := es.length) (sCap := c) (m := news.length) (x := a.eval y) (olds := vs) (news := nvs) hlen
     (by rw [hisz]; exact hfc _ rfl) (by rw [hisz]; exact hnf _ rfl) hlt (by omega) (hfit c hlt)
    rw [← hx] at hr
    refine wp_val (hexec _ _ hr) ?_
    have hge := grownCap_ge' w (es.length + news.length) c T
    have hlv := hvs.length
    have hln := hnv.length
    have := sim_row (T := T) (es := es ++ news) (vs := vs ++ nvs) (cap := grownCap w (es.length + news.length) c T) hd h1.drew hf.drew hl1 hQ hn hn' hdst hTm hpos (RowV.keep (w := w) (V := V) (w' := w.drew) (V' := V) (fun g o hv => ⟨hv,.of rfl⟩) (hvs.append hnv)) (cells := (vs.toArray ++ nvs.toArray ++ Builtin.zeroCells z.cells (grownCap w (es.length + news.length) c T - (es.length + news.length)))) (fun j u hj => ?_) ?_ (by rw [List.length_append]; exact hge)
    · rw [List.length_append] at this
      exact this
    · have hlt2 : j < (vs ++ nvs).length := (List.getElem?_eq_some_iff.1 hj).1
      rw [Array.getElem?_append_left (by simpa using hlt2)]
      simpa using hj
    · simp only [Array.size_append,List.size_toArray,hlv,hln]
      rw [show (Builtin.zeroCells z.cells (grownCap w (es.length + news.length) c T - (es.length + news.length))).size = (grownCap w (es.length + news.length) c T - (es.length + news.length)) * z.cells.size by simp [Builtin.zeroCells],hzs,← Nat.add_mul,← Nat.add_mul]
      congr 1; omega
   rcases hcase with ⟨rfl,hr1,A,hx⟩ | ⟨rfl,hown,hblk⟩
   · simp only [Bool.true_and,Bool.not_eq_false'] at c5 c6
     obtain ⟨vs,hvs,hfc⟩ := full_vals (E := E) (T := T) hr1 hx c6
     have hne : 0 < news.length := by
      cases news with
      | nil => simp at c5
      | cons _ _ => simp
     exact grow A es.length vs hx (by omega) hvs hfc
   · obtain ⟨A,c,hx,hcap,vs,hvs,hfc⟩ := own_vals hTm hown
     by_cases hroom : es.length + news.length ≤ c
     · rcases hown.toS hTm with ⟨rfl,hxn⟩ | ⟨g,c',cur,hxr,_,hheap,hcsz,_,hrow⟩
       · rw [hxn] at hx
         injection hx with e1 e2 e3
         subst e3; subst e1
         have hnil : news = [] := List.eq_nil_of_length_eq_zero (by simp only [List.length_nil] at hroom; omega)
         subst hnil
         have hr := run_append_room' (P := E.P) (w := w) (w' := w) (ty := o.type) (telem_some hte) hud hnd hi (A := none) (sLen := 0) (sCap := 0) (m := 0) (x := a.eval y) (news := nvs) hlen
          (by rw [hisz]; exact hnf _ rfl) (by omega) (fun _ e => by cases e) (fun _ => rfl)
         rw [← hxn] at hr
         refine wp_val (hexec _ _ hr) ?_
         rw [hxn]
         exact sim_own hd h1 hf hl1 hQ hn hn' hdst (.nil hTm) (fun k g _ hg => by cases hg)
       · rw [hxr] at hx
         injection hx with e1 e2 e3
         subst e3; subst e1
         have hln := hnv.length
         obtain ⟨w',cur',hst,hob,hheap',hsz',hcur'⟩ := run_storeCells (P := E.P) (g := g) (o := es.length * E.P.cellsOf T) nvs 0 w cur hheap hnv.one (by
          rw [hcsz,hln,Nat.add_zero,← Nat.add_mul]; exact Nat.mul_le_mul_right _ hroom)
         have hr := run_append_room' (P := E.P) (w := w) (w' := w') (ty := o.type) (telem_some hte) hud hnd hi (A := some ⟨g,0,none⟩) (sLen := es.length) (sCap := c') (m := news.length) (x := a.eval y) (news := nvs) hlen
          (by rw [hisz]; exact hnf _ rfl) hroom (fun ad e => by injection e with e; subst e; rw [addr_add,hisz,Nat.zero_add]; exact hst) (fun e => by cases e)
         rw [← hxr] at hr
         refine wp_val (hexec _ _ hr) ?_
         have hob1 := hblk g (by rw [hxr]; rfl)
         obtain ⟨b1,b2,b3,b4⟩ := hob1
         let V' : Vis := fun g' o => V g' o ∨ (g' = g ∧ o < (es ++ news).length * E.P.cellsOf T)
         have hk0 : Keeps w V w' V := by
          intro g' p hv
          refine ⟨hv,?_⟩
          by_cases hg' : g' = g
          · subst hg'
            have := b2 p hv
            refine ⟨?_,fun e c hm => by rw [hheap] at hm; cases hm⟩
            rw [box_cell hheap,box_cell hheap',hcur']
            have hni : ¬ (es.length * E.P.cellsOf T + 0 ≤ p ∧ p < es.length * E.P.cellsOf T + 0 + nvs.length) := by omega
            simp only [hni,if_false]
          · exact .of (hob.other g' hg')
         have hkeep : Keeps w V w' V' := fun g' p hv => ⟨.inl hv,(hk0 g' p hv).2⟩
         have hlt : g < w.heap.size := (Array.getElem?_eq_some_iff.1 hheap).1
         have h2 : SRel E.P Q s1 a w' V' μ γ := by
          refine h1.world hkeep (fun b g' hb => hob.other g' (fun e => b1 b (e ▸ hb))) (fun p T' n' es' x' g' hp hx' hg' => hob.other g' (fun e => b3 p T' n' es' x' hp hx' (e ▸ hg'))) (fun g' p hv => ?_) (fun g' p hv => ?_)
          · rcases hv with hv | ⟨rfl,_⟩
            · exact .inl hv
            · exact .inr ⟨b1,b3⟩
          · rw [hob.size]
            rcases hv with hv | ⟨rfl,_⟩
            · exact h1.vis g' p hv
            · exact hlt
         have hf2 : Fr w0 V0 T0 w' V' := (hf.only b4 hob hk0).vis (fun _ _ => .inl) (fun g' p hv => by
          rcases hv with hv | ⟨rfl,_⟩
          · exact .inl hv
          · exact .inr b4.symm)
         have hrow2 : RowP w' V' (E.P.cellsOf T) g 0 (es ++ news) := by
          refine row_append (hrow.keep hkeep) ?_
          rw [Nat.zero_add]
          refine row_of_vals (hnv.keep hkeep) (fun j hj => .inr ⟨rfl,by rw [List.length_append,Nat.add_mul]; omega⟩) (fun j u hj => ?_)
          rw [box_cell hheap',hcur']
          have hjl : j < nvs.length := (List.getElem?_eq_some_iff.1 hj).1
          have hin : es.length * E.P.cellsOf T + 0 ≤ es.length * E.P.cellsOf T + j ∧ es.length * E.P.cellsOf T + j < es.length * E.P.cellsOf T + 0 + nvs.length := by omega
          simp only [hin,and_self,if_true]
          rw [show es.length * E.P.cellsOf T + j - (es.length * E.P.cellsOf T + 0) = j by omega]; exact hj
         have hrep : OwnRep E.P w' V' T (es ++ news) (.slice (some ⟨g,0,none⟩) (es.length + news.length) c') :=
          .ofS hTm (.inr ⟨g,c',cur',by rw [List.length_append],by rw [List.length_append]; exact hroom,hheap',by rw [hsz',hcsz],hpos,hrow2⟩)
         refine sim_own hd h2 hf2 hl1 hQ hn hn' hdst hrep (fun k g' _ hg' => ?_)
         simp only [ownBlock] at hg'
         injection hg' with hg'
         subst hg'
         refine ⟨b1,fun p hv => ?_,fun p' T' n' es' x' _ hp hx' => b3 p' T' n' es' x' hp hx',b4⟩
         rcases hv with hv | ⟨_,hlt'⟩
         · have := b2 p hv
           rw [List.length_append,Nat.add_mul]; omega
         · exact hlt'
     · exact grow A c vs hx (by omega) hvs hfc
 · cases hs
end
end Go.Av
namespace Go.Av
def writeAt (cells : Array Value) (off : Nat) (vs : Array Value) : Array Value := vs.zipIdx.foldl (fun cs (c,j) => cs.setIfInBounds (off + j) c) cells
theorem write_list (off : Nat) : ∀ (vs : List Value) (k : Nat) (cells : Array Value),((vs.zipIdx k).foldl (fun cs (c,j) => cs.setIfInBounds (off + j) c) cells).size = cells.size ∧
 (off + k + vs.length ≤ cells.size → ∀ i,((vs.zipIdx k).foldl (fun cs (c,j) => cs.setIfInBounds (off + j) c) cells)[i]? = if off + k ≤ i ∧ i < off + k + vs.length then vs[i - (off + k)]? else cells[i]?)
 | [],k,cells => ⟨rfl,fun _ i => by
  have : ¬ (off + k ≤ i ∧ i < off + k + 0) := by omega
  simp only [List.zipIdx_nil,List.foldl_nil,List.length_nil,this,if_false]⟩
 | v :: vs,k,cells => by
  obtain ⟨h1,h2⟩ := write_list off vs (k + 1) (cells.setIfInBounds (off + k) v)
  simp only [List.zipIdx_cons,List.foldl_cons,List.length_cons]
  refine ⟨h1.trans (by simp),fun hle i => ?_⟩
  rw [h2 (by simp; omega) i]
  by_cases hi : i = off + k
  · subst hi
    have e1 : ¬ (off + (k + 1) ≤ off + k ∧ off + k < off + (k + 1) + vs.length) := by omega
    have e2 : off + k ≤ off + k ∧ off + k < off + k + (vs.length + 1) := by omega
    simp only [e1,if_false,e2,and_self,if_true,Nat.sub_self,List.getElem?_cons_zero]
    rw [Array.getElem?_setIfInBounds_self_of_lt (by omega)]
  · rw [Array.getElem?_setIfInBounds_ne (Ne.symm hi)]
    by_cases h3 : off + (k + 1) ≤ i ∧ i < off + (k + 1) + vs.length
    · have e2 : off + k ≤ i ∧ i < off + k + (vs.length + 1) := by omega
      simp only [h3,and_self,if_true,e2]
      rw [show i - (off + k) = (i - (off + (k + 1))) + 1 by omega,List.getElem?_cons_succ]
    · have e2 : ¬ (off + k ≤ i ∧ i < off + k + (vs.length + 1)) := by omega
      simp only [h3,if_false,e2]
theorem write_size (cells : Array Value) (off : Nat) (vs : Array Value) : (writeAt cells off vs).size = cells.size := by
 have := (write_list off vs.toList 0 cells).1
 unfold writeAt
 rw [← Array.foldl_toList,Array.toList_zipIdx]
 exact this
theorem write_get {cells : Array Value} {off : Nat} {vs : Array Value} (h : off + vs.size ≤ cells.size) (i : Nat) : (writeAt cells off vs)[i]? = if off ≤ i ∧ i < off + vs.size then vs[i - off]? else cells[i]? := by
 have := (write_list off vs.toList 0 cells).2 (by simpa using h) i
 unfold writeAt
 rw [← Array.foldl_toList,Array.toList_zipIdx]
 simpa using this
theorem fill_cons {place : Nat → Option (Nat × Nat)} {cells : Array Value} {i : Nat} {v : Value} {rest : List (Nat × Value)} {off size : Nat} (hp : place i = some (off,size)) (hs : v.cells.size = size) (hle : off + v.cells.size ≤ cells.size) :
 Instr.fill place cells ((i,v) :: rest) = Instr.fill place (writeAt cells off v.cells) rest := by
 have h1 : (decide (v.cells.size ≠ size) || decide (off + v.cells.size > cells.size)) = false := by simp; omega
 simp only [Instr.fill,hp]
 first
 | (rw [if_neg (by simp; omega)]; rfl)
 | (simp only [bne,h1]; rfl)
section
variable {E : Env} {w0 : World} {V0 : Vis} {T0 : Tch} {Q Q' : Nat → Prop} {s : St} {a : Act} {w w' : World} {V V' : Vis} {μ μ' : BMap} {γ γ' : GMap}
theorem part_cells {v : AVal} {y : Value} (hr : RepR w V μ v y) (hn : noTup v = true) : All2 (Rep1 w V μ) ((cellsOf v).map strip1) y.cells.toList := by
 by_cases hown : ∃ T n es,v = .own T n es
 · obtain ⟨T,n,es,rfl⟩ := hown
   by_cases hT : T = mapT
   · rcases hr.1 hT with ⟨g,rfl⟩ | ⟨A,l,c,rfl⟩
     · refine ⟨?_,trivial⟩
       rw [strip1_own,if_pos hT]; exact .inl ⟨g,rfl⟩
     · refine ⟨?_,trivial⟩
       rw [strip1_own,if_pos hT]; exact .inr ⟨A,l,c,rfl⟩
   · have h1 := hr.2 hT
     rw [slice_cells h1]
     refine ⟨?_,trivial⟩
     rw [strip1_own,if_neg hT]; exact h1
 · have h1 := cells_rep hr hn (fun T n es e => hown ⟨T,n,es,e⟩)
   have h2 : (cellsOf v).map strip1 = (cellsS v).map strip1 := by
    cases v <;> first | rfl | exact absurd ⟨_,_,_,rfl⟩ hown
   rw [h2]
   exact All2.map_left (f := Av.strip1) (fun _ _ => Rep1.strip1) h1
theorem splice_rep {cs xs : List AVal} {cells vs : Array Value} {off : Nat} (h : All2 (Rep1 w V μ) cs cells.toList) (hx : All2 (Rep1 w V μ) xs vs.toList) (hle : off + xs.length ≤ cs.length) :
 All2 (Rep1 w V μ) (splice cs off xs) (writeAt cells off vs).toList := by
 have hl := h.length
 have hxl := hx.length
 simp only [Array.length_toList] at hl hxl
 refine All2.of_get (by rw [splice_length hle]; simp only [Array.length_toList,write_size]; exact hl) fun i c hi => ?_
 rw [splice_get hle] at hi
 simp only [Array.getElem?_toList]
 rw [write_get (by omega),← hxl]
 by_cases h1 : off ≤ i ∧ i < off + xs.length
 · simp only [h1,and_self,if_true] at hi ⊢
   obtain ⟨x,h2,h3⟩ := hx.get hi
   exact ⟨x,by simpa using h2,h3⟩
 · simp only [h1,if_false] at hi ⊢
   obtain ⟨x,h2,h3⟩ := h.get hi
   exact ⟨x,by simpa using h2,h3⟩
theorem fill_rep (h : SRel E.P Q s a w V μ γ) {T : TypeId} {place : Nat → Option (Nat × Nat)} (hu : ∀ i f,tplace E.P T i = some f → place i = some f) : ∀ {ps : List (Nat × Operand)} {cs cs' : List AVal} {cells : Array Value},fillF E T s cs ps = some cs' →
 All2 (Rep1 w V μ) cs cells.toList → ∃ cells',Instr.fill place cells (ps.map fun (i,x) => (i,a.eval x)) = some cells' ∧ All2 (Rep1 w V μ) cs' cells'.toList
 | [],cs,cs',cells,hf,hc => by
  simp only [fillF] at hf; injection hf with hf; subst hf
  exact ⟨cells,rfl,hc⟩
 | (i,x) :: ps,cs,cs',cells,hf,hc => by
  simp only [fillF] at hf
  obtain ⟨v,h1,hf⟩ := bind_some hf
  obtain ⟨f,h2,hf⟩ := bind_some hf
  split at hf
  · rename_i hcnd
    obtain ⟨c1,c2,c3⟩ := hcnd
    have hp := part_cells (h.rd h1) c3
    have hpl := hp.length
    simp only [List.length_map,Array.length_toList] at hpl
    have hcl := hc.length
    simp only [Array.length_toList] at hcl
    try simp only at c1 c2 hf
    have hsp := splice_rep (off := f.1) hc hp (by rw [List.length_map]; omega)
    obtain ⟨cells',h5,h6⟩ := fill_rep h hu hf hsp
    refine ⟨cells',?_,h6⟩
    rw [List.map_cons,fill_cons (off := f.1) (size := f.2)]
    · exact h5
    · exact hu i f h2
    · rw [← hpl]; exact c1
    · omega
  · cases hf
theorem mapM_places {P : Program} : ∀ (fs : List Field),(∀ f ∈ fs,∃ i,P.info? f.type = some i ∧ i.size = P.cellsOf f.type) →
 ((fs.mapM fun f => do pure (f.offset,← Go.sizeOf f.type) : Sem (List (Nat × Nat)))).run P w = .ok (fs.map fun f => (f.offset,P.cellsOf f.type)) w
 | [],_ => by simp
 | f :: fs,h => by
  have h1 := run_sizeOf_info (w := w) (h f (by simp))
  have h2 := mapM_places fs (fun g hg => h g (by simp [hg]))
  simp only [List.mapM_cons,Sem.run_bind,h1,h2,Result.andThen_ok,Sem.run_pure,List.map_cons]
theorem sim_build (hd : a.defers = []) (h : SRel E.P Q s a w V μ γ) (hf : Fr w0 V0 T0 w V) (hl : Loc w0 T0 s μ γ) (hQ : QLe Q Q') {o : Oper} (hdst : ∀ k,o.dst = some k → k < a.tmps.size)
 {T : TypeId} {ps : Array (Nat × Operand)} (ho : o.op = .build T ps) {s' : St} (hs : ((zeroA E.P T).bind fun cs => (fillF E T s cs ps.toList).bind fun cs => if fieldsOK E.P T then some (s.putD o.dst (.agg cs)) else none) = some s') {X : Exit → Act → World → Prop} :
 o.wp E.P a w (Sim E.P w0 V0 T0 Q' s') X := by
 obtain ⟨cs,h1,hs⟩ := bind_some hs
 obtain ⟨cs',h2,hs⟩ := bind_some hs
 split at hs
 · rename_i hok
   injection hs with hs; subst hs
   obtain ⟨z,i,hi,hz,hrep⟩ := zeroA_rep (w := w) (V := V) (μ := μ) h1
   have h5 : (ps.map fun (i,x) => (i,a.eval x)).toList = ps.toList.map fun (i,x) => (i,a.eval x) := by simp
   unfold fieldsOK at hok
   split at hok
   · rename_i fs hu
     obtain ⟨cells',h3,h4⟩ := fill_rep (place := ((fs.map fun f => (f.offset,E.P.cellsOf f.type))[·]?)) h (by
      intro i f hp
      unfold tplace at hp
      rw [hu] at hp
      obtain ⟨fd,h6,h7⟩ := map_some hp
      simp [h6,h7]) h2 hrep
     have hpl : ((fs.mapM fun f => do pure (f.offset,← Go.sizeOf f.type) : Sem (Array (Nat × Nat)))).run E.P w = .ok (fs.map fun f => (f.offset,E.P.cellsOf f.type)) w := by
      rw [Array.mapM_eq_mapM_toList]
      have := mapM_places (P := E.P) (w := w) fs.toList (fun f hf => by
       have := List.all_eq_true.1 hok f hf
       obtain ⟨j,hj⟩ := Option.isSome_iff_exists.1 this
       exact ⟨j,hj,by unfold Program.cellsOf; rw [hj]; rfl⟩)
      simp only [Sem.run_map,this,Result.andThen_ok]
      congr 1
      apply Array.ext'
      simp
     refine sim_calc hd h hf hl hQ hdst rfl (v := .agg cs') (x := .agg cells') ⟨_,rfl,h4⟩ ?_
     simp only [execOp,ho,Instr.build,Sem.run_bind,zeroValue,typeInfo,Sem.run_pure,run_program,Result.andThen_ok,hi,hz,run_underlying' hu]
     simp only [hpl,Result.andThen_ok,h5,h3,Sem.run_pure]
   · rename_i n e hu
     obtain ⟨cells',h3,h4⟩ := fill_rep (place := fun i => some (i * E.P.cellsOf e,E.P.cellsOf e)) h (by
      intro i f hp
      unfold tplace at hp
      rw [hu] at hp
      exact hp) h2 hrep
     obtain ⟨j,hj⟩ := Option.isSome_iff_exists.1 hok
     have hsz := run_sizeOf_info (w := w) ⟨j,hj,(by unfold Program.cellsOf; rw [hj]; rfl : j.size = E.P.cellsOf e)⟩
     refine sim_calc hd h hf hl hQ hdst rfl (v := .agg cs') (x := .agg cells') ⟨_,rfl,h4⟩ ?_
     simp only [execOp,ho,Instr.build,Sem.run_bind,zeroValue,typeInfo,Sem.run_pure,run_program,Result.andThen_ok,hi,hz,run_underlying' hu]
     simp only [hsz,Result.andThen_ok,h5,h3,Sem.run_pure]
   · cases hok
 · cases hs
end
end Go.Av
namespace Go.Av
section
variable {E : Env} {w0 : World} {V0 : Vis} {T0 : Tch} {Q Q' : Nat → Prop} {s : St} {a : Act} {w w' : World} {V V' : Vis} {μ μ' : BMap} {γ γ' : GMap}
theorem pure_rep {c : AVal} {y : Value} (h : Rep1 w V μ c y) (hp : pure1 c = true) : RepP w V c y := by
 cases c <;> first | (cases hp; done) | exact h
theorem cells_own {T : TypeId} {n : Nat} {es : List AVal} : cellsOf (strip2 (.own T n es)) = (cellsOf (.own T n es)).map strip1 := by
 show cellsOf (strip1 (.own T n es)) = [strip1 (.own T n es)]
 rw [strip1_own]
 by_cases hT : T = mapT
 · rw [if_pos hT]; rfl
 · rw [if_neg hT]; rfl
theorem pure_cells {v : AVal} {y : Value} (hr : RepR w V μ v y) (hp : pureE (strip2 v) = true) : All2 (RepP w V) (cellsOf (strip2 v)) y.cells.toList := by
 have hn : noTup v = true := by cases v <;> first | rfl | cases hp
 have h1 := part_cells hr hn
 have h2 : cellsOf (strip2 v) = (cellsOf v).map strip1 := by cases v <;> first | rfl | exact cells_own
 rw [h2]
 have h3 : ∀ c ∈ (cellsOf v).map strip1,pure1 c = true := by
  rw [← h2]
  revert hp
  generalize strip2 v = u
  intro hp
  cases u <;> first
   | (intro c hc; simp only [cellsOf,List.mem_singleton] at hc; subst hc; exact hp)
   | exact fun c hc => List.all_eq_true.1 hp c hc
 refine All2.of_get h1.length fun i c hc => ?_
 obtain ⟨b,hb,hr⟩ := h1.get hc
 exact ⟨b,hb,pure_rep hr (h3 c (List.mem_of_getElem? hc))⟩
theorem fill_row (h : SRel E.P Q s a w V μ γ) {size : Nat} : ∀ {ps : List (Nat × Operand)} {j : Nat} {es : List AVal} {cells : Array Value},elemsF s size j ps = some es → (j + es.length) * size ≤ cells.size →
 ∃ cells' vs,Instr.fill (fun i => some (i * size,size)) cells (ps.map fun (i,x) => (i,a.eval x)) = some cells' ∧ cells'.size = cells.size ∧ RowV w V size es vs ∧
  (∀ i,i < j * size → cells'[i]? = cells[i]?) ∧ ∀ i x,vs[i]? = some x → cells'[j * size + i]? = some x
 | [],j,es,cells,he,hle => by
  simp only [elemsF] at he; injection he with he; subst he
  exact ⟨cells,[],rfl,rfl,rfl,fun _ _ => rfl,by simp⟩
 | (i,x) :: ps,j,es,cells,he,hle => by
  simp only [elemsF] at he
  split at he
  · rename_i hij; subst hij
    obtain ⟨v,h1,he⟩ := bind_some he
    split at he
    · rename_i hc
      obtain ⟨c1,c2⟩ := hc
      obtain ⟨es',h2,rfl⟩ := map_some he
      have hp := pure_cells (h.rd h1) c1
      have hl := hp.length
      simp only [Array.length_toList] at hl
      have hsz : (a.eval x).cells.size = size := by rw [← hl,c2]
      rw [List.length_cons] at hle
      have hle2 : (i + 1 + es'.length) * size ≤ cells.size := by rw [show i + 1 + es'.length = i + (es'.length + 1) by omega]; exact hle
      have hle3 : i * size + size ≤ cells.size := by
       refine Nat.le_trans ?_ hle2
       rw [← Nat.succ_mul]; exact Nat.mul_le_mul_right _ (by omega)
      obtain ⟨cells',vs,h3,h4,h5,h6,h7⟩ := fill_row h (cells := writeAt cells (i * size) (a.eval x).cells) h2 (by rw [write_size]; exact hle2)
      have hw : ∀ k,(writeAt cells (i * size) (a.eval x).cells)[k]? = if i * size ≤ k ∧ k < i * size + (a.eval x).cells.size then (a.eval x).cells[k - i * size]? else cells[k]? := write_get (by omega)
      refine ⟨cells',(a.eval x).cells.toList ++ vs,?_,by rw [h4,write_size],⟨c2,_,_,rfl,hp,h5⟩,fun k hk => ?_,fun k y hk => ?_⟩
      · rw [List.map_cons,fill_cons (off := i * size) (size := size) rfl hsz (by omega)]; exact h3
      · rw [h6 k (by rw [Nat.succ_mul]; omega),hw k]
        have : ¬ (i * size ≤ k ∧ k < i * size + (a.eval x).cells.size) := by omega
        simp only [this,if_false]
      · by_cases hlt : k < size
        · rw [List.getElem?_append_left (by simp; omega)] at hk
          rw [h6 _ (by rw [Nat.succ_mul]; omega),hw]
          have : i * size ≤ i * size + k ∧ i * size + k < i * size + (a.eval x).cells.size := by omega
          simp only [this,and_self,if_true]
          rw [Nat.add_sub_cancel_left]
          simpa using hk
        · rw [List.getElem?_append_right (by simp; omega)] at hk
          simp only [Array.length_toList,hsz] at hk
          have := h7 _ _ hk
          rw [Nat.succ_mul] at this
          rw [← this]; congr 1; omega
    · cases he
  · cases he
theorem sim_buildSlice (hd : a.defers = []) (h : SRel E.P Q s a w V μ γ) (hf : Fr w0 V0 T0 w V) (hl : Loc w0 T0 s μ γ) (hQ : QLe Q Q') {n : Nat} (hn : ¬ Q n) (hn' : Q' n) {o : Oper} (hdst : ∀ k,o.dst = some k → k < a.tmps.size)
 {T : TypeId} {m : Nat} {ps : Array (Nat × Operand)} (ho : o.op = .buildSlice T m ps) {s' : St} (hs : ((telem E.P T).bind fun e => (elemsF s (tsize E.P e) 0 ps.toList).bind fun es =>
  if es.length = m ∧ 0 < tsize E.P e ∧ m * tsize E.P e ≤ 16777216 ∧ (tzero E.P e).isSome = true then some (s.putD o.dst (.own e n es)) else none) = some s') {X : Exit → Act → World → Prop} :
 o.wp E.P a w (Sim E.P w0 V0 T0 Q' s') X := by
 obtain ⟨e,hT,hs⟩ := bind_some hs
 obtain ⟨es,he,hs⟩ := bind_some hs
 split at hs
 · rename_i hc
   obtain ⟨c1,c2,c3,c4⟩ := hc
   injection hs with hs; subst hs
   unfold tsize at c2 c3 he
   obtain ⟨i,hi,hisz⟩ := info_of_cells (P := E.P) (t := e) (by omega)
   obtain ⟨zn,hzn⟩ := Option.isSome_iff_exists.1 c4
   obtain ⟨z,hz0,_⟩ := map_some hzn
   rw [hi,Option.bind_some] at hz0
   obtain ⟨cells',vs,h1,h2,h3,_,h4⟩ := fill_row h (cells := (Array.range (m * E.P.cellsOf e)).map ((if m * E.P.cellsOf e = 0 then #[] else z.cells)[· % (if m * E.P.cellsOf e = 0 then #[] else z.cells).size]!)) he (by rw [c1]; simp)
   have h5 : (ps.map fun (i,x) => (i,a.eval x)).toList = ps.toList.map fun (i,x) => (i,a.eval x) := by simp
   have hrun : (execOp a.eval o).run E.P w = .ok (.value (.slice (some ⟨w.heap.size,0,none⟩) es.length m)) (w.alloc (.cells cells' e)) := by
    have h9 : ¬ (m * E.P.cellsOf e > 2 ^ 24) := by omega
    simp only [execOp,ho,Instr.buildSlice,Sem.run_bind,run_underlying' (telem_some hT),Result.andThen_ok,Go.sizeOf,typeInfo,run_program,hi,Sem.run_pure,hisz,h9,if_false,h5]
    by_cases h0 : m * E.P.cellsOf e = 0
    · simp only [h0,if_true] at h1
      simp only [h0,if_true,Sem.run_bind,Sem.run_pure,Result.andThen_ok]
      rw [h1]
      simp [newRow,c1]
    · simp only [h0,if_false] at h1
      simp only [h0,if_false,Sem.run_bind,Sem.run_pure,Result.andThen_ok,zeroValue,typeInfo,run_program,hi,hz0]
      rw [h1]
      simp [newRow,c1]
   refine wp_val hrun ?_
   refine sim_row (cells := cells') hd h hf hl hQ hn hn' hdst (telem_ne hT) c2 h3 (fun j x hj => ?_) ?_ (by omega)
   · simpa using h4 j x hj
   · rw [h2]; simp
 · cases hs
end
end Go.Av
namespace Go.Av
theorem All2.map_mem {α β γ : Type} {R : α → β → Prop} {R' : γ → β → Prop} {f : α → γ} : ∀ {l : List α} {m : List β},(∀ a ∈ l,∀ b,R a b → R' (f a) b) → All2 R l m → All2 R' (l.map f) m
 | [],[],_,_ => trivial
 | _ :: _,_ :: _,h,hr => ⟨h _ (by simp) _ hr.1,All2.map_mem (fun a ha => h a (by simp [ha])) hr.2⟩
 | [],_ :: _,_,hr => hr.elim
 | _ :: _,[],_,hr => hr.elim
section
variable {P : Program} {w w' : World} {V V' : Vis} {μ μ' : BMap} {γ γ' : GMap} {ρ : BName → BName}
theorem Rep0.ren {c : AVal} {x : Value} (hρ : ∀ b ∈ names0 c,∀ g,μ b = some g → μ' (ρ b) = some g) (h : Rep0 w V μ c x) : Rep0 w V μ' (ren0 ρ c) x := by
 cases c with
 | ptr b off => obtain ⟨g,h1,h2⟩ := h; exact ⟨g,hρ b (by simp [names0]) g h1,h2⟩
 | _ => exact h
theorem Rep1.ren {c : AVal} {x : Value} (hρ : ∀ b ∈ names1 c,∀ g,μ b = some g → μ' (ρ b) = some g) (h : Rep1 w V μ c x) : Rep1 w V μ' (ren1 ρ c) x := by
 cases c with
 | ptr b off => obtain ⟨g,h1,h2⟩ := h; exact ⟨g,hρ b (by simp [names1]) g h1,h2⟩
 | func f a c =>
  obtain ⟨u,z,h1,h2,h3⟩ := h
  simp only [names1,List.flatMap_append,List.mem_append,List.mem_flatMap] at hρ
  exact ⟨u,z,h1,All2.map_mem (fun a ha b => Rep0.ren fun n hn => hρ n (.inl ⟨a,ha,hn⟩)) h2,All2.map_mem (fun a ha b => Rep0.ren fun n hn => hρ n (.inr ⟨a,ha,hn⟩)) h3⟩
 | _ => exact h
theorem Rep2.ren {c : AVal} {x : Value} (hρ : ∀ b ∈ names2 c,∀ g,μ b = some g → μ' (ρ b) = some g) (h : Rep2 w V μ c x) : Rep2 w V μ' (ren2 ρ c) x := by
 cases c with
 | agg cs =>
  obtain ⟨z,h1,h2⟩ := h
  simp only [names2,List.mem_flatMap] at hρ
  exact ⟨z,h1,All2.map_mem (fun a ha b => Rep1.ren fun n hn => hρ n ⟨a,ha,hn⟩) h2⟩
 | ptr b o => exact Rep1.ren (w := w) (V := V) (c := .ptr b o) hρ h
 | func f x y => exact Rep1.ren (w := w) (V := V) (c := .func f x y) hρ h
 | _ => exact h
theorem Rep3.ren {c : AVal} {x : Value} (hρ : ∀ b ∈ names c,∀ g,μ b = some g → μ' (ρ b) = some g) (h : Rep3 w V μ c x) : Rep3 w V μ' (ren ρ c) x := by
 cases c with
 | tup cs =>
  obtain ⟨z,h1,h2⟩ := h
  simp only [names,List.mem_flatMap] at hρ
  exact ⟨z,h1,All2.map_mem (fun a ha b => Rep2.ren fun n hn => hρ n ⟨a,ha,hn⟩) h2⟩
 | agg cs => exact Rep2.ren (w := w) (V := V) (c := .agg cs) hρ h
 | ptr b o => exact Rep2.ren (w := w) (V := V) (c := .ptr b o) hρ h
 | func f x y => exact Rep2.ren (w := w) (V := V) (c := .func f x y) hρ h
 | _ => exact h
theorem map_id_mem {α : Type} {f : α → α} : ∀ {l : List α},(∀ a ∈ l,f a = a) → l.map f = l
 | [],_ => rfl
 | a :: l,h => by rw [List.map_cons,h a (by simp),map_id_mem fun b hb => h b (by simp [hb])]
theorem ren0_id {c : AVal} (h : ∀ b ∈ names0 c,ρ b = b) : ren0 ρ c = c := by
 cases c with
 | ptr b off => simp only [ren0]; rw [h b (by simp [names0])]
 | _ => rfl
theorem ren1_id {c : AVal} (h : ∀ b ∈ names1 c,ρ b = b) : ren1 ρ c = c := by
 cases c with
 | ptr b off => simp only [ren1]; rw [h b (by simp [names1])]
 | func f a c =>
  simp only [names1,List.flatMap_append,List.mem_append,List.mem_flatMap] at h
  simp only [ren1]
  rw [map_id_mem fun a ha => ren0_id fun b hb => h b (.inl ⟨a,ha,hb⟩),map_id_mem fun a ha => ren0_id fun b hb => h b (.inr ⟨a,ha,hb⟩)]
 | _ => rfl
theorem ren2_id {c : AVal} (h : ∀ b ∈ names2 c,ρ b = b) : ren2 ρ c = c := by
 cases c with
 | agg cs => simp only [names2,List.mem_flatMap] at h; simp only [ren2]; rw [map_id_mem fun a ha => ren1_id fun b hb => h b ⟨a,ha,hb⟩]
 | ptr b o => exact ren1_id (c := .ptr b o) h
 | func f x y => exact ren1_id (c := .func f x y) h
 | _ => rfl
theorem ren_id {c : AVal} (h : ∀ b ∈ names c,ρ b = b) : ren ρ c = c := by
 cases c with
 | tup cs => simp only [names,List.mem_flatMap] at h; simp only [ren]; rw [map_id_mem fun a ha => ren2_id fun b hb => h b ⟨a,ha,hb⟩]
 | agg cs => exact ren2_id (c := .agg cs) h
 | ptr b o => exact ren2_id (c := .ptr b o) h
 | func f x y => exact ren2_id (c := .func f x y) h
 | _ => rfl
theorem ren_plain {c : AVal} : plainV (ren ρ c) = plainV c := by cases c <;> rfl
theorem Fr.trans {w0 : World} {V0 : Vis} {T0 Tc : Tch} (h : Fr w0 V0 T0 w V) (k : Fr w V Tc w' V') (hT : ∀ g,Tc g → T0 g ∨ w0.heap.size ≤ g) : Fr w0 V0 T0 w' V' where
 os := k.os.trans h.os
 tape := k.tape.trans h.tape
 output := k.output.trans h.output
 size := Nat.le_trans h.size k.size
 keep g hg ht := (k.keep g (Nat.lt_of_lt_of_le hg h.size) fun hc => (hT g hc).elim ht (fun h => by omega)).trans (h.keep g hg ht)
 vkeep := h.vkeep.trans k.vkeep
 vnew g o hv := by
  rcases k.vnew g o hv with h1 | h1 | h1
  · exact h.vnew g o h1
  · exact .inr (.inl (Nat.le_trans h.size h1))
  · rcases hT g h1 with h2 | h2
    · exact .inr (.inr h2)
    · exact .inr (.inl h2)
 sl := h.sl
end
def boxSt (H : Heap) : St := ⟨[],H,[],1⟩
def retSt (v : AVal) (H : Heap) : St := ⟨[(0,v)],H,[],1⟩
def old (n : Nat) : Prop := n < 1
def any (_ : Nat) : Prop := True
def BackO (P : Program) (w : World) (V : Vis) (T0 : Tch) (μ : BMap) (r : AVal × Heap) (v : Value) (w' : World) : Prop :=
 ∃ V' γ' a',a'.tmps = #[v] ∧ SRel P any (retSt r.1 r.2) a' w' V' μ γ' ∧ Fr w V T0 w' V' ∧ Loc w T0 (retSt r.1 r.2) μ γ' ∧ (plainV r.1 = true ∨ ∃ T n es,r.1 = .own T n es)
structure LocB (w0 : World) (T0 : Tch) (s : St) (μ : BMap) (γ : GMap) : Prop where
 box : ∀ b g,μ b = some g → T0 g ∨ w0.heap.size ≤ g
 own : ∀ p T n es x g,s.at p = some (.own T n es) → γ p n = some x → ownBlock x = some g → T0 g ∨ w0.heap.size ≤ g
def Back (P : Program) (w : World) (V : Vis) (T0 : Tch) (μ : BMap) (r : AVal × Heap) (v : Value) (w' : World) : Prop :=
 ∃ V' γ' a' μ',a'.tmps = #[v] ∧ BLe μ μ' ∧ SRel P any (retSt r.1 r.2) a' w' V' μ' γ' ∧ Fr w V T0 w' V' ∧ LocB w T0 (retSt r.1 r.2) μ' γ' ∧ (plainV r.1 = true ∨ ∃ T n es,r.1 = .own T n es)
theorem BackO.back {P : Program} {w : World} {V : Vis} {T0 : Tch} {μ : BMap} {r : AVal × Heap} {v : Value} {w' : World} (h : BackO P w V T0 μ r v w') : Back P w V T0 μ r v w' :=
 let ⟨V',γ',a',h1,h2,h3,h4,h5⟩ := h
 ⟨V',γ',a',μ,h1,BLe.refl _,h2,h3,⟨h4.box,h4.own⟩,h5⟩
theorem initTm_get : ∀ (as : List AVal) (k j : Nat),alGet (initTm k as) j = if k ≤ j then as[j - k]? else none
 | [],k,j => by simp [initTm,alGet]
 | v :: as,k,j => by
  simp only [initTm,alGet]
  by_cases h : k = j
  · subst h; simp
  · simp only [h,if_false]
    rw [initTm_get as (k + 1) j]
    by_cases h2 : k ≤ j
    · have h3 : k + 1 ≤ j := by omega
      simp only [h2,h3,if_true]
      rw [show j - k = (j - (k + 1)) + 1 by omega,List.getElem?_cons_succ]
    · have h3 : ¬ k + 1 ≤ j := by omega
      simp only [h2,h3,if_false]
theorem init_get (as : List AVal) (H : Heap) (k : Nat) : alGet (initF as H).tm k = as[k]? := by
 simp only [initF,initTm_get,Nat.zero_le,if_true,Nat.sub_zero]
theorem init_box (as : List AVal) (H : Heap) (b : BName) : (initF as H).box b = (boxSt H).box b := by cases b <;> rfl
theorem init_at {as : List AVal} {H : Heap} {p : Place} {v : AVal} (h : (initF as H).at p = some v) : (boxSt H).at p = some v ∨ ∃ k,p = .tmp k ∧ as[k]? = some v := by
 cases p with
 | tmp k => exact .inr ⟨k,rfl,by rw [← init_get as H]; exact h⟩
 | cell b off => left; simp only [St.at,init_box] at h ⊢; exact h
theorem at_init {as : List AVal} {H : Heap} {p : Place} {v : AVal} (h : (boxSt H).at p = some v) : (initF as H).at p = some v := by
 cases p with
 | tmp k => simp [boxSt,St.at,alGet] at h
 | cell b off => simp only [St.at,init_box] at h ⊢; exact h
section
variable {P : Program} {w : World} {V : Vis} {T0 : Tch} {μ : BMap} {γ : GMap} {a a0 : Act} {as : List AVal} {H : Heap} {xs : Array Value}
theorem srel_init (hx : All2 (Rep3 w V μ) as xs.toList) (hp : ∀ v ∈ as,plainV v = true) (h : SRel P old (boxSt H) a0 w V μ γ) : SRel P old (initF as H) ⟨xs,[]⟩ w V μ γ := by
 have gat : ∀ p T m es,(initF as H).at p = some (.own T m es) → (boxSt H).at p = some (.own T m es) := by
  intro p T m es hp2
  rcases init_at hp2 with h1 | ⟨k,_,h1⟩
  · exact h1
  · have := hp _ (List.mem_of_getElem? h1); cases this
 refine { tm := ?_,bx := ?_,dom := ?_,inj := h.inj,visb := h.visb,vis := h.vis,ow := ?_,ow2 := ?_,gq := h.gq }
 · intro k v hv
   rw [init_get] at hv
   obtain ⟨x,h1,h2⟩ := hx.get hv
   exact ⟨x,by simpa using h1,h2.repS (hp v (List.mem_of_getElem? hv))⟩
 · intro b cs hcs
   rw [init_box] at hcs
   exact h.bx b cs hcs
 · intro b g hb
   rw [init_box]; exact h.dom b g hb
 · intro p T m es x g hp2 hx2 hg
   exact h.ow p T m es x g (gat p T m es hp2) hx2 hg
 · intro p p' T m es T' m' es' x x' g hp2 hp3 hx2 hx3 hg hg'
   exact h.ow2 p p' T m es T' m' es' x x' g (gat _ _ _ _ hp2) (gat _ _ _ _ hp3) hx2 hx3 hg hg'
theorem loc_init (hp : ∀ v ∈ as,plainV v = true) (hl : Loc w T0 (boxSt H) μ γ) : Loc w T0 (initF as H) μ γ := by
 refine ⟨hl.box,hl.par,fun p T m es x g hp2 hx2 hg => ?_⟩
 rcases init_at hp2 with h1 | ⟨k,_,h1⟩
 · exact hl.own p T m es x g h1 hx2 hg
 · have := hp _ (List.mem_of_getElem? h1); cases this
theorem srel_box (h : SRel P old (initF as H) a w V μ γ) : SRel P old (boxSt H) a0 w V μ γ := by
 refine { tm := ?_,bx := ?_,dom := ?_,inj := h.inj,visb := h.visb,vis := h.vis,ow := ?_,ow2 := ?_,gq := h.gq }
 · intro k v hv; simp [boxSt,alGet] at hv
 · intro b cs hcs
   rw [← init_box as] at hcs
   exact h.bx b cs hcs
 · intro b g hb
   rw [← init_box as]; exact h.dom b g hb
 · intro p T m es x g hp2 hx2 hg
   exact h.ow p T m es x g (at_init hp2) hx2 hg
 · intro p p' T m es T' m' es' x x' g hp2 hp3 hx2 hx3 hg hg'
   exact h.ow2 p p' T m es T' m' es' x x' g (at_init hp2) (at_init hp3) hx2 hx3 hg hg'
theorem loc_box (hl : Loc w T0 (initF as H) μ γ) : Loc w T0 (boxSt H) μ γ :=
 ⟨hl.box,hl.par,fun p T m es x g hp2 hx2 hg => hl.own p T m es x g (at_init hp2) hx2 hg⟩
theorem RepS.plain {p : Place} {v : AVal} {x : Value} (hp : plainV v = true) (h : RepS P w V μ γ p v x) : Rep3 w V μ v x := by
 cases v <;> first | exact h | cases hp
theorem init_all (hs : xs.size = as.length) (hp : ∀ v ∈ as,plainV v = true) (h : SRel P old (initF as H) ⟨xs,[]⟩ w V μ γ) : All2 (Rep3 w V μ) as xs.toList := by
 refine All2.of_get (by simp [hs]) fun i v hv => ?_
 obtain ⟨x,h1,h2⟩ := h.tm i v (by rw [init_get]; exact hv)
 exact ⟨x,by simpa using h1,h2.plain (hp v (List.mem_of_getElem? hv))⟩
end
def Enters (P : Program) (f : FuncId) : Prop := ∃ fn c,P.funcs[f]? = some fn ∧ (fn.name == "runtime.NumGoroutine") = false ∧ fn.body = some c
def Sound (P : Program) (F : World → Prop) (D : FuncId → List AVal → Heap → Option (AVal × Heap)) : Prop :=
 ∀ f as H r,D f as H = some r → ∀ (xs : Array Value) w V T0 μ γ,xs.size = as.length → SRel P old (initF as H) ⟨xs,[]⟩ w V μ γ → Loc w T0 (initF as H) μ γ → T0.F = F → Sealed T0 w →
  Enters P f ∧ Calls P f xs w fun e w' => ∃ v,e = .returned v ∧ Back P w V T0 μ r v w'
theorem Sound.plain {P : Program} {F : World → Prop} {D : FuncId → List AVal → Heap → Option (AVal × Heap)} (hD : Sound P F D) (f : FuncId) (as : List AVal) (H : Heap) (r : AVal × Heap) (hr : D f as H = some r) (xs : Array Value) (w : World) (V : Vis) (T0 : Tch) (μ : BMap) (γ : GMap) (a0 : Act)
 (hx : All2 (Rep3 w V μ) as xs.toList) (hp : ∀ v ∈ as,plainV v = true) (h : SRel P old (boxSt H) a0 w V μ γ) (hl : Loc w T0 (boxSt H) μ γ) (hF : T0.F = F) (hsl : Sealed T0 w) :
 Enters P f ∧ Calls P f xs w fun e w' => ∃ v,e = .returned v ∧ Back P w V T0 μ r v w' :=
 hD f as H r hr xs w V T0 μ γ (by simpa using hx.length.symm) (srel_init hx hp h) (loc_init hp hl) hF hsl
theorem Sound.of_plain {P : Program} {F : World → Prop} {D : FuncId → List AVal → Heap → Option (AVal × Heap)} (hpl : ∀ f as H r,D f as H = some r → ∀ v ∈ as,plainV v = true)
 (hD : ∀ f as H r,D f as H = some r → ∀ (xs : Array Value) w V T0 μ γ a0,All2 (Rep3 w V μ) as xs.toList → (∀ v ∈ as,plainV v = true) → SRel P old (boxSt H) a0 w V μ γ → Loc w T0 (boxSt H) μ γ → T0.F = F → Sealed T0 w →
   Enters P f ∧ Calls P f xs w fun e w' => ∃ v,e = .returned v ∧ BackO P w V T0 μ r v w') : Sound P F D := by
 intro f as H r hr xs w V T0 μ γ hs h hl hF hsl
 obtain ⟨h1,h2⟩ := hD f as H r hr xs w V T0 μ γ ⟨xs,[]⟩ (init_all hs (hpl f as H r hr) h) (hpl f as H r hr) (srel_box h) (loc_box hl) hF hsl
 exact ⟨h1,h2.mono fun e w' ⟨v,h3,h4⟩ => ⟨v,h3,h4.back⟩⟩
theorem same_map {P : Program} {Q : Nat → Prop} {w w' : World} {V V' : Vis} {μ μ' : BMap} {γ γ' : GMap} {a a' : Act} {H H' : Heap} {v : AVal} (h : SRel P Q (boxSt H) a w V μ γ) (h' : SRel P any (retSt v H') a' w' V' μ' γ') (hle : BLe μ μ') (hl : H'.length = H.length) : μ' = μ := by
 funext b
 cases hb : μ b with
 | some g => exact hle b g hb
 | none =>
  cases hb' : μ' b with
  | none => rfl
  | some g =>
   obtain ⟨cs,hc⟩ := h'.dom b g hb'
   cases b with
   | loc k => simp [retSt,St.box,alGet] at hc
   | par i =>
    simp only [retSt,St.box] at hc
    have hi : i < H.length := by rw [← hl]; exact (List.getElem?_eq_some_iff.1 hc).1
    obtain ⟨g2,_,_,hg2,_⟩ := h.bx (.par i) _ (show (boxSt H).box (.par i) = some H[i] from List.getElem?_eq_getElem hi)
    rw [hg2] at hb; cases hb
theorem reach_spec {s : St} : ∀ {n : Nat} {wl seen ns : List BName},reach s n wl seen = some ns → seen.Nodup → (∀ b ∈ seen,∃ cs,s.box b = some cs ∧ ∀ m ∈ cs.flatMap names1,m ∈ seen ∨ m ∈ wl) →
 ns.Nodup ∧ (∀ b ∈ seen,b ∈ ns) ∧ (∀ b ∈ wl,b ∈ ns) ∧ ∀ b ∈ ns,∃ cs,s.box b = some cs ∧ ∀ m ∈ cs.flatMap names1,m ∈ ns
 | 0,_,_,_,h,_,_ => by simp [reach] at h
 | n + 1,[],seen,ns,h,hnd,hc => by
  simp only [reach] at h; injection h with h; subst h
  exact ⟨hnd,fun b hb => hb,by simp,fun b hb => by
   obtain ⟨cs,h1,h2⟩ := hc b hb
   exact ⟨cs,h1,fun m hm => (h2 m hm).elim id (by simp)⟩⟩
 | n + 1,b :: r,seen,ns,h,hnd,hc => by
  simp only [reach] at h
  split at h
  · rename_i hs
    have hs : b ∈ seen := by simpa using hs
    obtain ⟨h1,h2,h3,h4⟩ := reach_spec h hnd (fun b' hb' => by
     obtain ⟨cs,h1,h2⟩ := hc b' hb'
     refine ⟨cs,h1,fun m hm => ?_⟩
     rcases h2 m hm with h3 | h3
     · exact .inl h3
     · rcases List.mem_cons.1 h3 with rfl | h3
       · exact .inl hs
       · exact .inr h3)
    exact ⟨h1,h2,fun b' hb' => by
     rcases List.mem_cons.1 hb' with rfl | hb'
     · exact h2 _ hs
     · exact h3 _ hb',h4⟩
  · rename_i hs
    have hs : b ∉ seen := by simpa using hs
    obtain ⟨cs,hb,h⟩ := bind_some h
    obtain ⟨h1,h2,h3,h4⟩ := reach_spec h (by
     rw [List.nodup_append]
     exact ⟨hnd,by simp,fun a ha c hc => by simp at hc; subst hc; exact fun e => hs (e ▸ ha)⟩) (fun b' hb' => by
     rcases List.mem_append.1 hb' with hb' | hb'
     · obtain ⟨cs',h1,h2⟩ := hc b' hb'
       refine ⟨cs',h1,fun m hm => ?_⟩
       rcases h2 m hm with h3 | h3
       · exact .inl (List.mem_append.2 (.inl h3))
       · rcases List.mem_cons.1 h3 with rfl | h3
         · exact .inl (by simp)
         · exact .inr (List.mem_append.2 (.inl h3))
     · simp at hb'; subst hb'
       exact ⟨cs,hb,fun m hm => .inr (List.mem_append.2 (.inr hm))⟩)
    exact ⟨h1,fun b' hb' => h2 b' (by simp [hb']),fun b' hb' => by
     rcases List.mem_cons.1 hb' with rfl | hb'
     · exact h2 _ (by simp)
     · exact h3 _ (by simp [hb']),h4⟩
theorem boxesAt_spec {s : St} : ∀ {ns : List BName} {H : Heap},boxesAt s ns = some H → H.length = ns.length ∧ ∀ (i : Nat) (b : BName),ns[i]? = some b → ∃ cs,s.box b = some cs ∧ H[i]? = some cs
 | [],H,h => by simp only [boxesAt] at h; injection h with h; subst h; exact ⟨rfl,by simp⟩
 | b :: r,H,h => by
  simp only [boxesAt] at h
  obtain ⟨cs,h1,h⟩ := bind_some h
  obtain ⟨H',h2,rfl⟩ := map_some h
  obtain ⟨h3,h4⟩ := boxesAt_spec h2
  refine ⟨by simp [h3],fun i b' hb => ?_⟩
  cases i with
  | zero => simp at hb; subst hb; exact ⟨cs,h1,by simp⟩
  | succ i => simpa using h4 i b' (by simpa using hb)
theorem setBoxes_spec : ∀ {ns : List BName} {H : Heap} {s s' : St},setBoxes s ns H = some s' → ns.Nodup → (∀ b ∈ ns,∃ cs,s.box b = some cs) →
 H.length = ns.length ∧ s'.tm = s.tm ∧ (∀ b,b ∉ ns → s'.box b = s.box b) ∧ ∀ (i : Nat) (b : BName),ns[i]? = some b → s'.box b = H[i]?
 | [],[],s,s',h,_,_ => by simp only [setBoxes] at h; injection h with h; subst h; exact ⟨rfl,rfl,fun _ _ => rfl,by simp⟩
 | [],_ :: _,_,_,h,_,_ => by simp [setBoxes] at h
 | _ :: _,[],_,_,h,_,_ => by simp [setBoxes] at h
 | b :: r,cs :: q,s,s',h,hnd,hb => by
  simp only [setBoxes] at h
  obtain ⟨hn,hnd⟩ := List.nodup_cons.1 hnd
  obtain ⟨cs0,h0⟩ := hb b (by simp)
  obtain ⟨h1,h2,h3,h4⟩ := setBoxes_spec h hnd (fun b' hb' => by
   rw [box_setBox h0]
   split
   · exact ⟨_,rfl⟩
   · exact hb b' (by simp [hb']))
  refine ⟨by simp [h1],h2.trans tm_setBox,fun b' hb' => ?_,fun i b' hi => ?_⟩
  · rw [h3 b' (by simp at hb'; exact hb'.2),box_setBox h0]
    have : b' ≠ b := fun e => hb' (by simp [e])
    simp only [this,if_false]
  · cases i with
    | zero => simp at hi; subst hi; rw [h3 _ hn,box_setBox h0]; simp
    | succ i => simpa using h4 i b' (by simpa using hi)
end Go.Av
namespace Go.Av
def muC (ns : List BName) (μ : BMap) : BMap
 | .par i => (ns[i]?).bind μ
 | .loc _ => none
def stampAt (s : St) (p : Place) (γ : GMap) : Option Value :=
 match s.at p with
 | some (.own _ m _) => γ p m
 | _ => none
def gaC (s : St) (ns : List BName) (γ : GMap) : GMap := fun p m =>
 if m = 0 then match p with
  | .cell (.par i) off => (ns[i]?).bind fun b => stampAt s (.cell b off) γ
  | _ => none
 else none
def hpC (ns : List BName) (H : Heap) : Heap := H.map (·.map fun c => ren1 (toPar ns) (stamp1 0 c))
def tCp (s : St) (ns : List BName) (μ : BMap) (γ : GMap) (g : Nat) : Prop :=
 (∃ b ∈ ns,μ b = some g) ∨ ∃ b ∈ ns,∃ off T m es x,s.at (.cell b off) = some (.own T m es) ∧ γ (.cell b off) m = some x ∧ ownBlock x = some g
def tC (T0 : Tch) (s : St) (ns : List BName) (μ : BMap) (γ : GMap) : Tch := ⟨tCp s ns μ γ,muC ns μ,T0.S,T0.F⟩
theorem ren_own {ρ : BName → BName} {n : Nat} {c : AVal} {T m es} (h : ren1 ρ (stamp1 n c) = .own T m es) : m = n ∧ ∃ m',c = .own T m' es := by
 cases c <;> simp only [stamp1,strip1,ren1] at h <;> first | (cases h; done) | (injection h with h1 h2 h3; subst h1 h2 h3; exact ⟨rfl,_,rfl⟩)
section
variable {P : Program} {T0 : Tch} {Q : Nat → Prop} {s : St} {a a0 : Act} {w w' : World} {V V' : Vis} {μ μ' : BMap} {γ γ' : GMap} {ns : List BName} {H : Heap}
theorem boxSt_own {p : Place} {T m es} (hH : boxesAt s ns = some H) (h : (boxSt (hpC ns H)).at p = some (.own T m es)) :
 ∃ i b off m',p = .cell (.par i) off ∧ ns[i]? = some b ∧ s.at (.cell b off) = some (.own T m' es) ∧ m = 0 := by
 cases p with
 | tmp k => simp [boxSt,St.at,alGet] at h
 | cell b' off =>
  cases b' with
  | loc k => simp [boxSt,St.at,St.box,alGet] at h
  | par i =>
   simp only [boxSt,St.at,St.box,hpC,List.getElem?_map] at h
   obtain ⟨cs,h1,h2⟩ := bind_some h
   obtain ⟨cs0,h3,rfl⟩ := map_some h1
   rw [List.getElem?_map] at h2
   obtain ⟨c,h4,h5⟩ := map_some h2
   obtain ⟨rfl,m',rfl⟩ := ren_own h5
   obtain ⟨hl,hb⟩ := boxesAt_spec hH
   have hi : i < ns.length := by have := (List.getElem?_eq_some_iff.1 h3).1; omega
   obtain ⟨cs1,h6,h7⟩ := hb i _ (List.getElem?_eq_getElem hi)
   rw [h3] at h7; injection h7 with h7; subst h7
   exact ⟨i,ns[i],off,m',rfl,List.getElem?_eq_getElem hi,by simp [St.at,h6,h4],rfl⟩
theorem gaC_own {i : Nat} {b : BName} {off : Nat} {T m' es} (hi : ns[i]? = some b) (h : s.at (.cell b off) = some (.own T m' es)) : gaC s ns γ (.cell (.par i) off) 0 = γ (.cell b off) m' := by
 simp [gaC,hi,stampAt,h]
theorem toPar_get (hnd : ns.Nodup) {b : BName} (hb : b ∈ ns) : muC ns μ (toPar ns b) = μ b := by
 simp only [toPar,muC]
 rw [List.getElem?_eq_getElem (List.idxOf_lt_length_iff.2 hb)]
 simp
theorem nodup_idx {i j : Nat} {b : BName} (hnd : ns.Nodup) (h1 : ns[i]? = some b) (h2 : ns[j]? = some b) : i = j := by
 obtain ⟨l1,e1⟩ := List.getElem?_eq_some_iff.1 h1
 obtain ⟨l2,e2⟩ := List.getElem?_eq_some_iff.1 h2
 exact (List.getElem_inj hnd).1 (e1.trans e2.symm)
theorem call_pre (h : SRel P Q s a w V μ γ) (hnd : ns.Nodup) (hcl : ∀ b ∈ ns,∃ cs,s.box b = some cs ∧ ∀ m ∈ cs.flatMap names1,m ∈ ns) (hH : boxesAt s ns = some H) :
 SRel P old (boxSt (hpC ns H)) a0 w V (muC ns μ) (gaC s ns γ) := by
 obtain ⟨hl,hb⟩ := boxesAt_spec hH
 refine { tm := ?_,bx := ?_,dom := ?_,inj := ?_,visb := ?_,vis := h.vis,ow := ?_,ow2 := ?_,gq := ?_ }
 · intro k v hv; simp [boxSt,alGet] at hv
 · intro b' cs hcs
   cases b' with
   | loc k => simp [boxSt,St.box,alGet] at hcs
   | par i =>
    simp only [boxSt,St.box,hpC,List.getElem?_map] at hcs
    obtain ⟨cs0,h3,rfl⟩ := map_some hcs
    have hi : i < ns.length := by have := (List.getElem?_eq_some_iff.1 h3).1; omega
    have hib := List.getElem?_eq_getElem hi
    obtain ⟨cs1,h6,h7⟩ := hb i _ hib
    rw [h3] at h7; injection h7 with h7; subst h7
    obtain ⟨g,T,cur,k1,k2,k3,k4⟩ := h.bx _ _ h6
    refine ⟨g,T,cur,by simp only [muC,hib,Option.bind_some]; exact k1,k2,by simpa using k3,fun j c hc => ?_⟩
    rw [List.getElem?_map] at hc
    obtain ⟨c0,h8,rfl⟩ := map_some hc
    obtain ⟨x,k5,k6⟩ := k4 j c0 h8
    refine ⟨x,k5,?_⟩
    have hnm : ∀ m ∈ names1 c0,m ∈ ns := by
     obtain ⟨cs2,h9,h10⟩ := hcl _ (List.getElem_mem hi)
     rw [h6] at h9; injection h9 with h9; subst h9
     exact fun m hm => h10 m (List.mem_flatMap.2 ⟨c0,List.mem_of_getElem? h8,hm⟩)
    have hplain : (∀ T n es,c0 ≠ .own T n es) → Rep1 w V μ c0 x → RepB P w V (muC ns μ) (gaC s ns γ) (.cell (.par i) j) (ren1 (toPar ns) (strip1 c0)) x := by
     intro hno hr
     have hr' : Rep1 w V (muC ns μ) (ren1 (toPar ns) (strip1 c0)) x := hr.strip1.ren fun m hm g hg => by
      rw [toPar_get hnd (hnm m (by cases c0 <;> first | exact hm | exact absurd rfl (hno _ _ _) | (simp [strip1,names1] at hm)))]; exact hg
     cases c0 <;> first | exact hr' | exact absurd rfl (hno _ _ _) | (exfalso; simp [Rep1,RepP] at hr; done)
    cases c0 with
    | own T' m es =>
     refine ⟨k6.1,?_⟩
     rw [gaC_own hib (T := T') (m' := m) (es := es) (by simp [St.at,h6,h8])]
     exact k6.2
    | dead T' m es => exact k6.1
    | _ => exact hplain (by simp) k6
 · intro b' g hg
   cases b' with
   | loc k => cases hg
   | par i =>
    simp only [muC] at hg
    obtain ⟨b,h1,h2⟩ := bind_some hg
    obtain ⟨cs,h3,h4⟩ := hb i b h1
    exact ⟨_,by simp only [boxSt,St.box,hpC,List.getElem?_map,h4,Option.map_some]; rfl⟩
 · intro b1 b2 g h1 h2
   cases b1 with
   | loc k => cases h1
   | par i =>
    cases b2 with
    | loc k => cases h2
    | par j =>
     obtain ⟨c1,k1,k2⟩ := bind_some h1
     obtain ⟨c2,k3,k4⟩ := bind_some h2
     have := h.inj c1 c2 g k2 k4
     subst this
     rw [nodup_idx hnd k1 k3]
 · intro b' g hg
   cases b' with
   | loc k => cases hg
   | par i =>
    obtain ⟨c1,k1,k2⟩ := bind_some hg
    exact h.visb c1 g k2
 · intro p T m es x g hp hx hg
   obtain ⟨i,b,off,m',rfl,hi,hs,rfl⟩ := boxSt_own hH hp
   rw [gaC_own hi hs] at hx
   obtain ⟨h1,h2⟩ := h.ow _ _ _ _ _ _ hs hx hg
   refine ⟨fun b' hb' => ?_,h2⟩
   cases b' with
   | loc k => cases hb'
   | par j =>
    obtain ⟨c1,k1,k2⟩ := bind_some hb'
    exact h1 c1 k2
 · intro p p' T m es T' m' es' x x' g hp hp' hx hx' hg hg'
   obtain ⟨i,b,off,m1,rfl,hi,hs,rfl⟩ := boxSt_own hH hp
   obtain ⟨i',b',off',m2,rfl,hi',hs',rfl⟩ := boxSt_own hH hp'
   rw [gaC_own hi hs] at hx
   rw [gaC_own hi' hs'] at hx'
   have := h.ow2 _ _ _ _ _ _ _ _ _ _ _ hs hs' hx hx' hg hg'
   injection this with e1 e2
   subst e1 e2
   rw [nodup_idx hnd hi hi']
 · intro p m hm
   unfold gaC at hm
   split at hm
   · rename_i h0; show m < 1; omega
   · exact absurd rfl hm
theorem call_loc (hH : boxesAt s ns = some H) : Loc w (tC T0 s ns μ γ) (boxSt (hpC ns H)) (muC ns μ) (gaC s ns γ) := by
 refine ⟨fun b' g hg => ?_,fun _ => rfl,fun p T m es x g hp hx hg => ?_⟩
 · cases b' with
   | loc k => cases hg
   | par i =>
    obtain ⟨c1,k1,k2⟩ := bind_some hg
    exact .inl (.inl ⟨c1,List.mem_of_getElem? k1,k2⟩)
 · obtain ⟨i,b,off,m',rfl,hi,hs,rfl⟩ := boxSt_own hH hp
   rw [gaC_own hi hs] at hx
   exact .inl (.inr ⟨b,List.mem_of_getElem? hi,off,T,m',es,x,hs,hx,hg⟩)
theorem tC_loc {w0 : World} (hl : Loc w0 T0 s μ γ) (g : Nat) (h : tC T0 s ns μ γ g) : T0 g ∨ w0.heap.size ≤ g := by
 rcases h with ⟨b,_,h1⟩ | ⟨b,_,off,T,m,es,x,h1,h2,h3⟩
 · exact hl.box b g h1
 · exact hl.own _ _ _ _ _ _ h1 h2 h3
theorem tC_sealed {w0 : World} {V0 : Vis} (hf : Fr w0 V0 T0 w V) (hl : Loc w0 T0 s μ γ) : Sealed (tC T0 s ns μ γ) w where
 lt g hg := Nat.lt_of_lt_of_le (hf.sl.lt g hg) hf.size
 no g hg hc := by
  rcases tC_loc hl g hc with h | h
  · exact hf.sl.no g hg h
  · have := hf.sl.lt g hg; omega
 fact := hf.sl.cong _ _ (fun g hg => hf.keep g (hf.sl.lt g hg) (hf.sl.no g hg)) hf.sl.fact
 cong := hf.sl.cong
theorem tC_own (h : SRel P Q s a w V μ γ) {p : Place} {T n es x g} (hp : s.at p = some (.own T n es)) (hx : γ p n = some x) (hg : ownBlock x = some g) (hne : ∀ b off,p = .cell b off → b ∉ ns) : ¬ tC T0 s ns μ γ g := by
 rintro (⟨b,_,h1⟩ | ⟨b,hb,off,T',m,es',x',h1,h2,h3⟩)
 · exact (h.ow p T n es x g hp hx hg).1 b h1
 · exact hne b off (h.ow2 _ _ _ _ _ _ _ _ _ _ _ hp h1 hx h2 hg h3) hb
theorem tC_box (h : SRel P Q s a w V μ γ) {b : BName} {g : Nat} (hb : b ∉ ns) (hg : μ b = some g) : ¬ tC T0 s ns μ γ g := by
 rintro (⟨b',hb',h1⟩ | ⟨b',hb',off,T',m,es',x',h1,h2,h3⟩)
 · exact hb (h.inj b b' g hg h1 ▸ hb')
 · exact (h.ow _ _ _ _ _ _ h1 h2 h3).1 b hg
end
end Go.Av
namespace Go.Av
def gaR (ns : List BName) (r : AVal × Heap) (n : Nat) (γ γ' : GMap) : GMap := fun p m =>
 if m = n then match p with
  | .cell b off => if b ∈ ns then stampAt (retSt r.1 r.2) (.cell (.par (ns.idxOf b)) off) γ' else none
  | _ => none
 else γ p m
def hpR (ns : List BName) (n : Nat) (H : Heap) : Heap := H.map (·.map fun c => ren1 (ofPar ns) (stamp1 n c))
theorem idxOf_get {ns : List BName} (hnd : ns.Nodup) {i : Nat} {b : BName} (h : ns[i]? = some b) : ns.idxOf b = i := by
 have hb := List.mem_of_getElem? h
 refine nodup_idx hnd (b := b) ?_ h
 rw [List.getElem?_eq_getElem (List.idxOf_lt_length_iff.2 hb)]; simp
structure Room (s sN : St) (ns : List BName) (μ μ2 : BMap) : Prop where
 tm : sN.tm = s.tm
 box : ∀ b,b ∉ ns → sN.box b = s.box b
 at_ : ∀ b ∈ ns,∃ cs,sN.box b = some cs
 mu : ∀ b,b ∉ ns → μ2 b = μ b
 le : BLe μ μ2
 par : ∀ i,μ2 (.par i) = μ (.par i)
theorem Room.refl {s : St} {ns : List BName} {μ : BMap} (h : ∀ b ∈ ns,∃ cs,s.box b = some cs) : Room s s ns μ μ := ⟨rfl,fun _ _ => rfl,h,fun _ _ => rfl,BLe.refl _,fun _ => rfl⟩
structure TcOK (s : St) (ns : List BName) (μ : BMap) (γ : GMap) (Tc : Tch) : Prop where
 own : ∀ p T n es x g,s.at p = some (.own T n es) → γ p n = some x → ownBlock x = some g → (∀ b off,p = .cell b off → b ∉ ns) → ¬ Tc g
 box : ∀ b g,b ∉ ns → μ b = some g → ¬ Tc g
section
variable {P : Program} {Q Q' : Nat → Prop} {s sN s1 : St} {a a' : Act} {w w' w0 : World} {V V' V0 : Vis} {T0 Tc : Tch} {μ μ2 : BMap} {γ γ' : GMap} {ns : List BName} {r : AVal × Heap} {n : Nat}
theorem ret_cell {i off : Nat} {c : AVal} : (retSt r.1 r.2).at (.cell (.par i) off) = some c ↔ ∃ cs,r.2[i]? = some cs ∧ cs[off]? = some c := by
 simp only [retSt,St.at,St.box]
 constructor
 · intro h
   obtain ⟨cs,h1,h2⟩ := bind_some h
   exact ⟨cs,h1,h2⟩
 · rintro ⟨cs,h1,h2⟩; simp [h1,h2]
theorem back_cases (hnd : ns.Nodup) (hrm : Room s sN ns μ μ2) (hs : setBoxes sN ns (hpR ns n r.2) = some s1) {p : Place} {T m es} (h : s1.at p = some (.own T m es)) :
 (∃ i b off m',p = .cell b off ∧ ns[i]? = some b ∧ m = n ∧ (retSt r.1 r.2).at (.cell (.par i) off) = some (.own T m' es)) ∨
   (s.at p = some (.own T m es) ∧ ∀ b off,p = .cell b off → b ∉ ns) := by
 obtain ⟨k1,k2,k3,k4⟩ := setBoxes_spec hs hnd hrm.at_
 cases p with
 | tmp k => exact .inr ⟨by simpa [St.at,k2,hrm.tm] using h,fun _ _ e => by cases e⟩
 | cell b off =>
  by_cases hb : b ∈ ns
  · have hlt := List.idxOf_lt_length_iff.2 hb
    have hib : ns[ns.idxOf b]? = some b := by rw [List.getElem?_eq_getElem hlt]; simp
    simp only [St.at,k4 _ b hib] at h
    obtain ⟨cs,h1,h2⟩ := bind_some h
    simp only [hpR,List.getElem?_map] at h1
    obtain ⟨cs0,h3,rfl⟩ := map_some h1
    rw [List.getElem?_map] at h2
    obtain ⟨c,h4,h5⟩ := map_some h2
    obtain ⟨rfl,m',rfl⟩ := ren_own h5
    exact .inl ⟨_,b,off,m',rfl,hib,rfl,ret_cell.2 ⟨cs0,h3,h4⟩⟩
  · refine .inr ⟨by simpa [St.at,k3 b hb,hrm.box b hb] using h,fun b' off' e => ?_⟩
    injection e with e1 e2; subst e1; exact hb
theorem gaR_own (hnd : ns.Nodup) {i : Nat} {b : BName} {off : Nat} {T m' es} (hi : ns[i]? = some b) (h : (retSt r.1 r.2).at (.cell (.par i) off) = some (.own T m' es)) :
 gaR ns r n γ γ' (.cell b off) n = γ' (.cell (.par i) off) m' := by
 have hb := List.mem_of_getElem? hi
 simp [gaR,hb,idxOf_get hnd hi,stampAt,h]
theorem gaR_le (hfr : ∀ p,γ p n = none) : GLe γ (gaR ns r n γ γ') := by
 intro p m x hx
 have : m ≠ n := fun e => by rw [e,hfr p] at hx; cases hx
 simp only [gaR,this,if_false]; exact hx
theorem idx_at {b : BName} (hb : b ∈ ns) : ns[ns.idxOf b]? = some b := by rw [List.getElem?_eq_getElem (List.idxOf_lt_length_iff.2 hb)]; simp
theorem muC_at {b : BName} (hb : b ∈ ns) : muC ns μ2 (.par (ns.idxOf b)) = μ2 b := by simp only [muC,idx_at hb,Option.bind_some]
theorem in_lt (hlc : LocB w Tc (retSt r.1 r.2) (muC ns μ2) γ') {b : BName} {g : Nat} (hb : b ∈ ns) (hg : μ2 b = some g) : Tc g ∨ w.heap.size ≤ g :=
 hlc.box (.par (ns.idxOf b)) g (by rw [muC_at hb]; exact hg)
theorem blt (h : SRel P Q s a w V μ γ) {b : BName} {g : Nat} (hb : μ b = some g) : g < w.heap.size := by
 obtain ⟨cs,hc⟩ := h.dom b g hb
 obtain ⟨g',T,cur,h1,h2,_⟩ := h.bx b cs hc
 rw [hb] at h1; injection h1 with h1; subst h1
 exact (Array.getElem?_eq_some_iff.1 h2).1
theorem olt (h : SRel P Q s a w V μ γ) {p : Place} {T n es x g} (hp : s.at p = some (.own T n es)) (hx : γ p n = some x) (hg : ownBlock x = some g) : g < w.heap.size :=
 own_lt (E := ⟨P,fun _ => [],fun _ _ => none,fun _ => false,fun _ _ => none,fun _ _ _ => false,fun _ => [],fun _ => none,fun _ => none,fun _ => none,fun _ => [],fun _ => none,fun _ => false⟩) h hp hx hg
theorem back_own (h : SRel P Q s a w V μ γ) (hrm : Room s sN ns μ μ2) (hT : TcOK s ns μ γ Tc) (hk : SRel P any (retSt r.1 r.2) a' w' V' (muC ns μ2) γ') (hlc : LocB w Tc (retSt r.1 r.2) (muC ns μ2) γ') {q : Place} {T m es x g}
 (hq : (retSt r.1 r.2).at q = some (.own T m es)) (hx : γ' q m = some x) (hg : ownBlock x = some g) :
 (∀ b,μ2 b ≠ some g) ∧ (∀ o,V' g o → o < es.length * P.cellsOf T) ∧ (Tc g ∨ w.heap.size ≤ g) := by
 obtain ⟨h1,h2⟩ := hk.ow q T m es x g hq hx hg
 have h3 := hlc.own q T m es x g hq hx hg
 refine ⟨fun b hb => ?_,h2,h3⟩
 by_cases hbn : b ∈ ns
 · exact h1 (.par (ns.idxOf b)) (by rw [muC_at hbn]; exact hb)
 · rw [hrm.mu b hbn] at hb
   rcases h3 with h3 | h3
   · exact hT.box b g hbn hb h3
   · have := blt h hb; omega
theorem call_boxes (h : SRel P Q s a w V μ γ) (hnd : ns.Nodup) (hrm : Room s sN ns μ μ2) (hT : TcOK s ns μ γ Tc) (hfr : ∀ p,γ p n = none) (hQ : QLe Q Q') (hn' : Q' n)
 (hk : SRel P any (retSt r.1 r.2) a' w' V' (muC ns μ2) γ') (hlc : LocB w Tc (retSt r.1 r.2) (muC ns μ2) γ') (hfc : Fr w V Tc w' V')
 (hs : setBoxes sN ns (hpR ns n r.2) = some s1) : SRel P Q' s1 a w' V' μ2 (gaR ns r n γ γ') := by
 obtain ⟨k1,k2,k3,k4⟩ := setBoxes_spec hs hnd hrm.at_
 have hle := gaR_le (ns := ns) (r := r) (γ' := γ') hfr
 have hidx : ∀ b ∈ ns,ns[ns.idxOf b]? = some b := fun b hb => idx_at hb
 have two : ∀ {p T m es x},s.at p = some (.own T m es) → gaR ns r n γ γ' p m = some x → γ p m = some x := by
  intro p T m es x hp hx
  obtain ⟨y,hy,_⟩ := h.conc_own hp
  have := hle _ _ _ hy
  rw [this] at hx; injection hx with hx; subst hx; exact hy
 refine { tm := ?_,bx := ?_,dom := ?_,inj := ?_,visb := ?_,vis := hk.vis,ow := ?_,ow2 := ?_,gq := ?_ }
 · intro k v hv
   rw [k2,hrm.tm] at hv
   obtain ⟨x,h1,h2⟩ := h.tm k v hv
   refine ⟨x,h1,h2.keep hfc.vkeep hrm.le hle fun T m es g e hg => ?_⟩
   subst e
   have hat : s.at (.tmp k) = some (.own T m es) := hv
   exact hfc.keep g (olt h hat h2.2 hg) (hT.own _ _ _ _ _ _ hat h2.2 hg fun _ _ e => by cases e)
 · intro b cs hcs
   by_cases hb : b ∈ ns
   · have hib := hidx b hb
     rw [k4 _ b hib] at hcs
     simp only [hpR,List.getElem?_map] at hcs
     obtain ⟨cs0,h3,rfl⟩ := map_some hcs
     obtain ⟨g,T,cur,m1,m2,m3,m4⟩ := hk.bx (.par (ns.idxOf b)) cs0 h3
     rw [muC_at hb] at m1
     refine ⟨g,T,cur,m1,m2,by simpa using m3,fun j c hc => ?_⟩
     rw [List.getElem?_map] at hc
     obtain ⟨c0,h8,rfl⟩ := map_some hc
     obtain ⟨x,m5,m6⟩ := m4 j c0 h8
     refine ⟨x,m5,?_⟩
     have hplain : (∀ T n es,c0 ≠ .own T n es) → Rep1 w' V' (muC ns μ2) c0 x → RepB P w' V' μ2 (gaR ns r n γ γ') (.cell b j) (ren1 (ofPar ns) (strip1 c0)) x := by
      intro hno hr
      have hr' : Rep1 w' V' μ2 (ren1 (ofPar ns) (strip1 c0)) x := hr.strip1.ren fun m hm g hg => by
       cases m with
       | loc k => cases hg
       | par i =>
        simp only [muC] at hg
        obtain ⟨c1,n1,n2⟩ := bind_some hg
        simp only [ofPar,List.getD_eq_getElem?_getD,n1,Option.getD_some]; exact n2
      cases c0 <;> first | exact hr' | exact absurd rfl (hno _ _ _) | (exfalso; simp [Rep1,RepP] at hr; done)
     cases c0 with
     | own T' m es =>
      refine ⟨m6.1,?_⟩
      rw [gaR_own hnd hib (T := T') (m' := m) (es := es) (ret_cell.2 ⟨cs0,h3,h8⟩)]
      exact m6.2
     | dead T' m es => exact m6.1
     | _ => exact hplain (by simp) m6
   · rw [k3 b hb,hrm.box b hb] at hcs
     obtain ⟨g,T,cur,m1,m2,m3,m4⟩ := h.bx b cs hcs
     refine ⟨g,T,cur,hrm.le _ _ m1,(hfc.keep g (blt h m1) (hT.box _ _ hb m1)).trans m2,m3,fun j c hc => ?_⟩
     obtain ⟨x,m5,m6⟩ := m4 j c hc
     refine ⟨x,m5,m6.keep hfc.vkeep hrm.le hle fun T m es g e hg => ?_⟩
     subst e
     have hat : s.at (.cell b j) = some (.own T m es) := by simp [St.at,hcs,hc]
     exact hfc.keep g (olt h hat m6.2 hg) (hT.own _ _ _ _ _ _ hat m6.2 hg fun b' _ e => by injection e with e1 e2; subst e1; exact hb)
 · intro b g hg
   by_cases hb : b ∈ ns
   · rw [k4 _ b (hidx b hb)]
     have : ns.idxOf b < (hpR ns n r.2).length := by rw [k1]; exact List.idxOf_lt_length_iff.2 hb
     exact ⟨_,List.getElem?_eq_getElem this⟩
   · rw [hrm.mu b hb] at hg
     rw [k3 b hb,hrm.box b hb]; exact h.dom b g hg
 · intro b b' g hg hg'
   by_cases hb : b ∈ ns
   · by_cases hb' : b' ∈ ns
     · have := hk.inj (.par (ns.idxOf b)) (.par (ns.idxOf b')) g (by rw [muC_at hb]; exact hg) (by rw [muC_at hb']; exact hg')
       injection this with e
       have e1 := hidx b hb
       rw [e,hidx b' hb'] at e1
       injection e1 with e1; exact e1.symm
     · exfalso
       rw [hrm.mu b' hb'] at hg'
       rcases in_lt hlc hb hg with h1 | h1
       · exact hT.box _ _ hb' hg' h1
       · have := blt h hg'; omega
   · rw [hrm.mu b hb] at hg
     by_cases hb' : b' ∈ ns
     · exfalso
       rcases in_lt hlc hb' hg' with h1 | h1
       · exact hT.box _ _ hb hg h1
       · have := blt h hg; omega
     · rw [hrm.mu b' hb'] at hg'
       exact h.inj b b' g hg hg'
 · intro b g hg o hv
   by_cases hb : b ∈ ns
   · exact hk.visb (.par (ns.idxOf b)) g (by rw [muC_at hb]; exact hg) o hv
   · rw [hrm.mu b hb] at hg
     rcases hfc.vnew g o hv with h1 | h1 | h1
     · exact h.visb b g hg o h1
     · have := blt h hg; omega
     · exact hT.box _ _ hb hg h1
 · intro p T m es x g hp hx hg
   rcases back_cases hnd hrm hs hp with ⟨i,b,off,m',rfl,hi,rfl,hat⟩ | ⟨hat,hne⟩
   · rw [gaR_own hnd hi hat] at hx
     obtain ⟨h1,h2,_⟩ := back_own h hrm hT hk hlc hat hx hg
     exact ⟨h1,h2⟩
   · have hx := two hat hx
     obtain ⟨h1,h2⟩ := h.ow p T m es x g hat hx hg
     refine ⟨fun b hb2 => ?_,fun o hv => ?_⟩
     · by_cases hb : b ∈ ns
       · rcases in_lt hlc hb hb2 with h3 | h3
         · exact hT.own _ _ _ _ _ _ hat hx hg hne h3
         · have := olt h hat hx hg; omega
       · rw [hrm.mu b hb] at hb2; exact h1 b hb2
     · rcases hfc.vnew g o hv with h3 | h3 | h3
       · exact h2 o h3
       · have := olt h hat hx hg; omega
       · exact absurd h3 (hT.own _ _ _ _ _ _ hat hx hg hne)
 · intro p p' T m es T' m' es' x x' g hp hp' hx hx' hg hg'
   rcases back_cases hnd hrm hs hp with ⟨i,b,off,m1,rfl,hi,rfl,hat⟩ | ⟨hat,hne⟩
   · rw [gaR_own hnd hi hat] at hx
     rcases back_cases hnd hrm hs hp' with ⟨i',b',off',m2,rfl,hi',rfl,hat'⟩ | ⟨hat',hne'⟩
     · rw [gaR_own hnd hi' hat'] at hx'
       have := hk.ow2 _ _ _ _ _ _ _ _ _ _ _ hat hat' hx hx' hg hg'
       injection this with e1 e2
       injection e1 with e1
       subst e1 e2
       rw [hi] at hi'; injection hi' with hi'; rw [hi']
     · exfalso
       have hx' := two hat' hx'
       rcases (back_own h hrm hT hk hlc hat hx hg).2.2 with h3 | h3
       · exact hT.own _ _ _ _ _ _ hat' hx' hg' hne' h3
       · have := olt h hat' hx' hg'; omega
   · have hx2 := two hat hx
     rcases back_cases hnd hrm hs hp' with ⟨i',b',off',m2,rfl,hi',rfl,hat'⟩ | ⟨hat',hne'⟩
     · exfalso
       rw [gaR_own hnd hi' hat'] at hx'
       rcases (back_own h hrm hT hk hlc hat' hx' hg').2.2 with h3 | h3
       · exact hT.own _ _ _ _ _ _ hat hx2 hg hne h3
       · have := olt h hat hx2 hg; omega
     · exact h.ow2 p p' T m es T' m' es' x x' g hat hat' hx2 (two hat' hx') hg hg'
 · intro p m hm
   by_cases e : m = n
   · rw [e]; exact hn'
   · simp only [gaR,e,if_false] at hm
     exact hQ m (h.gq p m hm)
end
end Go.Av
namespace Go.Av
section
variable {E : Env} {w0 : World} {V0 : Vis} {T0 : Tch} {Q Q' : Nat → Prop} {s s1 : St} {a a' : Act} {w w' : World} {V V' : Vis} {μ μ' : BMap} {γ γ' : GMap}
theorem rep0_plain {c : AVal} {x : Value} (h : Rep0 w V μ c x) : plainV c = true ∧ Rep3 w V μ c x := by
 cases c <;> first | exact ⟨rfl,h⟩ | (exfalso; simp [Rep0,RepP] at h; done)
theorem all_plain0 : ∀ {cs : List AVal} {xs : List Value},All2 (Rep0 w V μ) cs xs → (∀ c ∈ cs,plainV c = true) ∧ All2 (Rep3 w V μ) cs xs
 | [],[],_ => ⟨by simp,trivial⟩
 | c :: cs,x :: xs,h => by
  obtain ⟨h1,h2⟩ := rep0_plain h.1
  obtain ⟨h3,h4⟩ := all_plain0 h.2
  refine ⟨fun b hb => ?_,h2,h4⟩
  rcases List.mem_cons.1 hb with rfl | hb
  · exact h1
  · exact h3 b hb
 | [],_ :: _,h => h.elim
 | _ :: _,[],h => h.elim
theorem rdAll_plain : ∀ {xs : List Operand} {vs : List AVal},rdAll s xs = some vs → ∀ v ∈ vs,plainV v = true
 | [],vs,h => by simp only [rdAll] at h; injection h with h; subst h; simp
 | x :: xs,vs,h => by
  simp only [rdAll] at h
  obtain ⟨v,_,h⟩ := bind_some h
  obtain ⟨vs',h2,rfl⟩ := map_some h
  intro u hu
  rcases List.mem_cons.1 hu with rfl | hu
  · exact plain_strip v
  · exact rdAll_plain h2 u hu
theorem call_back (hd : a.defers = []) (h : SRel E.P Q s a w V μ γ) (hf : Fr w0 V0 T0 w V) (hl : Loc w0 T0 s μ γ) (hQ : QLe Q Q') {n : Nat} (hn : ¬ Q n) (hn' : Q' n) {dst : Option Nat} (hdst : ∀ k,dst = some k → k < a.tmps.size)
 {sN : St} {μ2 : BMap} {Tc : Tch} {ns : List BName} (hnd : ns.Nodup) (hrm : Room s sN ns μ μ2) (hT : TcOK s ns μ γ Tc) (hTl : ∀ g,Tc g → T0 g ∨ w0.heap.size ≤ g) {r : AVal × Heap} {v : Value}
 (ha : a'.tmps = #[v]) (hk : SRel E.P any (retSt r.1 r.2) a' w' V' (muC ns μ2) γ') (hfc : Fr w V Tc w' V') (hlc : LocB w Tc (retSt r.1 r.2) (muC ns μ2) γ') (hres : plainV r.1 = true ∨ ∃ T n es,r.1 = .own T n es) (hs : setBoxes sN ns (hpR ns n r.2) = some s1) :
 Sim E.P w0 V0 T0 Q' (s1.putD dst (recvC n (ren (ofPar ns) r.1))) (a.put dst v) w' := by
 have hfr : ∀ p,γ p n = none := fresh_of h hn
 have h1 := call_boxes h hnd hrm hT hfr hQ hn' hk hlc hfc hs
 have hf1 : Fr w0 V0 T0 w' V' := hf.trans hfc hTl
 have two : ∀ {p T m es x},s.at p = some (.own T m es) → gaR ns r n γ γ' p m = some x → γ p m = some x := by
  intro p T m es x hp hx
  obtain ⟨y,hy,_⟩ := h.conc_own hp
  have := gaR_le (ns := ns) (r := r) (γ' := γ') hfr _ _ _ hy
  rw [this] at hx; injection hx with hx; subst hx; exact hy
 have old_lt : ∀ g,(Tc g ∨ w.heap.size ≤ g) → T0 g ∨ w0.heap.size ≤ g := fun g hg => by
  rcases hg with hg | hg
  · exact hTl g hg
  · exact .inr (Nat.le_trans hf.size hg)
 have hbx : ∀ b g,μ2 b = some g → T0 g ∨ w0.heap.size ≤ g := fun b g hg => by
  by_cases hb : b ∈ ns
  · exact old_lt g (in_lt hlc hb hg)
  · rw [hrm.mu b hb] at hg; exact hl.box b g hg
 have hpr : ∀ i,μ2 (.par i) = T0.m (.par i) := fun i => (hrm.par i).trans (hl.par i)
 have hl1 : Loc w0 T0 s1 μ2 (gaR ns r n γ γ') := by
  refine ⟨hbx,hpr,fun p T m es x g hp hx hg => ?_⟩
  rcases back_cases hnd hrm hs hp with ⟨i,b,off,m',rfl,hi,rfl,hat⟩ | ⟨hat,hne⟩
  · rw [gaR_own hnd hi hat] at hx
    exact old_lt g (back_own h hrm hT hk hlc hat hx hg).2.2
  · exact hl.own p T m es x g hat (two hat hx) hg
 obtain ⟨x,hx0,hr⟩ := hk.tm 0 r.1 rfl
 have : x = v := by rw [ha] at hx0; simpa using hx0.symm
 subst this
 cases dst with
 | none => exact ⟨hd,V',μ2,_,h1,hf1,hl1⟩
 | some k =>
  rcases hres with hp | ⟨T,m,es,he⟩
  · have e1 : recvC n (ren (ofPar ns) r.1) = ren (ofPar ns) r.1 := by
     revert hp; generalize r.1 = u; intro hp; cases u <;> first | rfl | cases hp
    rw [e1]
    have hr3 : Rep3 w' V' (muC ns μ2) r.1 x := by
     revert hr hp; generalize r.1 = u; intro hr hp; cases u <;> first | exact hr | cases hp
    refine sim_put hd h1 hf1 hl1 (fun _ h => h) hdst (by rw [ren_plain]; exact hp) (hr3.ren fun m hm g hg => ?_)
    cases m with
    | loc k => cases hg
    | par i =>
     simp only [muC] at hg
     obtain ⟨c1,n1,n2⟩ := bind_some hg
     simp only [ofPar,List.getD_eq_getElem?_getD,n1,Option.getD_some]; exact n2
  · rw [he] at hr
    have hat : (retSt r.1 r.2).at (.tmp 0) = some (.own T m es) := by rw [← he]; rfl
    rw [he]
    show Sim E.P w0 V0 T0 Q' (s1.put k (.own T n es)) (a.put (some k) x) w'
    let γ2 : GMap := fun p m => if p = .tmp k ∧ m = n then some x else gaR ns r n γ γ' p m
    have hg2 : GLe (gaR ns r n γ γ') γ2 := fun p m y hy => by
     have : ¬ (p = .tmp k ∧ m = n) := by
      rintro ⟨rfl,rfl⟩
      simp only [gaR,if_true] at hy; cases hy
     simp only [γ2,this,if_false]; exact hy
    refine ⟨hd,V',μ2,γ2,?_,hf1,?_⟩
    · refine h1.put (hdst k rfl) hg2 (fun p m hm => ?_) ⟨hr.1,by simp [γ2]⟩ (fun T' n' es' g e hg' => ?_)
      · by_cases hm' : p = .tmp k ∧ m = n
        · rw [hm'.2]; exact hn'
        · simp only [γ2,hm',if_false] at hm; exact h1.gq p m hm
      · injection e with e1 e2 e3
        subst e1; subst e2; subst e3
        obtain ⟨o1,o2,o3⟩ := back_own h hrm hT hk hlc hat hr.2 hg'
        refine ⟨o1,o2,fun p' T' n' es' x' hne hp' hx' hg3 => ?_⟩
        rcases back_cases hnd hrm hs hp' with ⟨i,b,off,m',rfl,hi,rfl,hat'⟩ | ⟨hat',hne'⟩
        · rw [gaR_own hnd hi hat'] at hx'
          have := hk.ow2 _ _ _ _ _ _ _ _ _ _ _ hat hat' hr.2 hx' hg' hg3
          cases this
        · have hx2 := two hat' hx'
          rcases o3 with o3 | o3
          · exact hT.own _ _ _ _ _ _ hat' hx2 hg3 hne' o3
          · have := own_lt h hat' hx2 hg3; omega
    · refine ⟨hbx,hpr,fun p T' n' es' y g hp hy hyg => ?_⟩
      rw [at_put] at hp
      by_cases hpk : p = .tmp k
      · simp only [hpk,if_true] at hp
        injection hp with hp; injection hp with e1 e2 e3
        subst e2
        have : y = x := by simp only [γ2,hpk,and_self,if_true] at hy; injection hy with hy; exact hy.symm
        subst this
        exact old_lt g (back_own h hrm hT hk hlc hat hr.2 hyg).2.2
      · simp only [hpk,if_false] at hp
        have : gaR ns r n γ γ' p n' = some y := by simpa [γ2,hpk] using hy
        exact hl1.own p T' n' es' y g hp this hyg
theorem tC_ok (h : SRel E.P Q s a w V μ γ) (T0 : Tch) (ns : List BName) : TcOK s ns μ γ (tC T0 s ns μ γ) :=
 ⟨fun _ _ _ _ _ _ hp hx hg hne => tC_own h hp hx hg hne,fun _ _ hb hg => tC_box h hb hg⟩
theorem par_only {P : Program} {Q : Nat → Prop} {v : AVal} {H : Heap} (hk : SRel P Q (retSt v H) a' w' V' μ' γ') (k : Nat) : μ' (.loc k) = none := by
 cases hm : μ' (.loc k) with
 | none => rfl
 | some g => obtain ⟨cs,hc⟩ := hk.dom _ g hm; simp [retSt,St.box,alGet] at hc
theorem after_call (hd : a.defers = []) (h : SRel E.P Q s a w V μ γ) (hf : Fr w0 V0 T0 w V) (hl : Loc w0 T0 s μ γ) (hQ : QLe Q Q') {n : Nat} (hn : ¬ Q n) (hn' : Q' n) {dst : Option Nat} (hdst : ∀ k,dst = some k → k < a.tmps.size)
 {Tc : Tch} {ns : List BName} {H : Heap} (hnd : ns.Nodup) (hbox : ∀ b ∈ ns,∃ cs,s.box b = some cs) (hH : boxesAt s ns = some H) (hT : TcOK s ns μ γ Tc) (hTl : ∀ g,Tc g → T0 g ∨ w0.heap.size ≤ g) {γc : GMap} {a0 : Act} (hpre : SRel E.P old (boxSt (hpC ns H)) a0 w V (muC ns μ) γc)
 {r : AVal × Heap} {v : Value} (hb : Back E.P w V Tc (muC ns μ) r v w') : (∀ s1,setBoxes s ns (hpR ns n r.2) = some s1 → Sim E.P w0 V0 T0 Q' (s1.putD dst (recvC n (ren (ofPar ns) r.1))) (a.put dst v) w') ∧
  ∀ k s1,alGet s.lb k = none → setBoxes { s with lb := alPut s.lb k [] } (ns ++ [.loc k]) (hpR (ns ++ [.loc k]) n r.2) = some s1 → Sim E.P w0 V0 T0 Q' (s1.putD dst (recvC n (ren (ofPar (ns ++ [.loc k])) r.1))) (a.put dst v) w' := by
 obtain ⟨V',γ',a',μ',ha,hle,hk,hfc,hlc,hres⟩ := hb
 have hHl := (boxesAt_spec hH).1
 refine ⟨fun s1 hs => ?_,fun k s1 hlb hs => ?_⟩
 · have e : μ' = muC ns μ := by
    refine same_map hpre hk hle ?_
    have := (setBoxes_spec hs hnd hbox).1
    simp only [hpR,hpC,List.length_map] at this ⊢
    omega
   subst e
   exact call_back hd h hf hl hQ hn hn' hdst hnd (Room.refl hbox) hT hTl ha hk hfc hlc hres hs
 · have hkn : BName.loc k ∉ ns := fun hm => by
    obtain ⟨cs,hc⟩ := hbox _ hm
    simp only [St.box] at hc; rw [hlb] at hc; cases hc
   have hmk : μ (.loc k) = none := by
    cases hm : μ (.loc k) with
    | none => rfl
    | some g =>
     obtain ⟨cs,hc⟩ := h.dom _ g hm
     simp only [St.box] at hc; rw [hlb] at hc; cases hc
   have hnd2 : (ns ++ [BName.loc k]).Nodup := by
    rw [List.nodup_append]
    exact ⟨hnd,by simp,fun b hb c hc => by simp at hc; subst hc; exact fun e => hkn (e ▸ hb)⟩
   have hsb : ∀ b,b ≠ .loc k → ({ s with lb := alPut s.lb k [] } : St).box b = s.box b := fun b hb => by
    cases b with
    | par i => rfl
    | loc j =>
     have : ¬ k = j := fun e => hb (by rw [e])
     simp only [St.box,alGet_put,this,if_false]
   let μ2 : BMap := fun b => if b = .loc k then μ' (.par ns.length) else μ b
   have hrm : Room s { s with lb := alPut s.lb k [] } (ns ++ [.loc k]) μ μ2 := by
    refine ⟨rfl,fun b hb => hsb b fun e => hb (by simp [e]),fun b hb => ?_,fun b hb => ?_,fun b g hg => ?_,fun i => ?_⟩
    · rcases List.mem_append.1 hb with hb | hb
      · rw [hsb b fun e => hkn (e ▸ hb)]; exact hbox b hb
      · simp at hb; subst hb
        exact ⟨[],by simp only [St.box,alGet_put,if_true]⟩
    · have : b ≠ .loc k := fun e => hb (by simp [e])
      simp only [μ2,this,if_false]
    · have : b ≠ .loc k := fun e => by rw [e,hmk] at hg; cases hg
      simp only [μ2,this,if_false]; exact hg
    · simp [μ2]
   have hlen := (setBoxes_spec hs hnd2 hrm.at_).1
   simp only [hpR,List.length_map,List.length_append,List.length_singleton] at hlen
   have e : μ' = muC (ns ++ [.loc k]) μ2 := by
    funext b
    cases b with
    | loc j => exact par_only hk j
    | par i =>
     simp only [muC]
     rcases Nat.lt_trichotomy i ns.length with hi | hi | hi
     · rw [List.getElem?_append_left hi,List.getElem?_eq_getElem hi]
       simp only [Option.bind_some]
       have hne : ns[i] ≠ .loc k := fun e => hkn (e ▸ List.getElem_mem hi)
       simp only [μ2,hne,if_false]
       have hib : ns[i]? = some ns[i] := List.getElem?_eq_getElem hi
       obtain ⟨cs,hcs⟩ := hbox _ (List.getElem_mem hi)
       obtain ⟨g,_,_,hg,_⟩ := h.bx _ _ hcs
       rw [hg]
       exact hle (.par i) g (by simp only [muC,hib,Option.bind_some]; exact hg)
     · subst hi
       rw [List.getElem?_append_right (Nat.le_refl _)]; simp [μ2]
     · rw [List.getElem?_eq_none (by simp; omega)]
       cases hm : μ' (.par i) with
       | none => rfl
       | some g =>
        obtain ⟨cs,hc⟩ := hk.dom _ g hm
        simp only [retSt,St.box] at hc
        have := (List.getElem?_eq_some_iff.1 hc).1
        omega
   rw [e] at hk hlc
   have hT2 : TcOK s (ns ++ [.loc k]) μ γ Tc := by
    refine ⟨fun p T n es x g hp hx hg hne => hT.own p T n es x g hp hx hg fun b off e hb => hne b off e (by simp [hb]),fun b g hb hg => hT.box b g (fun h => hb (by simp [h])) hg⟩
   exact call_back hd h hf hl hQ hn hn' hdst hnd2 hrm hT2 hTl ha hk hfc hlc hres hs
theorem run_enter {o : Oper} {g : Operand} {args : Array Operand} {ats : Array TypeId} (ho : o.op = .call { callee := .value g,args,argTypes := ats }) {f : FuncId} {x y : Array Value} (hg : a.eval g = .func (.func f) x y)
 {P : Program} (hf : Enters P f) : (execOp a.eval o).run P w = .ok (.enter f (x ++ args.map a.eval ++ y)) w := by
 obtain ⟨fn,c,h1,h2,h3⟩ := hf
 have h4 : ¬ fn.name = "runtime.NumGoroutine" := by simpa using h2
 simp [execOp,ho,resolve,hg,Deferred.ofValue,invoke,callFunc,h1,h4,h3]
theorem wp_enter {o : Oper} {P : Program} {f : FuncId} {xs : Array Value} (hrun : (execOp a.eval o).run P w = .ok (.enter f xs) w) {K : Act → World → Prop} {X : Exit → Act → World → Prop}
 (hc : Calls P f xs w fun e w' => ∃ v,e = .returned v ∧ K (a.put o.dst v) w') : o.wp P a w K X := by
 unfold Oper.wp; rw [hrun,Oper.upon_enter]
 refine Calls.mono hc fun e w' he => ?_
 obtain ⟨v,rfl,hK⟩ := he
 exact hK
theorem sim_call {D : FuncId → List AVal → Heap → Option (AVal × Heap)} (hD : Sound E.P T0.F D) (hd : a.defers = []) (h : SRel E.P Q s a w V μ γ) (hf : Fr w0 V0 T0 w V) (hl : Loc w0 T0 s μ γ) (hQ : QLe Q Q') {n : Nat} (hn : ¬ Q n) (hn' : Q' n)
 {o : Oper} (hdst : ∀ k,o.dst = some k → k < a.tmps.size) {g : Operand} {args : Array Operand} {ats : Array TypeId} (ho : o.op = .call { callee := .value g,args,argTypes := ats }) {s' : St}
 (hs : ((rd s g).bind fun c => (rdAll s args.toList).bind fun as => callF D s n o.dst as c) = some s') {X : Exit → Act → World → Prop} : o.wp E.P a w (Sim E.P w0 V0 T0 Q' s') X := by
 obtain ⟨c,hc,hs⟩ := bind_some hs
 obtain ⟨as,has,hs⟩ := bind_some hs
 have hrc := h.rd hc
 have hra := rdAll_rep h has
 have hpa := rdAll_plain has
 unfold callF at hs
 split at hs
 · rename_i f first cap _
   obtain ⟨x,y,hfun,hfirst,hcap⟩ := hrc
   obtain ⟨p1,r1⟩ := all_plain0 hfirst
   obtain ⟨p2,r2⟩ := all_plain0 hcap
   have hall : All2 (Rep3 w V μ) (first ++ (as ++ cap)) (x ++ args.map a.eval ++ y).toList := by
    have := r1.append (All2.append hra r2)
    simpa using this
   have hplain : ∀ v ∈ first ++ (as ++ cap),plainV v = true := by
    intro v hv
    simp only [List.mem_append] at hv
    rcases hv with hv | hv | hv
    · exact p1 v hv
    · exact hpa v hv
    · exact p2 v hv
   -- the callee,whatever boxes it is handed
   have key : ∀ (ns : List BName) (H : Heap) (r : AVal × Heap) (s1 : St),ns.Nodup → (∀ b ∈ ns,∃ cs,s.box b = some cs ∧ ∀ m ∈ cs.flatMap names1,m ∈ ns) → (∀ v ∈ first ++ (as ++ cap),∀ b ∈ names v,b ∈ ns) →
    boxesAt s ns = some H → D f ((first ++ (as ++ cap)).map (ren (toPar ns))) (hpC ns H) = some r → setBoxes s ns (hpR ns n r.2) = some s1 →
    o.wp E.P a w (Sim E.P w0 V0 T0 Q' (s1.putD o.dst (recvC n (ren (ofPar ns) r.1)))) X := by
    intro ns H r s1 hnd hcl hnm hH hDr hset
    have hpre : SRel E.P old (boxSt (hpC ns H)) a w V (muC ns μ) (gaC s ns γ) := call_pre h hnd hcl hH
    obtain ⟨hen,hcalls⟩ := hD.plain _ _ _ _ hDr (x ++ args.map a.eval ++ y) w V (tC T0 s ns μ γ) (muC ns μ) (gaC s ns γ) a
     (All2.map_mem (fun v hv z hz => hz.ren fun b hb g hg => by rw [toPar_get hnd (hnm v hv b hb)]; exact hg) hall)
     (fun v hv => by
       obtain ⟨u,hu,rfl⟩ := List.mem_map.1 hv
       rw [ren_plain]; exact hplain u hu)
     hpre (call_loc hH) rfl (tC_sealed hf hl)
    refine wp_enter (run_enter ho hfun hen) (Calls.mono hcalls fun e w' he => ?_)
    obtain ⟨v,rfl,hback⟩ := he
    exact ⟨v,rfl,(after_call hd h hf hl hQ hn hn' hdst hnd (fun b hb => (hcl b hb).imp fun _ h => h.1) hH (tC_ok h T0 ns) (tC_loc hl) hpre hback).1 s1 hset⟩
   simp only at hs
   split at hs
   · rename_i hno
     obtain ⟨r,hDr,hs⟩ := bind_some hs
     split at hs
     · rename_i hr2
       injection hs with hs
       have hno' : ∀ v ∈ first ++ (as ++ cap),names v = [] := fun v hv => by
        have := List.flatMap_eq_nil_iff.1 hno v hv; exact this
       have := key [] [] r s List.nodup_nil (by simp) (fun v hv b hb => by rw [hno' v hv] at hb; cases hb) rfl (by
        rw [map_id_mem fun v hv => ren_id fun b hb => by rw [hno' v hv] at hb; cases hb]
        exact hDr) (by rw [hr2]; rfl)
       have e : ren (ofPar []) r.1 = r.1 := ren_id fun b _ => by cases b <;> rfl
       rw [e,hs] at this
       exact this
     · cases hs
   · rename_i b bs hno
     obtain ⟨ns,hreach,hs⟩ := bind_some hs
     obtain ⟨H,hH,hs⟩ := bind_some hs
     obtain ⟨r,hDr,hs⟩ := bind_some hs
     obtain ⟨s1,hset,rfl⟩ := map_some hs
     obtain ⟨h1,_,h3,h4⟩ := reach_spec hreach List.nodup_nil (by simp)
     exact key ns H r s1 h1 h4 (fun v hv b' hb' => h3 b' (by rw [← hno]; exact List.mem_flatMap.2 ⟨v,hv,hb'⟩)) hH hDr hset
 · cases hs
theorem sim_callN {D : FuncId → List AVal → Heap → Option (AVal × Heap)} (hD : Sound E.P T0.F D) (hd : a.defers = []) (h : SRel E.P Q s a w V μ γ) (hf : Fr w0 V0 T0 w V) (hl : Loc w0 T0 s μ γ) (hQ : QLe Q Q') {n : Nat} (hn : ¬ Q n) (hn' : Q' n)
 {o : Oper} (hdst : ∀ k,o.dst = some k → k < a.tmps.size) {f : FuncId} {args : Array Operand} {ats : Array TypeId} (ho : o.op = .call { callee := .value (.func f),args,argTypes := ats }) {s' : St}
 (hs : ((rdAll s args.toList).bind fun as => callN D s n o.dst as f) = some s') {X : Exit → Act → World → Prop} : o.wp E.P a w (Sim E.P w0 V0 T0 Q' s') X := by
 obtain ⟨as,has,hs⟩ := bind_some hs
 have hra := rdAll_rep h has
 have hpa := rdAll_plain has
 have hall : All2 (Rep3 w V μ) as (args.map a.eval).toList := by simpa using hra
 unfold callN at hs
 obtain ⟨ns,hreach,hs⟩ := bind_some hs
 obtain ⟨H,hH,hs⟩ := bind_some hs
 obtain ⟨r,hDr,hs⟩ := bind_some hs
 obtain ⟨hnd,_,h3,hcl⟩ := reach_spec hreach List.nodup_nil (by simp)
 have hnm : ∀ v ∈ as,∀ b ∈ names v,b ∈ ns := fun v hv b hb => h3 b (List.mem_flatMap.2 ⟨v,hv,hb⟩)
 have hpre : SRel E.P old (boxSt (hpC ns H)) a w V (muC ns μ) (gaC s ns γ) := call_pre h hnd hcl hH
 obtain ⟨hen,hcalls⟩ := hD.plain _ _ _ _ hDr (args.map a.eval) w V (tC T0 s ns μ γ) (muC ns μ) (gaC s ns γ) a
  (All2.map_mem (fun v hv z hz => hz.ren fun b hb g hg => by rw [toPar_get hnd (hnm v hv b hb)]; exact hg) hall)
  (fun v hv => by
    obtain ⟨u,hu,rfl⟩ := List.mem_map.1 hv
    rw [ren_plain]; exact hpa u hu)
  hpre (call_loc hH) rfl (tC_sealed hf hl)
 have hrun := run_enter (a := a) (w := w) (x := #[]) (y := #[]) ho (by rfl) hen
 simp only [Array.empty_append,Array.append_empty] at hrun
 refine wp_enter hrun (Calls.mono hcalls fun e w' he => ?_)
 obtain ⟨v,rfl,hback⟩ := he
 refine ⟨v,rfl,?_⟩
 have key := after_call hd h hf hl hQ hn hn' hdst hnd (fun b hb => (hcl b hb).imp fun _ h => h.1) hH (tC_ok h T0 ns) (tC_loc hl) hpre hback
 split at hs
 · obtain ⟨s1,hset,rfl⟩ := map_some hs
   exact key.1 s1 hset
 · split at hs
   · cases hs
   · rename_i k hk
     split at hs
     · cases hs
     · rename_i hlb
       obtain ⟨s1,hset,rfl⟩ := map_some hs
       exact key.2 k s1 hlb hset
end
end Go.Av
namespace Go.Av
theorem repA_len (z : List AVal) : ∀ n,(repA n z).length = n * z.length
 | 0 => by simp [repA]
 | n + 1 => by rw [repA,List.length_append,repA_len z n,Nat.succ_mul]; omega
theorem repA_get (z : List AVal) (hz : 0 < z.length) : ∀ (n i : Nat) (c : AVal),(repA n z)[i]? = some c → z[i % z.length]? = some c
 | 0,_,_,h => by simp [repA] at h
 | n + 1,i,c,h => by
  rw [repA] at h
  by_cases hi : i < z.length
  · rw [List.getElem?_append_left hi] at h
    rw [Nat.mod_eq_of_lt hi]; exact h
  · rw [List.getElem?_append_right (by omega)] at h
    have := repA_get z hz n _ c h
    rw [Nat.mod_eq_sub_mod (by omega)]; exact this
section
variable {E : Env} {w0 : World} {V0 : Vis} {T0 : Tch} {Q Q' : Nat → Prop} {s s1 : St} {a a' : Act} {w w' : World} {V V' : Vis} {μ μ' : BMap} {γ γ' : GMap}
theorem sim_newG (hd : a.defers = []) (h : SRel E.P Q s a w V μ γ) (hf : Fr w0 V0 T0 w V) (hl : Loc w0 T0 s μ γ) (hQ : QLe Q Q') {n : Nat} (hn : ¬ Q n) (hn' : Q' n) {o : Oper} (hdst : ∀ k,o.dst = some k → k < a.tmps.size)
 {T : TypeId} {off : Nat} {cs : List AVal} {cells : Array Value} (hc : All2 (Rep1 w V μ) cs cells.toList) {s' : St} (hs : newG s n o.dst off cs = some s')
 {pv : Value} (hpv : PtrR w.heap.size off pv) (hrun : (execOp a.eval o).run E.P w = .ok (.value pv) (w.alloc (.cells cells T))) {X : Exit → Act → World → Prop} :
 o.wp E.P a w (Sim E.P w0 V0 T0 Q' s') X := by
 refine wp_val hrun ?_
 unfold newG at hs
 split at hs
 · rename_i k hk
   rw [hk]
   split at hs
   · rename_i hnone
     injection hs with hs; subst hs
     have h1 := h.alloc (.cells cells T)
     let μ' : BMap := fun b => if b = .loc k then some w.heap.size else μ b
     let γ' : GMap := fun p m => match p with
      | .cell (.loc j) i => if j = k ∧ m = n then cells[i]? else γ p m
      | p => γ p m
     have hg : GLe γ γ' := by
      intro p m x hx
      have hne : m ≠ n := by rintro rfl; rw [fresh_of h hn] at hx; cases hx
      cases p with
      | tmp j => exact hx
      | cell b i => cases b <;> simp [γ',hne,hx]
     have hq : ∀ p m,γ' p m ≠ none → Q' m := by
      intro p m hm
      cases p with
      | tmp j => exact hQ m (h.gq _ m hm)
      | cell b i =>
       cases b with
       | par j => exact hQ m (h.gq _ m hm)
       | loc j =>
        by_cases hj : j = k ∧ m = n
        · rw [hj.2]; exact hn'
        · simp only [γ',hj,if_false] at hm; exact hQ m (h.gq _ m hm)
     have hle : BLe μ μ' := by
      intro b g hb
      have : b ≠ .loc k := by
       rintro rfl
       obtain ⟨cs',h2⟩ := h.dom _ _ hb
       simp only [St.box] at h2; rw [hnone] at h2; cases h2
      simp [μ',this,hb]
     have hγc : ∀ i x,cells.toList[i]? = some x → γ' (.cell (.loc k) i) n = some x := fun i x hx => by simpa [γ'] using hx
     have hc' : All2 (Rep1 (w.alloc (.cells cells T)) V μ) cs cells.toList := hc.imp fun _ _ h3 => h3.keep (alloc_keeps h.vis) (BLe.refl _)
     have h2 : SRel E.P Q' { s with lb := alPut s.lb k (cs.map (stamp1 n)) } a (w.alloc (.cells cells T)) V μ' γ' := by
      refine h1.addBox (T := T) (cur := cells) (g := w.heap.size) hnone rfl hg hq alloc_new (fun b hb => ?_) (fun o hv => ?_) (fun p T' m es x hp hx hgx => ?_) ?_ (fun i c hi => ?_) (fun i T' m es x hi hx => ?_)
      · have := box_lt h hb; omega
      · have := h.vis _ _ hv; omega
      · have := own_lt h hp hx hgx; omega
      · have := hc.length; simp at this ⊢; omega
      · have := stamp_cells (E := E) hc' hle hγc i c hi
        simpa using this
      · obtain ⟨rfl,m',h3⟩ := stamp_own hi
        obtain ⟨y,h4,h5⟩ := hc.get h3
        have h6 := hγc i y h4
        rw [h6] at hx; injection hx with hx; subst hx
        rw [h5.2.2]; rfl
     refine ⟨hd,V,μ',γ',?_,hf.alloc h.vis _,?_⟩
     · exact h2.put (hdst k hk) (GLe.refl _) h2.gq ⟨w.heap.size,by simp [μ'],hpv⟩ (fun T' m es g e => by cases e)
     · constructor
       · intro b g hb
         by_cases hbk : b = .loc k
         · simp only [μ',hbk,if_true] at hb; injection hb with hb; subst hb; exact .inr hf.size
         · simp only [μ',hbk,if_false] at hb; exact hl.box b g hb
       · intro i
         have : BName.par i ≠ .loc k := by intro e; cases e
         simp only [μ',this,if_false]; exact hl.par i
       · intro p T' m es x g hp hx hgx
         rw [at_put] at hp
         by_cases hpk : p = .tmp k
         · simp [hpk] at hp
         · simp only [hpk,if_false] at hp
           rw [at_lb] at hp
           have old : s.at p = some (.own T' m es) → T0 g ∨ w0.heap.size ≤ g := by
            intro hp
            obtain ⟨z,hz,_⟩ := h.conc_own hp
            have := hg _ _ _ hz
            rw [this] at hx; injection hx with hx; subst hx
            exact hl.own p T' m es _ g hp hz hgx
           cases p with
           | tmp j => exact old hp
           | cell b off =>
            cases b with
            | par j => exact old hp
            | loc j =>
             simp only at hp
             by_cases hj : j = k
             · subst hj
               simp only [if_true] at hp
               obtain ⟨rfl,m',h3⟩ := stamp_own hp
               obtain ⟨y,h4,h5⟩ := hc.get h3
               have h6 := hγc off y h4
               rw [h6] at hx; injection hx with hx; subst hx
               rw [h5.2.2] at hgx; cases hgx
             · simp only [hj,if_false] at hp
               exact old hp
   · cases hs
 · cases hs
theorem make_rep {T : TypeId} {z : List AVal} (hz : zeroA E.P T = some z) (hpos : 0 < z.length) (m : Nat) : ∃ zv i,E.P.info? T = some i ∧ i.zero = some zv ∧ zv.cells.size = z.length ∧
 All2 (Rep1 w V μ) (repA m z) ((Array.range (m * z.length)).map (fun j => zv.cells[j % zv.cells.size]!)).toList := by
 obtain ⟨zv,i,h1,h2,h3⟩ := zeroA_rep (w := w) (V := V) (μ := μ) hz
 have hl := h3.length
 simp only [Array.length_toList] at hl
 refine ⟨zv,i,h1,h2,hl.symm,All2.of_get (by simp [repA_len]) fun j c hj => ?_⟩
 have hjl : j < m * z.length := by
  have := (List.getElem?_eq_some_iff.1 hj).1
  rwa [repA_len] at this
 obtain ⟨x,hx,hr⟩ := h3.get (repA_get z hpos m j c hj)
 refine ⟨x,?_,hr⟩
 have hx' : zv.cells[j % zv.cells.size]? = some x := by rw [← hl]; simpa using hx
 have hb : zv.cells[j % zv.cells.size]! = x := by
  rw [getElem!_def,hx']
 rw [Array.getElem?_toList,Array.getElem?_map,Array.getElem?_range,if_pos hjl,Option.map_some,hb]
theorem sim_make (hd : a.defers = []) (h : SRel E.P Q s a w V μ γ) (hf : Fr w0 V0 T0 w V) (hl : Loc w0 T0 s μ γ) (hQ : QLe Q Q') {n : Nat} (hn : ¬ Q n) (hn' : Q' n) {o : Oper} (hdst : ∀ k,o.dst = some k → k < a.tmps.size)
 {T : TypeId} {x y : Operand} (ho : o.op = .makeSlice T x y) {s' : St} (hs : ((rd s x).bind fun u => (rd s y).bind fun v => makeF E s n o.dst T u v) = some s') {X : Exit → Act → World → Prop} :
 o.wp E.P a w (Sim E.P w0 V0 T0 Q' s') X := by
 obtain ⟨u,hu,hs⟩ := bind_some hs
 obtain ⟨v,hv,hs⟩ := bind_some hs
 unfold makeF at hs
 split at hs
 · rename_i l c
   obtain ⟨e,h1,hs⟩ := bind_some hs
   obtain ⟨z,h2,hs⟩ := bind_some hs
   split at hs
   · rename_i hcnd
     obtain ⟨hlc,c1,c2,c3,c4,c5⟩ := hcnd
     have hlc2 := hlc.symm
     clear hlc
     subst hlc2
     have ex : a.eval x = .int .i64 l := h.rd hu
     have ey : a.eval y = .int .i64 l := h.rd hv
     have hpos : 0 < z.length := by omega
     obtain ⟨zv,i,i1,i2,i3,i4⟩ := make_rep (E := E) (w := w) (V := V) (μ := μ) h2 hpos l.toNat
     have hwr : IntKind.i64.wrap l = l := IntWalk.i64_in _ (by omega)
     refine sim_newG (T := e) (pv := .slice (some ⟨w.heap.size,0,none⟩) l.toNat l.toNat) hd h hf hl hQ hn hn' hdst i4 hs ((ptrR_ge (Nat.le_add_right _ _)).2 ⟨l.toNat,by rw [Nat.add_sub_cancel_left]; exact Nat.le_refl _,by rw [Nat.add_sub_cancel_left]⟩) ?_
     have hsz : E.P.cellsOf e = z.length := c4.symm
     have hbytes : i.bytes = E.P.bytesOf e := by unfold Program.bytesOf; rw [i1]; rfl
     have hbig : ¬ ((i.bytes : Int) * l > 281474976710656) := by
      have h4 : i.bytes ≤ 32768 := by rw [hbytes]; exact c3
      have h3 : (i.bytes : Int) ≤ 32768 := by omega
      have : (i.bytes : Int) * l ≤ 32768 * 1073741824 := Int.mul_le_mul h3 c2 c1 (by omega)
      omega
     have hneg : ¬ l < 0 := by omega
     have hne : E.P.cellsOf e ≠ 0 := by omega
     have ht := telem_some h1
     simp only [execOp,ho,ex,ey]
     by_cases hl0 : l.toNat * z.length = 0
     · have hl1 : l.toNat = 0 := by
        rcases Nat.mul_eq_zero.1 hl0 with h | h
        · exact h
        · omega
       simp [Instr.makeSlice,run_underlying' ht,asInt,asIntOf,typeInfo,i1,hwr,hbig,hneg,run_sizeOf' hne,hsz,hl1,newRow]
       have hr0 : ∀ f : Nat → Value,Array.map f (Array.range 0) = #[] := fun f => by apply Array.ext'; simp
       rw [hr0,hr0]
     · simp [Instr.makeSlice,run_underlying' ht,asInt,asIntOf,typeInfo,i1,i2,i3,hwr,hbig,hneg,run_sizeOf' hne,hsz,hl0,zeroValue,newRow]
   · cases hs
 · cases hs
end
end Go.Av
namespace Go.Av
section
variable {E : Env} {w0 : World} {V0 : Vis} {T0 : Tch} {Q Q' : Nat → Prop} {s s' : St} {a a' : Act} {w w' : World} {V V' : Vis} {μ μ' : BMap} {γ γ' : GMap}
def ValP (w : World) (V : Vis) (v : AVal) (x : Value) : Prop := (∃ cs y,v = .agg cs ∧ x = .agg y ∧ AllP w V cs y.toList) ∨ ((∀ cs,v ≠ .agg cs) ∧ RepP w V v x)
theorem ents_cons {k v : AVal} {es : List AVal} {m : MapEntry} {ms : List MapEntry} : EntsP w V (.tup [k,v] :: es) (m :: ms) ↔ (RepP w V k m.key ∧ ValP w V v m.val) ∧ EntsP w V es ms := by
 unfold ValP
 cases v <;> simp [EntsP]
theorem AllP.all : ∀ {cs : List AVal} {xs : List Value},AllP w V cs xs → All2 (RepP w V) cs xs
 | [],[],_ => trivial
 | _ :: _,_ :: _,h => ⟨h.1,h.2.all⟩
 | [],_ :: _,h => by simp [AllP] at h
 | _ :: _,[],h => by simp [AllP] at h
theorem AllP.of : ∀ {cs : List AVal} {xs : List Value},All2 (RepP w V) cs xs → AllP w V cs xs
 | [],[],_ => trivial
 | _ :: _,_ :: _,h => ⟨h.1,AllP.of h.2⟩
 | [],_ :: _,h => h.elim
 | _ :: _,[],h => h.elim
theorem RepP.r1 {v : AVal} {x : Value} (h : RepP w V v x) : Rep1 w V μ v x := by
 cases v <;> first | exact h | (simp [RepP] at h; done)
theorem RepP.r3 {v : AVal} {x : Value} (h : RepP w V v x) : Rep3 w V μ v x := by
 cases v <;> first | exact h | (simp [RepP] at h; done)
theorem RepP.plain {v : AVal} {x : Value} (h : RepP w V v x) : plainV v = true := by
 cases v <;> first | rfl | (simp [RepP] at h; done)
theorem ValP.r2 {v : AVal} {x : Value} (h : ValP w V v x) : Rep2 w V μ v x ∧ plainV v = true ∧ ∀ vs,v ≠ .tup vs := by
 rcases h with ⟨cs,y,rfl,rfl,h⟩ | ⟨ha,h⟩
 · exact ⟨⟨y,rfl,h.all.imp fun _ _ => RepP.r1⟩,rfl,by simp⟩
 · exact ⟨h.r1.r2 ha,h.plain,fun vs e => by subst e; simp [RepP] at h⟩
theorem ValP.of {v : AVal} {x : Value} (h : RepR w V μ v x) (hp : pureE (strip2 v) = true) : ValP w V (strip2 v) x := by
 have ht : ∀ vs,v ≠ .tup vs := by rintro vs rfl; cases hp
 have h2 := h.strip2 ht
 revert hp h2
 generalize strip2 v = u
 intro hp h2
 cases u
 case agg cs =>
  obtain ⟨y,rfl,h3⟩ := h2
  refine .inl ⟨cs,y,rfl,rfl,.of (All2.of_get h3.length fun i c hc => ?_)⟩
  obtain ⟨b,hb,hr⟩ := h3.get hc
  exact ⟨b,hb,pure_rep hr (List.all_eq_true.1 hp c (List.mem_of_getElem? hc))⟩
 all_goals first | (cases hp; done) | exact .inr ⟨by simp,h2⟩
theorem isKey_rep {t : TypeId} {k : AVal} {x : Value} (hk : lookupF.isKey E t k = true) (hr : RepP w V k x) : ∃ d,E.P.underlying t = some d ∧ MapKept.IsKey d x ∧ ∀ k' x' b,RepP w V k' x' → keyEq k k' = some b → Instr.sameNow d x x' = some b ∧ MapKept.IsKey d x' := by
 cases k <;> simp only [lookupF.isKey] at hk <;> (try cases hk)
 case str s =>
  have hx : x = .string ⟨s.toArray⟩ := hr
  subst hx
  refine ⟨_,tstring_some hk,trivial,fun k' x' b hr' hb => ?_⟩
  cases k' <;> simp only [keyEq] at hb <;> (try cases hb)
  rename_i s'
  have hx' : x' = .string ⟨s'.toArray⟩ := hr'
  subst hx'
  refine ⟨?_,trivial⟩
  obtain ⟨r,hr,hiff⟩ := MapKept.sameNow_of_keys (d := .string) (a := .string ⟨s.toArray⟩) (b := .string ⟨s'.toArray⟩) trivial trivial
  rw [hr]
  congr 1
  by_cases h : s = s'
  · subst h
    rw [hiff.2 rfl]; simp
  · have hf : r = false := by
     cases r with
     | false => rfl
     | true =>
      exfalso
      have := hiff.1 rfl
      injection this with this
      injection this with this
      exact h (by simpa using congrArg Array.toList this)
    rw [hf,beq_eq_false_iff_ne.2 h]
 case int k n =>
  have hx : x = .int k n := hr
  subst hx
  have hk' : tint E.P t = some k := by simpa using hk
  refine ⟨_,tint_some hk',rfl,fun k' x' b hr' hb => ?_⟩
  cases k' <;> simp only [keyEq] at hb <;> (try cases hb)
  rename_i k2 n2
  have hx' : x' = .int k2 n2 := hr'
  subst hx'
  split at hb
  · rename_i e; subst e; injection hb with hb; subst hb
    exact ⟨by simp [Instr.sameNow],rfl⟩
  · cases hb
theorem find_rep {d : TypeDesc} {k : AVal} {x : Value} (hk : ∀ k' x' b,RepP w V k' x' → keyEq k k' = some b → Instr.sameNow d x x' = some b ∧ MapKept.IsKey d x') :
 ∀ {es : List AVal} {ms : List MapEntry} {r : Option AVal} (i : Nat),EntsP w V es ms → findE k es = some r →
  (r = none ∧ Instr.findNow d x ms i = some none) ∨ ∃ v y j,r = some v ∧ Instr.findNow d x ms i = some (some (j,y)) ∧ ValP w V v y
 | [],[],r,i,_,hf => by
  simp only [findE] at hf; injection hf with hf; subst hf; exact .inl ⟨rfl,rfl⟩
 | [],_ :: _,_,_,he,_ => by simp [EntsP] at he
 | e :: es,[],_,_,he,_ => by simp [EntsP] at he
 | e :: es,m :: ms,r,i,he,hf => by
  unfold findE at hf
  split at hf
  · rename_i heq; cases heq
  · rename_i k' v r' heq
    injection heq with h1 h2
    subst h1; subst h2
    rw [ents_cons] at he
    obtain ⟨b,hb,hf⟩ := bind_some hf
    obtain ⟨hs,_⟩ := hk _ _ _ he.1.1 hb
    cases b with
    | true =>
     simp only [if_true] at hf; injection hf with hf; subst hf
     exact .inr ⟨v,m.val,i,rfl,by simp [Instr.findNow,hs],he.1.2⟩
    | false =>
     simp only [Bool.false_eq_true,if_false] at hf
     rcases find_rep hk (i + 1) he.2 hf with ⟨h3,h4⟩ | ⟨v',y,j,h3,h4,h5⟩
     · exact .inl ⟨h3,by simp [Instr.findNow,hs,h4]⟩
     · exact .inr ⟨v',y,j,h3,by simp [Instr.findNow,hs,h4],h5⟩
  · cases hf
theorem upd_rep {d : TypeDesc} {k v : AVal} {x y : Value} (hk : ∀ k' x' b,RepP w V k' x' → keyEq k k' = some b → Instr.sameNow d x x' = some b ∧ MapKept.IsKey d x') (hkx : RepP w V k x) (hx : MapKept.IsKey d x) (hv : ValP w V v y) :
 ∀ {es es' : List AVal} {ms : List MapEntry} (i : Nat),EntsP w V es ms → updE k v es = some es' →
  (Instr.findNow d x ms i = some none ∧ ∀ c,EntsP w V es' (ms ++ [⟨x,y,c⟩])) ∨
  ∃ j z e,Instr.findNow d x ms i = some (some (i + j,z)) ∧ ms[j]? = some e ∧ e.key = x ∧ EntsP w V es' (ms.modify j fun e => { e with key := x,val := y })
 | [],es',[],i,_,hf => by
  simp only [updE] at hf; injection hf with hf; subst hf
  exact .inl ⟨rfl,fun c => by rw [List.nil_append,ents_cons]; exact ⟨⟨hkx,hv⟩,trivial⟩⟩
 | [],_,_ :: _,_,he,_ => by simp [EntsP] at he
 | e :: es,_,[],_,he,_ => by simp [EntsP] at he
 | e :: es,es',m :: ms,i,he,hf => by
  unfold updE at hf
  split at hf
  · rename_i heq; cases heq
  · rename_i k' v' r' heq
    injection heq with h1 h2
    subst h1; subst h2
    rw [ents_cons] at he
    obtain ⟨b,hb,hf⟩ := bind_some hf
    obtain ⟨hs,hik⟩ := hk _ _ _ he.1.1 hb
    cases b with
    | true =>
     simp only [if_true] at hf; injection hf with hf; subst hf
     have hkey : m.key = x := by
      obtain ⟨r,hr,hiff⟩ := MapKept.sameNow_of_keys hx hik
      rw [hs] at hr; injection hr with hr
      exact (hiff.1 hr.symm).symm
     refine .inr ⟨0,m.val,m,by simp [Instr.findNow,hs],rfl,hkey,?_⟩
     rw [List.modify_zero_cons,ents_cons]
     exact ⟨⟨hkx,hv⟩,he.2⟩
    | false =>
     simp only [Bool.false_eq_true,if_false] at hf
     obtain ⟨es2,h3,rfl⟩ := map_some hf
     rcases upd_rep hk hkx hx hv (i + 1) he.2 h3 with ⟨h4,h5⟩ | ⟨j,z,e2,h4,h5,h6,h7⟩
     · refine .inl ⟨by simp [Instr.findNow,hs,h4],fun c => ?_⟩
       rw [List.cons_append,ents_cons]; exact ⟨he.1,h5 c⟩
     · refine .inr ⟨j + 1,z,e2,by simp [Instr.findNow,hs,h4]; omega,by simpa using h5,h6,?_⟩
       rw [List.modify_succ_cons,ents_cons]
       exact ⟨he.1,h7⟩
  · cases hf
theorem ownerM_rep (h : SRel E.P Q s a w V μ γ) {x : Operand} {p : Place} {n : Nat} {es : List AVal} (ho : ownerM s x = some (p,n,es)) :
 s.at p = some (.own mapT n es) ∧ γ p n = some (a.eval x) ∧ MapRep E.P w V mapT es (a.eval x) := by
 cases x <;> simp only [ownerM] at ho <;> (try cases ho)
 rename_i k
 obtain ⟨v,h1,ho⟩ := bind_some ho
 obtain ⟨y,h2,h3⟩ := h.tm k _ h1
 have he : a.eval (.tmp k) = y := by simp [Act.eval,Array.getD_eq_getD_getElem?,h2]
 rw [he]
 cases v <;> simp only at ho <;> (try cases ho)
 case own T m es0 =>
  split at ho
  · rename_i hT
    obtain ⟨rfl,hl⟩ := hT
    injection ho with ho; injection ho with e1 e2; injection e2 with e2 e3
    subst e1; subst e2; subst e3
    exact ⟨h1,h3.2,h3.1.map hl⟩
  · cases ho
 case mview m q =>
  split at ho
  · rename_i hq
    obtain ⟨v,h4,ho⟩ := bind_some ho
    have h31 := h3.1
    unfold realP at h31
    rw [hq] at h31
    cases v <;> simp only at ho <;> (try cases ho)
    split at ho
    · rename_i hT
      obtain ⟨rfl,rfl,hl⟩ := hT
      injection ho with ho; injection ho with e1 e2; injection e2 with e2 e3
      subst e1; subst e2; subst e3
      obtain ⟨z,hz,hzo⟩ := h.conc_own h4
      have : z = y := by rw [h31] at hz; injection hz with hz; exact hz.symm
      subst this
      exact ⟨h4,h31,hzo.map hl⟩
    · cases ho
  · cases ho
theorem ents_rep (h : SRel E.P Q s a w V μ γ) {x : Operand} {es : List AVal} (he : entsF s x = some es) :
 (es = [] ∧ a.eval x = .map none) ∨ ∃ g ents cl,a.eval x = .map (some g) ∧ w.heap[g]? = some (.map ents cl) ∧ EntsP w V es ents.toList := by
 unfold entsF at he
 split at he
 · rename_i hx
   injection he with he; subst he
   exact .inl ⟨rfl,h.rd hx⟩
 · rename_i es' hx
   injection he with he; subst he
   have hr : RepP w V (.pmap es') (a.eval x) := h.rd hx
   simp only [RepP] at hr
   obtain ⟨g,ents,cl,h1,_,h3,h4⟩ := hr
   exact .inr ⟨g,ents,cl,h1,h3,h4⟩
 · obtain ⟨⟨p,n,es'⟩,h1,rfl⟩ := map_some he
   obtain ⟨_,_,_,g,ents,cl,h2,h3,h4⟩ := ownerM_rep h h1
   exact .inr ⟨g,ents,cl,h2,h3,h4⟩
theorem zeroOf_rep {T : TypeId} {z : Value} {v : AVal} (h : zeroOf E.P T z = some v) : Rep2 w V μ v z ∧ plainV v = true ∧ ∀ vs,v ≠ .tup vs := by
 have fin : ∀ z : Value,((labelCells (cellElems E.P 8 T) [z]).bind fun
  | [c] => some (strip1 c)
  | _ => none) = some v → Rep2 w V μ v z ∧ plainV v = true ∧ ∀ vs,v ≠ .tup vs := by
  intro z h
  obtain ⟨cs,h1,h⟩ := bind_some h
  have h2 := label_rep (w := w) (V := V) (μ := μ) h1
  split at h
  · rename_i c
    injection h with h; subst h
    have h3 : Rep1 w V μ (strip1 c) z := h2.1.strip1
    clear h1
    cases c
    case own T' n es' =>
     exact ⟨h3.r2 strip1_noagg,plain_own,strip1_notup⟩
    case tup vs => exact absurd h2.1 (by simp [Rep1,RepP])
    case agg vs => exact absurd h2.1 (by simp [Rep1,RepP])
    all_goals first | exact ⟨h3,rfl,by simp [strip1]⟩ | exact absurd h2.1 (by simp [Rep1,RepP])
  · cases h
 unfold zeroOf at h
 split at h
 · rename_i x
   obtain ⟨cs,h1,rfl⟩ := map_some h
   exact ⟨⟨x,rfl,All2.map_left (f := strip1) (fun _ _ => Rep1.strip1) (label_rep h1)⟩,rfl,by simp⟩
 · exact fin _ h
theorem sim_lookup (hd : a.defers = []) (h : SRel E.P Q s a w V μ γ) (hf : Fr w0 V0 T0 w V) (hl : Loc w0 T0 s μ γ) (hQ : QLe Q Q') {o : Oper} (hdst : ∀ k,o.dst = some k → k < a.tmps.size)
 {T : TypeId} {x i : Operand} {ok : Bool} (ho : o.op = .lookup T x i ok) (hs : ((entsF s x).bind fun es => (rd s i).bind fun k => (lookupF E T es k ok).map (s.putD o.dst)) = some s') {X : Exit → Act → World → Prop} :
 o.wp E.P a w (Sim E.P w0 V0 T0 Q' s') X := by
 obtain ⟨es,h1,hs⟩ := bind_some hs
 obtain ⟨k,h2,hs⟩ := bind_some hs
 obtain ⟨u,h3,rfl⟩ := map_some hs
 unfold lookupF at h3
 obtain ⟨⟨kt,et⟩,ht,h3⟩ := bind_some h3
 obtain ⟨r,hr,h3⟩ := bind_some h3
 simp only at hr h3
 have hu := tmap_some ht
 split at hr
 · rename_i hk
   have hkr : RepP w V k (a.eval i) := by
    have := h.rd h2
    cases k <;> simp only [lookupF.isKey] at hk <;> first | exact this | cases hk
   obtain ⟨d,hd1,hd2,hd3⟩ := isKey_rep hk hkr
   -- the entries,and what is found
   have key : ∃ ents : Array MapEntry,EntsP w V es ents.toList ∧ ∀ z,(∃ f : Option (Nat × Value),Instr.findNow d (a.eval i) ents.toList 0 = some f ∧ ((∃ j y,f = some (j,y) ∧ z = (y,true)) ∨ f = none ∧ ∃ inf z0,E.P.info? et = some inf ∧ inf.zero = some z0 ∧ z = (z0,false))) →
    (execOp a.eval o).run E.P w = .ok (.value (if ok then .tuple #[z.1,.bool z.2] else z.1)) w := by
    rcases ents_rep h h1 with ⟨rfl,hx⟩ | ⟨g,ents,cl,hx,hh,he⟩
    · refine ⟨#[],trivial,?_⟩
      rintro z ⟨f,hf1,⟨j,y,rfl,rfl⟩ | ⟨rfl,inf,z0,hi1,hi2,rfl⟩⟩
      · simp [Instr.findNow] at hf1
      · simp [execOp,ho,Instr.lookup,hx,run_underlying' hu,MapKept.run_checkKey hd1 hd2,MapKept.run_findKey hd1 hf1,zeroValue,typeInfo,hi1,hi2]
        try (cases ok <;> rfl)
    · refine ⟨ents,he,?_⟩
      rintro z ⟨f,hf1,⟨j,y,rfl,rfl⟩ | ⟨rfl,inf,z0,hi1,hi2,rfl⟩⟩
      · simp [execOp,ho,Instr.lookup,hx,run_underlying' hu,MapKept.run_getObj_map hh,MapKept.run_checkKey hd1 hd2,MapKept.run_findKey hd1 hf1]
        try (cases ok <;> rfl)
      · simp [execOp,ho,Instr.lookup,hx,run_underlying' hu,MapKept.run_getObj_map hh,MapKept.run_checkKey hd1 hd2,MapKept.run_findKey hd1 hf1,zeroValue,typeInfo,hi1,hi2]
        try (cases ok <;> rfl)
   obtain ⟨ents,he,hrun⟩ := key
   have fin : ∀ (v : AVal) (z : Value) (b : Bool),Rep2 w V μ v z ∧ plainV v = true ∧ (∀ vs,v ≠ .tup vs) → (execOp a.eval o).run E.P w = .ok (.value (if ok then .tuple #[z,.bool b] else z)) w →
    u = (if ok then .tup [v,.bool b] else v) → o.wp E.P a w (Sim E.P w0 V0 T0 Q' (s.putD o.dst u)) X := by
    rintro v z b ⟨q1,q2,q3⟩ hrun rfl
    cases ok with
    | true => exact sim_calc hd h hf hl hQ hdst rfl (show Rep3 w V μ (.tup [v,.bool b]) (.tuple #[z,.bool b]) from ⟨_,rfl,q1,rfl,trivial⟩) hrun
    | false => exact sim_calc hd h hf hl hQ hdst q2 (q1.r3 q3) hrun
   rcases find_rep hd3 0 he hr with ⟨rfl,hfn⟩ | ⟨v,y,j,rfl,hfn,hv⟩
   · obtain ⟨v,hz,hu2⟩ := map_some h3
     unfold zeroV at hz
     obtain ⟨z0,hz1,hz⟩ := bind_some hz
     obtain ⟨inf,hi1,hi2⟩ := bind_some hz1
     exact fin v z0 false (zeroOf_rep hz) (hrun (z0,false) ⟨none,hfn,.inr ⟨rfl,inf,z0,hi1,hi2,rfl⟩⟩) hu2.symm
   · simp only at h3
     injection h3 with h3
     exact fin v y true hv.r2 (hrun (y,true) ⟨_,hfn,.inl ⟨j,y,rfl,rfl⟩⟩) h3.symm
 · cases hr
theorem sim_makeMap (hd : a.defers = []) (h : SRel E.P Q s a w V μ γ) (hf : Fr w0 V0 T0 w V) (hl : Loc w0 T0 s μ γ) (hQ : QLe Q Q') {n : Nat} (hn : ¬ Q n) (hn' : Q' n) {o : Oper} (hdst : ∀ k,o.dst = some k → k < a.tmps.size)
 {T : TypeId} (ho : o.op = .makeMap T none) (hs : (if tsize E.P mapT = 0 then some (s.putD o.dst (if E.mkm T n o.dst then .own mapT n [] else .pmap [])) else none) = some s') {X : Exit → Act → World → Prop} :
 o.wp E.P a w (Sim E.P w0 V0 T0 Q' s') X := by
 split at hs
 · rename_i hT
   injection hs with hs; subst hs
   have hrun : (execOp a.eval o).run E.P w = .ok (.value (.map (some w.heap.size))) (w.alloc (.map #[] 0)) := by
    simp [execOp,ho,Instr.makeMap]
   refine wp_val hrun ?_
   cases E.mkm T n o.dst with
   | true =>
    simp only [if_true]
    refine sim_own hd (h.alloc _) (hf.alloc h.vis _) hl hQ hn hn' hdst (.ofM ⟨hT,w.heap.size,#[],0,rfl,alloc_new,trivial⟩) (fun k g _ hg => ?_)
    simp only [ownBlock] at hg; injection hg with hg; subst hg
    exact ⟨fun b hb => by have := box_lt h hb; omega,fun o hv => by have := h.vis _ _ hv; omega,fun p' T' n' es' x' _ hp hx hg => by have := own_lt h hp hx hg; omega,.inr hf.size⟩
   | false =>
    simp only [Bool.false_eq_true,if_false]
    let V' : Vis := fun g o => V g o ∨ g = w.heap.size
    have hkeep : Keeps w V (w.alloc (.map #[] 0)) V' := fun g o hg => ⟨.inl hg,(alloc_keeps h.vis g o hg).2⟩
    have h1 : SRel E.P Q s a (w.alloc (.map #[] 0)) V' μ γ := by
     refine h.world hkeep (fun _ _ hb => alloc_get (box_lt h hb)) (fun _ _ _ _ _ _ hp hx hg => alloc_get (own_lt h hp hx hg)) (fun g o hv => ?_) (fun g o hv => ?_)
     · rcases hv with hv | rfl
       · exact .inl hv
       · exact .inr ⟨fun b hb => by have := box_lt h hb; omega,fun p T n es x hp hx hg => by have := own_lt h hp hx hg; omega⟩
     · rcases hv with hv | rfl
       · have := h.vis g o hv; simp; omega
       · simp
    have hf1 : Fr w0 V0 T0 (w.alloc (.map #[] 0)) V' := (hf.alloc h.vis _).vis (fun g o => .inl) (fun g o hv => by
     rcases hv with hv | rfl
     · exact .inl hv
     · exact .inr (.inl hf.size))
    exact sim_put hd h1 hf1 hl hQ hdst rfl ⟨w.heap.size,#[],0,rfl,.inr rfl,alloc_new,trivial⟩
 · cases hs
theorem setAt_box {p : Place} {v : AVal} (h : s.setAt p v = some s') {b : BName} {cs : List AVal} (hb : s'.box b = some cs) : ∃ cs0,s.box b = some cs0 ∧ cs.length = cs0.length ∧ ∀ i c,cs[i]? = some c → (p = .cell b i ∧ c = v) ∨ (p ≠ .cell b i ∧ cs0[i]? = some c) := by
 cases p with
 | tmp k =>
  simp only [St.setAt] at h; injection h with h; subst h
  rw [box_put] at hb
  exact ⟨cs,hb,rfl,fun i c hc => .inr ⟨by simp,hc⟩⟩
 | cell b0 off =>
  simp only [St.setAt] at h
  obtain ⟨cs0,h1,rfl⟩ := map_some h
  rw [box_setBox h1] at hb
  by_cases hbb : b = b0
  · subst hbb
    simp only [if_true] at hb
    injection hb with hb; subst hb
    refine ⟨cs0,h1,by simp,fun i c hc => ?_⟩
    by_cases hi : i = off
    · subst hi
      by_cases hlt : i < cs0.length
      · rw [List.getElem?_set_self hlt] at hc; injection hc with hc; exact .inl ⟨rfl,hc.symm⟩
      · rw [List.getElem?_eq_none (by simp; omega)] at hc; cases hc
    · rw [List.getElem?_set_ne (Ne.symm hi)] at hc
      exact .inr ⟨fun e => hi (by injection e with _ e; exact e.symm),hc⟩
  · simp only [hbb,if_false] at hb
    exact ⟨cs,hb,rfl,fun i c hc => .inr ⟨fun e => hbb (by injection e with e; exact e.symm),hc⟩⟩
theorem setAt_boxes {p : Place} {v : AVal} (h : s.setAt p v = some s') {b : BName} {cs : List AVal} (hb : s.box b = some cs) : ∃ cs',s'.box b = some cs' := by
 cases p with
 | tmp k =>
  simp only [St.setAt] at h; injection h with h; subst h
  rw [box_put]; exact ⟨cs,hb⟩
 | cell b0 off =>
  simp only [St.setAt] at h
  obtain ⟨cs0,h1,rfl⟩ := map_some h
  rw [box_setBox h1]
  by_cases hbb : b = b0
  · simp [hbb]
  · simp [hbb,hb]
theorem setAt_tm {p : Place} {v : AVal} (h : s.setAt p v = some s') {k : Nat} {u : AVal} (hu : alGet s'.tm k = some u) : (p = .tmp k ∧ u = v) ∨ (p ≠ .tmp k ∧ alGet s.tm k = some u) := by
 cases p with
 | tmp j =>
  simp only [St.setAt] at h; injection h with h; subst h
  simp only [St.put,alGet_put] at hu
  by_cases hj : j = k
  · simp only [hj,if_true] at hu; injection hu with hu; exact .inl ⟨by rw [hj],hu.symm⟩
  · simp only [hj,if_false] at hu; exact .inr ⟨fun e => hj (by injection e),hu⟩
 | cell b off =>
  simp only [St.setAt] at h
  obtain ⟨cs0,h1,rfl⟩ := map_some h
  rw [tm_setBox] at hu
  exact .inr ⟨by simp,hu⟩
theorem setAt_at {p q : Place} {v u : AVal} (h : s.setAt p v = some s') (hq : s'.at q = some u) : (p = q ∧ u = v) ∨ (p ≠ q ∧ s.at q = some u) := by
 cases q with
 | tmp k => exact setAt_tm h hq
 | cell b off =>
  simp only [St.at] at hq ⊢
  obtain ⟨cs,h1,h2⟩ := bind_some hq
  obtain ⟨cs0,h3,_,h4⟩ := setAt_box h h1
  rcases h4 off u h2 with h5 | ⟨h5,h6⟩
  · exact .inl h5
  · exact .inr ⟨h5,by rw [h3]; exact h6⟩
theorem sim_mapSet (hd : a.defers = []) (h : SRel E.P Q s a w V μ γ) (hf : Fr w0 V0 T0 w V) (hl : Loc w0 T0 s μ γ) (hQ : QLe Q Q') {p : Place} {n g : Nat} {es es' : List AVal} {ents : Array MapEntry} {cl : Nat}
 (hat : s.at p = some (.own mapT n es)) (hγ : γ p n = some (.map (some g))) (hT : E.P.cellsOf mapT = 0) (hob : OnlyBlock g w w') (hh : w'.heap[g]? = some (.map ents cl)) (he : EntsP w V es' ents.toList)
 (hs : s.setAt p (.own mapT n es') = some s') : Sim E.P w0 V0 T0 Q' s' a w' := by
 obtain ⟨o1,o2⟩ := h.ow p mapT n es _ g hat hγ rfl
 have hnv : ∀ o,¬ V g o := fun o hv => by have := o2 o hv; rw [hT] at this; omega
 have hk : Keeps w V w' V := fun g' o hv => ⟨hv,.of (hob.other g' (by rintro rfl; exact hnv o hv))⟩
 have old : ∀ q T' m fs,s'.at q = some (.own T' m fs) → ∃ fs',s.at q = some (.own T' m fs') ∧ (q ≠ p → fs' = fs) := by
  intro q T' m fs hq
  rcases setAt_at hs hq with ⟨rfl,e⟩ | ⟨hne,h1⟩
  · injection e with e1 e2 e3; subst e1; subst e2; subst e3
    exact ⟨es,hat,fun e => absurd rfl e⟩
  · exact ⟨fs,h1,fun _ => rfl⟩
 have other : ∀ q T' m fs x g',q ≠ p → s.at q = some (.own T' m fs) → γ q m = some x → ownBlock x = some g' → w'.heap[g']? = w.heap[g']? := by
  intro q T' m fs x g' hne hq hx hg'
  refine hob.other g' ?_
  rintro rfl
  exact hne (h.ow2 q p T' m fs mapT n es x _ g' hq hat hx hγ hg' rfl)
 have hrep : OwnRep E.P w' V mapT es' (.map (some g)) := .ofM ⟨hT,g,ents,cl,rfl,hh,he.keep hk⟩
 refine ⟨hd,V,μ,γ,?_,hf.only (hl.own p mapT n es _ g hat hγ rfl) hob hk,?_⟩
 · refine { tm := ?_,bx := ?_,dom := ?_,inj := h.inj,visb := h.visb,vis := ?_,ow := ?_,ow2 := ?_,gq := fun p m hm => hQ m (h.gq p m hm) }
   · intro k v hv
     rcases setAt_tm hs hv with ⟨rfl,rfl⟩ | ⟨hne,hv'⟩
     · obtain ⟨x,h1,h2⟩ := h.tm k _ hat
       have : x = .map (some g) := by have := h2.2; rw [hγ] at this; injection this with this; exact this.symm
       subst this
       exact ⟨_,h1,hrep,hγ⟩
     · obtain ⟨x,h1,h2⟩ := h.tm k v hv'
       exact ⟨x,h1,h2.keep hk (BLe.refl _) (GLe.refl _) fun T' m fs g' e hg' => by
        subst e
        exact other (.tmp k) T' m fs x g' (Ne.symm hne) hv' h2.2 hg'⟩
   · intro b cs hb
     obtain ⟨cs0,h1,h2,h3⟩ := setAt_box hs hb
     obtain ⟨g',U,cur,k1,k2,k3,k4⟩ := h.bx b cs0 h1
     have hne : g' ≠ g := by rintro rfl; exact o1 b k1
     refine ⟨g',U,cur,k1,(hob.other g' hne).trans k2,by rw [h2]; exact k3,fun i c hc => ?_⟩
     rcases h3 i c hc with ⟨rfl,rfl⟩ | ⟨hnp,hc'⟩
     · have hat' : (s.box b).bind (fun cs => cs[i]?) = some (.own mapT n es) := hat
       rw [h1,Option.bind_some] at hat'
       obtain ⟨x,q1,q2⟩ := k4 i _ hat'
       have : x = .map (some g) := by have := q2.2; rw [hγ] at this; injection this with this; exact this.symm
       subst this
       exact ⟨_,q1,hrep,hγ⟩
     · obtain ⟨x,q1,q2⟩ := k4 i c hc'
       refine ⟨x,q1,q2.keep hk (BLe.refl _) (GLe.refl _) fun T' m fs g2 e hg2 => ?_⟩
       subst e
       exact other (.cell b i) T' m fs x g2 (Ne.symm hnp) (by simp [St.at,h1,hc']) q2.2 hg2
   · intro b g' hb
     obtain ⟨cs,h1⟩ := h.dom b g' hb
     exact setAt_boxes hs h1
   · intro g' o hv; rw [hob.size]; exact h.vis g' o hv
   · intro q T' m fs x g' hq hx hg'
     obtain ⟨fs',h1,h2⟩ := old q T' m fs hq
     obtain ⟨h3,h4⟩ := h.ow q T' m fs' x g' h1 hx hg'
     refine ⟨h3,fun o hv => ?_⟩
     by_cases hqp : q = p
     · subst hqp
       rw [hat] at h1; injection h1 with h1; injection h1 with e1 e2 e3
       subst e1; subst e2
       rw [hγ] at hx; injection hx with hx; subst hx
       simp only [ownBlock] at hg'; injection hg' with hg'; subst hg'
       exact absurd hv (hnv o)
     · rw [← h2 hqp]; exact h4 o hv
   · intro q q' T1 m fs T2 m' fs' x x' g' hq hq' hx hx' hg' hg''
     obtain ⟨f1,h1,_⟩ := old q T1 m fs hq
     obtain ⟨f2,h2,_⟩ := old q' T2 m' fs' hq'
     exact h.ow2 q q' T1 m f1 T2 m' f2 x x' g' h1 h2 hx hx' hg' hg''
 · refine ⟨hl.box,hl.par,fun q T' m fs x g' hq hx hg' => ?_⟩
   obtain ⟨f1,h1,_⟩ := old q T' m fs hq
   exact hl.own q T' m f1 x g' h1 hx hg'
theorem sim_mapUpdate (hd : a.defers = []) (h : SRel E.P Q s a w V μ γ) (hf : Fr w0 V0 T0 w V) (hl : Loc w0 T0 s μ γ) (hQ : QLe Q Q') {o : Oper} (hdst : o.dst = none)
 {T : TypeId} {m i x : Operand} (ho : o.op = .mapUpdate T m i x) (hs : ((rd s i).bind fun k => (rd s x).bind fun v => updateF E s T m k (strip2 v)) = some s') {X : Exit → Act → World → Prop} :
 o.wp E.P a w (Sim E.P w0 V0 T0 Q' s') X := by
 obtain ⟨k,h1,hs⟩ := bind_some hs
 obtain ⟨v,h2,hs⟩ := bind_some hs
 unfold updateF at hs
 obtain ⟨⟨kt,et⟩,ht,hs⟩ := bind_some hs
 obtain ⟨⟨p,n,es⟩,hw,hs⟩ := bind_some hs
 simp only at hs
 split at hs
 · rename_i hc
   obtain ⟨hk,hp⟩ := hc
   obtain ⟨es',h3,hs⟩ := bind_some hs
   have hu := tmap_some ht
   have hkr : RepP w V k (a.eval i) := by
    have := h.rd h1
    cases k <;> simp only [lookupF.isKey] at hk <;> first | exact this | cases hk
   obtain ⟨d,hd1,hd2,hd3⟩ := isKey_rep hk hkr
   have hv : ValP w V (strip2 v) (a.eval x) := .of (h.rd h2) hp
   obtain ⟨hat,hγ,hT,g,ents,cl,hm,hh,he⟩ := ownerM_rep h hw
   rw [hm] at hγ
   have hput : a.put o.dst undef = a := by rw [hdst]; rfl
   have hset : ∀ ob,OnlyBlock g w { w with heap := w.heap.setIfInBounds g ob } := fun ob => ⟨rfl,rfl,rfl,by simp,fun j hj => by simp [Ne.symm hj]⟩
   have hlt : g < w.heap.size := (Array.getElem?_eq_some_iff.1 hh).1
   rcases upd_rep hd3 hkr hd2 hv 0 he h3 with ⟨q1,q2⟩ | ⟨j,z,e,q1,q2,q3,q4⟩
   · have hrun : (execOp a.eval o).run E.P w = .ok .skip { w with heap := w.heap.setIfInBounds g (.map (ents.push ⟨a.eval i,a.eval x,cl⟩) (cl + 1)) } := by
      simp [execOp,ho,hm,Instr.mapUpdate,run_underlying' hu,MapKept.run_getObj_map hh,MapKept.run_checkKey hd1 hd2,MapKept.run_findKey hd1 q1,MapKept.run_setObj_map _ hh]
     refine wp_skp hrun ?_
     rw [hput]
     exact sim_mapSet (ents := ents.push ⟨a.eval i,a.eval x,cl⟩) (cl := cl + 1) hd h hf hl hQ hat hγ hT (hset _) (by simp [hlt]) (by simpa using q2 cl) hs
   · have hj : ents[j]? = some e := by simpa using q2
     rw [Nat.zero_add] at q1
     have hrun : (execOp a.eval o).run E.P w = .ok .skip { w with heap := w.heap.setIfInBounds g (.map (ents.modify j fun e => { e with key := a.eval i,val := a.eval x }) cl) } := by
      simp [execOp,ho,hm,Instr.mapUpdate,run_underlying' hu,MapKept.run_getObj_map hh,MapKept.run_checkKey hd1 hd2,MapKept.run_findKey hd1 q1,hj,q3,MapKept.run_keyThatStays hd2,MapKept.run_setObj_map _ hh]
     refine wp_skp hrun ?_
     rw [hput]
     exact sim_mapSet (ents := ents.modify j fun e => { e with key := a.eval i,val := a.eval x }) (cl := cl) hd h hf hl hQ hat hγ hT (hset _) (by simp [hlt]) (by simpa using q4) hs
 · cases hs
end
end Go.Av
namespace Go.Av
theorem opOK_dst {N : Nat} {o : Oper} (h : opOK N o = true) : ∀ k,o.dst = some k → k < N := by
 intro k hk
 unfold opOK at h
 rw [hk] at h
 simp only [Bool.and_eq_true,decide_eq_true_eq] at h
 exact h.1
theorem opOK_store {N : Nat} {o : Oper} (h : opOK N o = true) {T : TypeId} {x y : Operand} (ho : o.op = .store T x y) : o.dst = none := by
 unfold opOK at h
 rw [ho] at h
 cases hk : o.dst with
 | none => rfl
 | some k => simp [hk] at h
theorem opOK_update {N : Nat} {o : Oper} (h : opOK N o = true) {T : TypeId} {x y z : Operand} (ho : o.op = .mapUpdate T x y z) : o.dst = none := by
 unfold opOK at h
 rw [ho] at h
 cases hk : o.dst with
 | none => rfl
 | some k => simp [hk] at h
theorem toList_one {α : Type} {xs : Array α} {x : α} (h : xs.toList = [x]) : xs = #[x] := by rw [← Array.toArray_toList (xs := xs),h]
theorem toList_two {α : Type} {xs : Array α} {x y : α} (h : xs.toList = [x,y]) : xs = #[x,y] := by rw [← Array.toArray_toList (xs := xs),h]
section
variable {E : Env} {w0 : World} {V0 : Vis} {T0 : Tch} {Q Q' : Nat → Prop} {s s1 : St} {a a' : Act} {w w' : World} {V V' : Vis} {μ μ' : BMap} {γ γ' : GMap}
theorem op_sim {D : FuncId → List AVal → Heap → Option (AVal × Heap)} (hD : Sound E.P T0.F D) (hd : a.defers = []) (h : SRel E.P Q s a w V μ γ) (hf : Fr w0 V0 T0 w V) (hl : Loc w0 T0 s μ γ) (hQ : QLe Q Q') {n : Nat} (hn : ¬ Q n) (hn' : Q' n)
 {o : Oper} (hok : opOK a.tmps.size o = true) {s' : St} (hs : opF E D n o s = some s') {X : Exit → Act → World → Prop} : o.wp E.P a w (Sim E.P w0 V0 T0 Q' s') X := by
 have hdst := opOK_dst hok
 unfold opF at hs
 split at hs
 case h_1 x ho => exact sim_move hd h hf hl hQ hn hn' hdst ho hs
 case h_2 x ho => exact sim_assign hd h hf hl hQ hn hn' hdst ho hs
 case h_3 c x y ho => exact sim_pick hd h hf hl hQ hdst ho hs
 case h_4 T ho => exact sim_alloc hd h hf hl hQ hn hn' hdst ho hs
 case h_5 T x ho => exact sim_box hd h hf hl hQ hn hn' hdst ho hs
 case h_6 T ps ho => exact sim_build hd h hf hl hQ hdst ho hs
 case h_7 T m ps ho => exact sim_buildSlice hd h hf hl hQ hn hn' hdst ho hs
 case h_8 T x ho => exact sim_load hd h hf hl hQ hdst ho hs
 case h_9 T ad x ho => exact sim_store hd h hf hl hQ hn hn' (opOK_store hok ho) ho hs
 case h_10 x ho => exact sim_one hd h hf hl hQ hdst (calc_nil ho) hs
 case h_11 op T x y U ho => exact sim_two hd h hf hl hQ hdst (calc_bin ho) hs
 case h_12 T x ho => exact sim_one hd h hf hl hQ hdst (calc_not ho) hs
 case h_13 src dst x ho => exact sim_one hd h hf hl hQ hdst (calc_conv ho) hs
 case h_14 f first cap ho => exact sim_makeFunc hd h hf hl hQ hdst ho hs
 case h_15 S x i ho => exact sim_one hd h hf hl hQ hdst (calc_field ho) hs
 case h_16 T x i ho => exact sim_two hd h hf hl hQ hdst (calc_index ho) hs
 case h_17 T x i ho => exact sim_two hd h hf hl hQ hdst (calc_indexF ho) hs
 case h_18 T x lo hi mx ho => exact sim_slice hd h hf hl hQ hdst ho hs
 case h_19 x i ho => exact sim_one hd h hf hl hQ hdst (calc_extract ho) hs
 case h_20 g args ats ho => exact sim_call hD hd h hf hl hQ hn hn' hdst ho hs
 case h_21 b args ats ho =>
  split at hs
  · rename_i x hx
    rw [toList_one hx] at ho
    exact sim_one hd h hf hl hQ hdst (calc_len ho) hs
  · rename_i x y hx
    rw [toList_two hx] at ho
    exact sim_two hd h hf hl hQ hdst (calc_max ho) hs
  · rename_i x y hx
    rw [toList_two hx] at ho
    exact sim_two hd h hf hl hQ hdst (calc_min ho) hs
  · rename_i x y hx
    rw [toList_two hx] at ho
    exact sim_append hd h hf hl hQ hn hn' hdst ho hs
  · cases hs
 case h_22 T x y ho => exact sim_make hd h hf hl hQ hn hn' hdst ho hs
 case h_23 T ho => exact sim_makeMap hd h hf hl hQ hn hn' hdst ho hs
 case h_24 T x i ok ho => exact sim_lookup hd h hf hl hQ hdst ho hs
 case h_25 T m i x ho => exact sim_mapUpdate hd h hf hl hQ (opOK_update hok ho) ho hs
 case h_26 => cases hs
theorem put_size (a : Act) (k : Option Nat) (v : Value) : (a.put k v).tmps.size = a.tmps.size := by cases k <;> simp [Act.put]
theorem wp_size {P : Program} {o : Oper} {K : Act → World → Prop} {X : Exit → Act → World → Prop} (h : o.wp P a w K X) : o.wp P a w (fun a' w' => K a' w' ∧ a'.tmps.size = a.tmps.size) X := by
 unfold Oper.wp at *
 generalize (execOp a.eval o).run P w = r at *
 cases r with
 | ok n w' =>
  cases n <;> simp only [Oper.upon] at h ⊢ <;>
   first
    | exact ⟨h,put_size _ _ _⟩
    | exact ⟨h,by rw [put_size]⟩
    | exact Calls.mono h (fun e w'' he => by cases e <;> first | exact ⟨he,put_size _ _ _⟩ | exact he)
    | exact Rows.mono h (fun _ _ he => ⟨he,put_size _ _ _⟩)
    | exact h
 | halt x w' => cases x <;> simp only [Oper.upon] at h ⊢ <;> exact h
theorem undef_rep : Rep3 w V μ (.tup []) undef := ⟨#[],rfl,trivial⟩
theorem want_sim (h : SRel E.P Q s a w V μ γ) {ops : Array Oper} {o : Oper} {b : Bool} (hs : wantF (ops.toList.map (·.dst)) o s = some b) : Region.wanted o (yielded ops a.tmps) = b := by
 unfold wantF at hs
 unfold Region.wanted
 split at hs
 · rename_i hg; injection hs with hs; subst hs; rw [hg]
 · rename_i j want hg
   rw [hg]
   obtain ⟨k,hk,hs⟩ := bind_some hs
   obtain ⟨v,hv,hs⟩ := bind_some hs
   have hk' : (ops[j]?).bind (·.dst) = some k := by
    unfold gslot at hk
    rw [List.getElem?_map,Array.getElem?_toList] at hk
    cases hj : ops[j]? with
    | none => simp [hj] at hk
    | some p => simpa [hj] using hk
   obtain ⟨x,hx,hr⟩ := h.tm k v hv
   simp only [yielded,hk',Option.bind_some,hx]
   split at hs
   · injection hs with hs; subst hs
     have : x = .bool _ := hr
     subst this
     rfl
   · injection hs with hs; subst hs
     obtain ⟨z,rfl,_⟩ := hr
     rfl
   · cases hs
def SimN (P : Program) (w0 : World) (V0 : Vis) (T0 : Tch) (N n : Nat) (s : St) (a : Act) (w : World) : Prop := Sim P w0 V0 T0 (fun m => m < n) s a w ∧ a.tmps.size = N
theorem ops_simK {D : FuncId → List AVal → Heap → Option (AVal × Heap)} (hD : Sound E.P T0.F D) {ops : Array Oper} {N : Nat} {Qx : Exit → Act → World → Prop} {R : List Nat} : ∀ (l : List Oper) (i n : Nat) (s s' : St) (a : Act) (w : World),(∀ (j : Nat) (o : Oper),l[j]? = some o → ops[i + j]? = some o) →
 (∀ o ∈ l,opOK N o = true) → opsF E D (ops.toList.map (·.dst)) n l s = some s' → SimN E.P w0 V0 T0 N n s a w → (∀ a' w',SimN E.P w0 V0 T0 N (n + l.length) s' a' w' → wpOps E.P ops Qx R a' w') →
 wpOps E.P ops Qx (List.range' i l.length ++ R) a w
 | [],i,n,s,s',a,w,_,_,hs,hsim,hQx => by
  simp only [opsF] at hs; injection hs with hs; subst hs
  simpa using hQx a w hsim
 | o :: l,i,n,s,s',a,w,hops,hok,hs,hsim,hQx => by
  simp only [opsF] at hs
  obtain ⟨b,hb,hs⟩ := bind_some hs
  obtain ⟨⟨hd,V,μ,γ,h,hf,hl⟩,hN⟩ := hsim
  rw [List.length_cons,List.range'_succ,List.cons_append,wpOps_cons]
  have hi : ops[i]? = some o := by simpa using hops 0 o (by simp)
  have hrest : ∀ (j : Nat) (o' : Oper),l[j]? = some o' → ops[i + 1 + j]? = some o' := fun j o' hj => by
   have := hops (j + 1) o' (by simpa using hj)
   rw [show i + 1 + j = i + (j + 1) by omega]; exact this
  have hgo : ∀ s1 a1 w1,opsF E D (ops.toList.map (·.dst)) (n + 1) l s1 = some s' → SimN E.P w0 V0 T0 N (n + 1) s1 a1 w1 → wpOps E.P ops Qx (List.range' (i + 1) l.length ++ R) a1 w1 := fun s1 a1 w1 hs1 h1 =>
   ops_simK hD l (i + 1) (n + 1) s1 s' a1 w1 hrest (fun o' ho' => hok o' (by simp [ho'])) hs1 h1 (fun a' w' h' => hQx a' w' (by rw [List.length_cons,show n + (l.length + 1) = n + 1 + l.length by omega]; exact h'))
  unfold wpOp
  simp only [hi]
  rw [want_sim h hb]
  have hQ : QLe (fun m => m < n) (fun m => m < n + 1) := fun m hm => by omega
  cases b with
  | true =>
   simp only [if_true] at hs ⊢
   obtain ⟨s1,h1,hs⟩ := bind_some hs
   refine .inl (Oper.wp_mono (fun a1 w1 h2 => hgo s1 a1 w1 hs ⟨h2.1,by rw [h2.2,hN]⟩) (wp_size (op_sim (Q' := fun m => m < n + 1) hD hd h hf hl hQ (n := n) (by omega) (by omega) (by rw [hN]; exact hok o (by simp)) h1)))
  | false =>
   simp only [Bool.false_eq_true,if_false] at hs ⊢
   exact hgo _ _ _ hs ⟨sim_put hd h hf hl hQ (by rw [hN]; exact opOK_dst (hok o (by simp))) rfl undef_rep,by rw [put_size,hN]⟩
theorem ops_sim {D : FuncId → List AVal → Heap → Option (AVal × Heap)} (hD : Sound E.P T0.F D) {ops : Array Oper} {N : Nat} {Qx : Exit → Act → World → Prop} (l : List Oper) (i n : Nat) (s s' : St) (a : Act) (w : World) (h1 : ∀ (j : Nat) (o : Oper),l[j]? = some o → ops[i + j]? = some o) (_ : i + l.length = ops.size)
 (h2 : ∀ o ∈ l,opOK N o = true) (h3 : opsF E D (ops.toList.map (·.dst)) n l s = some s') (h4 : SimN E.P w0 V0 T0 N n s a w) (h5 : ∀ a' w',SimN E.P w0 V0 T0 N (n + l.length) s' a' w' → Qx .normal a' w') :
 wpOps E.P ops Qx (List.range' i l.length) a w := by
 have := ops_simK (Qx := Qx) (R := []) hD l i n s s' a w h1 h2 h3 h4 (fun a' w' h => h5 a' w' h)
 simpa using this
end
end Go.Av
namespace Go.Av
section
variable {w : World} {V : Vis} {μ μ' : BMap}
theorem Rep1.sub {c : AVal} {x : Value} (h : Rep1 w V μ c x) (hs : ∀ b ∈ names1 c,∀ g,μ b = some g → μ' b = some g) : Rep1 w V μ' c x := by
 have := h.ren (ρ := fun b => b) hs
 rwa [ren1_id fun _ _ => rfl] at this
theorem Rep3.sub {c : AVal} {x : Value} (h : Rep3 w V μ c x) (hs : ∀ b ∈ names c,∀ g,μ b = some g → μ' b = some g) : Rep3 w V μ' c x := by
 have := h.ren (ρ := fun b => b) hs
 rwa [ren_id fun _ _ => rfl] at this
end
theorem keepAl_get {α : Type} (al : List (Nat × α)) : ∀ (L : List Nat) (k : Nat),alGet (keepAl al L) k = if k ∈ L then alGet al k else none
 | [],k => by simp [keepAl,alGet]
 | j :: L,k => by
  have ih := keepAl_get al L k
  simp only [keepAl]
  split
  · rename_i v hv
    simp only [alGet]
    by_cases h : j = k
    · subst h; simp [hv]
    · simp only [h,if_false,ih,List.mem_cons]
      have : ¬ k = j := fun e => h e.symm
      simp only [this,false_or]
  · rename_i hv
    rw [ih]
    by_cases h : k = j
    · subst h; simp [hv]
    · simp [h]
theorem alGet_map {α β : Type} (f : α → β) : ∀ (l : List (Nat × α)) (k : Nat),alGet (l.map fun x => (x.1,f x.2)) k = (alGet l k).map f
 | [],k => rfl
 | (j,v) :: l,k => by
  simp only [List.map_cons,alGet]
  split
  · rfl
  · exact alGet_map f l k
theorem alGet_mem {α : Type} : ∀ {l : List (Nat × α)} {k : Nat} {v : α},alGet l k = some v → (k,v) ∈ l
 | [],_,_,h => by cases h
 | (j,u) :: l,k,v,h => by
  simp only [alGet] at h
  split at h
  · rename_i e; injection h with h; subst e h; simp
  · exact List.mem_cons_of_mem _ (alGet_mem h)
theorem stampH2_own {v : AVal} {T m es} (h : stampH2 v = .own T m es) : m = 0 ∧ ∃ m',v = .own T m' es := by
 cases v <;> simp only [stampH2,stampH,strip1] at h <;> first | (cases h; done) | (injection h with h1 h2 h3; subst h1 h2 h3; exact ⟨rfl,_,rfl⟩)
theorem stampH_own {v : AVal} {T m es} (h : stampH v = .own T m es) : m = 0 ∧ ∃ m',v = .own T m' es := by
 cases v <;> simp only [stampH,strip1] at h <;> first | (cases h; done) | (injection h with h1 h2 h3; subst h1 h2 h3; exact ⟨rfl,_,rfl⟩)
section
variable {P : Program} {w0 : World} {V0 : Vis} {T0 : Tch} {Q Q' : Nat → Prop} {s s' : St} {a a' : Act} {w w' : World} {V V' : Vis} {μ μ' : BMap} {γ γ' : GMap}
theorem RepB.head2 {p q : Place} {c : AVal} {x : Value} (h : RepB P w V μ γ p c x) (hs : ∀ b ∈ names1 (stampH c),∀ g,μ b = some g → μ' b = some g) (hγ : ∀ T m es,c = .own T m es → γ' q 0 = γ p m) :
 RepB P w V μ' γ' q (stampH c) x := by
 have key : (∀ T m es,c ≠ .own T m es) → Rep1 w V μ c x → RepB P w V μ' γ' q (Av.strip1 c) x := by
  intro hno hr
  have hr' : Rep1 w V μ' (Av.strip1 c) x := hr.strip1.sub fun b hb => hs b (by cases c <;> first | exact hb | exact absurd rfl (hno _ _ _) | (simp [Av.strip1,names1] at hb))
  cases c <;> first | exact hr' | exact absurd rfl (hno _ _ _) | (exfalso; simp [Rep1,RepP] at hr; done)
 cases c with
 | own T m es => exact ⟨h.1,(hγ T m es rfl).trans h.2⟩
 | dead T m es => exact h.1
 | _ => exact key (fun _ _ _ e => by cases e) h
theorem RepB.head {p : Place} {c : AVal} {x : Value} (h : RepB P w V μ γ p c x) (hs : ∀ b ∈ names1 (stampH c),∀ g,μ b = some g → μ' b = some g) (hγ : ∀ T m es,c = .own T m es → γ' p 0 = γ p m) :
 RepB P w V μ' γ' p (stampH c) x := h.head2 hs hγ
theorem RepS.head {p : Place} {c : AVal} {x : Value} (h : RepS P w V μ γ p c x) (hs : ∀ b ∈ names (stampH2 c),∀ g,μ b = some g → μ' b = some g) (hγ : ∀ T m es,c = .own T m es → γ' p 0 = γ p m) :
 RepS P w V μ' γ' p (stampH2 c) x := by
 cases c with
 | own T m es => exact ⟨h.1,(hγ T m es rfl).trans h.2⟩
 | dead T m es => exact h.1
 | view T m es q => exact h.1
 | full es => exact h
 | mview n q => exact h.2.2
 | agg cs =>
  have h1 : Rep3 w V μ (.agg (cs.map Av.strip1)) x := Rep2.strip2 (v := .agg cs) h
  exact h1.sub hs
 | tup vs => exact Rep3.sub (w := w) (V := V) (c := .tup vs) h hs
 | ptr b o => exact Rep3.sub (w := w) (V := V) (c := .ptr b o) h hs
 | func f u v => exact Rep3.sub (w := w) (V := V) (c := .func f u v) h hs
 | _ => exact h
def gaH (s : St) (γ : GMap) : GMap := fun p m => if m = 0 then stampAt s p γ else none
theorem restrict_sim {L B : List Nat} (hs : restrict L B s = some s') (h : Sim P w0 V0 T0 Q s a w) : Sim P w0 V0 T0 (fun m => m < s'.ver) s' a w ∧ s'.ver = 1 := by
 unfold restrict at hs
 simp only at hs
 split at hs
 · rename_i hck
   injection hs with hs
   simp only [Bool.and_eq_true] at hck
   obtain ⟨k1,k2,k3⟩ := hck
   generalize htm : (keepAl s.tm L).map (fun x => (x.1,stampH2 x.2)) = tm at *
   generalize hlb : (keepAl s.lb B).map (fun x => (x.1,x.2.map stampH)) = lb at *
   generalize hpb : s.pb.map (·.map stampH) = pb at *
   obtain ⟨hd,V,μ,γ,h,hf,hl⟩ := h
   subst hs
   refine ⟨?_,rfl⟩
   let μ' : BMap := fun b => if hasName lb b = true then μ b else none
   have gtm : ∀ k v,alGet tm k = some v → ∃ u,alGet s.tm k = some u ∧ v = stampH2 u := by
    intro k v hv
    rw [← htm,alGet_map,keepAl_get] at hv
    obtain ⟨u,h1,h2⟩ := map_some hv
    split at h1
    · exact ⟨u,h1,h2.symm⟩
    · cases h1
   have glb : ∀ k v,alGet lb k = some v → ∃ u,alGet s.lb k = some u ∧ v = u.map stampH := by
    intro k v hv
    rw [← hlb,alGet_map,keepAl_get] at hv
    obtain ⟨u,h1,h2⟩ := map_some hv
    split at h1
    · exact ⟨u,h1,h2.symm⟩
    · cases h1
   have gbox : ∀ b cs,(⟨tm,pb,lb,1⟩ : St).box b = some cs → hasName lb b = true ∧ (∃ u,s.box b = some u ∧ cs = u.map stampH) ∧ ∀ c ∈ cs,∀ m ∈ names1 c,hasName lb m = true := by
    intro b cs hcs
    cases b with
    | par i =>
     simp only [St.box] at hcs
     refine ⟨rfl,?_,fun c hc m hm => ?_⟩
     · rw [← hpb,List.getElem?_map] at hcs
       obtain ⟨u,h1,h2⟩ := map_some hcs
       exact ⟨u,h1,h2.symm⟩
     · exact List.all_eq_true.1 (List.all_eq_true.1 k3 cs (List.mem_of_getElem? hcs)) m (List.mem_flatMap.2 ⟨c,hc,hm⟩)
    | loc k =>
     simp only [St.box] at hcs
     refine ⟨by simp [hasName,hcs],?_,fun c hc m hm => ?_⟩
     · obtain ⟨u,h1,h2⟩ := glb k cs hcs
       exact ⟨u,h1,h2⟩
     · exact List.all_eq_true.1 (List.all_eq_true.1 k2 _ (alGet_mem hcs)) m (List.mem_flatMap.2 ⟨c,hc,hm⟩)
   have gat : ∀ p T m es,(⟨tm,pb,lb,1⟩ : St).at p = some (.own T m es) → m = 0 ∧ ∃ m',s.at p = some (.own T m' es) := by
    intro p T m es hp
    cases p with
    | tmp k =>
     obtain ⟨u,h1,h2⟩ := gtm k _ hp
     obtain ⟨rfl,m',rfl⟩ := stampH2_own h2.symm
     exact ⟨rfl,m',h1⟩
    | cell b off =>
     simp only [St.at] at hp
     obtain ⟨cs,h1,h2⟩ := bind_some hp
     obtain ⟨_,⟨u,h3,rfl⟩,_⟩ := gbox b cs h1
     rw [List.getElem?_map] at h2
     obtain ⟨c,h4,h5⟩ := map_some h2
     obtain ⟨rfl,m',rfl⟩ := stampH_own h5
     exact ⟨rfl,m',by simp [St.at,h3,h4]⟩
   have gga : ∀ p T m es x,(⟨tm,pb,lb,1⟩ : St).at p = some (.own T m es) → gaH s γ p m = some x → ∃ m',s.at p = some (.own T m' es) ∧ γ p m' = some x := by
    intro p T m es x hp hx
    obtain ⟨rfl,m',h1⟩ := gat p T m es hp
    refine ⟨m',h1,?_⟩
    simpa [gaH,stampAt,h1] using hx
   have hμ : ∀ b g,μ' b = some g → hasName lb b = true ∧ μ b = some g := by
    intro b g hb
    by_cases hn : hasName lb b = true
    · simp only [μ',hn,if_true] at hb; exact ⟨hn,hb⟩
    · simp only [μ',hn] at hb; cases hb
   have hsub : ∀ b,hasName lb b = true → ∀ g,μ b = some g → μ' b = some g := fun b hb g hg => by simp only [μ',hb,if_true]; exact hg
   refine ⟨hd,V,μ',gaH s γ,{ tm := ?_,bx := ?_,dom := ?_,inj := ?_,visb := ?_,vis := h.vis,ow := ?_,ow2 := ?_,gq := ?_ },hf,?_⟩
   · intro k v hv
     obtain ⟨u,h1,h2⟩ := gtm k v hv
     obtain ⟨x,h3,h4⟩ := h.tm k u h1
     subst h2
     refine ⟨x,h3,h4.head (fun b hb => hsub b (List.all_eq_true.1 (List.all_eq_true.1 k1 _ (alGet_mem hv)) b hb)) fun T m es e => ?_⟩
     subst e
     have hat : s.at (.tmp k) = some (.own T m es) := h1
     simp [gaH,stampAt,hat]
   · intro b cs hcs
     obtain ⟨hn,⟨u,h1,rfl⟩,hnm⟩ := gbox b cs hcs
     obtain ⟨g,T,cur,h2,h3,h4,h5⟩ := h.bx b u h1
     refine ⟨g,T,cur,hsub b hn g h2,h3,by simpa using h4,fun i c hc => ?_⟩
     have hc' := List.mem_of_getElem? hc
     rw [List.getElem?_map] at hc
     obtain ⟨c0,h6,rfl⟩ := map_some hc
     obtain ⟨x,h7,h8⟩ := h5 i c0 h6
     refine ⟨x,h7,h8.head (fun m hm => hsub m (hnm _ hc' m hm)) fun T' m es e => ?_⟩
     subst e
     have hat : s.at (.cell b i) = some (.own T' m es) := by simp [St.at,h1,h6]
     simp [gaH,stampAt,hat]
   · intro b g hb
     obtain ⟨hn,hb⟩ := hμ b g hb
     cases b with
     | par i =>
      obtain ⟨cs,h1⟩ := h.dom _ g hb
      refine ⟨cs.map stampH,?_⟩
      simp only [St.box] at h1 ⊢
      rw [← hpb,List.getElem?_map,h1]; rfl
     | loc k =>
      exact Option.isSome_iff_exists.1 hn
   · intro b b' g hb hb'
     exact h.inj b b' g (hμ b g hb).2 (hμ b' g hb').2
   · intro b g hb
     exact h.visb b g (hμ b g hb).2
   · intro p T m es x g hp hx hg
     obtain ⟨m',h1,h2⟩ := gga p T m es x hp hx
     obtain ⟨h3,h4⟩ := h.ow p T m' es x g h1 h2 hg
     exact ⟨fun b hb => h3 b (hμ b g hb).2,h4⟩
   · intro p p' T m es T' m' es' x x' g hp hp' hx hx' hg hg'
     obtain ⟨m1,h1,h2⟩ := gga p T m es x hp hx
     obtain ⟨m2,h3,h4⟩ := gga p' T' m' es' x' hp' hx'
     exact h.ow2 p p' T m1 es T' m2 es' x x' g h1 h3 h2 h4 hg hg'
   · intro p m hm
     show m < 1
     by_cases e : m = 0
     · omega
     · simp [gaH,e] at hm
   · refine ⟨fun b g hb => hl.box b g (hμ b g hb).2,fun i => ?_,fun p T m es x g hp hx hg => ?_⟩
     · simp only [μ',hasName,if_true]; exact hl.par i
     · obtain ⟨m',h1,h2⟩ := gga p T m es x hp hx
       exact hl.own p T m' es x g h1 h2 hg
 · cases hs
end
end Go.Av
