/- The abstract machine answers as the model does: operations, maps, calls, loops. -/
import Derived.Test.YteidnocfcilajaaGreatDoorAvA
import Derived.Laws.Append
import Derived.IntWalk
import Derived.MapKept
import Derived.Orders
namespace Go.Av

/-- the elements' cells, one behind the other -/
def RowV (w : World) (V : Vis) (sz : Nat) : List AVal → List Value → Prop
  | [], vs => vs = []
  | e :: es, vs => (cellsOf e).length = sz ∧ ∃ xs ys, vs = xs ++ ys ∧ All2 (RepP w V) (cellsOf e) xs ∧ RowV w V sz es ys

section
variable {w w' : World} {V V' : Vis}
theorem RowV.keep (h : Keeps w V w' V') {sz : Nat} : ∀ {es : List AVal} {vs : List Value}, RowV w V sz es vs → RowV w' V' sz es vs
  | [], _, hr => hr
  | e :: es, _, ⟨h1, xs, ys, h2, h3, h4⟩ => ⟨h1, xs, ys, h2, h3.imp fun _ _ => RepP.keep h, RowV.keep h h4⟩
theorem RowV.length {sz : Nat} : ∀ {es : List AVal} {vs : List Value}, RowV w V sz es vs → vs.length = es.length * sz
  | [], _, hr => by
    simp only [RowV] at hr; subst hr; simp
  | e :: es, _, ⟨h1, xs, ys, h2, h3, h4⟩ => by
    subst h2
    rw [List.length_append, ← h3.length, h1, RowV.length h4, List.length_cons, Nat.succ_mul, Nat.add_comm]
theorem row_vals {sz g : Nat} : ∀ {es : List AVal} {o : Nat}, RowP w V sz g o es → ∃ vs, RowV w V sz es vs ∧ ∀ j x, vs[j]? = some x → w.cell? ⟨g, o + j, none⟩ = some x
  | [], _, _ => ⟨[], rfl, by simp⟩
  | e :: es, o, h => by
    rw [RowP_cons] at h
    obtain ⟨xs, h1, h2, h3⟩ := cells_all h.1.2
    obtain ⟨ys, h4, h5⟩ := row_vals h.2
    refine ⟨xs ++ ys, ⟨h.1.1, xs, ys, rfl, h3, h4⟩, fun j x hj => ?_⟩
    have hl : xs.length = sz := h1.trans h.1.1
    by_cases hlt : j < xs.length
    · rw [List.getElem?_append_left hlt] at hj; exact h2 j x hj
    · rw [List.getElem?_append_right (by omega)] at hj
      have := h5 _ x hj
      rw [show o + j = o + sz + (j - xs.length) by omega]; exact this
theorem cells_of_vals {g : Nat} : ∀ {cs : List AVal} {xs : List Value} {o : Nat}, All2 (RepP w V) cs xs → (∀ j, j < xs.length → V g (o + j)) → (∀ j x, xs[j]? = some x → w.cell? ⟨g, o + j, none⟩ = some x) → CellsP w V g o cs
  | [], [], _, _, _, _ => by simp [CellsP]
  | c :: cs, x :: xs, o, h, hv, hx => by
    simp only [CellsP]
    refine ⟨⟨hv 0 (by simp), x, hx 0 x rfl, h.1⟩, cells_of_vals h.2 (fun j hj => ?_) (fun j y hj => ?_)⟩
    · have := hv (j + 1) (by simpa using hj)
      rw [show o + 1 + j = o + (j + 1) by omega]; exact this
    · have := hx (j + 1) y (by simpa using hj)
      rw [show o + 1 + j = o + (j + 1) by omega]; exact this
  | [], _ :: _, _, h, _, _ => h.elim
  | _ :: _, [], _, h, _, _ => h.elim
theorem row_of_vals {sz g : Nat} : ∀ {es : List AVal} {vs : List Value} {o : Nat}, RowV w V sz es vs → (∀ j, j < vs.length → V g (o + j)) → (∀ j x, vs[j]? = some x → w.cell? ⟨g, o + j, none⟩ = some x) → RowP w V sz g o es
  | [], _, _, _, _, _ => by simp [RowP]
  | e :: es, _, o, ⟨h1, xs, ys, h2, h3, h4⟩, hv, hx => by
    subst h2
    rw [RowP_cons]
    have hl : xs.length = sz := h3.length.symm.trans h1
    refine ⟨⟨h1, cells_of_vals h3 (fun j hj => hv j (by simp; omega)) (fun j x hj => hx j x (by rw [List.getElem?_append_left (List.getElem?_eq_some_iff.1 hj).1]; exact hj))⟩, row_of_vals h4 (fun j hj => ?_) (fun j x hj => ?_)⟩
    · have := hv (sz + j) (by simp; omega)
      rw [Nat.add_assoc]; exact this
    · have := hx (sz + j) x (by rw [List.getElem?_append_right (by omega)]; rw [show sz + j - xs.length = j by omega]; exact hj)
      rw [Nat.add_assoc]; exact this
theorem RowV.one {sz : Nat} : ∀ {es : List AVal} {vs : List Value}, RowV w V sz es vs → ∀ v ∈ vs, v.oneCell' = true
  | [], _, hr, v, hv => by simp only [RowV] at hr; subst hr; cases hv
  | e :: es, _, ⟨h1, xs, ys, h2, h3, h4⟩, v, hv => by
    subst h2
    rcases List.mem_append.1 hv with hv | hv
    · exact all_one (μ := fun _ => none) (h3.imp fun _ _ => RepP.rep1) v hv
    · exact RowV.one h4 v hv

/-- append, the source given by what its cells read as -/
theorem run_append_grow' {P : Program} {t t2 ty e : TypeId} {i : TypeInfo} {z : Value} (ht : P.underlying t = some (.slice e)) {d : TypeDesc} (ht2 : P.underlying t2 = some d) (hd : ∀ k, d ≠ .int k) (hi : P.info? e = some i) (hz : i.zero = some z)
    {A : Option Addr} {sLen sCap m : Nat} {x : Value} {olds news : List Value} (hlen : (Builtin.lenOf x).run P w = .ok m w) (hfo : (Builtin.firstCells i.size sLen (.slice A sLen sCap)).run P w.drew = .ok olds.toArray w.drew)
    (hf : (Builtin.firstCells i.size m x).run P w.drew = .ok news.toArray w.drew) (hg : sCap < sLen + m) (h63 : ((sLen + m : Nat) : Int) ≤ 9223372036854775807) (hfit : Builtin.nextslicecap (sLen + m) sCap * i.bytes ≤ 281474976710656) :
    (Builtin.append_ #[t, t2] ty #[.slice A sLen sCap, x]).run P w =
      .ok (.slice (some ⟨w.heap.size, 0, none⟩) (sLen + m) (grownCap w (sLen + m) sCap e)) (w.drew.alloc (.cells (olds.toArray ++ news.toArray ++ Builtin.zeroCells z.cells (grownCap w (sLen + m) sCap e - (sLen + m))) e)) := by
  have hn : ¬ (sLen + m ≤ sCap) := by omega
  have h63' : ¬ (9223372036854775807 < ((sLen : Int) + (m : Int))) := by omega
  have h48' : ¬ (281474976710656 < Builtin.nextslicecap (sLen + m) sCap * i.bytes) := by omega
  have hd' : (match d with | .int _ => true | _ => false) = false := by cases d <;> first | rfl | exact absurd rfl (hd _)
  simp [Builtin.append_, run_underlying' ht, run_underlying' ht2, Go.sizeOf, typeInfo, zeroValue, hi, hz, hlen, hn, h63', h48', Question.forced, hf, hfo, newRow, grownCap]
  congr 2
  apply Array.ext'
  simp [List.append_assoc]

theorem run_append_room' {P : Program} {t t2 ty e : TypeId} {i : TypeInfo} (ht : P.underlying t = some (.slice e)) {d : TypeDesc} (ht2 : P.underlying t2 = some d) (hd : ∀ k, d ≠ .int k) (hi : P.info? e = some i)
    {A : Option Addr} {sLen sCap m : Nat} {x : Value} {news : List Value} (hlen : (Builtin.lenOf x).run P w = .ok m w)
    (hf : (Builtin.firstCells i.size m x).run P w = .ok news.toArray w) (hg : sLen + m ≤ sCap) (hst : ∀ a, A = some a → (storeCells (a.add (sLen * i.size)) news).run P w = .ok () w') (hnil : A = none → w' = w) :
    (Builtin.append_ #[t, t2] ty #[.slice A sLen sCap, x]).run P w = .ok (.slice A (sLen + m) sCap) w' := by
  have hd' : (match d with | .int _ => true | _ => false) = false := by cases d <;> first | rfl | exact absurd rfl (hd _)
  cases A with
  | none =>
    rw [hnil rfl]
    simp [Builtin.append_, run_underlying' ht, run_underlying' ht2, Go.sizeOf, typeInfo, hi, hlen, hg, hf]
  | some ad =>
    simp [Builtin.append_, run_underlying' ht, run_underlying' ht2, Go.sizeOf, typeInfo, hi, hlen, hg, hf, hst ad rfl]
end
end Go.Av
namespace Go.Av
section
variable {E : Env} {w0 : World} {V0 : Vis} {T0 : Tch} {Q Q' : Nat → Prop} {s : St} {a : Act} {w w' : World} {V V' : Vis} {μ μ' : BMap} {γ γ' : GMap}

theorem SRel.demoteBox {P : Program} (h : SRel P Q s a w V μ γ) {b : BName} {off : Nat} {cs : List AVal} {T : TypeId} {n : Nat} {es : List AVal} (hT : T ≠ mapT) (hb : s.box b = some cs) (hc : cs[off]? = some (.own T n es)) :
    SRel P Q (s.setBox b (cs.set off (.dead T n es))) a w V μ γ := by
  obtain ⟨g, U, cur, h1, h2, h3, h4⟩ := h.bx b cs hb
  have hlt : off < cs.length := (List.getElem?_eq_some_iff.1 hc).1
  have hget : ∀ i c, (cs.set off (.dead T n es))[i]? = some c → (i = off ∧ c = .dead T n es) ∨ (i ≠ off ∧ cs[i]? = some c) := by
    intro i c hi
    by_cases hio : i = off
    · subst hio
      rw [List.getElem?_set_self (by exact hlt)] at hi
      injection hi with hi
      exact .inl ⟨rfl, hi.symm⟩
    · rw [List.getElem?_set_ne (Ne.symm hio)] at hi
      exact .inr ⟨hio, hi⟩
  refine h.setBox hb h1 (OnlyBlock.refl _ _) h2 (by simp [h3]) (GLe.refl _) h.gq (fun i c hi => ?_) (fun i T' m es' x g' hi hx hg => ?_)
  · rcases hget i c hi with ⟨rfl, rfl⟩ | ⟨_, hi'⟩
    · obtain ⟨x, h5, h6⟩ := h4 i _ hc
      exact ⟨x, h5, h6.1.slice hT, h6.2⟩
    · exact h4 i c hi'
  · rcases hget i _ hi with ⟨_, e⟩ | ⟨hne, hi'⟩
    · cases e
    · have hat : s.at (.cell b i) = some (.own T' m es') := by simp [St.at, hb, hi']
      refine ⟨(h.ow _ T' m es' x g' hat hx hg).1, (h.ow _ T' m es' x g' hat hx hg).2, fun p' T2 n2 es2 x2 hp hp2 hx2 hg2 => ?_, fun j T2 n2 es2 x2 hj hj2 hx2 hg2 => ?_⟩
      · exact hp i (h.ow2 p' (.cell b i) T2 n2 es2 T' m es' x2 x g' hp2 hat hx2 hx hg2 hg)
      · rcases hget j _ hj2 with ⟨_, e⟩ | ⟨_, hj'⟩
        · cases e
        · have := h.ow2 (.cell b j) (.cell b i) T2 n2 es2 T' m es' x2 x g' (by simp [St.at, hb, hj']) hat hx2 hx hg2 hg
          injection this with _ e; exact hj e

theorem demoteBox_at {b : BName} {off : Nat} {cs : List AVal} {T : TypeId} {n : Nat} {es : List AVal} (hb : s.box b = some cs) (hc : cs[off]? = some (.own T n es)) {p : Place} {T' n' es'}
    (h : (s.setBox b (cs.set off (.dead T n es))).at p = some (.own T' n' es')) : p ≠ .cell b off ∧ s.at p = some (.own T' n' es') := by
  have hlt : off < cs.length := (List.getElem?_eq_some_iff.1 hc).1
  rw [at_setBox hb] at h
  cases p with
  | tmp k => exact ⟨by simp, h⟩
  | cell b' i =>
    simp only at h
    by_cases hbb : b' = b
    · subst hbb
      simp only [if_true] at h
      by_cases hi : i = off
      · subst hi; rw [List.getElem?_set_self hlt] at h; cases h
      · rw [List.getElem?_set_ne (Ne.symm hi)] at h
        exact ⟨fun e => hi (by injection e), by simp [St.at, hb, h]⟩
    · simp only [hbb, if_false] at h
      exact ⟨fun e => hbb (by injection e), h⟩

theorem own_factsD (h : SRel E.P Q s a w V μ γ) (hl : Loc w0 T0 s μ γ) {k : Nat} {T : TypeId} {m : Nat} {es : List AVal} (hT : T ≠ mapT) (hk : alGet s.tm k = some (.own T m es)) :
    OwnRep E.P w V T es (a.eval (.tmp k)) ∧ ∀ g, ownBlock (a.eval (.tmp k)) = some g → (∀ b, μ b ≠ some g) ∧ (∀ o, V g o → o < es.length * E.P.cellsOf T) ∧
      (∀ p' T' n' es' x', (s.put k (.dead T m es)).at p' = some (.own T' n' es') → γ p' n' = some x' → ownBlock x' ≠ some g) ∧ (T0 g ∨ w0.heap.size ≤ g) := by
  have := own_facts h hl hk
  rwa [deadV_ne hT] at this
theorem SRel.demoteD {P : Program} (h : SRel P Q s a w V μ γ) {j : Nat} {T : TypeId} {n : Nat} {es : List AVal} (hT : T ≠ mapT) (hj : alGet s.tm j = some (.own T n es)) : SRel P Q (s.put j (.dead T n es)) a w V μ γ := by
  have := h.demote hj
  rwa [deadV_ne hT] at this
theorem Loc.demoteD (hl : Loc w0 T0 s μ γ) {k : Nat} {T : TypeId} {m : Nat} {es : List AVal} (hT : T ≠ mapT) : Loc w0 T0 (s.put k (.dead T m es)) μ γ := by
  have := Loc.demote (k := k) (T := T) (m := m) (es := es) hl
  rwa [deadV_ne hT] at this
/-- what an append finds -/
theorem owner_cases (h : SRel E.P Q s a w V μ γ) (hl : Loc w0 T0 s μ γ) {T : TypeId} (hTm : T ≠ mapT) {x : Operand} {es : List AVal} {s1 : St} {fl : Bool} (ho : ownerF s T x = some (es, s1, fl)) :
    SRel E.P Q s1 a w V μ γ ∧ Loc w0 T0 s1 μ γ ∧ ((fl = true ∧ RepP w V (.slice es) (a.eval x) ∧ ∃ A, a.eval x = .slice A es.length es.length) ∨ (fl = false ∧ OwnRep E.P w V T es (a.eval x) ∧
      ∀ g, ownBlock (a.eval x) = some g → (∀ b, μ b ≠ some g) ∧ (∀ o, V g o → o < es.length * E.P.cellsOf T) ∧ (∀ p' T' n' es' x', s1.at p' = some (.own T' n' es') → γ p' n' = some x' → ownBlock x' ≠ some g) ∧ (T0 g ∨ w0.heap.size ≤ g))) := by
  have cnst : ∀ x : Operand, (if isNil x then some ([], s, false) else none) = some (es, s1, fl) → SRel E.P Q s1 a w V μ γ ∧ Loc w0 T0 s1 μ γ ∧ ((fl = true ∧ RepP w V (.slice es) (a.eval x) ∧ ∃ A, a.eval x = .slice A es.length es.length) ∨ (fl = false ∧ OwnRep E.P w V T es (a.eval x) ∧
      ∀ g, ownBlock (a.eval x) = some g → (∀ b, μ b ≠ some g) ∧ (∀ o, V g o → o < es.length * E.P.cellsOf T) ∧ (∀ p' T' n' es' x', s1.at p' = some (.own T' n' es') → γ p' n' = some x' → ownBlock x' ≠ some g) ∧ (T0 g ∨ w0.heap.size ≤ g))) := by
    intro x hx
    split at hx
    · rename_i hn
      injection hx with hx
      injection hx with h1 h2
      injection h2 with h2 h3
      subst h1; subst h2; subst h3
      refine ⟨h, hl, .inr ⟨rfl, .ofS hTm (.inl ⟨rfl, isNil_eval hn⟩), fun g hg => ?_⟩⟩
      rw [isNil_eval hn] at hg; cases hg
    · cases hx
  cases x with
  | const c => exact cnst _ ho
  | func f => exact cnst _ ho
  | global g => exact cnst _ ho
  | tmp k =>
    simp only [ownerF] at ho
    obtain ⟨v, h1, ho⟩ := bind_some ho
    cases v <;> simp only at ho <;> (try cases ho)
    case own U n es0 =>
      split at ho
      · rename_i hU
        injection ho with ho
        injection ho with e1 e2
        injection e2 with e2 e3
        subst e1; subst e2; subst e3; subst hU
        obtain ⟨h2, h3⟩ := own_factsD h hl hTm h1
        exact ⟨h.demoteD hTm h1, hl.demoteD hTm, .inr ⟨rfl, h2, h3⟩⟩
      · cases ho
    case full.refl =>
      obtain ⟨y, h2, h3⟩ := h.tm k _ h1
      have he : a.eval (.tmp k) = y := by simp [Act.eval, Array.getD_eq_getD_getElem?, h2]
      rw [he]
      exact ⟨h, hl, .inl ⟨rfl, h3.1, h3.2⟩⟩
    case view U n es0 p =>
      obtain ⟨y, h2, h3⟩ := h.tm k _ h1
      have he : a.eval (.tmp k) = y := by simp [Act.eval, Array.getD_eq_getD_getElem?, h2]
      rw [he]
      cases p with
      | tmp j =>
        simp only at ho
        obtain ⟨v, h4, ho⟩ := bind_some ho
        cases v <;> simp only at ho <;> (try cases ho)
        split at ho
        · rename_i hU
          injection ho with ho
          injection ho with e1 e2
          injection e2 with e2 e3
          subst e1; subst e2; subst e3
          obtain ⟨rfl, rfl⟩ := hU
          obtain ⟨h5, h6⟩ := own_factsD h hl hTm h4
          have hat : s.at (.tmp j) = some (.own _ _ _) := h4
          obtain ⟨z, hz, hzo⟩ := h.tm j _ h4
          have he2 : a.eval (.tmp j) = z := by simp [Act.eval, Array.getD_eq_getD_getElem?, hz]
          have hyz : y = z := by have := h3.2; rw [hzo.2] at this; injection this with this; exact this.symm
          rw [he2] at h5 h6
          rw [hyz]
          exact ⟨h.demoteD hTm h4, hl.demoteD hTm, .inr ⟨rfl, h5, h6⟩⟩
        · cases ho
      | cell b off =>
        simp only at ho
        obtain ⟨cs, h4, ho⟩ := bind_some ho
        obtain ⟨v, h5, ho⟩ := bind_some ho
        cases v <;> simp only at ho <;> (try cases ho)
        split at ho
        · rename_i T1 n1 es1 hU
          injection ho with ho
          injection ho with e1 e2
          injection e2 with e2 e3
          subst e1; subst e2; subst e3
          obtain ⟨rfl, rfl⟩ := hU
          have hat : s.at (.cell b off) = some (.own T1 n1 es1) := by simp [St.at, h4, h5]
          obtain ⟨z, hz, hzo⟩ := h.conc_own hat
          have hyz : y = z := by have := h3.2; rw [hz] at this; injection this with this; exact this.symm
          rw [hyz]
          refine ⟨h.demoteBox hTm h4 h5, ⟨hl.box, hl.par, fun p T' n' es' x g hp hx hg => hl.own p T' n' es' x g (demoteBox_at h4 h5 hp).2 hx hg⟩, .inr ⟨rfl, hzo, fun g hg => ?_⟩⟩
          refine ⟨(h.ow _ _ _ _ z g hat hz hg).1, (h.ow _ _ _ _ z g hat hz hg).2, fun p' T' n' es' x' hp' hx' hg' => ?_, hl.own _ _ _ _ z g hat hz hg⟩
          obtain ⟨hne, hp⟩ := demoteBox_at h4 h5 hp'
          exact hne (h.ow2 p' (.cell b off) T' n' es' _ _ _ x' z g hp hat hx' hz hg' hg)
        · cases ho

/-- what is appended -/
theorem news_cases (h : SRel E.P Q s a w V μ γ) {T2 : Option TypeId} {y : Operand} {v : AVal} {news : List AVal} (hv : rd s y = some v) (hn : newsF E T2 v = some news) {sz : Nat} (hok : esOK sz news = true) :
    ∃ t2 d, T2 = some t2 ∧ E.P.underlying t2 = some d ∧ (∀ k, d ≠ .int k) ∧ (Builtin.lenOf (a.eval y)).run E.P w = .ok news.length w ∧ ∃ vs, RowV w V sz news vs ∧
      ∀ w2 : World, w2.heap = w.heap → (Builtin.firstCells sz news.length (a.eval y)).run E.P w2 = .ok vs.toArray w2 := by
  have hr := h.rd hv
  unfold esOK at hok
  simp only [Bool.and_eq_true, decide_eq_true_eq] at hok
  have sl : ∀ es, elems? v = some es → (if (T2.bind (telem E.P)).isSome then elems? v else none) = some news → ∃ t2 d, T2 = some t2 ∧ E.P.underlying t2 = some d ∧ (∀ k, d ≠ .int k) ∧ (Builtin.lenOf (a.eval y)).run E.P w = .ok news.length w ∧ ∃ vs, RowV w V sz news vs ∧
      ∀ w2 : World, w2.heap = w.heap → (Builtin.firstCells sz news.length (a.eval y)).run E.P w2 = .ok vs.toArray w2 := by
    intro es hes hh
    split at hh
    · rename_i hT
      cases T2 with
      | none => simp at hT
      | some t2 =>
        simp only [Option.bind_some] at hT
        obtain ⟨e, hte⟩ := Option.isSome_iff_exists.1 hT
        rw [hes] at hh; injection hh with hh
        rw [hh] at hes
        clear hh
        have h1 := elems_rep hr hes
        simp only [RepP] at h1
        obtain ⟨A, c, hy, hc, hrow⟩ := h1
        rw [hy]
        refine ⟨t2, _, rfl, telem_some hte, (fun k e => by cases e), by simp [Builtin.lenOf], ?_⟩
        rcases hrow with rfl | ⟨g, o, sz', rfl, hpos, hrow⟩
        · refine ⟨[], rfl, fun w2 _ => ?_⟩
          cases A with
          | none => simp [Builtin.firstCells]
          | some A => simp [Builtin.firstCells, loadCells, loadCellsFrom]
        · obtain ⟨vs, h2, h3⟩ := row_vals hrow
          have hsz : news = [] ∨ sz' = sz := by
            cases news with
            | nil => exact .inl rfl
            | cons e es =>
              right
              have := hok.2
              simp only [List.head?_cons, decide_eq_true_eq] at this
              rw [RowP_cons] at hrow
              exact hrow.1.1.symm.trans this
          rcases hsz with rfl | rfl
          · exact ⟨[], rfl, fun w2 _ => by simp [Builtin.firstCells, loadCells, loadCellsFrom]⟩
          · refine ⟨vs, h2, fun w2 hw => ?_⟩
            refine run_firstCells_some w2 sz' _ _ _ _ vs h2.length (fun j x hj => ?_)
            rw [addr_add]
            have := h3 j x hj
            simpa [World.cell?, hw] using this
    · cases hh
  cases v <;> simp only [newsF] at hn <;> first | exact sl _ rfl hn | exact sl _ (by split at hn; · exact hn
                                                                                     · cases hn) hn | (simp only [elems?, ite_self] at hn; cases hn; done) | skip
  split at hn
  · rename_i b hT
    injection hn with hn; subst hn
    cases T2 with
    | none => simp at hT
    | some t2 =>
      simp only [Option.map_some] at hT
      have hT' : tstring E.P t2 = true := by injection hT
      have hy := rep_str hr
      rw [hy]
      have hsz : b = [] ∨ sz = 1 := by
        cases b with
        | nil => exact .inl rfl
        | cons c b =>
          right
          have h9 := hok.2
          simp only [List.map_cons, List.head?_cons, cellsOf, List.length_cons, List.length_nil] at h9
          have := of_decide_eq_true h9
          omega
      refine ⟨t2, _, rfl, tstring_some hT', (fun k e => by cases e), by simp [Builtin.lenOf, size_mk], ?_⟩
      rcases hsz with rfl | rfl
      · exact ⟨[], rfl, fun w2 _ => by simp [Builtin.firstCells]⟩
      · refine ⟨b.map fun c => .int .u8 c.toNat, ?_, fun w2 _ => ?_⟩
        · clear hy hr hv sl hok
          induction b with
          | nil => rfl
          | cons c b ih => exact ⟨rfl, [.int .u8 c.toNat], _, rfl, ⟨rfl, trivial⟩, ih⟩
        · simp [Builtin.firstCells]
  · cases hn
end
end Go.Av
namespace Go.Av
section
variable {E : Env} {w0 : World} {V0 : Vis} {T0 : Tch} {Q Q' : Nat → Prop} {s s1 : St} {a : Act} {w w' : World} {V V' : Vis} {μ μ' : BMap} {γ γ' : GMap}

theorem grownCap_ge' (w : World) (need old : Nat) (e : TypeId) : need ≤ grownCap w need old e := by simp [grownCap, Question.cut]

theorem Fr.vis (h : Fr w0 V0 T0 w V) (hk : ∀ g o, V g o → V' g o) (hn : ∀ g o, V' g o → V g o ∨ w0.heap.size ≤ g ∨ T0 g) : Fr w0 V0 T0 w V' where
  os := h.os
  tape := h.tape
  output := h.output
  size := h.size
  keep := h.keep
  vkeep := fun g o hv => ⟨hk g o (h.vkeep g o hv).1, (h.vkeep g o hv).2⟩
  vnew g o hv := (hn g o hv).elim (h.vnew g o) .inr
  sl := h.sl

theorem Keeps.drew {V : Vis} (h : Keeps w0 V0 w V) : Keeps w0 V0 w.drew V := fun g o hv => ⟨(h g o hv).1, (h g o hv).2.cell, (h g o hv).2.map⟩
theorem Fr.drew (h : Fr w0 V0 T0 w V) : Fr w0 V0 T0 w.drew V := ⟨h.os, h.tape, h.output, h.size, h.keep, h.vkeep.drew, h.vnew, h.sl⟩

/-- of what an owner's array holds: the cells of its elements -/
theorem own_vals {T : TypeId} {es : List AVal} {x : Value} (hTm : T ≠ mapT) (ho : OwnRep E.P w V T es x) : ∃ A c, x = .slice A es.length c ∧ es.length ≤ c ∧ ∃ vs, RowV w V (E.P.cellsOf T) es vs ∧
    ∀ w2 : World, w2.heap = w.heap → (Builtin.firstCells (E.P.cellsOf T) es.length (.slice A es.length c)).run E.P w2 = .ok vs.toArray w2 := by
  rcases ho.toS hTm with ⟨rfl, rfl⟩ | ⟨g, c, cur, rfl, hc, hh, hsz, hpos, hrow⟩
  · exact ⟨none, 0, rfl, Nat.le_refl _, [], rfl, fun w2 _ => by simp [Builtin.firstCells]⟩
  · obtain ⟨vs, h2, h3⟩ := row_vals hrow
    refine ⟨_, c, rfl, hc, vs, h2, fun w2 hw => ?_⟩
    refine run_firstCells_some w2 _ _ _ _ _ vs h2.length (fun j x hj => ?_)
    rw [addr_add]
    have := h3 j x hj
    simpa [World.cell?, hw] using this

theorem full_vals {T : TypeId} {es : List AVal} {x : Value} {A : Option Addr} (hr : RepP w V (.slice es) x) (hx : x = .slice A es.length es.length) (hok : esOK (E.P.cellsOf T) es = true) : ∃ vs, RowV w V (E.P.cellsOf T) es vs ∧
    ∀ w2 : World, w2.heap = w.heap → (Builtin.firstCells (E.P.cellsOf T) es.length (.slice A es.length es.length)).run E.P w2 = .ok vs.toArray w2 := by
  unfold esOK at hok
  simp only [Bool.and_eq_true, decide_eq_true_eq] at hok
  simp only [RepP] at hr
  obtain ⟨A', c, hy, hc, hrow⟩ := hr
  rw [hx] at hy
  injection hy with e1 e2 e3
  subst e1
  rcases hrow with rfl | ⟨g, o, sz', rfl, hpos, hrow⟩
  · refine ⟨[], rfl, fun w2 _ => ?_⟩
    cases A with
    | none => simp [Builtin.firstCells]
    | some A => simp [Builtin.firstCells, loadCells, loadCellsFrom]
  · obtain ⟨vs, h2, h3⟩ := row_vals hrow
    have hsz : es = [] ∨ sz' = E.P.cellsOf T := by
      cases es with
      | nil => exact .inl rfl
      | cons e es =>
        right
        have h9 := hok.2
        simp only [List.head?_cons] at h9
        have := of_decide_eq_true h9
        rw [RowP_cons] at hrow
        exact hrow.1.1.symm.trans this
    rcases hsz with rfl | rfl
    · exact ⟨[], rfl, fun w2 _ => by simp [Builtin.firstCells, loadCells, loadCellsFrom]⟩
    · refine ⟨vs, h2, fun w2 hw => ?_⟩
      refine run_firstCells_some w2 _ _ _ _ _ vs h2.length (fun j x hj => ?_)
      rw [addr_add]
      have := h3 j x hj
      simpa [World.cell?, hw] using this

theorem RowV.append {sz : Nat} : ∀ {es es' : List AVal} {vs vs' : List Value}, RowV w V sz es vs → RowV w V sz es' vs' → RowV w V sz (es ++ es') (vs ++ vs')
  | [], _, vs, _, h, h' => by simp only [RowV] at h; subst h; exact h'
  | e :: es, _, _, _, ⟨h1, xs, ys, h2, h3, h4⟩, h' => by
    subst h2
    exact ⟨h1, xs, ys ++ _, by rw [List.append_assoc], h3, RowV.append h4 h'⟩

/-- an array of its own is made, and put into a slot as an owner -/
theorem sim_row (hd : a.defers = []) (h : SRel E.P Q s a w V μ γ) (hf : Fr w0 V0 T0 w V) (hl : Loc w0 T0 s μ γ) (hQ : QLe Q Q') {n : Nat} (hn : ¬ Q n) (hn' : Q' n) {dst : Option Nat} (hdst : ∀ k, dst = some k → k < a.tmps.size)
    {T : TypeId} {es : List AVal} {vs : List Value} {cells : Array Value} {cap : Nat} (hTm : T ≠ mapT) (hpos : 0 < E.P.cellsOf T) (hv : RowV w V (E.P.cellsOf T) es vs) (hc : ∀ (j : Nat) (x : Value), vs[j]? = some x → cells[j]? = some x) (hsz : cells.size = cap * E.P.cellsOf T)
    (hcap : es.length ≤ cap) : Sim E.P w0 V0 T0 Q' (s.putD dst (.own T n es)) (a.put dst (.slice (some ⟨w.heap.size, 0, none⟩) es.length cap)) (w.alloc (.cells cells T)) := by
  let V' : Vis := fun g o => V g o ∨ (g = w.heap.size ∧ o < es.length * E.P.cellsOf T)
  have hkeep : Keeps w V (w.alloc (.cells cells T)) V' := fun g o hg => ⟨.inl hg, (alloc_keeps h.vis g o hg).2⟩
  have h1 : SRel E.P Q s a (w.alloc (.cells cells T)) V' μ γ := by
    refine h.world hkeep (fun _ _ hb => alloc_get (box_lt h hb)) (fun _ _ _ _ _ _ hp hx hg => alloc_get (own_lt h hp hx hg)) (fun g o hv => ?_) (fun g o hv => ?_)
    · rcases hv with hv | ⟨rfl, _⟩
      · exact .inl hv
      · exact .inr ⟨fun b hb => by have := box_lt h hb; omega, fun p T n es x hp hx hg => by have := own_lt h hp hx hg; omega⟩
    · rcases hv with hv | ⟨rfl, _⟩
      · have := h.vis g o hv; simp; omega
      · simp
  have hf1 : Fr w0 V0 T0 (w.alloc (.cells cells T)) V' := (hf.alloc h.vis _).vis (fun g o => .inl) (fun g o hv => by
    rcases hv with hv | ⟨rfl, _⟩
    · exact .inl hv
    · exact .inr (.inl hf.size))
  have hlen := hv.length
  have hrow : RowP (w.alloc (.cells cells T)) V' (E.P.cellsOf T) w.heap.size 0 es := by
    refine row_of_vals (hv.keep hkeep) (fun j hj => .inr ⟨rfl, by rw [hlen] at hj; omega⟩) (fun j x hj => ?_)
    rw [Nat.zero_add, box_cell alloc_new]
    exact hc j x hj
  refine sim_own hd h1 hf1 hl hQ hn hn' hdst (.ofS hTm (.inr ⟨w.heap.size, cap, cells, rfl, hcap, alloc_new, hsz, hpos, hrow⟩)) (fun k g hk hg => ?_)
  simp only [ownBlock] at hg
  injection hg with hg
  subst hg
  refine ⟨fun b hb => by have := box_lt h hb; omega, fun o hv => ?_, fun p' T' n' es' x' _ hp hx hg => by have := own_lt h hp hx hg; omega, .inr hf.size⟩
  rcases hv with hv | ⟨_, ho⟩
  · have := h.vis _ _ hv; omega
  · exact ho

theorem SRel.drew (h : SRel E.P Q s a w V μ γ) : SRel E.P Q s a w.drew V μ γ :=
  h.world (fun g o hv => ⟨hv, .of rfl⟩) (fun _ _ _ => rfl) (fun _ _ _ _ _ _ _ _ _ => rfl) (fun _ _ hv => .inl hv) h.vis

theorem sim_append (hd : a.defers = []) (h : SRel E.P Q s a w V μ γ) (hf : Fr w0 V0 T0 w V) (hl : Loc w0 T0 s μ γ) (hQ : QLe Q Q') {n : Nat} (hn : ¬ Q n) (hn' : Q' n) {o : Oper} (hdst : ∀ k, o.dst = some k → k < a.tmps.size)
    {x y : Operand} {ats : Array TypeId} (ho : o.op = .call { callee := .builtin .append, args := #[x, y], argTypes := ats }) {s' : St}
    (hs : (((ats[0]?).bind (telem E.P)).bind fun T => (rd s y).bind fun v => (newsF E (ats[1]?) v).bind fun news => (ownerF s T x).bind fun r =>
      if r.1.length + news.length ≤ appMax ∧ esOK (tsize E.P T) news = true ∧ E.P.bytesOf T ≤ 32768 ∧ tzero E.P T = some (tsize E.P T) ∧ (r.2.2 && news.isEmpty) = false ∧ (r.2.2 && !esOK (tsize E.P T) r.1) = false ∧ ats.size = 2 then
        some (r.2.1.putD o.dst (.own T n (r.1 ++ news))) else none) = some s') {X : Exit → Act → World → Prop} : o.wp E.P a w (Sim E.P w0 V0 T0 Q' s') X := by
  obtain ⟨T, hT, hs⟩ := bind_some hs
  obtain ⟨v, hv, hs⟩ := bind_some hs
  obtain ⟨news, hnews, hs⟩ := bind_some hs
  obtain ⟨⟨es, s1, fl⟩, how, hs⟩ := bind_some hs
  simp only at hs
  split at hs
  · rename_i hc
    obtain ⟨c1, c2, c3, c4, c5, c6, c7⟩ := hc
    injection hs with hs; subst hs
    obtain ⟨t, ht0, hte⟩ := bind_some hT
    unfold tsize at c2 c4 c6
    have hpos : 0 < E.P.cellsOf T := by unfold esOK at c2; simp only [Bool.and_eq_true, decide_eq_true_eq] at c2; exact c2.1
    obtain ⟨i, hi, hisz⟩ := info_of_cells (P := E.P) (t := T) (by omega)
    obtain ⟨z, hz0, hzs⟩ := map_some c4
    rw [hi, Option.bind_some] at hz0
    have hby : i.bytes ≤ 32768 := by unfold Program.bytesOf at c3; rw [hi] at c3; simpa using c3
    obtain ⟨t2, d, ht2, hud, hnd, hlen, nvs, hnv, hnf⟩ := news_cases h hv hnews c2
    have hTm := telem_ne hte
    obtain ⟨h1, hl1, hcase⟩ := owner_cases h hl hTm how
    have hats : ats = #[t, t2] := by
      apply Array.ext_getElem?
      intro j
      match j with
      | 0 => simpa using ht0
      | 1 => simpa using ht2
      | j + 2 => simp [Array.getElem?_eq_none (xs := ats) (i := j + 2) (by omega)]
    unfold appMax at c1
    have hexec : ∀ r w', (Builtin.append_ #[t, t2] o.type #[a.eval x, a.eval y]).run E.P w = .ok r w' → (execOp a.eval o).run E.P w = .ok (.value r) w' := by
      intro r w' hr
      simp [execOp, ho, hats, resolve, invoke, builtin, hr]
    have hfit : ∀ c, c < es.length + news.length → Builtin.nextslicecap (es.length + news.length) c * i.bytes ≤ 281474976710656 := fun c hc =>
      growslice_fits hc (Nat.le_trans (Nat.mul_le_mul c1 hby) (by decide))
    have hsize : (w.drew).heap = w.heap := rfl
    -- a new array
    have grow : ∀ A c vs, a.eval x = .slice A es.length c → c < es.length + news.length → RowV w V (E.P.cellsOf T) es vs → (∀ w2 : World, w2.heap = w.heap → (Builtin.firstCells (E.P.cellsOf T) es.length (.slice A es.length c)).run E.P w2 = .ok vs.toArray w2) →
        o.wp E.P a w (Sim E.P w0 V0 T0 Q' (s1.putD o.dst (.own T n (es ++ news)))) X := by
      intro A c vs hx hlt hvs hfc
      have hr := run_append_grow' (P := E.P) (w := w) (ty := o.type) (telem_some hte) hud hnd hi hz0 (A := A) (sLen := es.length) (sCap := c) (m := news.length) (x := a.eval y) (olds := vs) (news := nvs) hlen
        (by rw [hisz]; exact hfc _ rfl) (by rw [hisz]; exact hnf _ rfl) hlt (by omega) (hfit c hlt)
      rw [← hx] at hr
      refine wp_val (hexec _ _ hr) ?_
      have hge := grownCap_ge' w (es.length + news.length) c T
      have hlv := hvs.length
      have hln := hnv.length
      have := sim_row (T := T) (es := es ++ news) (vs := vs ++ nvs) (cap := grownCap w (es.length + news.length) c T) hd h1.drew hf.drew hl1 hQ hn hn' hdst hTm hpos (RowV.keep (w := w) (V := V) (w' := w.drew) (V' := V) (fun g o hv => ⟨hv, .of rfl⟩) (hvs.append hnv)) (cells := (vs.toArray ++ nvs.toArray ++ Builtin.zeroCells z.cells (grownCap w (es.length + news.length) c T - (es.length + news.length)))) (fun j u hj => ?_) ?_ (by rw [List.length_append]; exact hge)
      · rw [List.length_append] at this
        exact this
      · have hlt2 : j < (vs ++ nvs).length := (List.getElem?_eq_some_iff.1 hj).1
        rw [Array.getElem?_append_left (by simpa using hlt2)]
        simpa using hj
      · simp only [Array.size_append, List.size_toArray, hlv, hln]
        rw [show (Builtin.zeroCells z.cells (grownCap w (es.length + news.length) c T - (es.length + news.length))).size = (grownCap w (es.length + news.length) c T - (es.length + news.length)) * z.cells.size by simp [Builtin.zeroCells], hzs, ← Nat.add_mul, ← Nat.add_mul]
        congr 1; omega
    rcases hcase with ⟨rfl, hr1, A, hx⟩ | ⟨rfl, hown, hblk⟩
    · simp only [Bool.true_and, Bool.not_eq_false'] at c5 c6
      obtain ⟨vs, hvs, hfc⟩ := full_vals (E := E) (T := T) hr1 hx c6
      have hne : 0 < news.length := by
        cases news with
        | nil => simp at c5
        | cons _ _ => simp
      exact grow A es.length vs hx (by omega) hvs hfc
    · obtain ⟨A, c, hx, hcap, vs, hvs, hfc⟩ := own_vals hTm hown
      by_cases hroom : es.length + news.length ≤ c
      · rcases hown.toS hTm with ⟨rfl, hxn⟩ | ⟨g, c', cur, hxr, _, hheap, hcsz, _, hrow⟩
        · rw [hxn] at hx
          injection hx with e1 e2 e3
          subst e3; subst e1
          have hnil : news = [] := List.eq_nil_of_length_eq_zero (by simp only [List.length_nil] at hroom; omega)
          subst hnil
          have hr := run_append_room' (P := E.P) (w := w) (w' := w) (ty := o.type) (telem_some hte) hud hnd hi (A := none) (sLen := 0) (sCap := 0) (m := 0) (x := a.eval y) (news := nvs) hlen
            (by rw [hisz]; exact hnf _ rfl) (by omega) (fun _ e => by cases e) (fun _ => rfl)
          rw [← hxn] at hr
          refine wp_val (hexec _ _ hr) ?_
          rw [hxn]
          exact sim_own hd h1 hf hl1 hQ hn hn' hdst (.nil hTm) (fun k g _ hg => by cases hg)
        · rw [hxr] at hx
          injection hx with e1 e2 e3
          subst e3; subst e1
          have hln := hnv.length
          obtain ⟨w', cur', hst, hob, hheap', hsz', hcur'⟩ := run_storeCells (P := E.P) (g := g) (o := es.length * E.P.cellsOf T) nvs 0 w cur hheap hnv.one (by
            rw [hcsz, hln, Nat.add_zero, ← Nat.add_mul]; exact Nat.mul_le_mul_right _ hroom)
          have hr := run_append_room' (P := E.P) (w := w) (w' := w') (ty := o.type) (telem_some hte) hud hnd hi (A := some ⟨g, 0, none⟩) (sLen := es.length) (sCap := c') (m := news.length) (x := a.eval y) (news := nvs) hlen
            (by rw [hisz]; exact hnf _ rfl) hroom (fun ad e => by injection e with e; subst e; rw [addr_add, hisz, Nat.zero_add]; exact hst) (fun e => by cases e)
          rw [← hxr] at hr
          refine wp_val (hexec _ _ hr) ?_
          have hob1 := hblk g (by rw [hxr]; rfl)
          obtain ⟨b1, b2, b3, b4⟩ := hob1
          let V' : Vis := fun g' o => V g' o ∨ (g' = g ∧ o < (es ++ news).length * E.P.cellsOf T)
          have hk0 : Keeps w V w' V := by
            intro g' p hv
            refine ⟨hv, ?_⟩
            by_cases hg' : g' = g
            · subst hg'
              have := b2 p hv
              refine ⟨?_, fun e c hm => by rw [hheap] at hm; cases hm⟩
              rw [box_cell hheap, box_cell hheap', hcur']
              have hni : ¬ (es.length * E.P.cellsOf T + 0 ≤ p ∧ p < es.length * E.P.cellsOf T + 0 + nvs.length) := by omega
              simp only [hni, if_false]
            · exact .of (hob.other g' hg')
          have hkeep : Keeps w V w' V' := fun g' p hv => ⟨.inl hv, (hk0 g' p hv).2⟩
          have hlt : g < w.heap.size := (Array.getElem?_eq_some_iff.1 hheap).1
          have h2 : SRel E.P Q s1 a w' V' μ γ := by
            refine h1.world hkeep (fun b g' hb => hob.other g' (fun e => b1 b (e ▸ hb))) (fun p T' n' es' x' g' hp hx' hg' => hob.other g' (fun e => b3 p T' n' es' x' hp hx' (e ▸ hg'))) (fun g' p hv => ?_) (fun g' p hv => ?_)
            · rcases hv with hv | ⟨rfl, _⟩
              · exact .inl hv
              · exact .inr ⟨b1, b3⟩
            · rw [hob.size]
              rcases hv with hv | ⟨rfl, _⟩
              · exact h1.vis g' p hv
              · exact hlt
          have hf2 : Fr w0 V0 T0 w' V' := (hf.only b4 hob hk0).vis (fun _ _ => .inl) (fun g' p hv => by
            rcases hv with hv | ⟨rfl, _⟩
            · exact .inl hv
            · exact .inr b4.symm)
          have hrow2 : RowP w' V' (E.P.cellsOf T) g 0 (es ++ news) := by
            refine row_append (hrow.keep hkeep) ?_
            rw [Nat.zero_add]
            refine row_of_vals (hnv.keep hkeep) (fun j hj => .inr ⟨rfl, by rw [List.length_append, Nat.add_mul]; omega⟩) (fun j u hj => ?_)
            rw [box_cell hheap', hcur']
            have hjl : j < nvs.length := (List.getElem?_eq_some_iff.1 hj).1
            have hin : es.length * E.P.cellsOf T + 0 ≤ es.length * E.P.cellsOf T + j ∧ es.length * E.P.cellsOf T + j < es.length * E.P.cellsOf T + 0 + nvs.length := by omega
            simp only [hin, and_self, if_true]
            rw [show es.length * E.P.cellsOf T + j - (es.length * E.P.cellsOf T + 0) = j by omega]; exact hj
          have hrep : OwnRep E.P w' V' T (es ++ news) (.slice (some ⟨g, 0, none⟩) (es.length + news.length) c') :=
            .ofS hTm (.inr ⟨g, c', cur', by rw [List.length_append], by rw [List.length_append]; exact hroom, hheap', by rw [hsz', hcsz], hpos, hrow2⟩)
          refine sim_own hd h2 hf2 hl1 hQ hn hn' hdst hrep (fun k g' _ hg' => ?_)
          simp only [ownBlock] at hg'
          injection hg' with hg'
          subst hg'
          refine ⟨b1, fun p hv => ?_, fun p' T' n' es' x' _ hp hx' => b3 p' T' n' es' x' hp hx', b4⟩
          rcases hv with hv | ⟨_, hlt'⟩
          · have := b2 p hv
            rw [List.length_append, Nat.add_mul]; omega
          · exact hlt'
      · exact grow A c vs hx (by omega) hvs hfc
  · cases hs
end
end Go.Av
namespace Go.Av

def writeAt (cells : Array Value) (off : Nat) (vs : Array Value) : Array Value := vs.zipIdx.foldl (fun cs (c, j) => cs.setIfInBounds (off + j) c) cells

theorem write_list (off : Nat) : ∀ (vs : List Value) (k : Nat) (cells : Array Value), ((vs.zipIdx k).foldl (fun cs (c, j) => cs.setIfInBounds (off + j) c) cells).size = cells.size ∧
    (off + k + vs.length ≤ cells.size → ∀ i, ((vs.zipIdx k).foldl (fun cs (c, j) => cs.setIfInBounds (off + j) c) cells)[i]? = if off + k ≤ i ∧ i < off + k + vs.length then vs[i - (off + k)]? else cells[i]?)
  | [], k, cells => ⟨rfl, fun _ i => by
      have : ¬ (off + k ≤ i ∧ i < off + k + 0) := by omega
      simp only [List.zipIdx_nil, List.foldl_nil, List.length_nil, this, if_false]⟩
  | v :: vs, k, cells => by
    obtain ⟨h1, h2⟩ := write_list off vs (k + 1) (cells.setIfInBounds (off + k) v)
    simp only [List.zipIdx_cons, List.foldl_cons, List.length_cons]
    refine ⟨h1.trans (by simp), fun hle i => ?_⟩
    rw [h2 (by simp; omega) i]
    by_cases hi : i = off + k
    · subst hi
      have e1 : ¬ (off + (k + 1) ≤ off + k ∧ off + k < off + (k + 1) + vs.length) := by omega
      have e2 : off + k ≤ off + k ∧ off + k < off + k + (vs.length + 1) := by omega
      simp only [e1, if_false, e2, and_self, if_true, Nat.sub_self, List.getElem?_cons_zero]
      rw [Array.getElem?_setIfInBounds_self_of_lt (by omega)]
    · rw [Array.getElem?_setIfInBounds_ne (Ne.symm hi)]
      by_cases h3 : off + (k + 1) ≤ i ∧ i < off + (k + 1) + vs.length
      · have e2 : off + k ≤ i ∧ i < off + k + (vs.length + 1) := by omega
        simp only [h3, and_self, if_true, e2]
        rw [show i - (off + k) = (i - (off + (k + 1))) + 1 by omega, List.getElem?_cons_succ]
      · have e2 : ¬ (off + k ≤ i ∧ i < off + k + (vs.length + 1)) := by omega
        simp only [h3, if_false, e2]
theorem write_size (cells : Array Value) (off : Nat) (vs : Array Value) : (writeAt cells off vs).size = cells.size := by
  have := (write_list off vs.toList 0 cells).1
  unfold writeAt
  rw [← Array.foldl_toList, Array.toList_zipIdx]
  exact this
theorem write_get {cells : Array Value} {off : Nat} {vs : Array Value} (h : off + vs.size ≤ cells.size) (i : Nat) : (writeAt cells off vs)[i]? = if off ≤ i ∧ i < off + vs.size then vs[i - off]? else cells[i]? := by
  have := (write_list off vs.toList 0 cells).2 (by simpa using h) i
  unfold writeAt
  rw [← Array.foldl_toList, Array.toList_zipIdx]
  simpa using this

theorem fill_cons {place : Nat → Option (Nat × Nat)} {cells : Array Value} {i : Nat} {v : Value} {rest : List (Nat × Value)} {off size : Nat} (hp : place i = some (off, size)) (hs : v.cells.size = size) (hle : off + v.cells.size ≤ cells.size) :
    Instr.fill place cells ((i, v) :: rest) = Instr.fill place (writeAt cells off v.cells) rest := by
  have h1 : (decide (v.cells.size ≠ size) || decide (off + v.cells.size > cells.size)) = false := by simp; omega
  simp only [Instr.fill, hp]
  first
  | (rw [if_neg (by simp; omega)]; rfl)
  | (simp only [bne, h1]; rfl)

section
variable {E : Env} {w0 : World} {V0 : Vis} {T0 : Tch} {Q Q' : Nat → Prop} {s : St} {a : Act} {w w' : World} {V V' : Vis} {μ μ' : BMap} {γ γ' : GMap}

/-- what a value's cells are in an aggregate -/
theorem part_cells {v : AVal} {y : Value} (hr : RepR w V μ v y) (hn : noTup v = true) : All2 (Rep1 w V μ) ((cellsOf v).map strip1) y.cells.toList := by
  by_cases hown : ∃ T n es, v = .own T n es
  · obtain ⟨T, n, es, rfl⟩ := hown
    by_cases hT : T = mapT
    · obtain ⟨g, rfl⟩ := hr.1 hT
      refine ⟨?_, trivial⟩
      rw [strip1_own, if_pos hT]; exact ⟨g, rfl⟩
    · have h1 := hr.2 hT
      rw [slice_cells h1]
      refine ⟨?_, trivial⟩
      rw [strip1_own, if_neg hT]; exact h1
  · have h1 := cells_rep hr hn (fun T n es e => hown ⟨T, n, es, e⟩)
    have h2 : (cellsOf v).map strip1 = (cellsS v).map strip1 := by
      cases v <;> first | rfl | exact absurd ⟨_, _, _, rfl⟩ hown
    rw [h2]
    exact All2.map_left (f := Av.strip1) (fun _ _ => Rep1.strip1) h1

theorem splice_rep {cs xs : List AVal} {cells vs : Array Value} {off : Nat} (h : All2 (Rep1 w V μ) cs cells.toList) (hx : All2 (Rep1 w V μ) xs vs.toList) (hle : off + xs.length ≤ cs.length) :
    All2 (Rep1 w V μ) (splice cs off xs) (writeAt cells off vs).toList := by
  have hl := h.length
  have hxl := hx.length
  simp only [Array.length_toList] at hl hxl
  refine All2.of_get (by rw [splice_length hle]; simp only [Array.length_toList, write_size]; exact hl) fun i c hi => ?_
  rw [splice_get hle] at hi
  simp only [Array.getElem?_toList]
  rw [write_get (by omega), ← hxl]
  by_cases h1 : off ≤ i ∧ i < off + xs.length
  · simp only [h1, and_self, if_true] at hi ⊢
    obtain ⟨x, h2, h3⟩ := hx.get hi
    exact ⟨x, by simpa using h2, h3⟩
  · simp only [h1, if_false] at hi ⊢
    obtain ⟨x, h2, h3⟩ := h.get hi
    exact ⟨x, by simpa using h2, h3⟩

theorem fill_rep (h : SRel E.P Q s a w V μ γ) {T : TypeId} {place : Nat → Option (Nat × Nat)} (hu : ∀ i f, tplace E.P T i = some f → place i = some f) : ∀ {ps : List (Nat × Operand)} {cs cs' : List AVal} {cells : Array Value}, fillF E T s cs ps = some cs' →
    All2 (Rep1 w V μ) cs cells.toList → ∃ cells', Instr.fill place cells (ps.map fun (i, x) => (i, a.eval x)) = some cells' ∧ All2 (Rep1 w V μ) cs' cells'.toList
  | [], cs, cs', cells, hf, hc => by
    simp only [fillF] at hf; injection hf with hf; subst hf
    exact ⟨cells, rfl, hc⟩
  | (i, x) :: ps, cs, cs', cells, hf, hc => by
    simp only [fillF] at hf
    obtain ⟨v, h1, hf⟩ := bind_some hf
    obtain ⟨f, h2, hf⟩ := bind_some hf
    split at hf
    · rename_i hcnd
      obtain ⟨c1, c2, c3⟩ := hcnd
      have hp := part_cells (h.rd h1) c3
      have hpl := hp.length
      simp only [List.length_map, Array.length_toList] at hpl
      have hcl := hc.length
      simp only [Array.length_toList] at hcl
      try simp only at c1 c2 hf
      have hsp := splice_rep (off := f.1) hc hp (by rw [List.length_map]; omega)
      obtain ⟨cells', h5, h6⟩ := fill_rep h hu hf hsp
      refine ⟨cells', ?_, h6⟩
      rw [List.map_cons, fill_cons (off := f.1) (size := f.2)]
      · exact h5
      · exact hu i f h2
      · rw [← hpl]; exact c1
      · omega
    · cases hf

theorem mapM_places {P : Program} : ∀ (fs : List Field), (∀ f ∈ fs, ∃ i, P.info? f.type = some i ∧ i.size = P.cellsOf f.type) →
    ((fs.mapM fun f => do pure (f.offset, ← Go.sizeOf f.type) : Sem (List (Nat × Nat)))).run P w = .ok (fs.map fun f => (f.offset, P.cellsOf f.type)) w
  | [], _ => by simp
  | f :: fs, h => by
    have h1 := run_sizeOf_info (w := w) (h f (by simp))
    have h2 := mapM_places fs (fun g hg => h g (by simp [hg]))
    simp only [List.mapM_cons, Sem.run_bind, h1, h2, Result.andThen_ok, Sem.run_pure, List.map_cons]

theorem sim_build (hd : a.defers = []) (h : SRel E.P Q s a w V μ γ) (hf : Fr w0 V0 T0 w V) (hl : Loc w0 T0 s μ γ) (hQ : QLe Q Q') {o : Oper} (hdst : ∀ k, o.dst = some k → k < a.tmps.size)
    {T : TypeId} {ps : Array (Nat × Operand)} (ho : o.op = .build T ps) {s' : St} (hs : ((zeroA E.P T).bind fun cs => (fillF E T s cs ps.toList).bind fun cs => if fieldsOK E.P T then some (s.putD o.dst (.agg cs)) else none) = some s') {X : Exit → Act → World → Prop} :
    o.wp E.P a w (Sim E.P w0 V0 T0 Q' s') X := by
  obtain ⟨cs, h1, hs⟩ := bind_some hs
  obtain ⟨cs', h2, hs⟩ := bind_some hs
  split at hs
  · rename_i hok
    injection hs with hs; subst hs
    obtain ⟨z, i, hi, hz, hrep⟩ := zeroA_rep (w := w) (V := V) (μ := μ) h1
    have h5 : (ps.map fun (i, x) => (i, a.eval x)).toList = ps.toList.map fun (i, x) => (i, a.eval x) := by simp
    unfold fieldsOK at hok
    split at hok
    · rename_i fs hu
      obtain ⟨cells', h3, h4⟩ := fill_rep (place := ((fs.map fun f => (f.offset, E.P.cellsOf f.type))[·]?)) h (by
        intro i f hp
        unfold tplace at hp
        rw [hu] at hp
        obtain ⟨fd, h6, h7⟩ := map_some hp
        simp [h6, h7]) h2 hrep
      have hpl : ((fs.mapM fun f => do pure (f.offset, ← Go.sizeOf f.type) : Sem (Array (Nat × Nat)))).run E.P w = .ok (fs.map fun f => (f.offset, E.P.cellsOf f.type)) w := by
        rw [Array.mapM_eq_mapM_toList]
        have := mapM_places (P := E.P) (w := w) fs.toList (fun f hf => by
          have := List.all_eq_true.1 hok f hf
          obtain ⟨j, hj⟩ := Option.isSome_iff_exists.1 this
          exact ⟨j, hj, by unfold Program.cellsOf; rw [hj]; rfl⟩)
        simp only [Sem.run_map, this, Result.andThen_ok]
        congr 1
        apply Array.ext'
        simp
      refine sim_calc hd h hf hl hQ hdst rfl (v := .agg cs') (x := .agg cells') ⟨_, rfl, h4⟩ ?_
      simp only [execOp, ho, Instr.build, Sem.run_bind, zeroValue, typeInfo, Sem.run_pure, run_program, Result.andThen_ok, hi, hz, run_underlying' hu]
      simp only [hpl, Result.andThen_ok, h5, h3, Sem.run_pure]
    · rename_i n e hu
      obtain ⟨cells', h3, h4⟩ := fill_rep (place := fun i => some (i * E.P.cellsOf e, E.P.cellsOf e)) h (by
        intro i f hp
        unfold tplace at hp
        rw [hu] at hp
        exact hp) h2 hrep
      obtain ⟨j, hj⟩ := Option.isSome_iff_exists.1 hok
      have hsz := run_sizeOf_info (w := w) ⟨j, hj, (by unfold Program.cellsOf; rw [hj]; rfl : j.size = E.P.cellsOf e)⟩
      refine sim_calc hd h hf hl hQ hdst rfl (v := .agg cs') (x := .agg cells') ⟨_, rfl, h4⟩ ?_
      simp only [execOp, ho, Instr.build, Sem.run_bind, zeroValue, typeInfo, Sem.run_pure, run_program, Result.andThen_ok, hi, hz, run_underlying' hu]
      simp only [hsz, Result.andThen_ok, h5, h3, Sem.run_pure]
    · cases hok
  · cases hs
end
end Go.Av
namespace Go.Av
section
variable {E : Env} {w0 : World} {V0 : Vis} {T0 : Tch} {Q Q' : Nat → Prop} {s : St} {a : Act} {w w' : World} {V V' : Vis} {μ μ' : BMap} {γ γ' : GMap}

theorem pure_rep {c : AVal} {y : Value} (h : Rep1 w V μ c y) (hp : pure1 c = true) : RepP w V c y := by
  cases c <;> first | (cases hp; done) | exact h

theorem cells_own {T : TypeId} {n : Nat} {es : List AVal} : cellsOf (strip2 (.own T n es)) = (cellsOf (.own T n es)).map strip1 := by
  show cellsOf (strip1 (.own T n es)) = [strip1 (.own T n es)]
  rw [strip1_own]
  by_cases hT : T = mapT
  · rw [if_pos hT]; rfl
  · rw [if_neg hT]; rfl
theorem pure_cells {v : AVal} {y : Value} (hr : RepR w V μ v y) (hp : pureE (strip2 v) = true) : All2 (RepP w V) (cellsOf (strip2 v)) y.cells.toList := by
  have hn : noTup v = true := by cases v <;> first | rfl | cases hp
  have h1 := part_cells hr hn
  have h2 : cellsOf (strip2 v) = (cellsOf v).map strip1 := by cases v <;> first | rfl | exact cells_own
  rw [h2]
  have h3 : ∀ c ∈ (cellsOf v).map strip1, pure1 c = true := by
    rw [← h2]
    revert hp
    generalize strip2 v = u
    intro hp
    cases u <;> first
      | (intro c hc; simp only [cellsOf, List.mem_singleton] at hc; subst hc; exact hp)
      | exact fun c hc => List.all_eq_true.1 hp c hc
  refine All2.of_get h1.length fun i c hc => ?_
  obtain ⟨b, hb, hr⟩ := h1.get hc
  exact ⟨b, hb, pure_rep hr (h3 c (List.mem_of_getElem? hc))⟩

theorem fill_row (h : SRel E.P Q s a w V μ γ) {size : Nat} : ∀ {ps : List (Nat × Operand)} {j : Nat} {es : List AVal} {cells : Array Value}, elemsF s size j ps = some es → (j + es.length) * size ≤ cells.size →
    ∃ cells' vs, Instr.fill (fun i => some (i * size, size)) cells (ps.map fun (i, x) => (i, a.eval x)) = some cells' ∧ cells'.size = cells.size ∧ RowV w V size es vs ∧
      (∀ i, i < j * size → cells'[i]? = cells[i]?) ∧ ∀ i x, vs[i]? = some x → cells'[j * size + i]? = some x
  | [], j, es, cells, he, hle => by
    simp only [elemsF] at he; injection he with he; subst he
    exact ⟨cells, [], rfl, rfl, rfl, fun _ _ => rfl, by simp⟩
  | (i, x) :: ps, j, es, cells, he, hle => by
    simp only [elemsF] at he
    split at he
    · rename_i hij; subst hij
      obtain ⟨v, h1, he⟩ := bind_some he
      split at he
      · rename_i hc
        obtain ⟨c1, c2⟩ := hc
        obtain ⟨es', h2, rfl⟩ := map_some he
        have hp := pure_cells (h.rd h1) c1
        have hl := hp.length
        simp only [Array.length_toList] at hl
        have hsz : (a.eval x).cells.size = size := by rw [← hl, c2]
        rw [List.length_cons] at hle
        have hle2 : (i + 1 + es'.length) * size ≤ cells.size := by rw [show i + 1 + es'.length = i + (es'.length + 1) by omega]; exact hle
        have hle3 : i * size + size ≤ cells.size := by
          refine Nat.le_trans ?_ hle2
          rw [← Nat.succ_mul]; exact Nat.mul_le_mul_right _ (by omega)
        obtain ⟨cells', vs, h3, h4, h5, h6, h7⟩ := fill_row h (cells := writeAt cells (i * size) (a.eval x).cells) h2 (by rw [write_size]; exact hle2)
        have hw : ∀ k, (writeAt cells (i * size) (a.eval x).cells)[k]? = if i * size ≤ k ∧ k < i * size + (a.eval x).cells.size then (a.eval x).cells[k - i * size]? else cells[k]? := write_get (by omega)
        refine ⟨cells', (a.eval x).cells.toList ++ vs, ?_, by rw [h4, write_size], ⟨c2, _, _, rfl, hp, h5⟩, fun k hk => ?_, fun k y hk => ?_⟩
        · rw [List.map_cons, fill_cons (off := i * size) (size := size) rfl hsz (by omega)]; exact h3
        · rw [h6 k (by rw [Nat.succ_mul]; omega), hw k]
          have : ¬ (i * size ≤ k ∧ k < i * size + (a.eval x).cells.size) := by omega
          simp only [this, if_false]
        · by_cases hlt : k < size
          · rw [List.getElem?_append_left (by simp; omega)] at hk
            rw [h6 _ (by rw [Nat.succ_mul]; omega), hw]
            have : i * size ≤ i * size + k ∧ i * size + k < i * size + (a.eval x).cells.size := by omega
            simp only [this, and_self, if_true]
            rw [Nat.add_sub_cancel_left]
            simpa using hk
          · rw [List.getElem?_append_right (by simp; omega)] at hk
            simp only [Array.length_toList, hsz] at hk
            have := h7 _ _ hk
            rw [Nat.succ_mul] at this
            rw [← this]; congr 1; omega
      · cases he
    · cases he

theorem sim_buildSlice (hd : a.defers = []) (h : SRel E.P Q s a w V μ γ) (hf : Fr w0 V0 T0 w V) (hl : Loc w0 T0 s μ γ) (hQ : QLe Q Q') {n : Nat} (hn : ¬ Q n) (hn' : Q' n) {o : Oper} (hdst : ∀ k, o.dst = some k → k < a.tmps.size)
    {T : TypeId} {m : Nat} {ps : Array (Nat × Operand)} (ho : o.op = .buildSlice T m ps) {s' : St} (hs : ((telem E.P T).bind fun e => (elemsF s (tsize E.P e) 0 ps.toList).bind fun es =>
      if es.length = m ∧ 0 < tsize E.P e ∧ m * tsize E.P e ≤ 16777216 ∧ (tzero E.P e).isSome = true then some (s.putD o.dst (.own e n es)) else none) = some s') {X : Exit → Act → World → Prop} :
    o.wp E.P a w (Sim E.P w0 V0 T0 Q' s') X := by
  obtain ⟨e, hT, hs⟩ := bind_some hs
  obtain ⟨es, he, hs⟩ := bind_some hs
  split at hs
  · rename_i hc
    obtain ⟨c1, c2, c3, c4⟩ := hc
    injection hs with hs; subst hs
    unfold tsize at c2 c3 he
    obtain ⟨i, hi, hisz⟩ := info_of_cells (P := E.P) (t := e) (by omega)
    obtain ⟨zn, hzn⟩ := Option.isSome_iff_exists.1 c4
    obtain ⟨z, hz0, _⟩ := map_some hzn
    rw [hi, Option.bind_some] at hz0
    obtain ⟨cells', vs, h1, h2, h3, _, h4⟩ := fill_row h (cells := (Array.range (m * E.P.cellsOf e)).map ((if m * E.P.cellsOf e = 0 then #[] else z.cells)[· % (if m * E.P.cellsOf e = 0 then #[] else z.cells).size]!)) he (by rw [c1]; simp)
    have h5 : (ps.map fun (i, x) => (i, a.eval x)).toList = ps.toList.map fun (i, x) => (i, a.eval x) := by simp
    have hrun : (execOp a.eval o).run E.P w = .ok (.value (.slice (some ⟨w.heap.size, 0, none⟩) es.length m)) (w.alloc (.cells cells' e)) := by
      have h9 : ¬ (m * E.P.cellsOf e > 2 ^ 24) := by omega
      simp only [execOp, ho, Instr.buildSlice, Sem.run_bind, run_underlying' (telem_some hT), Result.andThen_ok, Go.sizeOf, typeInfo, run_program, hi, Sem.run_pure, hisz, h9, if_false, h5]
      by_cases h0 : m * E.P.cellsOf e = 0
      · simp only [h0, if_true] at h1
        simp only [h0, if_true, Sem.run_bind, Sem.run_pure, Result.andThen_ok]
        rw [h1]
        simp [newRow, c1]
      · simp only [h0, if_false] at h1
        simp only [h0, if_false, Sem.run_bind, Sem.run_pure, Result.andThen_ok, zeroValue, typeInfo, run_program, hi, hz0]
        rw [h1]
        simp [newRow, c1]
    refine wp_val hrun ?_
    refine sim_row (cells := cells') hd h hf hl hQ hn hn' hdst (telem_ne hT) c2 h3 (fun j x hj => ?_) ?_ (by omega)
    · simpa using h4 j x hj
    · rw [h2]; simp
  · cases hs
end
end Go.Av
namespace Go.Av

theorem All2.map_mem {α β γ : Type} {R : α → β → Prop} {R' : γ → β → Prop} {f : α → γ} : ∀ {l : List α} {m : List β}, (∀ a ∈ l, ∀ b, R a b → R' (f a) b) → All2 R l m → All2 R' (l.map f) m
  | [], [], _, _ => trivial
  | _ :: _, _ :: _, h, hr => ⟨h _ (by simp) _ hr.1, All2.map_mem (fun a ha => h a (by simp [ha])) hr.2⟩
  | [], _ :: _, _, hr => hr.elim
  | _ :: _, [], _, hr => hr.elim

section
variable {P : Program} {w w' : World} {V V' : Vis} {μ μ' : BMap} {γ γ' : GMap} {ρ : BName → BName}

theorem Rep0.ren {c : AVal} {x : Value} (hρ : ∀ b ∈ names0 c, ∀ g, μ b = some g → μ' (ρ b) = some g) (h : Rep0 w V μ c x) : Rep0 w V μ' (ren0 ρ c) x := by
  cases c with
  | ptr b off => obtain ⟨g, h1, h2⟩ := h; exact ⟨g, hρ b (by simp [names0]) g h1, h2⟩
  | _ => exact h
theorem Rep1.ren {c : AVal} {x : Value} (hρ : ∀ b ∈ names1 c, ∀ g, μ b = some g → μ' (ρ b) = some g) (h : Rep1 w V μ c x) : Rep1 w V μ' (ren1 ρ c) x := by
  cases c with
  | ptr b off => obtain ⟨g, h1, h2⟩ := h; exact ⟨g, hρ b (by simp [names1]) g h1, h2⟩
  | func f a c =>
    obtain ⟨u, z, h1, h2, h3⟩ := h
    simp only [names1, List.flatMap_append, List.mem_append, List.mem_flatMap] at hρ
    exact ⟨u, z, h1, All2.map_mem (fun a ha b => Rep0.ren fun n hn => hρ n (.inl ⟨a, ha, hn⟩)) h2, All2.map_mem (fun a ha b => Rep0.ren fun n hn => hρ n (.inr ⟨a, ha, hn⟩)) h3⟩
  | _ => exact h
theorem Rep2.ren {c : AVal} {x : Value} (hρ : ∀ b ∈ names2 c, ∀ g, μ b = some g → μ' (ρ b) = some g) (h : Rep2 w V μ c x) : Rep2 w V μ' (ren2 ρ c) x := by
  cases c with
  | agg cs =>
    obtain ⟨z, h1, h2⟩ := h
    simp only [names2, List.mem_flatMap] at hρ
    exact ⟨z, h1, All2.map_mem (fun a ha b => Rep1.ren fun n hn => hρ n ⟨a, ha, hn⟩) h2⟩
  | ptr b o => exact Rep1.ren (w := w) (V := V) (c := .ptr b o) hρ h
  | func f x y => exact Rep1.ren (w := w) (V := V) (c := .func f x y) hρ h
  | _ => exact h
theorem Rep3.ren {c : AVal} {x : Value} (hρ : ∀ b ∈ names c, ∀ g, μ b = some g → μ' (ρ b) = some g) (h : Rep3 w V μ c x) : Rep3 w V μ' (ren ρ c) x := by
  cases c with
  | tup cs =>
    obtain ⟨z, h1, h2⟩ := h
    simp only [names, List.mem_flatMap] at hρ
    exact ⟨z, h1, All2.map_mem (fun a ha b => Rep2.ren fun n hn => hρ n ⟨a, ha, hn⟩) h2⟩
  | agg cs => exact Rep2.ren (w := w) (V := V) (c := .agg cs) hρ h
  | ptr b o => exact Rep2.ren (w := w) (V := V) (c := .ptr b o) hρ h
  | func f x y => exact Rep2.ren (w := w) (V := V) (c := .func f x y) hρ h
  | _ => exact h

theorem map_id_mem {α : Type} {f : α → α} : ∀ {l : List α}, (∀ a ∈ l, f a = a) → l.map f = l
  | [], _ => rfl
  | a :: l, h => by rw [List.map_cons, h a (by simp), map_id_mem fun b hb => h b (by simp [hb])]
theorem ren0_id {c : AVal} (h : ∀ b ∈ names0 c, ρ b = b) : ren0 ρ c = c := by
  cases c with
  | ptr b off => simp only [ren0]; rw [h b (by simp [names0])]
  | _ => rfl
theorem ren1_id {c : AVal} (h : ∀ b ∈ names1 c, ρ b = b) : ren1 ρ c = c := by
  cases c with
  | ptr b off => simp only [ren1]; rw [h b (by simp [names1])]
  | func f a c =>
    simp only [names1, List.flatMap_append, List.mem_append, List.mem_flatMap] at h
    simp only [ren1]
    rw [map_id_mem fun a ha => ren0_id fun b hb => h b (.inl ⟨a, ha, hb⟩), map_id_mem fun a ha => ren0_id fun b hb => h b (.inr ⟨a, ha, hb⟩)]
  | _ => rfl
theorem ren2_id {c : AVal} (h : ∀ b ∈ names2 c, ρ b = b) : ren2 ρ c = c := by
  cases c with
  | agg cs => simp only [names2, List.mem_flatMap] at h; simp only [ren2]; rw [map_id_mem fun a ha => ren1_id fun b hb => h b ⟨a, ha, hb⟩]
  | ptr b o => exact ren1_id (c := .ptr b o) h
  | func f x y => exact ren1_id (c := .func f x y) h
  | _ => rfl
theorem ren_id {c : AVal} (h : ∀ b ∈ names c, ρ b = b) : ren ρ c = c := by
  cases c with
  | tup cs => simp only [names, List.mem_flatMap] at h; simp only [ren]; rw [map_id_mem fun a ha => ren2_id fun b hb => h b ⟨a, ha, hb⟩]
  | agg cs => exact ren2_id (c := .agg cs) h
  | ptr b o => exact ren2_id (c := .ptr b o) h
  | func f x y => exact ren2_id (c := .func f x y) h
  | _ => rfl
theorem ren_plain {c : AVal} : plainV (ren ρ c) = plainV c := by cases c <;> rfl

theorem Fr.trans {w0 : World} {V0 : Vis} {T0 Tc : Tch} (h : Fr w0 V0 T0 w V) (k : Fr w V Tc w' V') (hT : ∀ g, Tc g → T0 g ∨ w0.heap.size ≤ g) : Fr w0 V0 T0 w' V' where
  os := k.os.trans h.os
  tape := k.tape.trans h.tape
  output := k.output.trans h.output
  size := Nat.le_trans h.size k.size
  keep g hg ht := (k.keep g (Nat.lt_of_lt_of_le hg h.size) fun hc => (hT g hc).elim ht (fun h => by omega)).trans (h.keep g hg ht)
  vkeep := h.vkeep.trans k.vkeep
  vnew g o hv := by
    rcases k.vnew g o hv with h1 | h1 | h1
    · exact h.vnew g o h1
    · exact .inr (.inl (Nat.le_trans h.size h1))
    · rcases hT g h1 with h2 | h2
      · exact .inr (.inr h2)
      · exact .inr (.inl h2)
  sl := h.sl
end

/-! what a callee is handed, and what it hands back -/
def boxSt (H : Heap) : St := ⟨[], H, [], 1⟩
def retSt (v : AVal) (H : Heap) : St := ⟨[(0, v)], H, [], 1⟩
def old (n : Nat) : Prop := n < 1
def any (_ : Nat) : Prop := True

def Back (P : Program) (w : World) (V : Vis) (T0 : Tch) (μ : BMap) (r : AVal × Heap) (v : Value) (w' : World) : Prop :=
  ∃ V' γ' a', a'.tmps = #[v] ∧ SRel P any (retSt r.1 r.2) a' w' V' μ γ' ∧ Fr w V T0 w' V' ∧ Loc w T0 (retSt r.1 r.2) μ γ' ∧ (plainV r.1 = true ∨ ∃ T n es, r.1 = .own T n es)
/-- a Go function, and not one of the machine's own -/
def Enters (P : Program) (f : FuncId) : Prop := ∃ fn c, P.funcs[f]? = some fn ∧ (fn.name == "runtime.NumGoroutine") = false ∧ fn.body = some c
def Sound (P : Program) (F : World → Prop) (D : FuncId → List AVal → Heap → Option (AVal × Heap)) : Prop :=
  ∀ f as H r, D f as H = some r → ∀ (xs : Array Value) w V T0 μ γ a0, All2 (Rep3 w V μ) as xs.toList → (∀ v ∈ as, plainV v = true) → SRel P old (boxSt H) a0 w V μ γ → Loc w T0 (boxSt H) μ γ → T0.F = F → Sealed T0 w →
    Enters P f ∧ Calls P f xs w fun e w' => ∃ v, e = .returned v ∧ Back P w V T0 μ r v w'

/-! the boxes that a callee may reach -/
theorem reach_spec {s : St} : ∀ {n : Nat} {wl seen ns : List BName}, reach s n wl seen = some ns → seen.Nodup → (∀ b ∈ seen, ∃ cs, s.box b = some cs ∧ ∀ m ∈ cs.flatMap names1, m ∈ seen ∨ m ∈ wl) →
    ns.Nodup ∧ (∀ b ∈ seen, b ∈ ns) ∧ (∀ b ∈ wl, b ∈ ns) ∧ ∀ b ∈ ns, ∃ cs, s.box b = some cs ∧ ∀ m ∈ cs.flatMap names1, m ∈ ns
  | 0, _, _, _, h, _, _ => by simp [reach] at h
  | n + 1, [], seen, ns, h, hnd, hc => by
    simp only [reach] at h; injection h with h; subst h
    exact ⟨hnd, fun b hb => hb, by simp, fun b hb => by
      obtain ⟨cs, h1, h2⟩ := hc b hb
      exact ⟨cs, h1, fun m hm => (h2 m hm).elim id (by simp)⟩⟩
  | n + 1, b :: r, seen, ns, h, hnd, hc => by
    simp only [reach] at h
    split at h
    · rename_i hs
      have hs : b ∈ seen := by simpa using hs
      obtain ⟨h1, h2, h3, h4⟩ := reach_spec h hnd (fun b' hb' => by
        obtain ⟨cs, h1, h2⟩ := hc b' hb'
        refine ⟨cs, h1, fun m hm => ?_⟩
        rcases h2 m hm with h3 | h3
        · exact .inl h3
        · rcases List.mem_cons.1 h3 with rfl | h3
          · exact .inl hs
          · exact .inr h3)
      exact ⟨h1, h2, fun b' hb' => by
        rcases List.mem_cons.1 hb' with rfl | hb'
        · exact h2 _ hs
        · exact h3 _ hb', h4⟩
    · rename_i hs
      have hs : b ∉ seen := by simpa using hs
      obtain ⟨cs, hb, h⟩ := bind_some h
      obtain ⟨h1, h2, h3, h4⟩ := reach_spec h (by
        rw [List.nodup_append]
        exact ⟨hnd, by simp, fun a ha c hc => by simp at hc; subst hc; exact fun e => hs (e ▸ ha)⟩) (fun b' hb' => by
        rcases List.mem_append.1 hb' with hb' | hb'
        · obtain ⟨cs', h1, h2⟩ := hc b' hb'
          refine ⟨cs', h1, fun m hm => ?_⟩
          rcases h2 m hm with h3 | h3
          · exact .inl (List.mem_append.2 (.inl h3))
          · rcases List.mem_cons.1 h3 with rfl | h3
            · exact .inl (by simp)
            · exact .inr (List.mem_append.2 (.inl h3))
        · simp at hb'; subst hb'
          exact ⟨cs, hb, fun m hm => .inr (List.mem_append.2 (.inr hm))⟩)
      exact ⟨h1, fun b' hb' => h2 b' (by simp [hb']), fun b' hb' => by
        rcases List.mem_cons.1 hb' with rfl | hb'
        · exact h2 _ (by simp)
        · exact h3 _ (by simp [hb']), h4⟩

theorem boxesAt_spec {s : St} : ∀ {ns : List BName} {H : Heap}, boxesAt s ns = some H → H.length = ns.length ∧ ∀ (i : Nat) (b : BName), ns[i]? = some b → ∃ cs, s.box b = some cs ∧ H[i]? = some cs
  | [], H, h => by simp only [boxesAt] at h; injection h with h; subst h; exact ⟨rfl, by simp⟩
  | b :: r, H, h => by
    simp only [boxesAt] at h
    obtain ⟨cs, h1, h⟩ := bind_some h
    obtain ⟨H', h2, rfl⟩ := map_some h
    obtain ⟨h3, h4⟩ := boxesAt_spec h2
    refine ⟨by simp [h3], fun i b' hb => ?_⟩
    cases i with
    | zero => simp at hb; subst hb; exact ⟨cs, h1, by simp⟩
    | succ i => simpa using h4 i b' (by simpa using hb)

theorem setBoxes_spec : ∀ {ns : List BName} {H : Heap} {s s' : St}, setBoxes s ns H = some s' → ns.Nodup → (∀ b ∈ ns, ∃ cs, s.box b = some cs) →
    H.length = ns.length ∧ s'.tm = s.tm ∧ (∀ b, b ∉ ns → s'.box b = s.box b) ∧ ∀ (i : Nat) (b : BName), ns[i]? = some b → s'.box b = H[i]?
  | [], [], s, s', h, _, _ => by simp only [setBoxes] at h; injection h with h; subst h; exact ⟨rfl, rfl, fun _ _ => rfl, by simp⟩
  | [], _ :: _, _, _, h, _, _ => by simp [setBoxes] at h
  | _ :: _, [], _, _, h, _, _ => by simp [setBoxes] at h
  | b :: r, cs :: q, s, s', h, hnd, hb => by
    simp only [setBoxes] at h
    obtain ⟨hn, hnd⟩ := List.nodup_cons.1 hnd
    obtain ⟨cs0, h0⟩ := hb b (by simp)
    obtain ⟨h1, h2, h3, h4⟩ := setBoxes_spec h hnd (fun b' hb' => by
      rw [box_setBox h0]
      split
      · exact ⟨_, rfl⟩
      · exact hb b' (by simp [hb']))
    refine ⟨by simp [h1], h2.trans tm_setBox, fun b' hb' => ?_, fun i b' hi => ?_⟩
    · rw [h3 b' (by simp at hb'; exact hb'.2), box_setBox h0]
      have : b' ≠ b := fun e => hb' (by simp [e])
      simp only [this, if_false]
    · cases i with
      | zero => simp at hi; subst hi; rw [h3 _ hn, box_setBox h0]; simp
      | succ i => simpa using h4 i b' (by simpa using hi)
end Go.Av
namespace Go.Av

def muC (ns : List BName) (μ : BMap) : BMap
  | .par i => (ns[i]?).bind μ
  | .loc _ => none
def stampAt (s : St) (p : Place) (γ : GMap) : Option Value :=
  match s.at p with
  | some (.own _ m _) => γ p m
  | _ => none
def gaC (s : St) (ns : List BName) (γ : GMap) : GMap := fun p m =>
  if m = 0 then match p with
    | .cell (.par i) off => (ns[i]?).bind fun b => stampAt s (.cell b off) γ
    | _ => none
  else none
def hpC (ns : List BName) (H : Heap) : Heap := H.map (·.map fun c => ren1 (toPar ns) (stamp1 0 c))
/-- the blocks that the callee may write -/
def tCp (s : St) (ns : List BName) (μ : BMap) (γ : GMap) (g : Nat) : Prop :=
  (∃ b ∈ ns, μ b = some g) ∨ ∃ b ∈ ns, ∃ off T m es x, s.at (.cell b off) = some (.own T m es) ∧ γ (.cell b off) m = some x ∧ ownBlock x = some g
def tC (T0 : Tch) (s : St) (ns : List BName) (μ : BMap) (γ : GMap) : Tch := ⟨tCp s ns μ γ, muC ns μ, T0.S, T0.F⟩

theorem ren_own {ρ : BName → BName} {n : Nat} {c : AVal} {T m es} (h : ren1 ρ (stamp1 n c) = .own T m es) : m = n ∧ ∃ m', c = .own T m' es := by
  cases c <;> simp only [stamp1, strip1, ren1] at h <;> first | (cases h; done) | (injection h with h1 h2 h3; subst h1 h2 h3; exact ⟨rfl, _, rfl⟩)

section
variable {P : Program} {T0 : Tch} {Q : Nat → Prop} {s : St} {a a0 : Act} {w w' : World} {V V' : Vis} {μ μ' : BMap} {γ γ' : GMap} {ns : List BName} {H : Heap}

theorem boxSt_own {p : Place} {T m es} (hH : boxesAt s ns = some H) (h : (boxSt (hpC ns H)).at p = some (.own T m es)) :
    ∃ i b off m', p = .cell (.par i) off ∧ ns[i]? = some b ∧ s.at (.cell b off) = some (.own T m' es) ∧ m = 0 := by
  cases p with
  | tmp k => simp [boxSt, St.at, alGet] at h
  | cell b' off =>
    cases b' with
    | loc k => simp [boxSt, St.at, St.box, alGet] at h
    | par i =>
      simp only [boxSt, St.at, St.box, hpC, List.getElem?_map] at h
      obtain ⟨cs, h1, h2⟩ := bind_some h
      obtain ⟨cs0, h3, rfl⟩ := map_some h1
      rw [List.getElem?_map] at h2
      obtain ⟨c, h4, h5⟩ := map_some h2
      obtain ⟨rfl, m', rfl⟩ := ren_own h5
      obtain ⟨hl, hb⟩ := boxesAt_spec hH
      have hi : i < ns.length := by have := (List.getElem?_eq_some_iff.1 h3).1; omega
      obtain ⟨cs1, h6, h7⟩ := hb i _ (List.getElem?_eq_getElem hi)
      rw [h3] at h7; injection h7 with h7; subst h7
      exact ⟨i, ns[i], off, m', rfl, List.getElem?_eq_getElem hi, by simp [St.at, h6, h4], rfl⟩

theorem gaC_own {i : Nat} {b : BName} {off : Nat} {T m' es} (hi : ns[i]? = some b) (h : s.at (.cell b off) = some (.own T m' es)) : gaC s ns γ (.cell (.par i) off) 0 = γ (.cell b off) m' := by
  simp [gaC, hi, stampAt, h]

theorem toPar_get (hnd : ns.Nodup) {b : BName} (hb : b ∈ ns) : muC ns μ (toPar ns b) = μ b := by
  simp only [toPar, muC]
  rw [List.getElem?_eq_getElem (List.idxOf_lt_length_iff.2 hb)]
  simp

theorem nodup_idx {i j : Nat} {b : BName} (hnd : ns.Nodup) (h1 : ns[i]? = some b) (h2 : ns[j]? = some b) : i = j := by
  obtain ⟨l1, e1⟩ := List.getElem?_eq_some_iff.1 h1
  obtain ⟨l2, e2⟩ := List.getElem?_eq_some_iff.1 h2
  exact (List.getElem_inj hnd).1 (e1.trans e2.symm)

theorem call_pre (h : SRel P Q s a w V μ γ) (hnd : ns.Nodup) (hcl : ∀ b ∈ ns, ∃ cs, s.box b = some cs ∧ ∀ m ∈ cs.flatMap names1, m ∈ ns) (hH : boxesAt s ns = some H) :
    SRel P old (boxSt (hpC ns H)) a0 w V (muC ns μ) (gaC s ns γ) := by
  obtain ⟨hl, hb⟩ := boxesAt_spec hH
  refine { tm := ?_, bx := ?_, dom := ?_, inj := ?_, visb := ?_, vis := h.vis, ow := ?_, ow2 := ?_, gq := ?_ }
  · intro k v hv; simp [boxSt, alGet] at hv
  · intro b' cs hcs
    cases b' with
    | loc k => simp [boxSt, St.box, alGet] at hcs
    | par i =>
      simp only [boxSt, St.box, hpC, List.getElem?_map] at hcs
      obtain ⟨cs0, h3, rfl⟩ := map_some hcs
      have hi : i < ns.length := by have := (List.getElem?_eq_some_iff.1 h3).1; omega
      have hib := List.getElem?_eq_getElem hi
      obtain ⟨cs1, h6, h7⟩ := hb i _ hib
      rw [h3] at h7; injection h7 with h7; subst h7
      obtain ⟨g, T, cur, k1, k2, k3, k4⟩ := h.bx _ _ h6
      refine ⟨g, T, cur, by simp only [muC, hib, Option.bind_some]; exact k1, k2, by simpa using k3, fun j c hc => ?_⟩
      rw [List.getElem?_map] at hc
      obtain ⟨c0, h8, rfl⟩ := map_some hc
      obtain ⟨x, k5, k6⟩ := k4 j c0 h8
      refine ⟨x, k5, ?_⟩
      have hnm : ∀ m ∈ names1 c0, m ∈ ns := by
        obtain ⟨cs2, h9, h10⟩ := hcl _ (List.getElem_mem hi)
        rw [h6] at h9; injection h9 with h9; subst h9
        exact fun m hm => h10 m (List.mem_flatMap.2 ⟨c0, List.mem_of_getElem? h8, hm⟩)
      have hplain : (∀ T n es, c0 ≠ .own T n es) → Rep1 w V μ c0 x → RepB P w V (muC ns μ) (gaC s ns γ) (.cell (.par i) j) (ren1 (toPar ns) (strip1 c0)) x := by
        intro hno hr
        have hr' : Rep1 w V (muC ns μ) (ren1 (toPar ns) (strip1 c0)) x := hr.strip1.ren fun m hm g hg => by
          rw [toPar_get hnd (hnm m (by cases c0 <;> first | exact hm | exact absurd rfl (hno _ _ _) | (simp [strip1, names1] at hm)))]; exact hg
        cases c0 <;> first | exact hr' | exact absurd rfl (hno _ _ _) | (exfalso; simp [Rep1, RepP] at hr; done)
      cases c0 with
      | own T' m es =>
        refine ⟨k6.1, ?_⟩
        rw [gaC_own hib (T := T') (m' := m) (es := es) (by simp [St.at, h6, h8])]
        exact k6.2
      | dead T' m es => exact k6.1
      | _ => exact hplain (by simp) k6
  · intro b' g hg
    cases b' with
    | loc k => cases hg
    | par i =>
      simp only [muC] at hg
      obtain ⟨b, h1, h2⟩ := bind_some hg
      obtain ⟨cs, h3, h4⟩ := hb i b h1
      exact ⟨_, by simp only [boxSt, St.box, hpC, List.getElem?_map, h4, Option.map_some]; rfl⟩
  · intro b1 b2 g h1 h2
    cases b1 with
    | loc k => cases h1
    | par i =>
      cases b2 with
      | loc k => cases h2
      | par j =>
        obtain ⟨c1, k1, k2⟩ := bind_some h1
        obtain ⟨c2, k3, k4⟩ := bind_some h2
        have := h.inj c1 c2 g k2 k4
        subst this
        rw [nodup_idx hnd k1 k3]
  · intro b' g hg
    cases b' with
    | loc k => cases hg
    | par i =>
      obtain ⟨c1, k1, k2⟩ := bind_some hg
      exact h.visb c1 g k2
  · intro p T m es x g hp hx hg
    obtain ⟨i, b, off, m', rfl, hi, hs, rfl⟩ := boxSt_own hH hp
    rw [gaC_own hi hs] at hx
    obtain ⟨h1, h2⟩ := h.ow _ _ _ _ _ _ hs hx hg
    refine ⟨fun b' hb' => ?_, h2⟩
    cases b' with
    | loc k => cases hb'
    | par j =>
      obtain ⟨c1, k1, k2⟩ := bind_some hb'
      exact h1 c1 k2
  · intro p p' T m es T' m' es' x x' g hp hp' hx hx' hg hg'
    obtain ⟨i, b, off, m1, rfl, hi, hs, rfl⟩ := boxSt_own hH hp
    obtain ⟨i', b', off', m2, rfl, hi', hs', rfl⟩ := boxSt_own hH hp'
    rw [gaC_own hi hs] at hx
    rw [gaC_own hi' hs'] at hx'
    have := h.ow2 _ _ _ _ _ _ _ _ _ _ _ hs hs' hx hx' hg hg'
    injection this with e1 e2
    subst e1 e2
    rw [nodup_idx hnd hi hi']
  · intro p m hm
    unfold gaC at hm
    split at hm
    · rename_i h0; show m < 1; omega
    · exact absurd rfl hm

theorem call_loc (hH : boxesAt s ns = some H) : Loc w (tC T0 s ns μ γ) (boxSt (hpC ns H)) (muC ns μ) (gaC s ns γ) := by
  refine ⟨fun b' g hg => ?_, fun _ => rfl, fun p T m es x g hp hx hg => ?_⟩
  · cases b' with
    | loc k => cases hg
    | par i =>
      obtain ⟨c1, k1, k2⟩ := bind_some hg
      exact .inl (.inl ⟨c1, List.mem_of_getElem? k1, k2⟩)
  · obtain ⟨i, b, off, m', rfl, hi, hs, rfl⟩ := boxSt_own hH hp
    rw [gaC_own hi hs] at hx
    exact .inl (.inr ⟨b, List.mem_of_getElem? hi, off, T, m', es, x, hs, hx, hg⟩)

theorem tC_loc {w0 : World} (hl : Loc w0 T0 s μ γ) (g : Nat) (h : tC T0 s ns μ γ g) : T0 g ∨ w0.heap.size ≤ g := by
  rcases h with ⟨b, _, h1⟩ | ⟨b, _, off, T, m, es, x, h1, h2, h3⟩
  · exact hl.box b g h1
  · exact hl.own _ _ _ _ _ _ h1 h2 h3

theorem tC_sealed {w0 : World} {V0 : Vis} (hf : Fr w0 V0 T0 w V) (hl : Loc w0 T0 s μ γ) : Sealed (tC T0 s ns μ γ) w where
  lt g hg := Nat.lt_of_lt_of_le (hf.sl.lt g hg) hf.size
  no g hg hc := by
    rcases tC_loc hl g hc with h | h
    · exact hf.sl.no g hg h
    · have := hf.sl.lt g hg; omega
  fact := hf.sl.cong _ _ (fun g hg => hf.keep g (hf.sl.lt g hg) (hf.sl.no g hg)) hf.sl.fact
  cong := hf.sl.cong

/-- a block that an owner elsewhere has is none of the callee's -/
theorem tC_own (h : SRel P Q s a w V μ γ) {p : Place} {T n es x g} (hp : s.at p = some (.own T n es)) (hx : γ p n = some x) (hg : ownBlock x = some g) (hne : ∀ b off, p = .cell b off → b ∉ ns) : ¬ tC T0 s ns μ γ g := by
  rintro (⟨b, _, h1⟩ | ⟨b, hb, off, T', m, es', x', h1, h2, h3⟩)
  · exact (h.ow p T n es x g hp hx hg).1 b h1
  · exact hne b off (h.ow2 _ _ _ _ _ _ _ _ _ _ _ hp h1 hx h2 hg h3) hb
theorem tC_box (h : SRel P Q s a w V μ γ) {b : BName} {g : Nat} (hb : b ∉ ns) (hg : μ b = some g) : ¬ tC T0 s ns μ γ g := by
  rintro (⟨b', hb', h1⟩ | ⟨b', hb', off, T', m, es', x', h1, h2, h3⟩)
  · exact hb (h.inj b b' g hg h1 ▸ hb')
  · exact (h.ow _ _ _ _ _ _ h1 h2 h3).1 b hg
end
end Go.Av
namespace Go.Av

def gaR (ns : List BName) (r : AVal × Heap) (n : Nat) (γ γ' : GMap) : GMap := fun p m =>
  if m = n then match p with
    | .cell b off => if b ∈ ns then stampAt (retSt r.1 r.2) (.cell (.par (ns.idxOf b)) off) γ' else none
    | _ => none
  else γ p m
def hpR (ns : List BName) (n : Nat) (H : Heap) : Heap := H.map (·.map fun c => ren1 (ofPar ns) (stamp1 n c))

theorem idxOf_get {ns : List BName} (hnd : ns.Nodup) {i : Nat} {b : BName} (h : ns[i]? = some b) : ns.idxOf b = i := by
  have hb := List.mem_of_getElem? h
  refine nodup_idx hnd (b := b) ?_ h
  rw [List.getElem?_eq_getElem (List.idxOf_lt_length_iff.2 hb)]; simp

section
variable {P : Program} {Q Q' : Nat → Prop} {s s1 : St} {a a' : Act} {w w' w0 : World} {V V' V0 : Vis} {T0 : Tch} {μ μ' : BMap} {γ γ' : GMap} {ns : List BName} {r : AVal × Heap} {n : Nat}

theorem ret_cell {i off : Nat} {c : AVal} : (retSt r.1 r.2).at (.cell (.par i) off) = some c ↔ ∃ cs, r.2[i]? = some cs ∧ cs[off]? = some c := by
  simp only [retSt, St.at, St.box]
  constructor
  · intro h
    obtain ⟨cs, h1, h2⟩ := bind_some h
    exact ⟨cs, h1, h2⟩
  · rintro ⟨cs, h1, h2⟩; simp [h1, h2]

/-- the owners after a call -/
theorem back_cases (hnd : ns.Nodup) (hbox : ∀ b ∈ ns, ∃ cs, s.box b = some cs) (hs : setBoxes s ns (hpR ns n r.2) = some s1) {p : Place} {T m es} (h : s1.at p = some (.own T m es)) :
    (∃ i b off m', p = .cell b off ∧ ns[i]? = some b ∧ m = n ∧ (retSt r.1 r.2).at (.cell (.par i) off) = some (.own T m' es)) ∨
      (s.at p = some (.own T m es) ∧ ∀ b off, p = .cell b off → b ∉ ns) := by
  obtain ⟨k1, k2, k3, k4⟩ := setBoxes_spec hs hnd hbox
  cases p with
  | tmp k => exact .inr ⟨by simpa [St.at, k2] using h, fun _ _ e => by cases e⟩
  | cell b off =>
    by_cases hb : b ∈ ns
    · have hlt := List.idxOf_lt_length_iff.2 hb
      have hib : ns[ns.idxOf b]? = some b := by rw [List.getElem?_eq_getElem hlt]; simp
      simp only [St.at, k4 _ b hib] at h
      obtain ⟨cs, h1, h2⟩ := bind_some h
      simp only [hpR, List.getElem?_map] at h1
      obtain ⟨cs0, h3, rfl⟩ := map_some h1
      rw [List.getElem?_map] at h2
      obtain ⟨c, h4, h5⟩ := map_some h2
      obtain ⟨rfl, m', rfl⟩ := ren_own h5
      exact .inl ⟨_, b, off, m', rfl, hib, rfl, ret_cell.2 ⟨cs0, h3, h4⟩⟩
    · refine .inr ⟨by simpa [St.at, k3 b hb] using h, fun b' off' e => ?_⟩
      injection e with e1 e2; subst e1; exact hb

theorem gaR_own (hnd : ns.Nodup) {i : Nat} {b : BName} {off : Nat} {T m' es} (hi : ns[i]? = some b) (h : (retSt r.1 r.2).at (.cell (.par i) off) = some (.own T m' es)) :
    gaR ns r n γ γ' (.cell b off) n = γ' (.cell (.par i) off) m' := by
  have hb := List.mem_of_getElem? hi
  simp [gaR, hb, idxOf_get hnd hi, stampAt, h]

theorem gaR_le (hfr : ∀ p, γ p n = none) : GLe γ (gaR ns r n γ γ') := by
  intro p m x hx
  have : m ≠ n := fun e => by rw [e, hfr p] at hx; cases hx
  simp only [gaR, this, if_false]; exact hx

theorem back_own (h : SRel P Q s a w V μ γ) (hk : SRel P any (retSt r.1 r.2) a' w' V' (muC ns μ) γ') (hlc : Loc w (tC T0 s ns μ γ) (retSt r.1 r.2) (muC ns μ) γ') {q : Place} {T m es x g}
    (hq : (retSt r.1 r.2).at q = some (.own T m es)) (hx : γ' q m = some x) (hg : ownBlock x = some g) :
    (∀ b, μ b ≠ some g) ∧ (∀ o, V' g o → o < es.length * P.cellsOf T) ∧ (tC T0 s ns μ γ g ∨ w.heap.size ≤ g) := by
  obtain ⟨h1, h2⟩ := hk.ow q T m es x g hq hx hg
  have h3 := hlc.own q T m es x g hq hx hg
  refine ⟨fun b hb => ?_, h2, h3⟩
  by_cases hbn : b ∈ ns
  · have hlt := List.idxOf_lt_length_iff.2 hbn
    have hib : ns[ns.idxOf b]? = some b := by rw [List.getElem?_eq_getElem hlt]; simp
    exact h1 (.par (ns.idxOf b)) (by simp only [muC, hib, Option.bind_some]; exact hb)
  · rcases h3 with h3 | h3
    · exact tC_box h hbn hb h3
    · have := box_lt (E := ⟨P, fun _ => [], fun _ _ => none, fun _ => false, fun _ _ => none, fun _ _ _ => false, fun _ => [], fun _ => none⟩) h hb; omega

theorem call_boxes (h : SRel P Q s a w V μ γ) (hnd : ns.Nodup) (hbox : ∀ b ∈ ns, ∃ cs, s.box b = some cs) (hfr : ∀ p, γ p n = none) (hQ : QLe Q Q') (hn' : Q' n)
    (hk : SRel P any (retSt r.1 r.2) a' w' V' (muC ns μ) γ') (hlc : Loc w (tC T0 s ns μ γ) (retSt r.1 r.2) (muC ns μ) γ') (hfc : Fr w V (tC T0 s ns μ γ) w' V')
    (hs : setBoxes s ns (hpR ns n r.2) = some s1) : SRel P Q' s1 a w' V' μ (gaR ns r n γ γ') := by
  obtain ⟨k1, k2, k3, k4⟩ := setBoxes_spec hs hnd hbox
  have hle := gaR_le (ns := ns) (r := r) (γ' := γ') hfr
  have blt : ∀ {b g}, μ b = some g → g < w.heap.size := fun hb => box_lt (E := ⟨P, fun _ => [], fun _ _ => none, fun _ => false, fun _ _ => none, fun _ _ _ => false, fun _ => [], fun _ => none⟩) h hb
  have olt : ∀ {p T n es x g}, s.at p = some (.own T n es) → γ p n = some x → ownBlock x = some g → g < w.heap.size := fun hp hx hg => own_lt (E := ⟨P, fun _ => [], fun _ _ => none, fun _ => false, fun _ _ => none, fun _ _ _ => false, fun _ => [], fun _ => none⟩) h hp hx hg
  have hidx : ∀ b ∈ ns, ns[ns.idxOf b]? = some b := fun b hb => by rw [List.getElem?_eq_getElem (List.idxOf_lt_length_iff.2 hb)]; simp
  have two : ∀ {p T m es x}, s.at p = some (.own T m es) → gaR ns r n γ γ' p m = some x → γ p m = some x := by
    intro p T m es x hp hx
    obtain ⟨y, hy, _⟩ := h.conc_own hp
    have := hle _ _ _ hy
    rw [this] at hx; injection hx with hx; subst hx; exact hy
  refine { tm := ?_, bx := ?_, dom := ?_, inj := h.inj, visb := ?_, vis := hk.vis, ow := ?_, ow2 := ?_, gq := ?_ }
  · intro k v hv
    rw [k2] at hv
    obtain ⟨x, h1, h2⟩ := h.tm k v hv
    refine ⟨x, h1, h2.keep hfc.vkeep (BLe.refl _) hle fun T m es g e hg => ?_⟩
    subst e
    have hat : s.at (.tmp k) = some (.own T m es) := hv
    exact hfc.keep g (olt hat h2.2 hg) (tC_own h hat h2.2 hg fun _ _ e => by cases e)
  · intro b cs hcs
    by_cases hb : b ∈ ns
    · have hib := hidx b hb
      rw [k4 _ b hib] at hcs
      simp only [hpR, List.getElem?_map] at hcs
      obtain ⟨cs0, h3, rfl⟩ := map_some hcs
      obtain ⟨g, T, cur, m1, m2, m3, m4⟩ := hk.bx (.par (ns.idxOf b)) cs0 h3
      simp only [muC, hib, Option.bind_some] at m1
      refine ⟨g, T, cur, m1, m2, by simpa using m3, fun j c hc => ?_⟩
      rw [List.getElem?_map] at hc
      obtain ⟨c0, h8, rfl⟩ := map_some hc
      obtain ⟨x, m5, m6⟩ := m4 j c0 h8
      refine ⟨x, m5, ?_⟩
      have hplain : (∀ T n es, c0 ≠ .own T n es) → Rep1 w' V' (muC ns μ) c0 x → RepB P w' V' μ (gaR ns r n γ γ') (.cell b j) (ren1 (ofPar ns) (strip1 c0)) x := by
        intro hno hr
        have hr' : Rep1 w' V' μ (ren1 (ofPar ns) (strip1 c0)) x := hr.strip1.ren fun m hm g hg => by
          cases m with
          | loc k => cases hg
          | par i =>
            simp only [muC] at hg
            obtain ⟨c1, n1, n2⟩ := bind_some hg
            simp only [ofPar, List.getD_eq_getElem?_getD, n1, Option.getD_some]; exact n2
        cases c0 <;> first | exact hr' | exact absurd rfl (hno _ _ _) | (exfalso; simp [Rep1, RepP] at hr; done)
      cases c0 with
      | own T' m es =>
        refine ⟨m6.1, ?_⟩
        rw [gaR_own hnd hib (T := T') (m' := m) (es := es) (ret_cell.2 ⟨cs0, h3, h8⟩)]
        exact m6.2
      | dead T' m es => exact m6.1
      | _ => exact hplain (by simp) m6
    · rw [k3 b hb] at hcs
      obtain ⟨g, T, cur, m1, m2, m3, m4⟩ := h.bx b cs hcs
      refine ⟨g, T, cur, m1, (hfc.keep g (blt m1) (tC_box h hb m1)).trans m2, m3, fun j c hc => ?_⟩
      obtain ⟨x, m5, m6⟩ := m4 j c hc
      refine ⟨x, m5, m6.keep hfc.vkeep (BLe.refl _) hle fun T m es g e hg => ?_⟩
      subst e
      have hat : s.at (.cell b j) = some (.own T m es) := by simp [St.at, hcs, hc]
      exact hfc.keep g (olt hat m6.2 hg) (tC_own h hat m6.2 hg fun b' _ e => by injection e with e1 e2; subst e1; exact hb)
  · intro b g hg
    obtain ⟨cs, h1⟩ := h.dom b g hg
    by_cases hb : b ∈ ns
    · rw [k4 _ b (hidx b hb)]
      have : ns.idxOf b < (hpR ns n r.2).length := by rw [k1]; exact List.idxOf_lt_length_iff.2 hb
      exact ⟨_, List.getElem?_eq_getElem this⟩
    · rw [k3 b hb]; exact ⟨cs, h1⟩
  · intro b g hg o hv
    by_cases hb : b ∈ ns
    · exact hk.visb (.par (ns.idxOf b)) g (by simp only [muC, hidx b hb, Option.bind_some]; exact hg) o hv
    · rcases hfc.vnew g o hv with h1 | h1 | h1
      · exact h.visb b g hg o h1
      · have := blt hg; omega
      · exact tC_box h hb hg h1
  · intro p T m es x g hp hx hg
    rcases back_cases hnd hbox hs hp with ⟨i, b, off, m', rfl, hi, rfl, hat⟩ | ⟨hat, hne⟩
    · rw [gaR_own hnd hi hat] at hx
      obtain ⟨h1, h2, _⟩ := back_own h hk hlc hat hx hg
      exact ⟨h1, h2⟩
    · have hx := two hat hx
      obtain ⟨h1, h2⟩ := h.ow p T m es x g hat hx hg
      refine ⟨h1, fun o hv => ?_⟩
      rcases hfc.vnew g o hv with h3 | h3 | h3
      · exact h2 o h3
      · have := olt hat hx hg; omega
      · exact absurd h3 (tC_own h hat hx hg hne)
  · intro p p' T m es T' m' es' x x' g hp hp' hx hx' hg hg'
    rcases back_cases hnd hbox hs hp with ⟨i, b, off, m1, rfl, hi, rfl, hat⟩ | ⟨hat, hne⟩
    · rw [gaR_own hnd hi hat] at hx
      rcases back_cases hnd hbox hs hp' with ⟨i', b', off', m2, rfl, hi', rfl, hat'⟩ | ⟨hat', hne'⟩
      · rw [gaR_own hnd hi' hat'] at hx'
        have := hk.ow2 _ _ _ _ _ _ _ _ _ _ _ hat hat' hx hx' hg hg'
        injection this with e1 e2
        injection e1 with e1
        subst e1 e2
        rw [hi] at hi'; injection hi' with hi'; rw [hi']
      · exfalso
        have hx' := two hat' hx'
        rcases (back_own h hk hlc hat hx hg).2.2 with h3 | h3
        · exact tC_own h hat' hx' hg' hne' h3
        · have := olt hat' hx' hg'; omega
    · have hx2 := two hat hx
      rcases back_cases hnd hbox hs hp' with ⟨i', b', off', m2, rfl, hi', rfl, hat'⟩ | ⟨hat', hne'⟩
      · exfalso
        rw [gaR_own hnd hi' hat'] at hx'
        rcases (back_own h hk hlc hat' hx' hg').2.2 with h3 | h3
        · exact tC_own h hat hx2 hg hne h3
        · have := olt hat hx2 hg; omega
      · exact h.ow2 p p' T m es T' m' es' x x' g hat hat' hx2 (two hat' hx') hg hg'
  · intro p m hm
    by_cases e : m = n
    · rw [e]; exact hn'
    · simp only [gaR, e, if_false] at hm
      exact hQ m (h.gq p m hm)
end
end Go.Av
namespace Go.Av

section
variable {E : Env} {w0 : World} {V0 : Vis} {T0 : Tch} {Q Q' : Nat → Prop} {s s1 : St} {a a' : Act} {w w' : World} {V V' : Vis} {μ μ' : BMap} {γ γ' : GMap}

theorem rep0_plain {c : AVal} {x : Value} (h : Rep0 w V μ c x) : plainV c = true ∧ Rep3 w V μ c x := by
  cases c <;> first | exact ⟨rfl, h⟩ | (exfalso; simp [Rep0, RepP] at h; done)
theorem all_plain0 : ∀ {cs : List AVal} {xs : List Value}, All2 (Rep0 w V μ) cs xs → (∀ c ∈ cs, plainV c = true) ∧ All2 (Rep3 w V μ) cs xs
  | [], [], _ => ⟨by simp, trivial⟩
  | c :: cs, x :: xs, h => by
    obtain ⟨h1, h2⟩ := rep0_plain h.1
    obtain ⟨h3, h4⟩ := all_plain0 h.2
    refine ⟨fun b hb => ?_, h2, h4⟩
    rcases List.mem_cons.1 hb with rfl | hb
    · exact h1
    · exact h3 b hb
  | [], _ :: _, h => h.elim
  | _ :: _, [], h => h.elim
theorem rdAll_plain : ∀ {xs : List Operand} {vs : List AVal}, rdAll s xs = some vs → ∀ v ∈ vs, plainV v = true
  | [], vs, h => by simp only [rdAll] at h; injection h with h; subst h; simp
  | x :: xs, vs, h => by
    simp only [rdAll] at h
    obtain ⟨v, _, h⟩ := bind_some h
    obtain ⟨vs', h2, rfl⟩ := map_some h
    intro u hu
    rcases List.mem_cons.1 hu with rfl | hu
    · exact plain_strip v
    · exact rdAll_plain h2 u hu

/-- what a callee hands back is put into a slot -/
theorem call_back (hd : a.defers = []) (h : SRel E.P Q s a w V μ γ) (hf : Fr w0 V0 T0 w V) (hl : Loc w0 T0 s μ γ) (hQ : QLe Q Q') {n : Nat} (hn : ¬ Q n) (hn' : Q' n) {dst : Option Nat} (hdst : ∀ k, dst = some k → k < a.tmps.size)
    {ns : List BName} (hnd : ns.Nodup) (hbox : ∀ b ∈ ns, ∃ cs, s.box b = some cs) {r : AVal × Heap} {v : Value} (hb : Back E.P w V (tC T0 s ns μ γ) (muC ns μ) r v w') (hs : setBoxes s ns (hpR ns n r.2) = some s1) :
    Sim E.P w0 V0 T0 Q' (s1.putD dst (recvC n (ren (ofPar ns) r.1))) (a.put dst v) w' := by
  obtain ⟨V', γ', a', ha, hk, hfc, hlc, hres⟩ := hb
  have hfr : ∀ p, γ p n = none := fresh_of h hn
  have h1 := call_boxes h hnd hbox hfr hQ hn' hk hlc hfc hs
  have hf1 : Fr w0 V0 T0 w' V' := hf.trans hfc (tC_loc hl)
  have two : ∀ {p T m es x}, s.at p = some (.own T m es) → gaR ns r n γ γ' p m = some x → γ p m = some x := by
    intro p T m es x hp hx
    obtain ⟨y, hy, _⟩ := h.conc_own hp
    have := gaR_le (ns := ns) (r := r) (γ' := γ') hfr _ _ _ hy
    rw [this] at hx; injection hx with hx; subst hx; exact hy
  have old_lt : ∀ g, (tC T0 s ns μ γ g ∨ w.heap.size ≤ g) → T0 g ∨ w0.heap.size ≤ g := fun g hg => by
    rcases hg with hg | hg
    · exact tC_loc hl g hg
    · exact .inr (Nat.le_trans hf.size hg)
  have hl1 : Loc w0 T0 s1 μ (gaR ns r n γ γ') := by
    refine ⟨hl.box, hl.par, fun p T m es x g hp hx hg => ?_⟩
    rcases back_cases hnd hbox hs hp with ⟨i, b, off, m', rfl, hi, rfl, hat⟩ | ⟨hat, hne⟩
    · rw [gaR_own hnd hi hat] at hx
      exact old_lt g (back_own h hk hlc hat hx hg).2.2
    · exact hl.own p T m es x g hat (two hat hx) hg
  obtain ⟨x, hx0, hr⟩ := hk.tm 0 r.1 rfl
  have : x = v := by rw [ha] at hx0; simpa using hx0.symm
  subst this
  cases dst with
  | none => exact ⟨hd, V', μ, _, h1, hf1, hl1⟩
  | some k =>
    rcases hres with hp | ⟨T, m, es, he⟩
    · have e1 : recvC n (ren (ofPar ns) r.1) = ren (ofPar ns) r.1 := by
        revert hp; generalize r.1 = u; intro hp; cases u <;> first | rfl | cases hp
      rw [e1]
      have hr3 : Rep3 w' V' (muC ns μ) r.1 x := by
        revert hr hp; generalize r.1 = u; intro hr hp; cases u <;> first | exact hr | cases hp
      refine sim_put hd h1 hf1 hl1 (fun _ h => h) hdst (by rw [ren_plain]; exact hp) (hr3.ren fun m hm g hg => ?_)
      cases m with
      | loc k => cases hg
      | par i =>
        simp only [muC] at hg
        obtain ⟨c1, n1, n2⟩ := bind_some hg
        simp only [ofPar, List.getD_eq_getElem?_getD, n1, Option.getD_some]; exact n2
    · rw [he] at hr
      have hat : (retSt r.1 r.2).at (.tmp 0) = some (.own T m es) := by rw [← he]; rfl
      rw [he]
      show Sim E.P w0 V0 T0 Q' (s1.put k (.own T n es)) (a.put (some k) x) w'
      let γ2 : GMap := fun p m => if p = .tmp k ∧ m = n then some x else gaR ns r n γ γ' p m
      have hg2 : GLe (gaR ns r n γ γ') γ2 := fun p m y hy => by
        have : ¬ (p = .tmp k ∧ m = n) := by
          rintro ⟨rfl, rfl⟩
          simp only [gaR, if_true] at hy; cases hy
        simp only [γ2, this, if_false]; exact hy
      refine ⟨hd, V', μ, γ2, ?_, hf1, ?_⟩
      · refine h1.put (hdst k rfl) hg2 (fun p m hm => ?_) ⟨hr.1, by simp [γ2]⟩ (fun T' n' es' g e hg' => ?_)
        · by_cases hm' : p = .tmp k ∧ m = n
          · rw [hm'.2]; exact hn'
          · simp only [γ2, hm', if_false] at hm; exact h1.gq p m hm
        · injection e with e1 e2 e3
          subst e1; subst e2; subst e3
          obtain ⟨o1, o2, o3⟩ := back_own h hk hlc hat hr.2 hg'
          refine ⟨o1, o2, fun p' T' n' es' x' hne hp' hx' hg3 => ?_⟩
          rcases back_cases hnd hbox hs hp' with ⟨i, b, off, m', rfl, hi, rfl, hat'⟩ | ⟨hat', hne'⟩
          · rw [gaR_own hnd hi hat'] at hx'
            have := hk.ow2 _ _ _ _ _ _ _ _ _ _ _ hat hat' hr.2 hx' hg' hg3
            cases this
          · have hx2 := two hat' hx'
            rcases o3 with o3 | o3
            · exact tC_own h hat' hx2 hg3 hne' o3
            · have := own_lt h hat' hx2 hg3; omega
      · refine ⟨hl.box, hl.par, fun p T' n' es' y g hp hy hyg => ?_⟩
        rw [at_put] at hp
        by_cases hpk : p = .tmp k
        · simp only [hpk, if_true] at hp
          injection hp with hp; injection hp with e1 e2 e3
          subst e2
          have : y = x := by simp only [γ2, hpk, and_self, if_true] at hy; injection hy with hy; exact hy.symm
          subst this
          exact old_lt g (back_own h hk hlc hat hr.2 hyg).2.2
        · simp only [hpk, if_false] at hp
          have : gaR ns r n γ γ' p n' = some y := by simpa [γ2, hpk] using hy
          exact hl1.own p T' n' es' y g hp this hyg

theorem run_enter {o : Oper} {g : Operand} {args : Array Operand} {ats : Array TypeId} (ho : o.op = .call { callee := .value g, args, argTypes := ats }) {f : FuncId} {x y : Array Value} (hg : a.eval g = .func (.func f) x y)
    {P : Program} (hf : Enters P f) : (execOp a.eval o).run P w = .ok (.enter f (x ++ args.map a.eval ++ y)) w := by
  obtain ⟨fn, c, h1, h2, h3⟩ := hf
  have h4 : ¬ fn.name = "runtime.NumGoroutine" := by simpa using h2
  simp [execOp, ho, resolve, hg, Deferred.ofValue, invoke, callFunc, h1, h4, h3]

theorem wp_enter {o : Oper} {P : Program} {f : FuncId} {xs : Array Value} (hrun : (execOp a.eval o).run P w = .ok (.enter f xs) w) {K : Act → World → Prop} {X : Exit → Act → World → Prop}
    (hc : Calls P f xs w fun e w' => ∃ v, e = .returned v ∧ K (a.put o.dst v) w') : o.wp P a w K X := by
  unfold Oper.wp; rw [hrun, Oper.upon_enter]
  refine Calls.mono hc fun e w' he => ?_
  obtain ⟨v, rfl, hK⟩ := he
  exact hK

theorem sim_call {D : FuncId → List AVal → Heap → Option (AVal × Heap)} (hD : Sound E.P T0.F D) (hd : a.defers = []) (h : SRel E.P Q s a w V μ γ) (hf : Fr w0 V0 T0 w V) (hl : Loc w0 T0 s μ γ) (hQ : QLe Q Q') {n : Nat} (hn : ¬ Q n) (hn' : Q' n)
    {o : Oper} (hdst : ∀ k, o.dst = some k → k < a.tmps.size) {g : Operand} {args : Array Operand} {ats : Array TypeId} (ho : o.op = .call { callee := .value g, args, argTypes := ats }) {s' : St}
    (hs : ((rd s g).bind fun c => (rdAll s args.toList).bind fun as => callF D s n o.dst as c) = some s') {X : Exit → Act → World → Prop} : o.wp E.P a w (Sim E.P w0 V0 T0 Q' s') X := by
  obtain ⟨c, hc, hs⟩ := bind_some hs
  obtain ⟨as, has, hs⟩ := bind_some hs
  have hrc := h.rd hc
  have hra := rdAll_rep h has
  have hpa := rdAll_plain has
  unfold callF at hs
  split at hs
  · rename_i f first cap _
    obtain ⟨x, y, hfun, hfirst, hcap⟩ := hrc
    obtain ⟨p1, r1⟩ := all_plain0 hfirst
    obtain ⟨p2, r2⟩ := all_plain0 hcap
    have hall : All2 (Rep3 w V μ) (first ++ (as ++ cap)) (x ++ args.map a.eval ++ y).toList := by
      have := r1.append (All2.append hra r2)
      simpa using this
    have hplain : ∀ v ∈ first ++ (as ++ cap), plainV v = true := by
      intro v hv
      simp only [List.mem_append] at hv
      rcases hv with hv | hv | hv
      · exact p1 v hv
      · exact hpa v hv
      · exact p2 v hv
    -- the callee, whatever boxes it is handed
    have key : ∀ (ns : List BName) (H : Heap) (r : AVal × Heap) (s1 : St), ns.Nodup → (∀ b ∈ ns, ∃ cs, s.box b = some cs ∧ ∀ m ∈ cs.flatMap names1, m ∈ ns) → (∀ v ∈ first ++ (as ++ cap), ∀ b ∈ names v, b ∈ ns) →
        boxesAt s ns = some H → D f ((first ++ (as ++ cap)).map (ren (toPar ns))) (hpC ns H) = some r → setBoxes s ns (hpR ns n r.2) = some s1 →
        o.wp E.P a w (Sim E.P w0 V0 T0 Q' (s1.putD o.dst (recvC n (ren (ofPar ns) r.1)))) X := by
      intro ns H r s1 hnd hcl hnm hH hDr hset
      obtain ⟨hen, hcalls⟩ := hD _ _ _ _ hDr (x ++ args.map a.eval ++ y) w V (tC T0 s ns μ γ) (muC ns μ) (gaC s ns γ) a
        (All2.map_mem (fun v hv z hz => hz.ren fun b hb g hg => by rw [toPar_get hnd (hnm v hv b hb)]; exact hg) hall)
        (fun v hv => by
          obtain ⟨u, hu, rfl⟩ := List.mem_map.1 hv
          rw [ren_plain]; exact hplain u hu)
        (call_pre h hnd hcl hH) (call_loc hH) rfl (tC_sealed hf hl)
      refine wp_enter (run_enter ho hfun hen) (Calls.mono hcalls fun e w' he => ?_)
      obtain ⟨v, rfl, hback⟩ := he
      exact ⟨v, rfl, call_back hd h hf hl hQ hn hn' hdst hnd (fun b hb => (hcl b hb).imp fun _ h => h.1) hback hset⟩
    simp only at hs
    split at hs
    · rename_i hno
      obtain ⟨r, hDr, hs⟩ := bind_some hs
      split at hs
      · rename_i hr2
        injection hs with hs
        have hno' : ∀ v ∈ first ++ (as ++ cap), names v = [] := fun v hv => by
          have := List.flatMap_eq_nil_iff.1 hno v hv; exact this
        have := key [] [] r s List.nodup_nil (by simp) (fun v hv b hb => by rw [hno' v hv] at hb; cases hb) rfl (by
          rw [map_id_mem fun v hv => ren_id fun b hb => by rw [hno' v hv] at hb; cases hb]
          exact hDr) (by rw [hr2]; rfl)
        have e : ren (ofPar []) r.1 = r.1 := ren_id fun b _ => by cases b <;> rfl
        rw [e, hs] at this
        exact this
      · cases hs
    · rename_i b bs hno
      obtain ⟨ns, hreach, hs⟩ := bind_some hs
      obtain ⟨H, hH, hs⟩ := bind_some hs
      obtain ⟨r, hDr, hs⟩ := bind_some hs
      obtain ⟨s1, hset, rfl⟩ := map_some hs
      obtain ⟨h1, _, h3, h4⟩ := reach_spec hreach List.nodup_nil (by simp)
      exact key ns H r s1 h1 h4 (fun v hv b' hb' => h3 b' (by rw [← hno]; exact List.mem_flatMap.2 ⟨v, hv, hb'⟩)) hH hDr hset
  · cases hs
end
end Go.Av
namespace Go.Av
/-! a new array over which a list lies -/
theorem repA_len (z : List AVal) : ∀ n, (repA n z).length = n * z.length
  | 0 => by simp [repA]
  | n + 1 => by rw [repA, List.length_append, repA_len z n, Nat.succ_mul]; omega
theorem repA_get (z : List AVal) (hz : 0 < z.length) : ∀ (n i : Nat) (c : AVal), (repA n z)[i]? = some c → z[i % z.length]? = some c
  | 0, _, _, h => by simp [repA] at h
  | n + 1, i, c, h => by
    rw [repA] at h
    by_cases hi : i < z.length
    · rw [List.getElem?_append_left hi] at h
      rw [Nat.mod_eq_of_lt hi]; exact h
    · rw [List.getElem?_append_right (by omega)] at h
      have := repA_get z hz n _ c h
      rw [Nat.mod_eq_sub_mod (by omega)]; exact this
section
variable {E : Env} {w0 : World} {V0 : Vis} {T0 : Tch} {Q Q' : Nat → Prop} {s s1 : St} {a a' : Act} {w w' : World} {V V' : Vis} {μ μ' : BMap} {γ γ' : GMap}
theorem sim_newG (hd : a.defers = []) (h : SRel E.P Q s a w V μ γ) (hf : Fr w0 V0 T0 w V) (hl : Loc w0 T0 s μ γ) (hQ : QLe Q Q') {n : Nat} (hn : ¬ Q n) (hn' : Q' n) {o : Oper} (hdst : ∀ k, o.dst = some k → k < a.tmps.size)
    {T : TypeId} {off : Nat} {cs : List AVal} {cells : Array Value} (hc : All2 (Rep1 w V μ) cs cells.toList) {s' : St} (hs : newG s n o.dst off cs = some s')
    (hrun : (execOp a.eval o).run E.P w = .ok (.value (ptrV w.heap.size off)) (w.alloc (.cells cells T))) {X : Exit → Act → World → Prop} :
    o.wp E.P a w (Sim E.P w0 V0 T0 Q' s') X := by
  refine wp_val hrun ?_
  unfold newG at hs
  split at hs
  · rename_i k hk
    rw [hk]
    split at hs
    · rename_i hnone
      injection hs with hs; subst hs
      have h1 := h.alloc (.cells cells T)
      let μ' : BMap := fun b => if b = .loc k then some w.heap.size else μ b
      let γ' : GMap := fun p m => match p with
        | .cell (.loc j) i => if j = k ∧ m = n then cells[i]? else γ p m
        | p => γ p m
      have hg : GLe γ γ' := by
        intro p m x hx
        have hne : m ≠ n := by rintro rfl; rw [fresh_of h hn] at hx; cases hx
        cases p with
        | tmp j => exact hx
        | cell b i => cases b <;> simp [γ', hne, hx]
      have hq : ∀ p m, γ' p m ≠ none → Q' m := by
        intro p m hm
        cases p with
        | tmp j => exact hQ m (h.gq _ m hm)
        | cell b i =>
          cases b with
          | par j => exact hQ m (h.gq _ m hm)
          | loc j =>
            by_cases hj : j = k ∧ m = n
            · rw [hj.2]; exact hn'
            · simp only [γ', hj, if_false] at hm; exact hQ m (h.gq _ m hm)
      have hle : BLe μ μ' := by
        intro b g hb
        have : b ≠ .loc k := by
          rintro rfl
          obtain ⟨cs', h2⟩ := h.dom _ _ hb
          simp only [St.box] at h2; rw [hnone] at h2; cases h2
        simp [μ', this, hb]
      have hγc : ∀ i x, cells.toList[i]? = some x → γ' (.cell (.loc k) i) n = some x := fun i x hx => by simpa [γ'] using hx
      have hc' : All2 (Rep1 (w.alloc (.cells cells T)) V μ) cs cells.toList := hc.imp fun _ _ h3 => h3.keep (alloc_keeps h.vis) (BLe.refl _)
      have h2 : SRel E.P Q' { s with lb := alPut s.lb k (cs.map (stamp1 n)) } a (w.alloc (.cells cells T)) V μ' γ' := by
        refine h1.addBox (T := T) (cur := cells) (g := w.heap.size) hnone rfl hg hq alloc_new (fun b hb => ?_) (fun o hv => ?_) (fun p T' m es x hp hx hgx => ?_) ?_ (fun i c hi => ?_) (fun i T' m es x hi hx => ?_)
        · have := box_lt h hb; omega
        · have := h.vis _ _ hv; omega
        · have := own_lt h hp hx hgx; omega
        · have := hc.length; simp at this ⊢; omega
        · have := stamp_cells (E := E) hc' hle hγc i c hi
          simpa using this
        · obtain ⟨rfl, m', h3⟩ := stamp_own hi
          obtain ⟨y, h4, h5⟩ := hc.get h3
          have h6 := hγc i y h4
          rw [h6] at hx; injection hx with hx; subst hx
          rw [h5.2.2]; rfl
      refine ⟨hd, V, μ', γ', ?_, hf.alloc h.vis _, ?_⟩
      · exact h2.put (hdst k hk) (GLe.refl _) h2.gq ⟨w.heap.size, by simp [μ'], rfl⟩ (fun T' m es g e => by cases e)
      · constructor
        · intro b g hb
          by_cases hbk : b = .loc k
          · simp only [μ', hbk, if_true] at hb; injection hb with hb; subst hb; exact .inr hf.size
          · simp only [μ', hbk, if_false] at hb; exact hl.box b g hb
        · intro i
          have : BName.par i ≠ .loc k := by intro e; cases e
          simp only [μ', this, if_false]; exact hl.par i
        · intro p T' m es x g hp hx hgx
          rw [at_put] at hp
          by_cases hpk : p = .tmp k
          · simp [hpk] at hp
          · simp only [hpk, if_false] at hp
            rw [at_lb] at hp
            have old : s.at p = some (.own T' m es) → T0 g ∨ w0.heap.size ≤ g := by
              intro hp
              obtain ⟨z, hz, _⟩ := h.conc_own hp
              have := hg _ _ _ hz
              rw [this] at hx; injection hx with hx; subst hx
              exact hl.own p T' m es _ g hp hz hgx
            cases p with
            | tmp j => exact old hp
            | cell b off =>
              cases b with
              | par j => exact old hp
              | loc j =>
                simp only at hp
                by_cases hj : j = k
                · subst hj
                  simp only [if_true] at hp
                  obtain ⟨rfl, m', h3⟩ := stamp_own hp
                  obtain ⟨y, h4, h5⟩ := hc.get h3
                  have h6 := hγc off y h4
                  rw [h6] at hx; injection hx with hx; subst hx
                  rw [h5.2.2] at hgx; cases hgx
                · simp only [hj, if_false] at hp
                  exact old hp
    · cases hs
  · cases hs
theorem make_rep {T : TypeId} {z : List AVal} (hz : zeroA E.P T = some z) (hpos : 0 < z.length) (m : Nat) : ∃ zv i, E.P.info? T = some i ∧ i.zero = some zv ∧ zv.cells.size = z.length ∧
    All2 (Rep1 w V μ) (repA m z) ((Array.range (m * z.length)).map (fun j => zv.cells[j % zv.cells.size]!)).toList := by
  obtain ⟨zv, i, h1, h2, h3⟩ := zeroA_rep (w := w) (V := V) (μ := μ) hz
  have hl := h3.length
  simp only [Array.length_toList] at hl
  refine ⟨zv, i, h1, h2, hl.symm, All2.of_get (by simp [repA_len]) fun j c hj => ?_⟩
  have hjl : j < m * z.length := by
    have := (List.getElem?_eq_some_iff.1 hj).1
    rwa [repA_len] at this
  obtain ⟨x, hx, hr⟩ := h3.get (repA_get z hpos m j c hj)
  refine ⟨x, ?_, hr⟩
  have hx' : zv.cells[j % zv.cells.size]? = some x := by rw [← hl]; simpa using hx
  have hb : zv.cells[j % zv.cells.size]! = x := by
    rw [getElem!_def, hx']
  rw [Array.getElem?_toList, Array.getElem?_map, Array.getElem?_range, if_pos hjl, Option.map_some, hb]
theorem sim_make (hd : a.defers = []) (h : SRel E.P Q s a w V μ γ) (hf : Fr w0 V0 T0 w V) (hl : Loc w0 T0 s μ γ) (hQ : QLe Q Q') {n : Nat} (hn : ¬ Q n) (hn' : Q' n) {o : Oper} (hdst : ∀ k, o.dst = some k → k < a.tmps.size)
    {T : TypeId} {x y : Operand} (ho : o.op = .makeSlice T x y) {s' : St} (hs : ((rd s x).bind fun u => (rd s y).bind fun v => makeF E s n o.dst T u v) = some s') {X : Exit → Act → World → Prop} :
    o.wp E.P a w (Sim E.P w0 V0 T0 Q' s') X := by
  obtain ⟨u, hu, hs⟩ := bind_some hs
  obtain ⟨v, hv, hs⟩ := bind_some hs
  unfold makeF at hs
  split at hs
  · rename_i l c
    obtain ⟨e, h1, hs⟩ := bind_some hs
    obtain ⟨z, h2, hs⟩ := bind_some hs
    split at hs
    · rename_i hcnd
      obtain ⟨hlc, c1, c2, c3, c4, c5⟩ := hcnd
      have hlc2 := hlc.symm
      clear hlc
      subst hlc2
      have ex : a.eval x = .int .i64 l := h.rd hu
      have ey : a.eval y = .int .i64 l := h.rd hv
      have hpos : 0 < z.length := by omega
      obtain ⟨zv, i, i1, i2, i3, i4⟩ := make_rep (E := E) (w := w) (V := V) (μ := μ) h2 hpos l.toNat
      have hwr : IntKind.i64.wrap l = l := IntWalk.i64_in _ (by omega)
      refine sim_newG (T := e) hd h hf hl hQ hn hn' hdst i4 hs ?_
      have hsz : E.P.cellsOf e = z.length := c4.symm
      have hbytes : i.bytes = E.P.bytesOf e := by unfold Program.bytesOf; rw [i1]; rfl
      have hbig : ¬ ((i.bytes : Int) * l > 281474976710656) := by
        have h4 : i.bytes ≤ 32768 := by rw [hbytes]; exact c3
        have h3 : (i.bytes : Int) ≤ 32768 := by omega
        have : (i.bytes : Int) * l ≤ 32768 * 1073741824 := Int.mul_le_mul h3 c2 c1 (by omega)
        omega
      have hneg : ¬ l < 0 := by omega
      have hptr : ptrV w.heap.size (bsBase + l.toNat) = .slice (some ⟨w.heap.size, 0, none⟩) l.toNat l.toNat := by rw [ptrV_ge (Nat.le_add_right _ _), Nat.add_sub_cancel_left]
      rw [hptr]
      have hne : E.P.cellsOf e ≠ 0 := by omega
      have ht := telem_some h1
      simp only [execOp, ho, ex, ey]
      by_cases hl0 : l.toNat * z.length = 0
      · have hl1 : l.toNat = 0 := by
          rcases Nat.mul_eq_zero.1 hl0 with h | h
          · exact h
          · omega
        simp [Instr.makeSlice, run_underlying' ht, asInt, asIntOf, typeInfo, i1, hwr, hbig, hneg, run_sizeOf' hne, hsz, hl1, newRow]
        have hr0 : ∀ f : Nat → Value, Array.map f (Array.range 0) = #[] := fun f => by apply Array.ext'; simp
        rw [hr0, hr0]
      · simp [Instr.makeSlice, run_underlying' ht, asInt, asIntOf, typeInfo, i1, i2, i3, hwr, hbig, hneg, run_sizeOf' hne, hsz, hl0, zeroValue, newRow]
    · cases hs
  · cases hs
end
end Go.Av
namespace Go.Av
/-! maps -/
section
variable {E : Env} {w0 : World} {V0 : Vis} {T0 : Tch} {Q Q' : Nat → Prop} {s s' : St} {a a' : Act} {w w' : World} {V V' : Vis} {μ μ' : BMap} {γ γ' : GMap}

/-- a map's value stands for what the model's has -/
def ValP (w : World) (V : Vis) (v : AVal) (x : Value) : Prop := (∃ cs y, v = .agg cs ∧ x = .agg y ∧ AllP w V cs y.toList) ∨ ((∀ cs, v ≠ .agg cs) ∧ RepP w V v x)
theorem ents_cons {k v : AVal} {es : List AVal} {m : MapEntry} {ms : List MapEntry} : EntsP w V (.tup [k, v] :: es) (m :: ms) ↔ (RepP w V k m.key ∧ ValP w V v m.val) ∧ EntsP w V es ms := by
  unfold ValP
  cases v <;> simp [EntsP]
theorem AllP.all : ∀ {cs : List AVal} {xs : List Value}, AllP w V cs xs → All2 (RepP w V) cs xs
  | [], [], _ => trivial
  | _ :: _, _ :: _, h => ⟨h.1, h.2.all⟩
  | [], _ :: _, h => by simp [AllP] at h
  | _ :: _, [], h => by simp [AllP] at h
theorem AllP.of : ∀ {cs : List AVal} {xs : List Value}, All2 (RepP w V) cs xs → AllP w V cs xs
  | [], [], _ => trivial
  | _ :: _, _ :: _, h => ⟨h.1, AllP.of h.2⟩
  | [], _ :: _, h => h.elim
  | _ :: _, [], h => h.elim
theorem RepP.r1 {v : AVal} {x : Value} (h : RepP w V v x) : Rep1 w V μ v x := by
  cases v <;> first | exact h | (simp [RepP] at h; done)
theorem RepP.r3 {v : AVal} {x : Value} (h : RepP w V v x) : Rep3 w V μ v x := by
  cases v <;> first | exact h | (simp [RepP] at h; done)
theorem RepP.plain {v : AVal} {x : Value} (h : RepP w V v x) : plainV v = true := by
  cases v <;> first | rfl | (simp [RepP] at h; done)
theorem ValP.r2 {v : AVal} {x : Value} (h : ValP w V v x) : Rep2 w V μ v x ∧ plainV v = true ∧ ∀ vs, v ≠ .tup vs := by
  rcases h with ⟨cs, y, rfl, rfl, h⟩ | ⟨ha, h⟩
  · exact ⟨⟨y, rfl, h.all.imp fun _ _ => RepP.r1⟩, rfl, by simp⟩
  · exact ⟨h.r1.r2 ha, h.plain, fun vs e => by subst e; simp [RepP] at h⟩
theorem ValP.of {v : AVal} {x : Value} (h : RepR w V μ v x) (hp : pureE (strip2 v) = true) : ValP w V (strip2 v) x := by
  have ht : ∀ vs, v ≠ .tup vs := by rintro vs rfl; cases hp
  have h2 := h.strip2 ht
  revert hp h2
  generalize strip2 v = u
  intro hp h2
  cases u
  case agg cs =>
    obtain ⟨y, rfl, h3⟩ := h2
    refine .inl ⟨cs, y, rfl, rfl, .of (All2.of_get h3.length fun i c hc => ?_)⟩
    obtain ⟨b, hb, hr⟩ := h3.get hc
    exact ⟨b, hb, pure_rep hr (List.all_eq_true.1 hp c (List.mem_of_getElem? hc))⟩
  all_goals first | (cases hp; done) | exact .inr ⟨by simp, h2⟩

theorem isKey_rep {t : TypeId} {k : AVal} {x : Value} (hk : lookupF.isKey E t k = true) (hr : RepP w V k x) : ∃ d, E.P.underlying t = some d ∧ MapKept.IsKey d x ∧ ∀ k' x' b, RepP w V k' x' → keyEq k k' = some b → Instr.sameNow d x x' = some b ∧ MapKept.IsKey d x' := by
  cases k <;> simp only [lookupF.isKey] at hk <;> (try cases hk)
  case str s =>
    have hx : x = .string ⟨s.toArray⟩ := hr
    subst hx
    refine ⟨_, tstring_some hk, trivial, fun k' x' b hr' hb => ?_⟩
    cases k' <;> simp only [keyEq] at hb <;> (try cases hb)
    rename_i s'
    have hx' : x' = .string ⟨s'.toArray⟩ := hr'
    subst hx'
    refine ⟨?_, trivial⟩
    obtain ⟨r, hr, hiff⟩ := MapKept.sameNow_of_keys (d := .string) (a := .string ⟨s.toArray⟩) (b := .string ⟨s'.toArray⟩) trivial trivial
    rw [hr]
    congr 1
    by_cases h : s = s'
    · subst h
      rw [hiff.2 rfl]; simp
    · have hf : r = false := by
        cases r with
        | false => rfl
        | true =>
          exfalso
          have := hiff.1 rfl
          injection this with this
          injection this with this
          exact h (by simpa using congrArg Array.toList this)
      rw [hf, beq_eq_false_iff_ne.2 h]
  case int k n =>
    have hx : x = .int k n := hr
    subst hx
    have hk' : tint E.P t = some k := by simpa using hk
    refine ⟨_, tint_some hk', rfl, fun k' x' b hr' hb => ?_⟩
    cases k' <;> simp only [keyEq] at hb <;> (try cases hb)
    rename_i k2 n2
    have hx' : x' = .int k2 n2 := hr'
    subst hx'
    split at hb
    · rename_i e; subst e; injection hb with hb; subst hb
      exact ⟨by simp [Instr.sameNow], rfl⟩
    · cases hb

theorem find_rep {d : TypeDesc} {k : AVal} {x : Value} (hk : ∀ k' x' b, RepP w V k' x' → keyEq k k' = some b → Instr.sameNow d x x' = some b ∧ MapKept.IsKey d x') :
    ∀ {es : List AVal} {ms : List MapEntry} {r : Option AVal} (i : Nat), EntsP w V es ms → findE k es = some r →
      (r = none ∧ Instr.findNow d x ms i = some none) ∨ ∃ v y j, r = some v ∧ Instr.findNow d x ms i = some (some (j, y)) ∧ ValP w V v y
  | [], [], r, i, _, hf => by
    simp only [findE] at hf; injection hf with hf; subst hf; exact .inl ⟨rfl, rfl⟩
  | [], _ :: _, _, _, he, _ => by simp [EntsP] at he
  | e :: es, [], _, _, he, _ => by simp [EntsP] at he
  | e :: es, m :: ms, r, i, he, hf => by
    unfold findE at hf
    split at hf
    · rename_i heq; cases heq
    · rename_i k' v r' heq
      injection heq with h1 h2
      subst h1; subst h2
      rw [ents_cons] at he
      obtain ⟨b, hb, hf⟩ := bind_some hf
      obtain ⟨hs, _⟩ := hk _ _ _ he.1.1 hb
      cases b with
      | true =>
        simp only [if_true] at hf; injection hf with hf; subst hf
        exact .inr ⟨v, m.val, i, rfl, by simp [Instr.findNow, hs], he.1.2⟩
      | false =>
        simp only [Bool.false_eq_true, if_false] at hf
        rcases find_rep hk (i + 1) he.2 hf with ⟨h3, h4⟩ | ⟨v', y, j, h3, h4, h5⟩
        · exact .inl ⟨h3, by simp [Instr.findNow, hs, h4]⟩
        · exact .inr ⟨v', y, j, h3, by simp [Instr.findNow, hs, h4], h5⟩
    · cases hf

theorem upd_rep {d : TypeDesc} {k v : AVal} {x y : Value} (hk : ∀ k' x' b, RepP w V k' x' → keyEq k k' = some b → Instr.sameNow d x x' = some b ∧ MapKept.IsKey d x') (hkx : RepP w V k x) (hx : MapKept.IsKey d x) (hv : ValP w V v y) :
    ∀ {es es' : List AVal} {ms : List MapEntry} (i : Nat), EntsP w V es ms → updE k v es = some es' →
      (Instr.findNow d x ms i = some none ∧ ∀ c, EntsP w V es' (ms ++ [⟨x, y, c⟩])) ∨
      ∃ j z e, Instr.findNow d x ms i = some (some (i + j, z)) ∧ ms[j]? = some e ∧ e.key = x ∧ EntsP w V es' (ms.modify j fun e => { e with key := x, val := y })
  | [], es', [], i, _, hf => by
    simp only [updE] at hf; injection hf with hf; subst hf
    exact .inl ⟨rfl, fun c => by rw [List.nil_append, ents_cons]; exact ⟨⟨hkx, hv⟩, trivial⟩⟩
  | [], _, _ :: _, _, he, _ => by simp [EntsP] at he
  | e :: es, _, [], _, he, _ => by simp [EntsP] at he
  | e :: es, es', m :: ms, i, he, hf => by
    unfold updE at hf
    split at hf
    · rename_i heq; cases heq
    · rename_i k' v' r' heq
      injection heq with h1 h2
      subst h1; subst h2
      rw [ents_cons] at he
      obtain ⟨b, hb, hf⟩ := bind_some hf
      obtain ⟨hs, hik⟩ := hk _ _ _ he.1.1 hb
      cases b with
      | true =>
        simp only [if_true] at hf; injection hf with hf; subst hf
        have hkey : m.key = x := by
          obtain ⟨r, hr, hiff⟩ := MapKept.sameNow_of_keys hx hik
          rw [hs] at hr; injection hr with hr
          exact (hiff.1 hr.symm).symm
        refine .inr ⟨0, m.val, m, by simp [Instr.findNow, hs], rfl, hkey, ?_⟩
        rw [List.modify_zero_cons, ents_cons]
        exact ⟨⟨hkx, hv⟩, he.2⟩
      | false =>
        simp only [Bool.false_eq_true, if_false] at hf
        obtain ⟨es2, h3, rfl⟩ := map_some hf
        rcases upd_rep hk hkx hx hv (i + 1) he.2 h3 with ⟨h4, h5⟩ | ⟨j, z, e2, h4, h5, h6, h7⟩
        · refine .inl ⟨by simp [Instr.findNow, hs, h4], fun c => ?_⟩
          rw [List.cons_append, ents_cons]; exact ⟨he.1, h5 c⟩
        · refine .inr ⟨j + 1, z, e2, by simp [Instr.findNow, hs, h4]; omega, by simpa using h5, h6, ?_⟩
          rw [List.modify_succ_cons, ents_cons]
          exact ⟨he.1, h7⟩
    · cases hf

theorem ownerM_rep (h : SRel E.P Q s a w V μ γ) {x : Operand} {p : Place} {n : Nat} {es : List AVal} (ho : ownerM s x = some (p, n, es)) :
    s.at p = some (.own mapT n es) ∧ γ p n = some (a.eval x) ∧ MapRep E.P w V mapT es (a.eval x) := by
  cases x <;> simp only [ownerM] at ho <;> (try cases ho)
  rename_i k
  obtain ⟨v, h1, ho⟩ := bind_some ho
  obtain ⟨y, h2, h3⟩ := h.tm k _ h1
  have he : a.eval (.tmp k) = y := by simp [Act.eval, Array.getD_eq_getD_getElem?, h2]
  rw [he]
  cases v <;> simp only at ho <;> (try cases ho)
  case own T m es0 =>
    split at ho
    · rename_i hT
      subst hT
      injection ho with ho; injection ho with e1 e2; injection e2 with e2 e3
      subst e1; subst e2; subst e3
      exact ⟨h1, h3.2, h3.1.toM⟩
    · cases ho
  case mview m q =>
    obtain ⟨v, h4, ho⟩ := bind_some ho
    cases v <;> simp only at ho <;> (try cases ho)
    split at ho
    · rename_i hT
      obtain ⟨rfl, rfl⟩ := hT
      injection ho with ho; injection ho with e1 e2; injection e2 with e2 e3
      subst e1; subst e2; subst e3
      obtain ⟨z, hz, hzo⟩ := h.conc_own h4
      have : z = y := by rw [h3.1] at hz; injection hz with hz; exact hz.symm
      subst this
      exact ⟨h4, h3.1, hzo.toM⟩
    · cases ho

theorem ents_rep (h : SRel E.P Q s a w V μ γ) {x : Operand} {es : List AVal} (he : entsF s x = some es) :
    (es = [] ∧ a.eval x = .map none) ∨ ∃ g ents cl, a.eval x = .map (some g) ∧ w.heap[g]? = some (.map ents cl) ∧ EntsP w V es ents.toList := by
  unfold entsF at he
  split at he
  · rename_i hx
    injection he with he; subst he
    exact .inl ⟨rfl, h.rd hx⟩
  · rename_i es' hx
    injection he with he; subst he
    have hr : RepP w V (.pmap es') (a.eval x) := h.rd hx
    simp only [RepP] at hr
    obtain ⟨g, ents, cl, h1, _, h3, h4⟩ := hr
    exact .inr ⟨g, ents, cl, h1, h3, h4⟩
  · obtain ⟨⟨p, n, es'⟩, h1, rfl⟩ := map_some he
    obtain ⟨_, _, _, g, ents, cl, h2, h3, h4⟩ := ownerM_rep h h1
    exact .inr ⟨g, ents, cl, h2, h3, h4⟩

theorem zeroOf_rep {T : TypeId} {z : Value} {v : AVal} (h : zeroOf E.P T z = some v) : Rep2 w V μ v z ∧ plainV v = true ∧ ∀ vs, v ≠ .tup vs := by
  have fin : ∀ z : Value, ((labelCells (cellElems E.P 8 T) [z]).bind fun
    | [c] => some (strip1 c)
    | _ => none) = some v → Rep2 w V μ v z ∧ plainV v = true ∧ ∀ vs, v ≠ .tup vs := by
    intro z h
    obtain ⟨cs, h1, h⟩ := bind_some h
    have h2 := label_rep (w := w) (V := V) (μ := μ) h1
    split at h
    · rename_i c
      injection h with h; subst h
      have h3 : Rep1 w V μ (strip1 c) z := h2.1.strip1
      clear h1
      cases c
      case own T' n es' =>
        exact ⟨h3.r2 strip1_noagg, plain_own, strip1_notup⟩
      case tup vs => exact absurd h2.1 (by simp [Rep1, RepP])
      case agg vs => exact absurd h2.1 (by simp [Rep1, RepP])
      all_goals first | exact ⟨h3, rfl, by simp [strip1]⟩ | exact absurd h2.1 (by simp [Rep1, RepP])
    · cases h
  unfold zeroOf at h
  split at h
  · rename_i x
    obtain ⟨cs, h1, rfl⟩ := map_some h
    exact ⟨⟨x, rfl, All2.map_left (f := strip1) (fun _ _ => Rep1.strip1) (label_rep h1)⟩, rfl, by simp⟩
  · exact fin _ h

theorem sim_lookup (hd : a.defers = []) (h : SRel E.P Q s a w V μ γ) (hf : Fr w0 V0 T0 w V) (hl : Loc w0 T0 s μ γ) (hQ : QLe Q Q') {o : Oper} (hdst : ∀ k, o.dst = some k → k < a.tmps.size)
    {T : TypeId} {x i : Operand} {ok : Bool} (ho : o.op = .lookup T x i ok) (hs : ((entsF s x).bind fun es => (rd s i).bind fun k => (lookupF E T es k ok).map (s.putD o.dst)) = some s') {X : Exit → Act → World → Prop} :
    o.wp E.P a w (Sim E.P w0 V0 T0 Q' s') X := by
  obtain ⟨es, h1, hs⟩ := bind_some hs
  obtain ⟨k, h2, hs⟩ := bind_some hs
  obtain ⟨u, h3, rfl⟩ := map_some hs
  unfold lookupF at h3
  obtain ⟨⟨kt, et⟩, ht, h3⟩ := bind_some h3
  obtain ⟨r, hr, h3⟩ := bind_some h3
  simp only at hr h3
  have hu := tmap_some ht
  split at hr
  · rename_i hk
    have hkr : RepP w V k (a.eval i) := by
      have := h.rd h2
      cases k <;> simp only [lookupF.isKey] at hk <;> first | exact this | cases hk
    obtain ⟨d, hd1, hd2, hd3⟩ := isKey_rep hk hkr
    -- the entries, and what is found
    have key : ∃ ents : Array MapEntry, EntsP w V es ents.toList ∧ ∀ z, (∃ f : Option (Nat × Value), Instr.findNow d (a.eval i) ents.toList 0 = some f ∧ ((∃ j y, f = some (j, y) ∧ z = (y, true)) ∨ f = none ∧ ∃ inf z0, E.P.info? et = some inf ∧ inf.zero = some z0 ∧ z = (z0, false))) →
        (execOp a.eval o).run E.P w = .ok (.value (if ok then .tuple #[z.1, .bool z.2] else z.1)) w := by
      rcases ents_rep h h1 with ⟨rfl, hx⟩ | ⟨g, ents, cl, hx, hh, he⟩
      · refine ⟨#[], trivial, ?_⟩
        rintro z ⟨f, hf1, ⟨j, y, rfl, rfl⟩ | ⟨rfl, inf, z0, hi1, hi2, rfl⟩⟩
        · simp [Instr.findNow] at hf1
        · simp [execOp, ho, Instr.lookup, hx, run_underlying' hu, MapKept.run_checkKey hd1 hd2, MapKept.run_findKey hd1 hf1, zeroValue, typeInfo, hi1, hi2]
          try (cases ok <;> rfl)
      · refine ⟨ents, he, ?_⟩
        rintro z ⟨f, hf1, ⟨j, y, rfl, rfl⟩ | ⟨rfl, inf, z0, hi1, hi2, rfl⟩⟩
        · simp [execOp, ho, Instr.lookup, hx, run_underlying' hu, MapKept.run_getObj_map hh, MapKept.run_checkKey hd1 hd2, MapKept.run_findKey hd1 hf1]
          try (cases ok <;> rfl)
        · simp [execOp, ho, Instr.lookup, hx, run_underlying' hu, MapKept.run_getObj_map hh, MapKept.run_checkKey hd1 hd2, MapKept.run_findKey hd1 hf1, zeroValue, typeInfo, hi1, hi2]
          try (cases ok <;> rfl)
    obtain ⟨ents, he, hrun⟩ := key
    have fin : ∀ (v : AVal) (z : Value) (b : Bool), Rep2 w V μ v z ∧ plainV v = true ∧ (∀ vs, v ≠ .tup vs) → (execOp a.eval o).run E.P w = .ok (.value (if ok then .tuple #[z, .bool b] else z)) w →
        u = (if ok then .tup [v, .bool b] else v) → o.wp E.P a w (Sim E.P w0 V0 T0 Q' (s.putD o.dst u)) X := by
      rintro v z b ⟨q1, q2, q3⟩ hrun rfl
      cases ok with
      | true => exact sim_calc hd h hf hl hQ hdst rfl (show Rep3 w V μ (.tup [v, .bool b]) (.tuple #[z, .bool b]) from ⟨_, rfl, q1, rfl, trivial⟩) hrun
      | false => exact sim_calc hd h hf hl hQ hdst q2 (q1.r3 q3) hrun
    rcases find_rep hd3 0 he hr with ⟨rfl, hfn⟩ | ⟨v, y, j, rfl, hfn, hv⟩
    · obtain ⟨v, hz, hu2⟩ := map_some h3
      unfold zeroV at hz
      obtain ⟨z0, hz1, hz⟩ := bind_some hz
      obtain ⟨inf, hi1, hi2⟩ := bind_some hz1
      exact fin v z0 false (zeroOf_rep hz) (hrun (z0, false) ⟨none, hfn, .inr ⟨rfl, inf, z0, hi1, hi2, rfl⟩⟩) hu2.symm
    · simp only at h3
      injection h3 with h3
      exact fin v y true hv.r2 (hrun (y, true) ⟨_, hfn, .inl ⟨j, y, rfl, rfl⟩⟩) h3.symm
  · cases hr

theorem sim_makeMap (hd : a.defers = []) (h : SRel E.P Q s a w V μ γ) (hf : Fr w0 V0 T0 w V) (hl : Loc w0 T0 s μ γ) (hQ : QLe Q Q') {n : Nat} (hn : ¬ Q n) (hn' : Q' n) {o : Oper} (hdst : ∀ k, o.dst = some k → k < a.tmps.size)
    {T : TypeId} (ho : o.op = .makeMap T none) (hs : (if tsize E.P mapT = 0 then some (s.putD o.dst (if E.mkm T n o.dst then .own mapT n [] else .pmap [])) else none) = some s') {X : Exit → Act → World → Prop} :
    o.wp E.P a w (Sim E.P w0 V0 T0 Q' s') X := by
  split at hs
  · rename_i hT
    injection hs with hs; subst hs
    have hrun : (execOp a.eval o).run E.P w = .ok (.value (.map (some w.heap.size))) (w.alloc (.map #[] 0)) := by
      simp [execOp, ho, Instr.makeMap]
    refine wp_val hrun ?_
    cases E.mkm T n o.dst with
    | true =>
      simp only [if_true]
      refine sim_own hd (h.alloc _) (hf.alloc h.vis _) hl hQ hn hn' hdst (.ofM ⟨hT, w.heap.size, #[], 0, rfl, alloc_new, trivial⟩) (fun k g _ hg => ?_)
      simp only [ownBlock] at hg; injection hg with hg; subst hg
      exact ⟨fun b hb => by have := box_lt h hb; omega, fun o hv => by have := h.vis _ _ hv; omega, fun p' T' n' es' x' _ hp hx hg => by have := own_lt h hp hx hg; omega, .inr hf.size⟩
    | false =>
      simp only [Bool.false_eq_true, if_false]
      let V' : Vis := fun g o => V g o ∨ g = w.heap.size
      have hkeep : Keeps w V (w.alloc (.map #[] 0)) V' := fun g o hg => ⟨.inl hg, (alloc_keeps h.vis g o hg).2⟩
      have h1 : SRel E.P Q s a (w.alloc (.map #[] 0)) V' μ γ := by
        refine h.world hkeep (fun _ _ hb => alloc_get (box_lt h hb)) (fun _ _ _ _ _ _ hp hx hg => alloc_get (own_lt h hp hx hg)) (fun g o hv => ?_) (fun g o hv => ?_)
        · rcases hv with hv | rfl
          · exact .inl hv
          · exact .inr ⟨fun b hb => by have := box_lt h hb; omega, fun p T n es x hp hx hg => by have := own_lt h hp hx hg; omega⟩
        · rcases hv with hv | rfl
          · have := h.vis g o hv; simp; omega
          · simp
      have hf1 : Fr w0 V0 T0 (w.alloc (.map #[] 0)) V' := (hf.alloc h.vis _).vis (fun g o => .inl) (fun g o hv => by
        rcases hv with hv | rfl
        · exact .inl hv
        · exact .inr (.inl hf.size))
      exact sim_put hd h1 hf1 hl hQ hdst rfl ⟨w.heap.size, #[], 0, rfl, .inr rfl, alloc_new, trivial⟩
  · cases hs

theorem setAt_box {p : Place} {v : AVal} (h : s.setAt p v = some s') {b : BName} {cs : List AVal} (hb : s'.box b = some cs) : ∃ cs0, s.box b = some cs0 ∧ cs.length = cs0.length ∧ ∀ i c, cs[i]? = some c → (p = .cell b i ∧ c = v) ∨ (p ≠ .cell b i ∧ cs0[i]? = some c) := by
  cases p with
  | tmp k =>
    simp only [St.setAt] at h; injection h with h; subst h
    rw [box_put] at hb
    exact ⟨cs, hb, rfl, fun i c hc => .inr ⟨by simp, hc⟩⟩
  | cell b0 off =>
    simp only [St.setAt] at h
    obtain ⟨cs0, h1, rfl⟩ := map_some h
    rw [box_setBox h1] at hb
    by_cases hbb : b = b0
    · subst hbb
      simp only [if_true] at hb
      injection hb with hb; subst hb
      refine ⟨cs0, h1, by simp, fun i c hc => ?_⟩
      by_cases hi : i = off
      · subst hi
        by_cases hlt : i < cs0.length
        · rw [List.getElem?_set_self hlt] at hc; injection hc with hc; exact .inl ⟨rfl, hc.symm⟩
        · rw [List.getElem?_eq_none (by simp; omega)] at hc; cases hc
      · rw [List.getElem?_set_ne (Ne.symm hi)] at hc
        exact .inr ⟨fun e => hi (by injection e with _ e; exact e.symm), hc⟩
    · simp only [hbb, if_false] at hb
      exact ⟨cs, hb, rfl, fun i c hc => .inr ⟨fun e => hbb (by injection e with e; exact e.symm), hc⟩⟩
theorem setAt_boxes {p : Place} {v : AVal} (h : s.setAt p v = some s') {b : BName} {cs : List AVal} (hb : s.box b = some cs) : ∃ cs', s'.box b = some cs' := by
  cases p with
  | tmp k =>
    simp only [St.setAt] at h; injection h with h; subst h
    rw [box_put]; exact ⟨cs, hb⟩
  | cell b0 off =>
    simp only [St.setAt] at h
    obtain ⟨cs0, h1, rfl⟩ := map_some h
    rw [box_setBox h1]
    by_cases hbb : b = b0
    · simp [hbb]
    · simp [hbb, hb]
theorem setAt_tm {p : Place} {v : AVal} (h : s.setAt p v = some s') {k : Nat} {u : AVal} (hu : alGet s'.tm k = some u) : (p = .tmp k ∧ u = v) ∨ (p ≠ .tmp k ∧ alGet s.tm k = some u) := by
  cases p with
  | tmp j =>
    simp only [St.setAt] at h; injection h with h; subst h
    simp only [St.put, alGet_put] at hu
    by_cases hj : j = k
    · simp only [hj, if_true] at hu; injection hu with hu; exact .inl ⟨by rw [hj], hu.symm⟩
    · simp only [hj, if_false] at hu; exact .inr ⟨fun e => hj (by injection e), hu⟩
  | cell b off =>
    simp only [St.setAt] at h
    obtain ⟨cs0, h1, rfl⟩ := map_some h
    rw [tm_setBox] at hu
    exact .inr ⟨by simp, hu⟩
theorem setAt_at {p q : Place} {v u : AVal} (h : s.setAt p v = some s') (hq : s'.at q = some u) : (p = q ∧ u = v) ∨ (p ≠ q ∧ s.at q = some u) := by
  cases q with
  | tmp k => exact setAt_tm h hq
  | cell b off =>
    simp only [St.at] at hq ⊢
    obtain ⟨cs, h1, h2⟩ := bind_some hq
    obtain ⟨cs0, h3, _, h4⟩ := setAt_box h h1
    rcases h4 off u h2 with h5 | ⟨h5, h6⟩
    · exact .inl h5
    · exact .inr ⟨h5, by rw [h3]; exact h6⟩

/-- a map is written by its owner -/
theorem sim_mapSet (hd : a.defers = []) (h : SRel E.P Q s a w V μ γ) (hf : Fr w0 V0 T0 w V) (hl : Loc w0 T0 s μ γ) (hQ : QLe Q Q') {p : Place} {n g : Nat} {es es' : List AVal} {ents : Array MapEntry} {cl : Nat}
    (hat : s.at p = some (.own mapT n es)) (hγ : γ p n = some (.map (some g))) (hT : E.P.cellsOf mapT = 0) (hob : OnlyBlock g w w') (hh : w'.heap[g]? = some (.map ents cl)) (he : EntsP w V es' ents.toList)
    (hs : s.setAt p (.own mapT n es') = some s') : Sim E.P w0 V0 T0 Q' s' a w' := by
  obtain ⟨o1, o2⟩ := h.ow p mapT n es _ g hat hγ rfl
  have hnv : ∀ o, ¬ V g o := fun o hv => by have := o2 o hv; rw [hT] at this; omega
  have hk : Keeps w V w' V := fun g' o hv => ⟨hv, .of (hob.other g' (by rintro rfl; exact hnv o hv))⟩
  have old : ∀ q T' m fs, s'.at q = some (.own T' m fs) → ∃ fs', s.at q = some (.own T' m fs') ∧ (q ≠ p → fs' = fs) := by
    intro q T' m fs hq
    rcases setAt_at hs hq with ⟨rfl, e⟩ | ⟨hne, h1⟩
    · injection e with e1 e2 e3; subst e1; subst e2; subst e3
      exact ⟨es, hat, fun e => absurd rfl e⟩
    · exact ⟨fs, h1, fun _ => rfl⟩
  have other : ∀ q T' m fs x g', q ≠ p → s.at q = some (.own T' m fs) → γ q m = some x → ownBlock x = some g' → w'.heap[g']? = w.heap[g']? := by
    intro q T' m fs x g' hne hq hx hg'
    refine hob.other g' ?_
    rintro rfl
    exact hne (h.ow2 q p T' m fs mapT n es x _ g' hq hat hx hγ hg' rfl)
  have hrep : OwnRep E.P w' V mapT es' (.map (some g)) := .ofM ⟨hT, g, ents, cl, rfl, hh, he.keep hk⟩
  refine ⟨hd, V, μ, γ, ?_, hf.only (hl.own p mapT n es _ g hat hγ rfl) hob hk, ?_⟩
  · refine { tm := ?_, bx := ?_, dom := ?_, inj := h.inj, visb := h.visb, vis := ?_, ow := ?_, ow2 := ?_, gq := fun p m hm => hQ m (h.gq p m hm) }
    · intro k v hv
      rcases setAt_tm hs hv with ⟨rfl, rfl⟩ | ⟨hne, hv'⟩
      · obtain ⟨x, h1, h2⟩ := h.tm k _ hat
        have : x = .map (some g) := by have := h2.2; rw [hγ] at this; injection this with this; exact this.symm
        subst this
        exact ⟨_, h1, hrep, hγ⟩
      · obtain ⟨x, h1, h2⟩ := h.tm k v hv'
        exact ⟨x, h1, h2.keep hk (BLe.refl _) (GLe.refl _) fun T' m fs g' e hg' => by
          subst e
          exact other (.tmp k) T' m fs x g' (Ne.symm hne) hv' h2.2 hg'⟩
    · intro b cs hb
      obtain ⟨cs0, h1, h2, h3⟩ := setAt_box hs hb
      obtain ⟨g', U, cur, k1, k2, k3, k4⟩ := h.bx b cs0 h1
      have hne : g' ≠ g := by rintro rfl; exact o1 b k1
      refine ⟨g', U, cur, k1, (hob.other g' hne).trans k2, by rw [h2]; exact k3, fun i c hc => ?_⟩
      rcases h3 i c hc with ⟨rfl, rfl⟩ | ⟨hnp, hc'⟩
      · have hat' : (s.box b).bind (fun cs => cs[i]?) = some (.own mapT n es) := hat
        rw [h1, Option.bind_some] at hat'
        obtain ⟨x, q1, q2⟩ := k4 i _ hat'
        have : x = .map (some g) := by have := q2.2; rw [hγ] at this; injection this with this; exact this.symm
        subst this
        exact ⟨_, q1, hrep, hγ⟩
      · obtain ⟨x, q1, q2⟩ := k4 i c hc'
        refine ⟨x, q1, q2.keep hk (BLe.refl _) (GLe.refl _) fun T' m fs g2 e hg2 => ?_⟩
        subst e
        exact other (.cell b i) T' m fs x g2 (Ne.symm hnp) (by simp [St.at, h1, hc']) q2.2 hg2
    · intro b g' hb
      obtain ⟨cs, h1⟩ := h.dom b g' hb
      exact setAt_boxes hs h1
    · intro g' o hv; rw [hob.size]; exact h.vis g' o hv
    · intro q T' m fs x g' hq hx hg'
      obtain ⟨fs', h1, h2⟩ := old q T' m fs hq
      obtain ⟨h3, h4⟩ := h.ow q T' m fs' x g' h1 hx hg'
      refine ⟨h3, fun o hv => ?_⟩
      by_cases hqp : q = p
      · subst hqp
        rw [hat] at h1; injection h1 with h1; injection h1 with e1 e2 e3
        subst e1; subst e2
        rw [hγ] at hx; injection hx with hx; subst hx
        simp only [ownBlock] at hg'; injection hg' with hg'; subst hg'
        exact absurd hv (hnv o)
      · rw [← h2 hqp]; exact h4 o hv
    · intro q q' T1 m fs T2 m' fs' x x' g' hq hq' hx hx' hg' hg''
      obtain ⟨f1, h1, _⟩ := old q T1 m fs hq
      obtain ⟨f2, h2, _⟩ := old q' T2 m' fs' hq'
      exact h.ow2 q q' T1 m f1 T2 m' f2 x x' g' h1 h2 hx hx' hg' hg''
  · refine ⟨hl.box, hl.par, fun q T' m fs x g' hq hx hg' => ?_⟩
    obtain ⟨f1, h1, _⟩ := old q T' m fs hq
    exact hl.own q T' m f1 x g' h1 hx hg'

theorem sim_mapUpdate (hd : a.defers = []) (h : SRel E.P Q s a w V μ γ) (hf : Fr w0 V0 T0 w V) (hl : Loc w0 T0 s μ γ) (hQ : QLe Q Q') {o : Oper} (hdst : o.dst = none)
    {T : TypeId} {m i x : Operand} (ho : o.op = .mapUpdate T m i x) (hs : ((rd s i).bind fun k => (rd s x).bind fun v => updateF E s T m k (strip2 v)) = some s') {X : Exit → Act → World → Prop} :
    o.wp E.P a w (Sim E.P w0 V0 T0 Q' s') X := by
  obtain ⟨k, h1, hs⟩ := bind_some hs
  obtain ⟨v, h2, hs⟩ := bind_some hs
  unfold updateF at hs
  obtain ⟨⟨kt, et⟩, ht, hs⟩ := bind_some hs
  obtain ⟨⟨p, n, es⟩, hw, hs⟩ := bind_some hs
  simp only at hs
  split at hs
  · rename_i hc
    obtain ⟨hk, hp⟩ := hc
    obtain ⟨es', h3, hs⟩ := bind_some hs
    have hu := tmap_some ht
    have hkr : RepP w V k (a.eval i) := by
      have := h.rd h1
      cases k <;> simp only [lookupF.isKey] at hk <;> first | exact this | cases hk
    obtain ⟨d, hd1, hd2, hd3⟩ := isKey_rep hk hkr
    have hv : ValP w V (strip2 v) (a.eval x) := .of (h.rd h2) hp
    obtain ⟨hat, hγ, hT, g, ents, cl, hm, hh, he⟩ := ownerM_rep h hw
    rw [hm] at hγ
    have hput : a.put o.dst undef = a := by rw [hdst]; rfl
    have hset : ∀ ob, OnlyBlock g w { w with heap := w.heap.setIfInBounds g ob } := fun ob => ⟨rfl, rfl, rfl, by simp, fun j hj => by simp [Ne.symm hj]⟩
    have hlt : g < w.heap.size := (Array.getElem?_eq_some_iff.1 hh).1
    rcases upd_rep hd3 hkr hd2 hv 0 he h3 with ⟨q1, q2⟩ | ⟨j, z, e, q1, q2, q3, q4⟩
    · have hrun : (execOp a.eval o).run E.P w = .ok .skip { w with heap := w.heap.setIfInBounds g (.map (ents.push ⟨a.eval i, a.eval x, cl⟩) (cl + 1)) } := by
        simp [execOp, ho, hm, Instr.mapUpdate, run_underlying' hu, MapKept.run_getObj_map hh, MapKept.run_checkKey hd1 hd2, MapKept.run_findKey hd1 q1, MapKept.run_setObj_map _ hh]
      refine wp_skp hrun ?_
      rw [hput]
      exact sim_mapSet (ents := ents.push ⟨a.eval i, a.eval x, cl⟩) (cl := cl + 1) hd h hf hl hQ hat hγ hT (hset _) (by simp [hlt]) (by simpa using q2 cl) hs
    · have hj : ents[j]? = some e := by simpa using q2
      rw [Nat.zero_add] at q1
      have hrun : (execOp a.eval o).run E.P w = .ok .skip { w with heap := w.heap.setIfInBounds g (.map (ents.modify j fun e => { e with key := a.eval i, val := a.eval x }) cl) } := by
        simp [execOp, ho, hm, Instr.mapUpdate, run_underlying' hu, MapKept.run_getObj_map hh, MapKept.run_checkKey hd1 hd2, MapKept.run_findKey hd1 q1, hj, q3, MapKept.run_keyThatStays hd2, MapKept.run_setObj_map _ hh]
      refine wp_skp hrun ?_
      rw [hput]
      exact sim_mapSet (ents := ents.modify j fun e => { e with key := a.eval i, val := a.eval x }) (cl := cl) hd h hf hl hQ hat hγ hT (hset _) (by simp [hlt]) (by simpa using q4) hs
  · cases hs
end
end Go.Av
namespace Go.Av

theorem opOK_dst {N : Nat} {o : Oper} (h : opOK N o = true) : ∀ k, o.dst = some k → k < N := by
  intro k hk
  unfold opOK at h
  rw [hk] at h
  simp only [Bool.and_eq_true, decide_eq_true_eq] at h
  exact h.1
theorem opOK_store {N : Nat} {o : Oper} (h : opOK N o = true) {T : TypeId} {x y : Operand} (ho : o.op = .store T x y) : o.dst = none := by
  unfold opOK at h
  rw [ho] at h
  cases hk : o.dst with
  | none => rfl
  | some k => simp [hk] at h

theorem opOK_update {N : Nat} {o : Oper} (h : opOK N o = true) {T : TypeId} {x y z : Operand} (ho : o.op = .mapUpdate T x y z) : o.dst = none := by
  unfold opOK at h
  rw [ho] at h
  cases hk : o.dst with
  | none => rfl
  | some k => simp [hk] at h

theorem toList_one {α : Type} {xs : Array α} {x : α} (h : xs.toList = [x]) : xs = #[x] := by rw [← Array.toArray_toList (xs := xs), h]
theorem toList_two {α : Type} {xs : Array α} {x y : α} (h : xs.toList = [x, y]) : xs = #[x, y] := by rw [← Array.toArray_toList (xs := xs), h]

section
variable {E : Env} {w0 : World} {V0 : Vis} {T0 : Tch} {Q Q' : Nat → Prop} {s s1 : St} {a a' : Act} {w w' : World} {V V' : Vis} {μ μ' : BMap} {γ γ' : GMap}

theorem op_sim {D : FuncId → List AVal → Heap → Option (AVal × Heap)} (hD : Sound E.P T0.F D) (hd : a.defers = []) (h : SRel E.P Q s a w V μ γ) (hf : Fr w0 V0 T0 w V) (hl : Loc w0 T0 s μ γ) (hQ : QLe Q Q') {n : Nat} (hn : ¬ Q n) (hn' : Q' n)
    {o : Oper} (hok : opOK a.tmps.size o = true) {s' : St} (hs : opF E D n o s = some s') {X : Exit → Act → World → Prop} : o.wp E.P a w (Sim E.P w0 V0 T0 Q' s') X := by
  have hdst := opOK_dst hok
  unfold opF at hs
  split at hs
  case h_1 x ho => exact sim_move hd h hf hl hQ hn hn' hdst ho hs
  case h_2 x ho => exact sim_assign hd h hf hl hQ hn hn' hdst ho hs
  case h_3 c x y ho => exact sim_pick hd h hf hl hQ hdst ho hs
  case h_4 T ho => exact sim_alloc hd h hf hl hQ hn hn' hdst ho hs
  case h_5 T x ho => exact sim_box hd h hf hl hQ hn hn' hdst ho hs
  case h_6 T ps ho => exact sim_build hd h hf hl hQ hdst ho hs
  case h_7 T m ps ho => exact sim_buildSlice hd h hf hl hQ hn hn' hdst ho hs
  case h_8 T x ho => exact sim_load hd h hf hl hQ hdst ho hs
  case h_9 T ad x ho => exact sim_store hd h hf hl hQ hn hn' (opOK_store hok ho) ho hs
  case h_10 x ho => exact sim_one hd h hf hl hQ hdst (calc_nil ho) hs
  case h_11 op T x y U ho => exact sim_two hd h hf hl hQ hdst (calc_bin ho) hs
  case h_12 T x ho => exact sim_one hd h hf hl hQ hdst (calc_not ho) hs
  case h_13 src dst x ho => exact sim_one hd h hf hl hQ hdst (calc_conv ho) hs
  case h_14 f first cap ho => exact sim_makeFunc hd h hf hl hQ hdst ho hs
  case h_15 S x i ho => exact sim_one hd h hf hl hQ hdst (calc_field ho) hs
  case h_16 T x i ho => exact sim_two hd h hf hl hQ hdst (calc_index ho) hs
  case h_17 T x i ho => exact sim_two hd h hf hl hQ hdst (calc_indexF ho) hs
  case h_18 T x lo hi mx ho => exact sim_slice hd h hf hl hQ hdst ho hs
  case h_19 x i ho => exact sim_one hd h hf hl hQ hdst (calc_extract ho) hs
  case h_20 g args ats ho => exact sim_call hD hd h hf hl hQ hn hn' hdst ho hs
  case h_21 b args ats ho =>
    split at hs
    · rename_i x hx
      rw [toList_one hx] at ho
      exact sim_one hd h hf hl hQ hdst (calc_len ho) hs
    · rename_i x y hx
      rw [toList_two hx] at ho
      exact sim_two hd h hf hl hQ hdst (calc_max ho) hs
    · rename_i x y hx
      rw [toList_two hx] at ho
      exact sim_two hd h hf hl hQ hdst (calc_min ho) hs
    · rename_i x y hx
      rw [toList_two hx] at ho
      exact sim_append hd h hf hl hQ hn hn' hdst ho hs
    · cases hs
  case h_22 T x y ho => exact sim_make hd h hf hl hQ hn hn' hdst ho hs
  case h_23 T ho => exact sim_makeMap hd h hf hl hQ hn hn' hdst ho hs
  case h_24 T x i ok ho => exact sim_lookup hd h hf hl hQ hdst ho hs
  case h_25 T m i x ho => exact sim_mapUpdate hd h hf hl hQ (opOK_update hok ho) ho hs
  case h_26 => cases hs

/-! the number of slots stays -/
theorem put_size (a : Act) (k : Option Nat) (v : Value) : (a.put k v).tmps.size = a.tmps.size := by cases k <;> simp [Act.put]
theorem wp_size {P : Program} {o : Oper} {K : Act → World → Prop} {X : Exit → Act → World → Prop} (h : o.wp P a w K X) : o.wp P a w (fun a' w' => K a' w' ∧ a'.tmps.size = a.tmps.size) X := by
  unfold Oper.wp at *
  generalize (execOp a.eval o).run P w = r at *
  cases r with
  | ok n w' =>
    cases n <;> simp only [Oper.upon] at h ⊢ <;>
      first
        | exact ⟨h, put_size _ _ _⟩
        | exact ⟨h, by rw [put_size]⟩
        | exact Calls.mono h (fun e w'' he => by cases e <;> first | exact ⟨he, put_size _ _ _⟩ | exact he)
        | exact Rows.mono h (fun _ _ he => ⟨he, put_size _ _ _⟩)
        | exact h
  | halt x w' => cases x <;> simp only [Oper.upon] at h ⊢ <;> exact h

/-! guards -/
theorem undef_rep : Rep3 w V μ (.tup []) undef := ⟨#[], rfl, trivial⟩

theorem want_sim (h : SRel E.P Q s a w V μ γ) {ops : Array Oper} {o : Oper} {b : Bool} (hs : wantF (ops.toList.map (·.dst)) o s = some b) : Region.wanted o (yielded ops a.tmps) = b := by
  unfold wantF at hs
  unfold Region.wanted
  split at hs
  · rename_i hg; injection hs with hs; subst hs; rw [hg]
  · rename_i j want hg
    rw [hg]
    obtain ⟨k, hk, hs⟩ := bind_some hs
    obtain ⟨v, hv, hs⟩ := bind_some hs
    have hk' : (ops[j]?).bind (·.dst) = some k := by
      unfold gslot at hk
      rw [List.getElem?_map, Array.getElem?_toList] at hk
      cases hj : ops[j]? with
      | none => simp [hj] at hk
      | some p => simpa [hj] using hk
    obtain ⟨x, hx, hr⟩ := h.tm k v hv
    simp only [yielded, hk', Option.bind_some, hx]
    split at hs
    · injection hs with hs; subst hs
      have : x = .bool _ := hr
      subst this
      rfl
    · injection hs with hs; subst hs
      obtain ⟨z, rfl, _⟩ := hr
      rfl
    · cases hs

/-- where a run of operations stands -/
def SimN (P : Program) (w0 : World) (V0 : Vis) (T0 : Tch) (N n : Nat) (s : St) (a : Act) (w : World) : Prop := Sim P w0 V0 T0 (fun m => m < n) s a w ∧ a.tmps.size = N

theorem ops_simK {D : FuncId → List AVal → Heap → Option (AVal × Heap)} (hD : Sound E.P T0.F D) {ops : Array Oper} {N : Nat} {Qx : Exit → Act → World → Prop} {R : List Nat} : ∀ (l : List Oper) (i n : Nat) (s s' : St) (a : Act) (w : World), (∀ (j : Nat) (o : Oper), l[j]? = some o → ops[i + j]? = some o) →
    (∀ o ∈ l, opOK N o = true) → opsF E D (ops.toList.map (·.dst)) n l s = some s' → SimN E.P w0 V0 T0 N n s a w → (∀ a' w', SimN E.P w0 V0 T0 N (n + l.length) s' a' w' → wpOps E.P ops Qx R a' w') →
    wpOps E.P ops Qx (List.range' i l.length ++ R) a w
  | [], i, n, s, s', a, w, _, _, hs, hsim, hQx => by
    simp only [opsF] at hs; injection hs with hs; subst hs
    simpa using hQx a w hsim
  | o :: l, i, n, s, s', a, w, hops, hok, hs, hsim, hQx => by
    simp only [opsF] at hs
    obtain ⟨b, hb, hs⟩ := bind_some hs
    obtain ⟨⟨hd, V, μ, γ, h, hf, hl⟩, hN⟩ := hsim
    rw [List.length_cons, List.range'_succ, List.cons_append, wpOps_cons]
    have hi : ops[i]? = some o := by simpa using hops 0 o (by simp)
    have hrest : ∀ (j : Nat) (o' : Oper), l[j]? = some o' → ops[i + 1 + j]? = some o' := fun j o' hj => by
      have := hops (j + 1) o' (by simpa using hj)
      rw [show i + 1 + j = i + (j + 1) by omega]; exact this
    have hgo : ∀ s1 a1 w1, opsF E D (ops.toList.map (·.dst)) (n + 1) l s1 = some s' → SimN E.P w0 V0 T0 N (n + 1) s1 a1 w1 → wpOps E.P ops Qx (List.range' (i + 1) l.length ++ R) a1 w1 := fun s1 a1 w1 hs1 h1 =>
      ops_simK hD l (i + 1) (n + 1) s1 s' a1 w1 hrest (fun o' ho' => hok o' (by simp [ho'])) hs1 h1 (fun a' w' h' => hQx a' w' (by rw [List.length_cons, show n + (l.length + 1) = n + 1 + l.length by omega]; exact h'))
    unfold wpOp
    simp only [hi]
    rw [want_sim h hb]
    have hQ : QLe (fun m => m < n) (fun m => m < n + 1) := fun m hm => by omega
    cases b with
    | true =>
      simp only [if_true] at hs ⊢
      obtain ⟨s1, h1, hs⟩ := bind_some hs
      refine .inl (Oper.wp_mono (fun a1 w1 h2 => hgo s1 a1 w1 hs ⟨h2.1, by rw [h2.2, hN]⟩) (wp_size (op_sim (Q' := fun m => m < n + 1) hD hd h hf hl hQ (n := n) (by omega) (by omega) (by rw [hN]; exact hok o (by simp)) h1)))
    | false =>
      simp only [Bool.false_eq_true, if_false] at hs ⊢
      exact hgo _ _ _ hs ⟨sim_put hd h hf hl hQ (by rw [hN]; exact opOK_dst (hok o (by simp))) rfl undef_rep, by rw [put_size, hN]⟩
theorem ops_sim {D : FuncId → List AVal → Heap → Option (AVal × Heap)} (hD : Sound E.P T0.F D) {ops : Array Oper} {N : Nat} {Qx : Exit → Act → World → Prop} (l : List Oper) (i n : Nat) (s s' : St) (a : Act) (w : World) (h1 : ∀ (j : Nat) (o : Oper), l[j]? = some o → ops[i + j]? = some o) (_ : i + l.length = ops.size)
    (h2 : ∀ o ∈ l, opOK N o = true) (h3 : opsF E D (ops.toList.map (·.dst)) n l s = some s') (h4 : SimN E.P w0 V0 T0 N n s a w) (h5 : ∀ a' w', SimN E.P w0 V0 T0 N (n + l.length) s' a' w' → Qx .normal a' w') :
    wpOps E.P ops Qx (List.range' i l.length) a w := by
  have := ops_simK (Qx := Qx) (R := []) hD l i n s s' a w h1 h2 h3 h4 (fun a' w' h => h5 a' w' h)
  simpa using this
end
end Go.Av
namespace Go.Av

section
variable {w : World} {V : Vis} {μ μ' : BMap}
theorem Rep1.sub {c : AVal} {x : Value} (h : Rep1 w V μ c x) (hs : ∀ b ∈ names1 c, ∀ g, μ b = some g → μ' b = some g) : Rep1 w V μ' c x := by
  have := h.ren (ρ := fun b => b) hs
  rwa [ren1_id fun _ _ => rfl] at this
theorem Rep3.sub {c : AVal} {x : Value} (h : Rep3 w V μ c x) (hs : ∀ b ∈ names c, ∀ g, μ b = some g → μ' b = some g) : Rep3 w V μ' c x := by
  have := h.ren (ρ := fun b => b) hs
  rwa [ren_id fun _ _ => rfl] at this
end

theorem keepAl_get {α : Type} (al : List (Nat × α)) : ∀ (L : List Nat) (k : Nat), alGet (keepAl al L) k = if k ∈ L then alGet al k else none
  | [], k => by simp [keepAl, alGet]
  | j :: L, k => by
    have ih := keepAl_get al L k
    simp only [keepAl]
    split
    · rename_i v hv
      simp only [alGet]
      by_cases h : j = k
      · subst h; simp [hv]
      · simp only [h, if_false, ih, List.mem_cons]
        have : ¬ k = j := fun e => h e.symm
        simp only [this, false_or]
    · rename_i hv
      rw [ih]
      by_cases h : k = j
      · subst h; simp [hv]
      · simp [h]
theorem alGet_map {α β : Type} (f : α → β) : ∀ (l : List (Nat × α)) (k : Nat), alGet (l.map fun x => (x.1, f x.2)) k = (alGet l k).map f
  | [], k => rfl
  | (j, v) :: l, k => by
    simp only [List.map_cons, alGet]
    split
    · rfl
    · exact alGet_map f l k
theorem alGet_mem {α : Type} : ∀ {l : List (Nat × α)} {k : Nat} {v : α}, alGet l k = some v → (k, v) ∈ l
  | [], _, _, h => by cases h
  | (j, u) :: l, k, v, h => by
    simp only [alGet] at h
    split at h
    · rename_i e; injection h with h; subst e h; simp
    · exact List.mem_cons_of_mem _ (alGet_mem h)

theorem stampH2_own {v : AVal} {T m es} (h : stampH2 v = .own T m es) : m = 0 ∧ ∃ m', v = .own T m' es := by
  cases v <;> simp only [stampH2, stampH, strip1] at h <;> first | (cases h; done) | (injection h with h1 h2 h3; subst h1 h2 h3; exact ⟨rfl, _, rfl⟩)
theorem stampH_own {v : AVal} {T m es} (h : stampH v = .own T m es) : m = 0 ∧ ∃ m', v = .own T m' es := by
  cases v <;> simp only [stampH, strip1] at h <;> first | (cases h; done) | (injection h with h1 h2 h3; subst h1 h2 h3; exact ⟨rfl, _, rfl⟩)

section
variable {P : Program} {w0 : World} {V0 : Vis} {T0 : Tch} {Q Q' : Nat → Prop} {s s' : St} {a a' : Act} {w w' : World} {V V' : Vis} {μ μ' : BMap} {γ γ' : GMap}

/-- a cell of a box, its owner with stamp 0 -/
theorem RepB.head {p : Place} {c : AVal} {x : Value} (h : RepB P w V μ γ p c x) (hs : ∀ b ∈ names1 (stampH c), ∀ g, μ b = some g → μ' b = some g) (hγ : ∀ T m es, c = .own T m es → γ' p 0 = γ p m) :
    RepB P w V μ' γ' p (stampH c) x := by
  have key : (∀ T m es, c ≠ .own T m es) → Rep1 w V μ c x → RepB P w V μ' γ' p (Av.strip1 c) x := by
    intro hno hr
    have hr' : Rep1 w V μ' (Av.strip1 c) x := hr.strip1.sub fun b hb => hs b (by cases c <;> first | exact hb | exact absurd rfl (hno _ _ _) | (simp [Av.strip1, names1] at hb))
    cases c <;> first | exact hr' | exact absurd rfl (hno _ _ _) | (exfalso; simp [Rep1, RepP] at hr; done)
  cases c with
  | own T m es => exact ⟨h.1, (hγ T m es rfl).trans h.2⟩
  | dead T m es => exact h.1
  | _ => exact key (fun _ _ _ e => by cases e) h
theorem RepS.head {p : Place} {c : AVal} {x : Value} (h : RepS P w V μ γ p c x) (hs : ∀ b ∈ names (stampH2 c), ∀ g, μ b = some g → μ' b = some g) (hγ : ∀ T m es, c = .own T m es → γ' p 0 = γ p m) :
    RepS P w V μ' γ' p (stampH2 c) x := by
  cases c with
  | own T m es => exact ⟨h.1, (hγ T m es rfl).trans h.2⟩
  | dead T m es => exact h.1
  | view T m es q => exact h.1
  | full es => exact h
  | mview n q => exact h.2
  | agg cs =>
    have h1 : Rep3 w V μ (.agg (cs.map Av.strip1)) x := Rep2.strip2 (v := .agg cs) h
    exact h1.sub hs
  | tup vs => exact Rep3.sub (w := w) (V := V) (c := .tup vs) h hs
  | ptr b o => exact Rep3.sub (w := w) (V := V) (c := .ptr b o) h hs
  | func f u v => exact Rep3.sub (w := w) (V := V) (c := .func f u v) h hs
  | _ => exact h

def gaH (s : St) (γ : GMap) : GMap := fun p m => if m = 0 then stampAt s p γ else none

theorem restrict_sim {L B : List Nat} (hs : restrict L B s = some s') (h : Sim P w0 V0 T0 Q s a w) : Sim P w0 V0 T0 (fun m => m < s'.ver) s' a w ∧ s'.ver = 1 := by
  unfold restrict at hs
  simp only at hs
  split at hs
  · rename_i hck
    injection hs with hs
    simp only [Bool.and_eq_true] at hck
    obtain ⟨k1, k2, k3⟩ := hck
    generalize htm : (keepAl s.tm L).map (fun x => (x.1, stampH2 x.2)) = tm at *
    generalize hlb : (keepAl s.lb B).map (fun x => (x.1, x.2.map stampH)) = lb at *
    generalize hpb : s.pb.map (·.map stampH) = pb at *
    obtain ⟨hd, V, μ, γ, h, hf, hl⟩ := h
    subst hs
    refine ⟨?_, rfl⟩
    let μ' : BMap := fun b => if hasName lb b = true then μ b else none
    have gtm : ∀ k v, alGet tm k = some v → ∃ u, alGet s.tm k = some u ∧ v = stampH2 u := by
      intro k v hv
      rw [← htm, alGet_map, keepAl_get] at hv
      obtain ⟨u, h1, h2⟩ := map_some hv
      split at h1
      · exact ⟨u, h1, h2.symm⟩
      · cases h1
    have glb : ∀ k v, alGet lb k = some v → ∃ u, alGet s.lb k = some u ∧ v = u.map stampH := by
      intro k v hv
      rw [← hlb, alGet_map, keepAl_get] at hv
      obtain ⟨u, h1, h2⟩ := map_some hv
      split at h1
      · exact ⟨u, h1, h2.symm⟩
      · cases h1
    have gbox : ∀ b cs, (⟨tm, pb, lb, 1⟩ : St).box b = some cs → hasName lb b = true ∧ (∃ u, s.box b = some u ∧ cs = u.map stampH) ∧ ∀ c ∈ cs, ∀ m ∈ names1 c, hasName lb m = true := by
      intro b cs hcs
      cases b with
      | par i =>
        simp only [St.box] at hcs
        refine ⟨rfl, ?_, fun c hc m hm => ?_⟩
        · rw [← hpb, List.getElem?_map] at hcs
          obtain ⟨u, h1, h2⟩ := map_some hcs
          exact ⟨u, h1, h2.symm⟩
        · exact List.all_eq_true.1 (List.all_eq_true.1 k3 cs (List.mem_of_getElem? hcs)) m (List.mem_flatMap.2 ⟨c, hc, hm⟩)
      | loc k =>
        simp only [St.box] at hcs
        refine ⟨by simp [hasName, hcs], ?_, fun c hc m hm => ?_⟩
        · obtain ⟨u, h1, h2⟩ := glb k cs hcs
          exact ⟨u, h1, h2⟩
        · exact List.all_eq_true.1 (List.all_eq_true.1 k2 _ (alGet_mem hcs)) m (List.mem_flatMap.2 ⟨c, hc, hm⟩)
    have gat : ∀ p T m es, (⟨tm, pb, lb, 1⟩ : St).at p = some (.own T m es) → m = 0 ∧ ∃ m', s.at p = some (.own T m' es) := by
      intro p T m es hp
      cases p with
      | tmp k =>
        obtain ⟨u, h1, h2⟩ := gtm k _ hp
        obtain ⟨rfl, m', rfl⟩ := stampH2_own h2.symm
        exact ⟨rfl, m', h1⟩
      | cell b off =>
        simp only [St.at] at hp
        obtain ⟨cs, h1, h2⟩ := bind_some hp
        obtain ⟨_, ⟨u, h3, rfl⟩, _⟩ := gbox b cs h1
        rw [List.getElem?_map] at h2
        obtain ⟨c, h4, h5⟩ := map_some h2
        obtain ⟨rfl, m', rfl⟩ := stampH_own h5
        exact ⟨rfl, m', by simp [St.at, h3, h4]⟩
    have gga : ∀ p T m es x, (⟨tm, pb, lb, 1⟩ : St).at p = some (.own T m es) → gaH s γ p m = some x → ∃ m', s.at p = some (.own T m' es) ∧ γ p m' = some x := by
      intro p T m es x hp hx
      obtain ⟨rfl, m', h1⟩ := gat p T m es hp
      refine ⟨m', h1, ?_⟩
      simpa [gaH, stampAt, h1] using hx
    have hμ : ∀ b g, μ' b = some g → hasName lb b = true ∧ μ b = some g := by
      intro b g hb
      by_cases hn : hasName lb b = true
      · simp only [μ', hn, if_true] at hb; exact ⟨hn, hb⟩
      · simp only [μ', hn] at hb; cases hb
    have hsub : ∀ b, hasName lb b = true → ∀ g, μ b = some g → μ' b = some g := fun b hb g hg => by simp only [μ', hb, if_true]; exact hg
    refine ⟨hd, V, μ', gaH s γ, { tm := ?_, bx := ?_, dom := ?_, inj := ?_, visb := ?_, vis := h.vis, ow := ?_, ow2 := ?_, gq := ?_ }, hf, ?_⟩
    · intro k v hv
      obtain ⟨u, h1, h2⟩ := gtm k v hv
      obtain ⟨x, h3, h4⟩ := h.tm k u h1
      subst h2
      refine ⟨x, h3, h4.head (fun b hb => hsub b (List.all_eq_true.1 (List.all_eq_true.1 k1 _ (alGet_mem hv)) b hb)) fun T m es e => ?_⟩
      subst e
      have hat : s.at (.tmp k) = some (.own T m es) := h1
      simp [gaH, stampAt, hat]
    · intro b cs hcs
      obtain ⟨hn, ⟨u, h1, rfl⟩, hnm⟩ := gbox b cs hcs
      obtain ⟨g, T, cur, h2, h3, h4, h5⟩ := h.bx b u h1
      refine ⟨g, T, cur, hsub b hn g h2, h3, by simpa using h4, fun i c hc => ?_⟩
      have hc' := List.mem_of_getElem? hc
      rw [List.getElem?_map] at hc
      obtain ⟨c0, h6, rfl⟩ := map_some hc
      obtain ⟨x, h7, h8⟩ := h5 i c0 h6
      refine ⟨x, h7, h8.head (fun m hm => hsub m (hnm _ hc' m hm)) fun T' m es e => ?_⟩
      subst e
      have hat : s.at (.cell b i) = some (.own T' m es) := by simp [St.at, h1, h6]
      simp [gaH, stampAt, hat]
    · intro b g hb
      obtain ⟨hn, hb⟩ := hμ b g hb
      cases b with
      | par i =>
        obtain ⟨cs, h1⟩ := h.dom _ g hb
        refine ⟨cs.map stampH, ?_⟩
        simp only [St.box] at h1 ⊢
        rw [← hpb, List.getElem?_map, h1]; rfl
      | loc k =>
        exact Option.isSome_iff_exists.1 hn
    · intro b b' g hb hb'
      exact h.inj b b' g (hμ b g hb).2 (hμ b' g hb').2
    · intro b g hb
      exact h.visb b g (hμ b g hb).2
    · intro p T m es x g hp hx hg
      obtain ⟨m', h1, h2⟩ := gga p T m es x hp hx
      obtain ⟨h3, h4⟩ := h.ow p T m' es x g h1 h2 hg
      exact ⟨fun b hb => h3 b (hμ b g hb).2, h4⟩
    · intro p p' T m es T' m' es' x x' g hp hp' hx hx' hg hg'
      obtain ⟨m1, h1, h2⟩ := gga p T m es x hp hx
      obtain ⟨m2, h3, h4⟩ := gga p' T' m' es' x' hp' hx'
      exact h.ow2 p p' T m1 es T' m2 es' x x' g h1 h3 h2 h4 hg hg'
    · intro p m hm
      show m < 1
      by_cases e : m = 0
      · omega
      · simp [gaH, e] at hm
    · refine ⟨fun b g hb => hl.box b g (hμ b g hb).2, fun i => ?_, fun p T m es x g hp hx hg => ?_⟩
      · simp only [μ', hasName, if_true]; exact hl.par i
      · obtain ⟨m', h1, h2⟩ := gga p T m es x hp hx
        exact hl.own p T m' es x g h1 h2 hg
  · cases hs
end
end Go.Av
namespace Go.Av

section
variable {E : Env} {w0 : World} {V0 : Vis} {T0 : Tch} {Q Q' : Nat → Prop} {s s' : St} {a a' : Act} {w w' : World} {V V' : Vis} {μ μ' : BMap} {γ γ' : GMap}

theorem asAddr_of_load {P : Program} {T : TypeId} {y z : Value} (h : (Instr.loadAt T y).run P w = .ok z w) : (do loadVar T (← asAddr y) : Sem Value).run P w = .ok z w := by
  simp only [Instr.loadAt, Sem.run_bind] at h ⊢
  cases y with
  | pointer p =>
    cases p with
    | some a => simpa [Instr.sureAddr, asAddr] using h
    | none => simp [Instr.sureAddr] at h
  | _ => simp [Instr.sureAddr] at h

def resRun (tmps : Array Value) : ResultVar → Sem Value
  | .tmp t => pure (tmps.getD t undef)
  | .cell a t => do loadVar t (← asAddr (tmps.getD a undef))

theorem result_run (h : SRel E.P Q s a w V μ γ) {r : ResultVar} {v : AVal} (hr : resultF E s r = some v) : plainV v = true ∧ ∃ x, (resRun a.tmps r).run E.P w = .ok x w ∧ Rep3 w V μ v x := by
  cases r with
  | tmp t =>
    obtain ⟨u, h1, rfl⟩ := map_some hr
    obtain ⟨x, h2, h3⟩ := h.tm t u h1
    refine ⟨plain_strip u, x, ?_, h3.read.strip⟩
    simp [resRun, Array.getD_eq_getD_getElem?, h2]
  | cell t T =>
    obtain ⟨p, h1, hr⟩ := bind_some hr
    obtain ⟨u, h2, rfl⟩ := map_some hr
    obtain ⟨y, h3, h4⟩ := h.tm t p h1
    obtain ⟨h5, z, h6, h7⟩ := load_rep h h4.read h2
    refine ⟨plain_strip u, z, ?_, (h6 (.tmp 0)).read.strip⟩
    have : a.tmps.getD t undef = y := by simp [Array.getD_eq_getD_getElem?, h3]
    simp only [resRun, this]
    exact asAddr_of_load h7

theorem results_runs (h : SRel E.P Q s a w V μ γ) : ∀ {rs : List ResultVar} {vs : List AVal}, resultsF E s rs = some vs → (∀ v ∈ vs, plainV v = true ∧ noTup v = true) ∧ ∃ xs, (rs.mapM (resRun a.tmps)).run E.P w = .ok xs w ∧ All2 (Rep3 w V μ) vs xs
  | [], vs, hr => by simp only [resultsF] at hr; injection hr with hr; subst hr; exact ⟨by simp, [], by simp, trivial⟩
  | r :: rs, vs, hr => by
    simp only [resultsF] at hr
    obtain ⟨v, h1, hr⟩ := bind_some hr
    split at hr
    · rename_i hn
      obtain ⟨vs', h2, rfl⟩ := map_some hr
      obtain ⟨k1, x, k2, k3⟩ := result_run h h1
      obtain ⟨k4, xs, k5, k6⟩ := results_runs h h2
      refine ⟨fun u hu => ?_, x :: xs, ?_, k3, k6⟩
      · rcases List.mem_cons.1 hu with rfl | hu
        · exact ⟨k1, hn⟩
        · exact k4 u hu
      · simp only [List.mapM_cons, Sem.run_bind, k2, k5, Result.andThen_ok, Sem.run_pure]
    · cases hr

def packV : List Value → Value
  | [x] => x
  | xs => .tuple xs.toArray
theorem results_eq (fn : Func) (tmps : Array Value) {xs : List Value} {P : Program} (h : (fn.results.toList.mapM (resRun tmps)).run P w = .ok xs w) :
    (results fn tmps).run P w = .ok (packV xs) w := by
  have h1 : (fn.results.mapM (resRun tmps)).run P w = .ok xs.toArray w := by
    rw [Array.mapM_eq_mapM_toList]
    simp only [Sem.run_map, h, Result.andThen_ok]
  have h0 : results fn tmps = (do
    let vs ← fn.results.mapM (resRun tmps)
    pure (if h : vs.size = 1 then vs[0] else .tuple vs)) := rfl
  rw [h0, Sem.run_bind, h1, Result.andThen_ok, Sem.run_pure]
  match xs with
  | [] => rfl
  | [x] => rfl
  | _ :: _ :: _ => rfl

theorem rep2_of {v : AVal} {x : Value} (h : Rep3 w V μ v x) (hn : noTup v = true) : Rep2 w V μ v x := by
  cases v <;> first | exact h | cases hn
theorem pack_rep {vs : List AVal} {xs : List Value} (h : All2 (Rep3 w V μ) vs xs) (hn : ∀ v ∈ vs, plainV v = true ∧ noTup v = true) : plainV (pack vs) = true ∧ Rep3 w V μ (pack vs) (packV xs) := by
  have h2 : All2 (Rep2 w V μ) vs xs := by
    refine All2.of_get h.length fun i c hc => ?_
    obtain ⟨b, hb, hr⟩ := h.get hc
    exact ⟨b, hb, rep2_of hr (hn c (List.mem_of_getElem? hc)).2⟩
  match vs, xs, h, h2 with
  | [v], [x], h, _ => exact ⟨(hn v (by simp)).1, h.1⟩
  | [], [], _, h2 => exact ⟨rfl, _, rfl, h2⟩
  | _ :: _ :: _, _ :: _ :: _, _, h2 => exact ⟨rfl, _, rfl, h2⟩
  | [_], _ :: _ :: _, h, _ => exact h.2.elim
  | _ :: _ :: _, [_], h, _ => exact h.2.elim
  | [], _ :: _, h, _ => exact h.elim
  | _ :: _, [], h, _ => exact h.elim

theorem keep_spec (h : SRel E.P Q s a w V μ γ) {rs : List ResultVar} {v : AVal} (hk : keepF s rs = some v) : ∃ t T es q m x, rs = [.tmp t] ∧ v = .own T 0 es ∧ s.at q = some (.own T m es) ∧ (∀ i off, q ≠ .cell (.par i) off) ∧ a.tmps[t]? = some x ∧ γ q m = some x := by
  unfold keepF at hk
  split at hk
  · rename_i t
    obtain ⟨u, h1, hk⟩ := bind_some hk
    obtain ⟨x, h2, h3⟩ := h.tm t u h1
    cases u <;> simp only at hk <;> try (cases hk; done)
    case own T m es =>
      injection hk with hk
      exact ⟨t, T, es, .tmp t, m, x, rfl, hk.symm, h1, fun _ _ e => (by cases e), h2, h3.2⟩
    case view T n es p =>
      cases p with
      | tmp j =>
        simp only at hk
        obtain ⟨u2, h4, hk⟩ := bind_some hk
        cases u2 <;> simp only at hk <;> try (cases hk; done)
        case own T' n' es' =>
          split at hk
          · rename_i hc
            injection hk with hk9
            obtain ⟨rfl, rfl⟩ := hc
            exact ⟨t, T', es', .tmp j, n', x, rfl, hk9.symm, h4, fun _ _ e => (by cases e), h2, h3.2⟩
          · cases hk
      | cell b off =>
        cases b with
        | par i => cases hk
        | loc k =>
          simp only at hk
          obtain ⟨cs, h4, hk⟩ := bind_some hk
          obtain ⟨u2, h5, hk⟩ := bind_some hk
          cases u2 <;> simp only at hk <;> try (cases hk; done)
          case own T' n' es' =>
            split at hk
            · rename_i hc
              injection hk with hk9
              obtain ⟨rfl, rfl⟩ := hc
              exact ⟨t, T', es', .cell (.loc k) off, n', x, rfl, hk9.symm, by simp [St.at, St.box, h4, h5], fun _ _ e => (by cases e), h2, h3.2⟩
            · cases hk
  · cases hk

def gaF (s : St) (γ : GMap) (x : Value) : GMap := fun p m =>
  if m = 0 then match p with
    | .cell (.par i) off => stampAt s (.cell (.par i) off) γ
    | .tmp _ => some x
    | _ => none
  else none

theorem finish_sim {f : FuncId} {fn : Func} (hfn : E.P.funcs[f]? = some fn) {r : AVal × Heap} (hr : finishF E f s = some r) (hsim : Sim E.P w0 V0 T0 Q s a w) {μ0 : BMap} (hm : ∀ i, μ0 (.par i) = T0.m (.par i)) (hm2 : ∀ k, μ0 (.loc k) = none) :
    ∃ x, (results fn a.tmps).run E.P w = .ok x w ∧ Back E.P w0 V0 T0 μ0 r x w := by
  obtain ⟨hd, V, μ, γ, h, hf, hl⟩ := hsim
  unfold finishF at hr
  obtain ⟨rs, hrs, hr⟩ := bind_some hr
  obtain ⟨v, hv, hr⟩ := bind_some hr
  split at hr
  · rename_i hck
    injection hr with hr
    subst hr
    have hrs' : rs = fn.results.toList := by unfold resOf at hrs; rw [hfn] at hrs; simpa using hrs.symm
    simp only [Bool.and_eq_true] at hck
    obtain ⟨c1, c2⟩ := hck
    have hμ : ∀ i, μ (.par i) = μ0 (.par i) := fun i => (hl.par i).trans (hm i).symm
    have hsub : ∀ b g, isPar b = true → μ b = some g → μ0 b = some g := by
      intro b g hb hg
      cases b with
      | par i => rw [← hμ i]; exact hg
      | loc k => cases hb
    have hsup : ∀ b g, μ0 b = some g → μ b = some g ∧ ∃ i, b = .par i := by
      intro b g hg
      cases b with
      | par i => rw [← hμ i] at hg; exact ⟨hg, i, rfl⟩
      | loc k => rw [hm2] at hg; cases hg
    -- the result
    have hres : ∃ x, (results fn a.tmps).run E.P w = .ok x w ∧ ((plainV v = true ∧ Rep3 w V μ v x) ∨ ∃ T es q m, v = .own T 0 es ∧ s.at q = some (.own T m es) ∧ (∀ i off, q ≠ .cell (.par i) off) ∧ γ q m = some x) := by
      split at hv
      · obtain ⟨t, T, es, q, m, x, k1, k2, k3, k4, k5, k6⟩ := keep_spec h hv
        rw [hrs'] at k1
        refine ⟨x, ?_, .inr ⟨T, es, q, m, k2, k3, k4, k6⟩⟩
        have := results_eq (w := w) (P := E.P) fn a.tmps (xs := [x]) (by
          rw [k1]; simp [resRun, Array.getD_eq_getD_getElem?, k5])
        exact this
      · obtain ⟨vs, h1, rfl⟩ := map_some hv
        obtain ⟨k1, xs, k2, k3⟩ := results_runs h h1
        rw [hrs'] at k2
        obtain ⟨k4, k5⟩ := pack_rep k3 k1
        exact ⟨_, results_eq fn a.tmps k2, .inl ⟨k4, k5⟩⟩
    obtain ⟨x, hx, hres⟩ := hres
    refine ⟨x, hx, V, gaF s γ x, ⟨#[x], []⟩, rfl, ?_, hf, ?_, hres.imp (fun h => h.1) (fun ⟨T, es, q, m, e, _⟩ => ⟨T, 0, es, e⟩)⟩
    all_goals
      have gbox : ∀ b cs, (retSt v (s.pb.map (·.map stampH))).box b = some cs → ∃ i u, b = .par i ∧ s.box b = some u ∧ cs = u.map stampH ∧ ∀ c ∈ u, ∀ m ∈ names1 c, isPar m = true := by
        intro b cs hcs
        cases b with
        | loc k => simp [retSt, St.box, alGet] at hcs
        | par i =>
          simp only [retSt, St.box, List.getElem?_map] at hcs
          obtain ⟨u, h1, h2⟩ := map_some hcs
          exact ⟨i, u, rfl, h1, h2.symm, fun c hc m hm => List.all_eq_true.1 (List.all_eq_true.1 c2 u (List.mem_of_getElem? h1)) m (List.mem_flatMap.2 ⟨c, hc, hm⟩)⟩
      have gat : ∀ p T m es y, (retSt v (s.pb.map (·.map stampH))).at p = some (.own T m es) → gaF s γ x p m = some y →
          ∃ q m', s.at q = some (.own T m' es) ∧ γ q m' = some y ∧ ((∃ i off, p = .cell (.par i) off ∧ q = p) ∨ (p = .tmp 0 ∧ ∀ i off, q ≠ .cell (.par i) off)) := by
        intro p T m es y hp hy
        cases p with
        | tmp k =>
          simp only [retSt, St.at, alGet] at hp
          split at hp
          · rename_i hk
            subst hk
            injection hp with hp
            rcases hres with ⟨hpl, _⟩ | ⟨T', es', q, m', e, k1, k2, k3⟩
            · rw [hp] at hpl; cases hpl
            · rw [hp] at e
              injection e with e1 e2 e3
              subst e1 e2 e3
              refine ⟨q, m', k1, ?_, .inr ⟨rfl, k2⟩⟩
              have : x = y := by simpa [gaF] using hy
              rw [← this]; exact k3
          · cases hp
        | cell b off =>
          simp only [St.at] at hp
          obtain ⟨cs, h1, h2⟩ := bind_some hp
          obtain ⟨i, u, rfl, h3, rfl, _⟩ := gbox b cs h1
          rw [List.getElem?_map] at h2
          obtain ⟨c, h4, h5⟩ := map_some h2
          obtain ⟨rfl, m', rfl⟩ := stampH_own h5
          have hat : s.at (.cell (.par i) off) = some (.own T m' es) := by simp [St.at, h3, h4]
          refine ⟨_, m', hat, ?_, .inl ⟨i, off, rfl, rfl⟩⟩
          simpa [gaF, stampAt, hat] using hy
    · refine { tm := ?_, bx := ?_, dom := ?_, inj := ?_, visb := ?_, vis := h.vis, ow := ?_, ow2 := ?_, gq := fun _ _ _ => trivial }
      · intro k u hu
        simp only [retSt, alGet] at hu
        split at hu
        · rename_i hk
          subst hk
          injection hu with hu
          subst hu
          refine ⟨x, by simp, ?_⟩
          rcases hres with ⟨hpl, hr3⟩ | ⟨T', es', q, m', e, k1, k2, k3⟩
          · exact (hr3.sub fun b hb g hg => hsub b g (List.all_eq_true.1 c1 b hb) hg).repS hpl
          · subst e
            obtain ⟨y, hy, ho⟩ := h.conc_own k1
            rw [k3] at hy; injection hy with hy; subst hy
            exact ⟨ho, by simp [gaF]⟩
        · cases hu
      · intro b cs hcs
        obtain ⟨i, u, rfl, h1, rfl, hnm⟩ := gbox b cs hcs
        obtain ⟨g, T, cur, h2, h3, h4, h5⟩ := h.bx _ u h1
        refine ⟨g, T, cur, hsub _ g rfl h2, h3, by simpa using h4, fun j c hc => ?_⟩
        rw [List.getElem?_map] at hc
        obtain ⟨c0, h6, rfl⟩ := map_some hc
        obtain ⟨y, h7, h8⟩ := h5 j c0 h6
        refine ⟨y, h7, h8.head (fun m hm g' hg' => hsub m g' (hnm c0 (List.mem_of_getElem? h6) m (by cases c0 <;> first | exact hm | (simp [stampH, strip1, names1] at hm))) hg') fun T' m es e => ?_⟩
        subst e
        have hat : s.at (.cell (.par i) j) = some (.own T' m es) := by simp [St.at, h1, h6]
        simp [gaF, stampAt, hat]
      · intro b g hb
        obtain ⟨hb, i, rfl⟩ := hsup b g hb
        obtain ⟨cs, h1⟩ := h.dom _ g hb
        refine ⟨cs.map stampH, ?_⟩
        simp only [retSt, St.box] at h1 ⊢
        rw [List.getElem?_map, h1]; rfl
      · intro b b' g hb hb'
        exact h.inj b b' g (hsup b g hb).1 (hsup b' g hb').1
      · intro b g hb
        exact h.visb b g (hsup b g hb).1
      · intro p T m es y g hp hy hg
        obtain ⟨q, m', h1, h2, _⟩ := gat p T m es y hp hy
        obtain ⟨h3, h4⟩ := h.ow q T m' es y g h1 h2 hg
        exact ⟨fun b hb => h3 b (hsup b g hb).1, h4⟩
      · intro p p' T m es T' m' es' y y' g hp hp' hy hy' hg hg'
        obtain ⟨q, m1, h1, h2, h3⟩ := gat p T m es y hp hy
        obtain ⟨q', m2, h4, h5, h6⟩ := gat p' T' m' es' y' hp' hy'
        have e := h.ow2 q q' T m1 es T' m2 es' y y' g h1 h4 h2 h5 hg hg'
        subst e
        rcases h3 with ⟨i, off, rfl, rfl⟩ | ⟨rfl, h3⟩
        · rcases h6 with ⟨i', off', rfl, e⟩ | ⟨rfl, h6⟩
          · exact e
          · exact absurd rfl (h6 i off)
        · rcases h6 with ⟨i', off', rfl, rfl⟩ | ⟨rfl, h6⟩
          · exact absurd rfl (h3 i' off')
          · rfl
    · refine ⟨fun b g hb => hl.box b g (hsup b g hb).1, hm, fun p T m es y g hp hy hg => ?_⟩
      obtain ⟨q, m', h1, h2, _⟩ := gat p T m es y hp hy
      exact hl.own q T m' es y g h1 h2 hg
  · cases hr
end
end Go.Av
namespace Go.Av
/-! an array becomes a list for good -/
theorem alDel_get {α : Type} (l : List (Nat × α)) (k j : Nat) : alGet (alDel l k) j = if k = j then none else alGet l j := by
  induction l with
  | nil => simp [alDel, alGet]
  | cons x r ih =>
    obtain ⟨i, u⟩ := x
    by_cases h : i = k
    · subst h
      simp only [alDel, if_true, ih, alGet]
      by_cases h2 : i = j <;> simp [h2]
    · simp only [alDel, h, if_false, alGet, ih]
      by_cases h2 : i = j
      · subst h2; simp [Ne.symm h]
      · simp [h2]
theorem dropRefs_get {b : BName} : ∀ {l : List (Nat × AVal)} {k : Nat} {v : AVal}, alGet (dropRefs b l) k = some v → alGet l k = some v ∧ b ∉ names v
  | [], _, _, h => by cases h
  | (i, u) :: r, k, v, h => by
    simp only [dropRefs] at h
    split at h
    · rw [alDel_get] at h
      split at h
      · cases h
      · rename_i hc hne
        obtain ⟨h1, h2⟩ := dropRefs_get h
        exact ⟨by simp only [alGet, hne, if_false]; exact h1, h2⟩
    · rename_i hc
      simp only [alGet] at h ⊢
      split at h
      · rename_i he
        injection h with h; subst h
        exact ⟨by simp [he], by simpa using hc⟩
      · rename_i he
        obtain ⟨h1, h2⟩ := dropRefs_get h
        exact ⟨by simp only [he, if_false]; exact h1, h2⟩
section
variable {E : Env} {w0 : World} {V0 : Vis} {T0 : Tch} {Q Q' : Nat → Prop} {s s' : St} {a : Act} {w : World} {V V' : Vis} {μ μ' : BMap} {γ γ' : GMap}
theorem RepS.sub {P : Program} {p : Place} {v : AVal} {x : Value} (h : RepS P w V μ γ p v x) (hs : ∀ b ∈ names v, ∀ g, μ b = some g → μ' b = some g) : RepS P w V μ' γ p v x := by
  cases v with
  | own => exact h
  | dead => exact h
  | view => exact h
  | full => exact h
  | int k n => exact Rep3.sub (w := w) (V := V) (c := .int k n) h hs
  | bool b => exact Rep3.sub (w := w) (V := V) (c := .bool b) h hs
  | str t => exact Rep3.sub (w := w) (V := V) (c := .str t) h hs
  | agg cs => exact Rep3.sub (w := w) (V := V) (c := .agg cs) h hs
  | tup vs => exact Rep3.sub (w := w) (V := V) (c := .tup vs) h hs
  | slice es => exact Rep3.sub (w := w) (V := V) (c := .slice es) h hs
  | ptr b o => exact Rep3.sub (w := w) (V := V) (c := .ptr b o) h hs
  | pel e o => exact Rep3.sub (w := w) (V := V) (c := .pel e o) h hs
  | nilp => exact Rep3.sub (w := w) (V := V) (c := .nilp) h hs
  | func f p q => exact Rep3.sub (w := w) (V := V) (c := .func f p q) h hs
  | nilf => exact Rep3.sub (w := w) (V := V) (c := .nilf) h hs
  | pmap => exact h
  | nilm => exact h
  | mview => exact h
  | opaq => exact h
theorem RepB.sub {P : Program} {p : Place} {c : AVal} {x : Value} (h : RepB P w V μ γ p c x) (hs : ∀ b ∈ names1 c, ∀ g, μ b = some g → μ' b = some g) : RepB P w V μ' γ p c x := by
  cases c with
  | own => exact h
  | dead => exact h
  | int k n => exact Rep1.sub (w := w) (V := V) (c := .int k n) h hs
  | bool b => exact Rep1.sub (w := w) (V := V) (c := .bool b) h hs
  | str t => exact Rep1.sub (w := w) (V := V) (c := .str t) h hs
  | agg cs => exact absurd h (by simp [RepB, Rep1, RepP])
  | tup vs => exact absurd h (by simp [RepB, Rep1, RepP])
  | slice es => exact Rep1.sub (w := w) (V := V) (c := .slice es) h hs
  | full es => exact absurd h (by simp [RepB, Rep1, RepP])
  | view T n es q => exact absurd h (by simp [RepB, Rep1, RepP])
  | ptr b o => exact Rep1.sub (w := w) (V := V) (c := .ptr b o) h hs
  | pel e o => exact Rep1.sub (w := w) (V := V) (c := .pel e o) h hs
  | nilp => exact Rep1.sub (w := w) (V := V) (c := .nilp) h hs
  | func f p q => exact Rep1.sub (w := w) (V := V) (c := .func f p q) h hs
  | nilf => exact Rep1.sub (w := w) (V := V) (c := .nilf) h hs
  | pmap => exact h
  | nilm => exact h
  | mview n q => exact absurd h (by simp [RepB, Rep1, RepP])
  | opaq => exact h
theorem pure_repP {c : AVal} {x : Value} (h : Rep1 w V μ c x) (hp : pure1 c = true) : RepP w V c x := by
  cases c <;> first | exact h | cases hp
/-- the cells of a box, cut into elements -/
theorem chunks_row {g size : Nat} (hpos : 0 < size) {t : Bool} (ht : t = true ∨ size = 1) : ∀ (n o : Nat) (cs : List AVal), cs.length = n * size →
    (∀ i c, cs[i]? = some c → V g (o + i) ∧ ∃ x, w.cell? ⟨g, o + i, none⟩ = some x ∧ RepP w V c x) → (t = false → ∀ c ∈ cs, ∀ l, c ≠ .agg l) → RowP w V size g o (chunks t size n cs) ∧ (chunks t size n cs).length = n
  | 0, o, cs, _, _, _ => by simp [chunks, RowP]
  | n + 1, o, cs, hl, hc, hna => by
    rw [Nat.succ_mul] at hl
    have ih := chunks_row hpos ht n (o + size) (cs.drop size) (by rw [List.length_drop]; omega) (fun i c hi => by
      rw [List.getElem?_drop] at hi
      have := hc (size + i) c hi
      rw [← Nat.add_assoc] at this
      exact this) (fun h c hm => hna h c (List.mem_of_mem_drop hm))
    simp only [chunks]
    refine ⟨?_, by simp [ih.2]⟩
    rw [RowP_cons]
    refine ⟨?_, ih.1⟩
    have cells : ∀ (l : List AVal) (o' : Nat), (∀ i c, l[i]? = some c → V g (o' + i) ∧ ∃ x, w.cell? ⟨g, o' + i, none⟩ = some x ∧ RepP w V c x) → CellsP w V g o' l := by
      intro l
      induction l with
      | nil => intro o' _; simp [CellsP]
      | cons c l ihl =>
        intro o' h
        simp only [CellsP]
        refine ⟨by simpa using h 0 c rfl, ihl (o' + 1) fun i c' hi => ?_⟩
        have := h (i + 1) c' (by simpa using hi)
        rw [show o' + 1 + i = o' + (i + 1) by omega]; exact this
    cases t with
    | true =>
      simp only [if_true, cellsOf]
      exact ⟨by rw [List.length_take]; omega, cells _ o fun i c hi => hc i c (by
        rw [List.getElem?_take] at hi
        split at hi
        · exact hi
        · cases hi)⟩
    | false =>
      have hs1 : size = 1 := by rcases ht with h | h; · cases h
                                exact h
      subst hs1
      simp only [Bool.false_eq_true, if_false]
      cases cs with
      | nil => simp at hl
      | cons c r =>
        simp only [List.headD_cons]
        have hcell : cellsOf c = [c] := by
          cases c <;> first | rfl | exact absurd rfl (hna rfl _ (List.mem_cons_self ..) _)
        rw [hcell]
        exact ⟨rfl, cells [c] o fun i c' hi => hc i c' (by
          cases i with
          | zero => simpa using hi
          | succ i => simp at hi)⟩
theorem noRefs_mem {b : BName} {cs : List AVal} (h : noRefs b cs = true) : ∀ c ∈ cs, b ∉ names1 c := by
  intro c hc hb
  simp only [noRefs, Bool.not_eq_true', List.contains_eq_mem, decide_eq_false_iff_not] at h
  exact h (List.mem_flatMap.2 ⟨c, hc, hb⟩)
theorem alPut_put {α : Type} : ∀ (l : List (Nat × α)) (k : Nat) (u v : α), alPut (alPut l k u) k v = alPut l k v
  | [], k, u, v => by simp [alPut]
  | (i, x) :: r, k, u, v => by
    by_cases h : i = k
    · simp [alPut, h]
    · simp [alPut, h, alPut_put r k u v]
theorem put_same {k : Nat} {x : Value} (h : a.tmps[k]? = some x) : a.put (some k) x = a := by
  have : a.tmps.setIfInBounds k x = a.tmps := by
    apply Array.ext_getElem?
    intro j
    by_cases hj : k = j
    · subst hj
      rw [Array.getElem?_setIfInBounds_self, if_pos (Array.getElem?_eq_some_iff.1 h).1, h]
    · rw [Array.getElem?_setIfInBounds_ne hj]
  simp only [Act.put, this]
/-- a map that its owner will not change any more -/
theorem frzMap_sim {k n : Nat} {es : List AVal} (hk : alGet s.tm k = some (.own mapT n es)) (h : Sim E.P w0 V0 T0 Q s a w) : Sim E.P w0 V0 T0 Q (s.put k (.pmap es)) a w := by
  obtain ⟨hd, V, μ, γ, hr, hf, hl⟩ := h
  obtain ⟨x, hx, hrx⟩ := hr.tm _ _ hk
  obtain ⟨hT, g, ents, cl, rfl, hh, he⟩ := hrx.1.toM
  obtain ⟨_, hfa⟩ := own_facts hr hl hk
  have hev : a.eval (.tmp k) = .map (some g) := by simp [Act.eval, Array.getD_eq_getD_getElem?, hx]
  obtain ⟨f1, f2, f3, f4⟩ := hfa g (by rw [hev]; rfl)
  let V' : Vis := fun x o => V x o ∨ x = g
  have hk' : Keeps w V w V' := fun x o h => ⟨.inl h, .refl _ _ _⟩
  have h1 : SRel E.P Q (s.put k (deadV mapT n es)) a w V' μ γ := by
    refine (hr.demote hk).world hk' (fun _ _ _ => rfl) (fun _ _ _ _ _ _ _ _ _ => rfl) (fun x o hv => ?_) (fun x o hv => ?_)
    · rcases hv with hv | rfl
      · exact .inl hv
      · exact .inr ⟨f1, f3⟩
    · rcases hv with hv | rfl
      · exact hr.vis x o hv
      · exact (Array.getElem?_eq_some_iff.1 hh).1
  have hf1 : Fr w0 V0 T0 w V' := hf.vis (fun x o => .inl) fun x o hv => by
    rcases hv with hv | rfl
    · exact .inl hv
    · exact .inr f4.symm
  have hlt := (Array.getElem?_eq_some_iff.1 hx).1
  have := sim_put (v := .pmap es) (x := .map (some g)) (dst := some k) (Q' := Q) hd h1 hf1 (Loc.demote hl) (fun _ h => h) (fun j e => by injection e with e; subst e; exact hlt) rfl ⟨g, ents, cl, rfl, .inr rfl, hh, he.keep hk'⟩
  rw [put_same hx] at this
  have e : (s.put k (deadV mapT n es)).putD (some k) (.pmap es) = s.put k (.pmap es) := by simp only [St.putD, St.put, alPut_put]
  rwa [e] at this
theorem frz1_sim {k : Nat} {T : TypeId} (hs : frz1 E s k T = some s') (h : Sim E.P w0 V0 T0 Q s a w) : Sim E.P w0 V0 T0 Q s' a w ∧ s'.ver = s.ver := by
  unfold frz1 at hs
  obtain ⟨v, hk, hs⟩ := bind_some hs
  split at hs
  · rename_i j off
    obtain ⟨cs, hcs, hs⟩ := bind_some hs
    obtain ⟨e, he, hs⟩ := bind_some hs
    obtain ⟨t, htg, hs⟩ := bind_some hs
    split at hs
    · rename_i hcnd
      obtain ⟨c1, c2, c3, c4, c5, c6, c7⟩ := hcnd
      injection hs with hs; subst hs
      refine ⟨?_, rfl⟩
      obtain ⟨hd, V, μ, γ, hr, hf, hl⟩ := h
      have hbox : s.box (.loc j) = some cs := hcs
      obtain ⟨g, U, cur, hg, hheap, hsz, hcells⟩ := hr.bx _ _ hbox
      let μ' : BMap := fun b => if b = .loc j then none else μ b
      let V' : Vis := fun x o => V x o ∨ (x = g ∧ o < cs.length)
      have hVV : ∀ x o, V x o → V' x o := fun x o h => .inl h
      have hk' : Keeps w V w V' := fun x o h => ⟨.inl h, .refl _ _ _⟩
      have hμ : ∀ b x, μ' b = some x → b ≠ .loc j ∧ μ b = some x := by
        intro b x hb
        by_cases hj : b = .loc j
        · simp [μ', hj] at hb
        · simp only [μ', hj, if_false] at hb; exact ⟨hj, hb⟩
      have hsub : ∀ l : List BName, .loc j ∉ l → ∀ b ∈ l, ∀ x, μ b = some x → μ' b = some x := by
        intro l hn b hb x hx
        have : b ≠ .loc j := fun e => hn (e ▸ hb)
        simp only [μ', this, if_false]; exact hx
      have gbox : ∀ b cs', ({ s with tm := alPut (dropRefs (.loc j) s.tm) k (.slice (chunks t (tsize E.P e) (off - bsBase) (cs.map Av.strip1))), lb := alDel s.lb j } : St).box b = some cs' → b ≠ .loc j ∧ s.box b = some cs' ∧ ∀ c ∈ cs', .loc j ∉ names1 c := by
        intro b cs' hb
        cases b with
        | par i =>
          simp only [St.box] at hb ⊢
          exact ⟨(fun e => by cases e), hb, noRefs_mem (List.all_eq_true.1 c6 cs' (List.mem_of_getElem? hb))⟩
        | loc i =>
          simp only [St.box] at hb ⊢
          have hm := alGet_mem hb
          rw [alDel_get] at hb
          split at hb
          · cases hb
          · rename_i hne
            exact ⟨(fun e => by injection e with e; exact hne e.symm), hb, noRefs_mem (List.all_eq_true.1 c7 _ hm)⟩
      have gat : ∀ p T' m es, ({ s with tm := alPut (dropRefs (.loc j) s.tm) k (.slice (chunks t (tsize E.P e) (off - bsBase) (cs.map Av.strip1))), lb := alDel s.lb j } : St).at p = some (.own T' m es) → s.at p = some (.own T' m es) := by
        intro p T' m es hp
        cases p with
        | tmp i =>
          simp only [St.at, alGet_put] at hp ⊢
          split at hp
          · cases hp
          · exact (dropRefs_get hp).1
        | cell b o =>
          simp only [St.at] at hp ⊢
          obtain ⟨cs', h1, h2⟩ := bind_some hp
          rw [(gbox b cs' h1).2.1, Option.bind_some]; exact h2
      have elem : RowP w V' (tsize E.P e) g 0 (chunks t (tsize E.P e) (off - bsBase) (cs.map Av.strip1)) ∧ (chunks t (tsize E.P e) (off - bsBase) (cs.map Av.strip1)).length = off - bsBase := by
        refine chunks_row c2 c4 _ 0 _ (by rw [List.length_map]; exact c3) (fun i c hi => ?_) (fun _ c hc l e => ?_)
        · rw [List.getElem?_map] at hi
          obtain ⟨c0, h1, rfl⟩ := map_some hi
          obtain ⟨x, hx, hrx⟩ := hcells i c0 h1
          have hlt := (List.getElem?_eq_some_iff.1 h1).1
          rw [Nat.zero_add]
          refine ⟨.inr ⟨rfl, hlt⟩, x, by rw [box_cell hheap]; exact hx, ?_⟩
          have hp : pure1 (Av.strip1 c0) = true := List.all_eq_true.1 c5 _ (List.mem_map_of_mem (List.mem_of_getElem? h1))
          exact (pure_repP hrx.strip1 hp).keep hk'
        · have := List.all_eq_true.1 c5 c hc
          rw [e] at this; cases this
      refine ⟨hd, V', μ', γ, ?_, ?_, ?_⟩
      · constructor
        · intro i u hi
          simp only [alGet_put] at hi
          split at hi
          · rename_i hik
            subst hik
            injection hi with hi; subst hi
            obtain ⟨x, hx, hrx⟩ := hr.tm _ _ hk
            refine ⟨x, hx, ?_⟩
            obtain ⟨g', hg', hxe⟩ := (show ∃ g', μ (.loc j) = some g' ∧ x = ptrV g' off from hrx)
            rw [hg] at hg'; injection hg' with hg'; subst hg'
            rw [ptrV_ge c1] at hxe
            show RepP w V' (.slice _) x
            simp only [RepP]
            rw [elem.2]
            have e1 := elem.1
            generalize off - bsBase = m at hxe e1 ⊢
            exact ⟨some ⟨g, 0, none⟩, m, hxe, Nat.le_refl m, .inr ⟨g, 0, tsize E.P e, rfl, c2, e1⟩⟩
          · obtain ⟨h1, h2⟩ := dropRefs_get hi
            obtain ⟨x, hx, hrx⟩ := hr.tm _ _ h1
            exact ⟨x, hx, (hrx.sub (hsub _ h2)).keep hk' (BLe.refl _) (GLe.refl _) (fun _ _ _ _ _ _ => rfl)⟩
        · intro b cs' hb
          obtain ⟨h1, h2, h3⟩ := gbox b cs' hb
          obtain ⟨g', U', cur', hg', hh, hz, hc⟩ := hr.bx b cs' h2
          refine ⟨g', U', cur', by simp only [μ', h1, if_false]; exact hg', hh, hz, fun i c hi => ?_⟩
          obtain ⟨x, hx, hrx⟩ := hc i c hi
          exact ⟨x, hx, (hrx.sub (hsub _ (h3 c (List.mem_of_getElem? hi)))).keep hk' (BLe.refl _) (GLe.refl _) (fun _ _ _ _ _ _ => rfl)⟩
        · intro b x hb
          obtain ⟨h1, h2⟩ := hμ b x hb
          obtain ⟨cs', h3⟩ := hr.dom b x h2
          cases b with
          | par i => exact ⟨cs', h3⟩
          | loc i =>
            refine ⟨cs', ?_⟩
            simp only [St.box] at h3 ⊢
            rw [alDel_get, if_neg (fun e => h1 (by rw [e]))]; exact h3
        · exact fun b b' x hb hb' => hr.inj b b' x (hμ b x hb).2 (hμ b' x hb').2
        · rintro b x hb o (hv | ⟨rfl, _⟩)
          · exact hr.visb b x (hμ b x hb).2 o hv
          · exact (hμ b x hb).1 (hr.inj b (.loc j) x (hμ b x hb).2 hg)
        · rintro x o (hv | ⟨rfl, _⟩)
          · exact hr.vis x o hv
          · exact box_lt hr hg
        · intro p T' m es x g' hp hx hgx
          obtain ⟨h1, h2⟩ := hr.ow p T' m es x g' (gat p T' m es hp) hx hgx
          refine ⟨fun b hb => h1 b (hμ b _ hb).2, ?_⟩
          rintro o (hv | ⟨rfl, _⟩)
          · exact h2 o hv
          · exact absurd hg (h1 (.loc j))
        · exact fun p p' T' m es T'' m' es' x x' g' hp hp' => hr.ow2 p p' T' m es T'' m' es' x x' g' (gat _ _ _ _ hp) (gat _ _ _ _ hp')
        · exact hr.gq
      · exact hf.vis hVV fun x o hv => by
          rcases hv with hv | ⟨rfl, _⟩
          · exact .inl hv
          · rcases hl.box _ _ hg with h | h
            · exact .inr (.inr h)
            · exact .inr (.inl h)
      · constructor
        · exact fun b x hb => hl.box b x (hμ b x hb).2
        · intro i
          have : BName.par i ≠ .loc j := by intro e; cases e
          simp only [μ', this, if_false]; exact hl.par i
        · exact fun p T' m es x g' hp => hl.own p T' m es x g' (gat p T' m es hp)
    · cases hs
  · split at hs
    · rename_i hU
      injection hs with hs; subst hs; subst hU
      exact ⟨frzMap_sim hk h, rfl⟩
    · cases hs
  · injection hs with hs; subst hs
    exact ⟨h, rfl⟩
  · cases hs
theorem frzAll_sim : ∀ {l : List (Nat × TypeId)} {s s' : St}, frzAll E l s = some s' → Sim E.P w0 V0 T0 Q s a w → Sim E.P w0 V0 T0 Q s' a w ∧ s'.ver = s.ver
  | [], s, s', hs, h => by simp only [frzAll] at hs; injection hs with hs; subst hs; exact ⟨h, rfl⟩
  | (k, T) :: r, s, s', hs, h => by
    simp only [frzAll] at hs
    obtain ⟨s1, h1, hs⟩ := bind_some hs
    obtain ⟨h2, h3⟩ := frz1_sim h1 h
    obtain ⟨h4, h5⟩ := frzAll_sim hs h2
    exact ⟨h4, h5.trans h3⟩
theorem frzF_sim {f : FuncId} {id : Nat} {N : Nat} (hs : frzF E f id s = some s') (h : SimN E.P w0 V0 T0 N s.ver s a w) : SimN E.P w0 V0 T0 N s'.ver s' a w := by
  unfold frzF at hs
  split at hs
  · injection hs with hs; subst hs; exact h
  · obtain ⟨h1, h2⟩ := frzAll_sim hs h.1
    rw [h2]; exact ⟨h1, h.2⟩
end
end Go.Av
namespace Go.Av
/-! a list with more behind it, lent to one callee -/
/-- what an append makes of the world -/
structure Ap (w : World) (V : Vis) (x : Value) (T : TypeId) (es : List AVal) (r : Value) (w1 : World) (V1 : Vis) : Prop where
  os : w1.os = w.os
  tape : w1.tape = w.tape
  output : w1.output = w.output
  size : w.heap.size ≤ w1.heap.size
  keep : Keeps w V w1 V1
  rep : RepP w1 V1 (.slice es) r
  heap : ∀ g : Nat, g < w.heap.size → w1.heap[g]? = w.heap[g]? ∨ (ownBlock x = some g ∧ ∃ cur cur', w.heap[g]? = some (.cells cur T (0, 0)) ∧ w1.heap[g]? = some (.cells cur' T (0, 0)) ∧ cur'.size = cur.size)
  vis : ∀ g o, V1 g o → g < w1.heap.size

section
variable {E : Env} {w0 : World} {V0 : Vis} {T0 : Tch} {Q Q' : Nat → Prop} {s s' s1 : St} {a : Act} {w w1 w' : World} {V V1 V' : Vis} {μ μ' : BMap} {γ γ' : GMap}

theorem ap_spec (h : SRel E.P Q s a w V μ γ) (hl : Loc w0 T0 s μ γ) {o : Oper} {x y : Operand} {t t2 T : TypeId} (ho : o.op = .call { callee := .builtin .append, args := #[x, y], argTypes := #[t, t2] }) (hte : telem E.P t = some T) {v : AVal} (hv : rd s y = some v)
    {news : List AVal} (hnews : newsF E (some t2) v = some news) {es : List AVal} {fl : Bool} (how : ownerF s T x = some (es, s1, fl)) (c1 : es.length + news.length ≤ appMax) (c2 : esOK (tsize E.P T) news = true) (c3 : E.P.bytesOf T ≤ 32768) (c4 : tzero E.P T = some (tsize E.P T))
    (c5 : (fl && news.isEmpty) = false) (c6 : (fl && !esOK (tsize E.P T) es) = false) :
    ∃ r w1 V1, (execOp a.eval o).run E.P w = .ok (.value r) w1 ∧ Ap w V (a.eval x) T (es ++ news) r w1 V1 ∧ ∀ g : Nat, g < w.heap.size → w1.heap[g]? = w.heap[g]? ∨ ((∀ b, μ b ≠ some g) ∧ (T0 g ∨ w0.heap.size ≤ g)) := by
  unfold tsize at c2 c4 c6
  have hpos : 0 < E.P.cellsOf T := by unfold esOK at c2; simp only [Bool.and_eq_true, decide_eq_true_eq] at c2; exact c2.1
  obtain ⟨i, hi, hisz⟩ := info_of_cells (P := E.P) (t := T) (by omega)
  obtain ⟨z, hz0, hzs⟩ := map_some c4
  rw [hi, Option.bind_some] at hz0
  have hby : i.bytes ≤ 32768 := by unfold Program.bytesOf at c3; rw [hi] at c3; simpa using c3
  obtain ⟨_, d, ht2, hud, hnd, hlen, nvs, hnv, hnf⟩ := news_cases h hv hnews c2
  injection ht2 with ht2; subst ht2
  have hTm := telem_ne hte
  obtain ⟨h1, hl1, hcase⟩ := owner_cases h hl hTm how
  unfold appMax at c1
  have hexec : ∀ r w', (Builtin.append_ #[t, t2] o.type #[a.eval x, a.eval y]).run E.P w = .ok r w' → (execOp a.eval o).run E.P w = .ok (.value r) w' := by
    intro r w' hr
    simp [execOp, ho, resolve, invoke, builtin, hr]
  have hfit : ∀ c, c < es.length + news.length → Builtin.nextslicecap (es.length + news.length) c * i.bytes ≤ 281474976710656 := fun c hc =>
    growslice_fits hc (Nat.le_trans (Nat.mul_le_mul c1 hby) (by decide))
  have grow : ∀ A c vs, a.eval x = .slice A es.length c → c < es.length + news.length → RowV w V (E.P.cellsOf T) es vs → (∀ w2 : World, w2.heap = w.heap → (Builtin.firstCells (E.P.cellsOf T) es.length (.slice A es.length c)).run E.P w2 = .ok vs.toArray w2) →
      ∃ r w1 V1, (execOp a.eval o).run E.P w = .ok (.value r) w1 ∧ Ap w V (a.eval x) T (es ++ news) r w1 V1 ∧ ∀ g : Nat, g < w.heap.size → w1.heap[g]? = w.heap[g]? ∨ ((∀ b, μ b ≠ some g) ∧ (T0 g ∨ w0.heap.size ≤ g)) := by
    intro A c vs hx hlt hvs hfc
    have hr := run_append_grow' (P := E.P) (w := w) (ty := o.type) (telem_some hte) hud hnd hi hz0 (A := A) (sLen := es.length) (sCap := c) (m := news.length) (x := a.eval y) (olds := vs) (news := nvs) hlen
      (by rw [hisz]; exact hfc _ rfl) (by rw [hisz]; exact hnf _ rfl) hlt (by omega) (hfit c hlt)
    rw [← hx] at hr
    have hge := grownCap_ge' w (es.length + news.length) c T
    have hlv := hvs.length
    have hln := hnv.length
    let V1 : Vis := fun g o => V g o ∨ (g = w.heap.size ∧ o < (es ++ news).length * E.P.cellsOf T)
    have hdr : w.drew.heap = w.heap := rfl
    refine ⟨_, _, V1, hexec _ _ hr, ?_, fun g hg => .inl (by rw [alloc_get (by exact hg)]; rfl)⟩
    generalize hcells : (vs.toArray ++ nvs.toArray ++ Builtin.zeroCells z.cells (grownCap w (es.length + news.length) c T - (es.length + news.length))) = cells
    have hkeep : Keeps w V (w.drew.alloc (.cells cells T)) V1 := fun g o hg => ⟨.inl hg, .of (by rw [alloc_get (by exact h.vis g o hg)]; rfl)⟩
    refine { os := rfl, tape := rfl, output := rfl, size := by simp, keep := hkeep, rep := ?_, heap := fun g hg => .inl (by rw [alloc_get (by exact hg)]; rfl), vis := ?_ }
    · have hvn := RowV.keep hkeep (hvs.append hnv)
      have hrow : RowP (w.drew.alloc (.cells cells T)) V1 (E.P.cellsOf T) w.heap.size 0 (es ++ news) := by
        refine row_of_vals hvn (fun j hj => .inr ⟨rfl, by have := hvn.length; rw [this] at hj; omega⟩) (fun j u hj => ?_)
        have hh : (w.drew.alloc (.cells cells T)).heap[w.heap.size]? = some (.cells cells T (0, 0)) := alloc_new (w := w.drew)
        rw [Nat.zero_add, box_cell hh, ← hcells]
        have hlt2 : j < (vs ++ nvs).length := (List.getElem?_eq_some_iff.1 hj).1
        rw [Array.getElem?_append_left (by simpa using hlt2)]
        simpa using hj
      simp only [RepP]
      exact ⟨_, _, by rw [List.length_append], by rw [List.length_append]; exact hge, .inr ⟨w.heap.size, 0, E.P.cellsOf T, rfl, hpos, hrow⟩⟩
    · rintro g o (hv | ⟨rfl, _⟩)
      · have := h.vis g o hv; simp; omega
      · simp
  rcases hcase with ⟨rfl, hr1, A, hx⟩ | ⟨rfl, hown, hblk⟩
  · simp only [Bool.true_and, Bool.not_eq_false'] at c5 c6
    obtain ⟨vs, hvs, hfc⟩ := full_vals (E := E) (T := T) hr1 hx c6
    have hne : 0 < news.length := by
      cases news with
      | nil => simp at c5
      | cons _ _ => simp
    exact grow A es.length vs hx (by omega) hvs hfc
  · obtain ⟨A, c, hx, hcap, vs, hvs, hfc⟩ := own_vals hTm hown
    by_cases hroom : es.length + news.length ≤ c
    · rcases hown.toS hTm with ⟨rfl, hxn⟩ | ⟨g, c', cur, hxr, _, hheap, hcsz, _, hrow⟩
      · rw [hxn] at hx
        injection hx with e1 e2 e3
        subst e3; subst e1
        have hnil : news = [] := List.eq_nil_of_length_eq_zero (by simp only [List.length_nil] at hroom; omega)
        subst hnil
        have hr := run_append_room' (P := E.P) (w := w) (w' := w) (ty := o.type) (telem_some hte) hud hnd hi (A := none) (sLen := 0) (sCap := 0) (m := 0) (x := a.eval y) (news := nvs) hlen
          (by rw [hisz]; exact hnf _ rfl) (by omega) (fun _ e => by cases e) (fun _ => rfl)
        rw [← hxn] at hr
        refine ⟨_, _, V, hexec _ _ hr, ?_, fun g _ => .inl rfl⟩
        refine { os := rfl, tape := rfl, output := rfl, size := Nat.le_refl _, keep := .refl _ _, rep := ?_, heap := fun g _ => .inl rfl, vis := h.vis }
        rw [hxn]
        simp only [RepP]
        exact ⟨none, 0, rfl, Nat.le_refl _, .inl rfl⟩
      · rw [hxr] at hx
        injection hx with e1 e2 e3
        subst e3; subst e1
        have hln := hnv.length
        obtain ⟨w', cur', hst, hob, hheap', hsz', hcur'⟩ := run_storeCells (P := E.P) (g := g) (o := es.length * E.P.cellsOf T) nvs 0 w cur hheap hnv.one (by
          rw [hcsz, hln, Nat.add_zero, ← Nat.add_mul]; exact Nat.mul_le_mul_right _ hroom)
        have hr := run_append_room' (P := E.P) (w := w) (w' := w') (ty := o.type) (telem_some hte) hud hnd hi (A := some ⟨g, 0, none⟩) (sLen := es.length) (sCap := c') (m := news.length) (x := a.eval y) (news := nvs) hlen
          (by rw [hisz]; exact hnf _ rfl) hroom (fun ad e => by injection e with e; subst e; rw [addr_add, hisz, Nat.zero_add]; exact hst) (fun e => by cases e)
        rw [← hxr] at hr
        obtain ⟨b1, b2, b3, b4⟩ := hblk g (by rw [hxr]; rfl)
        let V1 : Vis := fun g' o => V g' o ∨ (g' = g ∧ o < (es ++ news).length * E.P.cellsOf T)
        have hkeep : Keeps w V w' V1 := by
          intro g' p hv
          refine ⟨.inl hv, ?_⟩
          by_cases hg' : g' = g
          · subst hg'
            have := b2 p hv
            refine ⟨?_, fun e c hm => by rw [hheap] at hm; cases hm⟩
            rw [box_cell hheap, box_cell hheap', hcur']
            have hni : ¬ (es.length * E.P.cellsOf T + 0 ≤ p ∧ p < es.length * E.P.cellsOf T + 0 + nvs.length) := by omega
            simp only [hni, if_false]
          · exact .of (hob.other g' hg')
        have hlt : g < w.heap.size := (Array.getElem?_eq_some_iff.1 hheap).1
        refine ⟨_, _, V1, hexec _ _ hr, ?_, fun g' _ => ?_⟩
        · refine { os := hob.os, tape := hob.tape, output := hob.output, size := by rw [hob.size]; exact Nat.le_refl _, keep := hkeep, rep := ?_, heap := fun g' _ => ?_, vis := ?_ }
          · have hrow2 : RowP w' V1 (E.P.cellsOf T) g 0 (es ++ news) := by
              refine row_append (hrow.keep hkeep) ?_
              rw [Nat.zero_add]
              refine row_of_vals (hnv.keep hkeep) (fun j hj => .inr ⟨rfl, by rw [List.length_append, Nat.add_mul]; omega⟩) (fun j u hj => ?_)
              rw [box_cell hheap', hcur']
              have hjl : j < nvs.length := (List.getElem?_eq_some_iff.1 hj).1
              have hin : es.length * E.P.cellsOf T + 0 ≤ es.length * E.P.cellsOf T + j ∧ es.length * E.P.cellsOf T + j < es.length * E.P.cellsOf T + 0 + nvs.length := by omega
              simp only [hin, and_self, if_true]
              rw [show es.length * E.P.cellsOf T + j - (es.length * E.P.cellsOf T + 0) = j by omega]; exact hj
            simp only [RepP]
            exact ⟨_, _, by rw [List.length_append], by rw [List.length_append]; exact hroom, .inr ⟨g, 0, E.P.cellsOf T, rfl, hpos, hrow2⟩⟩
          · by_cases hg' : g' = g
            · subst hg'
              exact .inr ⟨by rw [hxr]; rfl, cur, cur', hheap, hheap', hsz'⟩
            · exact .inl (hob.other g' hg')
          · rintro g' o (hv | ⟨rfl, _⟩)
            · rw [hob.size]; exact h.vis g' o hv
            · rw [hob.size]; exact hlt
        · by_cases hg' : g' = g
          · subst hg'
            exact .inr ⟨b1, b4⟩
          · exact .inl (hob.other g' hg')
    · exact grow A c vs hx (by omega) hvs hfc

theorem Ap.own {x r : Value} {T : TypeId} {es : List AVal} (hap : Ap w V x T es r w1 V1) {T' : TypeId} {fs : List AVal} {y : Value} (h : OwnRep E.P w V T' fs y) : OwnRep E.P w1 V T' fs y := by
  have hk : Keeps w V w1 V := fun g o hv => ⟨hv, (hap.keep g o hv).2⟩
  by_cases hT : T' = mapT
  · subst hT
    obtain ⟨hc, g, ents, cl, rfl, hh, he⟩ := h.toM
    refine .ofM ⟨hc, g, ents, cl, rfl, ?_, he.keep hk⟩
    rcases hap.heap g (Array.getElem?_eq_some_iff.1 hh).1 with e | ⟨_, cur, cur', e, _⟩
    · rw [e]; exact hh
    · rw [hh] at e; cases e
  · rcases h.toS hT with ⟨rfl, rfl⟩ | ⟨g, c, cur, rfl, hc, hh, hs, hp, hr⟩
    · exact .ofS hT (.inl ⟨rfl, rfl⟩)
    · rcases hap.heap g (Array.getElem?_eq_some_iff.1 hh).1 with e | ⟨_, cur0, cur', e, e', hz⟩
      · exact .ofS hT (.inr ⟨g, c, cur, rfl, hc, e.trans hh, hs, hp, hr.keep hk⟩)
      · rw [hh] at e; injection e with e; injection e with e1 e2; subst e1; subst e2
        exact .ofS hT (.inr ⟨g, c, cur', rfl, hc, e', by rw [hz, hs], hp, hr.keep hk⟩)

/-- the world turns, but for what the state speaks of; what its owners own they own still -/
theorem SRel.touch {P : Program} (h : SRel P Q s a w V μ γ) (hk : Keeps w V w' V) (hb : ∀ b g, μ b = some g → w'.heap[g]? = w.heap[g]?)
    (ho : ∀ T es x, OwnRep P w V T es x → OwnRep P w' V T es x) (hvis : ∀ g o, V g o → g < w'.heap.size) : SRel P Q s a w' V μ γ where
  tm k v hv' := by
    obtain ⟨x, h1, h2⟩ := h.tm k v hv'
    refine ⟨x, h1, ?_⟩
    by_cases hown : ∃ T n es, v = .own T n es
    · obtain ⟨T, n, es, rfl⟩ := hown
      exact ⟨ho T es x h2.1, h2.2⟩
    · exact h2.keep hk (BLe.refl _) (GLe.refl _) fun T n es g e hg => absurd ⟨T, n, es, e⟩ hown
  bx b cs hcs := by
    obtain ⟨g, T, cur, h1, h2, h3, h4⟩ := h.bx b cs hcs
    refine ⟨g, T, cur, h1, (hb b g h1).trans h2, h3, fun i c hc => ?_⟩
    obtain ⟨x, h5, h6⟩ := h4 i c hc
    refine ⟨x, h5, ?_⟩
    by_cases hown : ∃ T n es, c = .own T n es
    · obtain ⟨T, n, es, rfl⟩ := hown
      exact ⟨ho T es x h6.1, h6.2⟩
    · exact h6.keep hk (BLe.refl _) (GLe.refl _) fun T n es g e hg => absurd ⟨T, n, es, e⟩ hown
  dom := h.dom
  inj := h.inj
  visb := h.visb
  vis := hvis
  ow := h.ow
  ow2 := h.ow2
  gq := h.gq

theorem flat1_rep {u : AVal} {x : Value} (hu : flat1 u = true) (h : Rep2 w V μ u x) : Rep2 w' V' μ' u x := by
  cases u <;> first | exact h | cases hu
theorem flat_all : ∀ {vs : List AVal} {xs : List Value}, vs.all flat1 = true → All2 (Rep2 w V μ) vs xs → All2 (Rep2 w' V' μ') vs xs
  | [], [], _, _ => trivial
  | v :: vs, x :: xs, hv, ⟨h1, h2⟩ => by
    simp only [List.all_cons, Bool.and_eq_true] at hv
    exact ⟨flat1_rep hv.1 h1, flat_all hv.2 h2⟩
theorem flat_rep {u : AVal} {x : Value} (hu : flatV u = true) (h : Rep3 w V μ u x) : Rep3 w' V' μ' u x := by
  cases u <;> first | exact h | (cases hu; done) | skip
  obtain ⟨z, rfl, h1⟩ := h
  exact ⟨z, rfl, flat_all hu h1⟩
theorem flat_plain {u : AVal} (hu : flatV u = true) : plainV u = true := by
  cases u <;> first | rfl | cases hu
theorem flat_repS {P : Program} {p : Place} {u : AVal} {x : Value} (hu : flatV u = true) (h : RepS P w V μ γ p u x) : Rep3 w V μ u x := by
  cases u <;> first | exact h | cases hu

theorem getCl_spec {o : Oper} {d : Nat} {f : FuncId} {args : List Operand} (h : getCl o = some (d, f, args)) : o.dst = some d ∧ o.guard = none ∧ ∃ as ats, o.op = .call { callee := .value (.func f), args := as, argTypes := ats } ∧ as.toList = args := by
  unfold getCl at h
  split at h
  · rename_i h1 h2 h3
    simp only [Option.some.injEq, Prod.mk.injEq] at h
    obtain ⟨rfl, rfl, rfl⟩ := h
    exact ⟨h1, h2, _, _, h3, rfl⟩
  · cases h
theorem getAp_eq {o : Oper} {d x z : Nat} {t t2 : TypeId} (h : getAp o = some (d, x, z, t, t2)) : o.dst = some d ∧ o.guard = none ∧ o.op = .call { callee := .builtin .append, args := #[.tmp x, .tmp z], argTypes := #[t, t2] } := by
  unfold getAp at h
  split at h
  · rename_i h1 h2 h3
    split at h
    · rename_i h4 h5
      simp only [Option.some.injEq, Prod.mk.injEq] at h
      obtain ⟨rfl, rfl, rfl, rfl, rfl⟩ := h
      exact ⟨h1, h2, by rw [h3, toList_two h4, toList_two h5]⟩
    · cases h
  · cases h

theorem rd_lend (h : SRel E.P Q s a w V μ γ) {d : Nat} {u : AVal} {r : Value} (hd : d < a.tmps.size) (hk : Keeps w V w1 V1) (hu : strip u = u) (hr : Rep3 w1 V1 μ u r) {x : Operand} {v : AVal} (hv : rd (s.put d u) x = some v) :
    Rep3 w1 V1 μ (strip v) ((a.put (some d) r).eval x) := by
  have old : rd s x = some v → (a.put (some d) r).eval x = a.eval x → Rep3 w1 V1 μ (strip v) ((a.put (some d) r).eval x) := fun h1 h2 => by
    rw [h2]; exact (h.rd h1).strip.keep hk (BLe.refl _)
  cases x with
  | const c => exact old hv rfl
  | global g => exact old hv rfl
  | func f => exact old hv rfl
  | tmp k =>
    by_cases hdk : d = k
    · subst hdk
      simp only [rd, St.put, alGet_put, if_true] at hv
      injection hv with hv; subst hv
      rw [hu]
      have : (a.put (some d) r).eval (.tmp d) = r := by simp [Act.eval, Act.put, Array.getD_eq_getD_getElem?, hd]
      rw [this]; exact hr
    · simp only [rd, St.put, alGet_put, hdk, if_false] at hv
      exact old hv (by simp only [Act.eval, Act.put, Array.getD_eq_getD_getElem?]; rw [Array.getElem?_setIfInBounds_ne hdk])
theorem rdAll_lend (h : SRel E.P Q s a w V μ γ) {d : Nat} {u : AVal} {r : Value} (hd : d < a.tmps.size) (hk : Keeps w V w1 V1) (hu : strip u = u) (hr : Rep3 w1 V1 μ u r) : ∀ {xs : List Operand} {vs : List AVal}, rdAll (s.put d u) xs = some vs →
    All2 (Rep3 w1 V1 μ) vs (xs.map (a.put (some d) r).eval)
  | [], vs, hv => by simp only [rdAll] at hv; injection hv with hv; subst hv; trivial
  | x :: xs, vs, hv => by
    simp only [rdAll] at hv
    obtain ⟨v, h1, hv⟩ := bind_some hv
    obtain ⟨vs', h2, rfl⟩ := map_some hv
    exact ⟨rd_lend h hd hk hu hr h1, rdAll_lend h hd hk hu hr h2⟩

theorem SRel.dropT {P : Program} (h : SRel P Q s a w V μ γ) (d : Nat) (r : Value) : SRel P Q (s.drop d) (a.put (some d) r) w V μ γ := by
  have gt : ∀ k v, alGet (s.drop d).tm k = some v → d ≠ k ∧ alGet s.tm k = some v := by
    intro k v hv
    simp only [St.drop, alDel_get] at hv
    split at hv
    · cases hv
    · rename_i hne; exact ⟨hne, hv⟩
  have gb : ∀ b, (s.drop d).box b = s.box b := fun b => by cases b <;> rfl
  have gat : ∀ p v, (s.drop d).at p = some v → s.at p = some v := by
    intro p v hp
    cases p with
    | tmp k => exact (gt k v hp).2
    | cell b off => simp only [St.at] at hp ⊢; rw [gb] at hp; exact hp
  refine { tm := ?_, bx := fun b cs hb => h.bx b cs (by rw [← gb]; exact hb), dom := fun b g hg => by rw [gb]; exact h.dom b g hg, inj := h.inj, visb := h.visb, vis := h.vis, ow := fun p T n es x g hp => h.ow p T n es x g (gat p _ hp), ow2 := fun p p' T n es T' n' es' x x' g hp hp' => h.ow2 p p' T n es T' n' es' x x' g (gat p _ hp) (gat p' _ hp'), gq := h.gq }
  intro k v hv
  obtain ⟨hne, h1⟩ := gt k v hv
  obtain ⟨x, h2, h3⟩ := h.tm k v h1
  exact ⟨x, by simp only [Act.put]; rw [Array.getElem?_setIfInBounds_ne hne]; exact h2, h3⟩
theorem Loc.dropT (hl : Loc w0 T0 s μ γ) (d : Nat) : Loc w0 T0 (s.drop d) μ γ := by
  refine ⟨hl.box, hl.par, fun p T n es x g hp hx hg => hl.own p T n es x g ?_ hx hg⟩
  cases p with
  | tmp k =>
    simp only [St.at, St.drop, alDel_get] at hp ⊢
    split at hp
    · cases hp
    · exact hp
  | cell b off => cases b <;> exact hp

theorem lend_wp {D : Den} (hD : Sound E.P T0.F D) (hd : a.defers = []) (h : SRel E.P Q s a w V μ γ) (hf : Fr w0 V0 T0 w V) (hl : Loc w0 T0 s μ γ) (hQ : QLe Q Q') {ap cl : Oper} (hok1 : opOK a.tmps.size ap = true) (hok2 : opOK a.tmps.size cl = true)
    (hs : lendF E D s ap cl = some s') {X : Exit → Act → World → Prop} : ap.wp E.P a w (fun a1 w1 => cl.wp E.P a1 w1 (Sim E.P w0 V0 T0 Q' s') X) X := by
  unfold lendF at hs
  split at hs
  · rename_i d x z t t2 d' f args hap hcl
    obtain ⟨T, hT, hs⟩ := bind_some hs
    obtain ⟨v, hv, hs⟩ := bind_some hs
    obtain ⟨news, hnews, hs⟩ := bind_some hs
    obtain ⟨⟨es, s1, fl⟩, how, hs⟩ := bind_some hs
    split at hs
    · rename_i hc
      obtain ⟨c1, c2, c3, c4, c5, c6⟩ := hc
      unfold lendC at hs
      obtain ⟨as, has, hs⟩ := bind_some hs
      split at hs
      · rename_i hno
        obtain ⟨q, hq, hs⟩ := bind_some hs
        split at hs
        · rename_i hfl
          injection hs with hs; subst hs
          obtain ⟨p1, p2, p3⟩ := getAp_eq hap
          obtain ⟨q1, q2, as0, ats, q3, q4⟩ := getCl_spec hcl
          obtain ⟨r, w1, V1, hrun, hA, hbx⟩ := ap_spec h hl p3 hT (y := .tmp z) hv hnews how c1 c2 c3 c4 c5 c6
          have hdl : d < a.tmps.size := opOK_dst hok1 d p1
          have hdl' : d' < a.tmps.size := opOK_dst hok2 d' q1
          refine wp_val hrun ?_
          rw [p1]
          have hrep : Rep3 w1 V1 μ (.slice (es ++ news)) r := hA.rep
          have hargs := rdAll_lend h hdl hA.keep rfl hrep has
          have hno' : ∀ u ∈ as, names u = [] := fun u hu => by
            have := List.flatMap_eq_nil_iff.1 (List.isEmpty_iff.1 hno) u hu; exact this
          have hq2 : q.2 = [] := List.isEmpty_iff.1 hfl.1
          let T1 : Tch := ⟨fun _ => False, fun _ => none, T0.S, T0.F⟩
          have hseal : Sealed T1 w1 := by
            have key : ∀ g, T0.S g → w1.heap[g]? = w0.heap[g]? := fun g hg => by
              have hlt := hf.sl.lt g hg
              have hnt := hf.sl.no g hg
              rcases hbx g (Nat.lt_of_lt_of_le hlt hf.size) with e | ⟨_, e⟩
              · rw [e]; exact hf.keep g hlt hnt
              · rcases e with e | e
                · exact absurd e hnt
                · omega
            exact ⟨fun g hg => Nat.lt_of_lt_of_le (hf.sl.lt g hg) (Nat.le_trans hf.size hA.size), fun _ _ h => h, hf.sl.cong _ _ key hf.sl.fact, hf.sl.cong⟩
          obtain ⟨hen, hcalls⟩ := hD f as [] q hq ((as0.map (a.put (some d) r).eval)) w1 V1 T1 (fun _ => none) (fun _ _ => none) a
            (by
              have e : (as0.map (a.put (some d) r).eval).toList = args.map (a.put (some d) r).eval := by rw [Array.toList_map, q4]
              rw [e]
              have := hargs
              have go : ∀ {us : List AVal} {ys : List Value}, (∀ u ∈ us, names u = []) → All2 (Rep3 w1 V1 μ) us ys → All2 (Rep3 w1 V1 fun _ => none) us ys := by
                intro us
                induction us with
                | nil => intro ys _ h; cases ys <;> exact h
                | cons u us ih =>
                  intro ys hn h
                  cases ys with
                  | nil => exact h
                  | cons y ys => exact ⟨h.1.sub fun b hb => (by rw [hn u (by simp)] at hb; cases hb), ih (fun u hu => hn u (by simp [hu])) h.2⟩
              exact go hno' this)
            (rdAll_plain has)
            { tm := fun k v hv => by simp [boxSt, alGet] at hv
              bx := fun b cs hb => by cases b <;> simp [boxSt, St.box, alGet] at hb
              dom := fun b g hg => by cases hg
              inj := fun b b' g hg => by cases hg
              visb := fun b g hg => by cases hg
              vis := hA.vis
              ow := fun p T n es x g hp hx => by cases hx
              ow2 := fun p p' T n es T' n' es' x x' g hp hp' hx => by cases hx
              gq := fun p n hp => absurd rfl hp }
            ⟨fun b g hg => (by cases hg), fun _ => rfl, fun p T n es x g hp hx => (by cases hx)⟩ rfl hseal
          have hrun2 : (execOp (a.put (some d) r).eval cl).run E.P w1 = .ok (.enter f (as0.map (a.put (some d) r).eval)) w1 := by
            have := run_enter (a := a.put (some d) r) (w := w1) (x := #[]) (y := #[]) q3 (by rfl) hen
            simpa using this
          refine wp_enter hrun2 (Calls.mono hcalls fun e w2 he => ?_)
          obtain ⟨u, rfl, V2, γ2, a2, ha2, hk2, hfc, _, _⟩ := he
          refine ⟨u, rfl, ?_⟩
          rw [q1]
          have hKv : Keeps w V w2 V := fun g o hg => ⟨hg, ((hA.keep.trans hfc.vkeep) g o hg).2⟩
          have heq : ∀ g : Nat, g < w1.heap.size → w2.heap[g]? = w1.heap[g]? := fun g hg => hfc.keep g hg (fun h => h)
          have h2 : SRel E.P Q s a w2 V μ γ := by
            refine h.touch hKv (fun b g hb => ?_) (fun T es x ho => ?_) (fun g o hg => Nat.lt_of_lt_of_le (h.vis g o hg) (Nat.le_trans hA.size hfc.size))
            · have hlt := box_lt h hb
              rw [heq g (Nat.lt_of_lt_of_le hlt hA.size)]
              rcases hbx g hlt with e | ⟨e, _⟩
              · exact e
              · exact absurd hb (e b)
            · have ho1 := hA.own ho
              refine ho1.keep (fun g o hg => ⟨hg, (hfc.vkeep g o ?_).2⟩) fun g hg => heq g ?_
              · exact (hA.keep g o hg).1
              · have hlt : g < w.heap.size := by
                  by_cases hT : T = mapT
                  · subst hT
                    obtain ⟨_, g', ents, cl, rfl, hh, _⟩ := ho.toM
                    simp only [ownBlock] at hg; injection hg with hg; subst hg
                    exact (Array.getElem?_eq_some_iff.1 hh).1
                  · rcases ho.toS hT with ⟨rfl, rfl⟩ | ⟨g', c, cur, rfl, _, hh, _⟩
                    · cases hg
                    · simp only [ownBlock] at hg; injection hg with hg; subst hg
                      exact (Array.getElem?_eq_some_iff.1 hh).1
                exact Nat.lt_of_lt_of_le hlt hA.size
          have hf2 : Fr w0 V0 T0 w2 V :=
            { os := (hfc.os.trans hA.os).trans hf.os, tape := (hfc.tape.trans hA.tape).trans hf.tape, output := (hfc.output.trans hA.output).trans hf.output,
              size := Nat.le_trans hf.size (Nat.le_trans hA.size hfc.size),
              keep := fun g hg ht => by
                have hlt := Nat.lt_of_lt_of_le hg hf.size
                rw [heq g (Nat.lt_of_lt_of_le hlt hA.size)]
                rcases hbx g hlt with e | ⟨_, e⟩
                · rw [e]; exact hf.keep g hg ht
                · rcases e with e | e
                  · exact absurd e ht
                  · omega,
              vkeep := hf.vkeep.trans hKv, vnew := hf.vnew, sl := hf.sl }
          obtain ⟨y, hy0, hy⟩ := hk2.tm 0 q.1 rfl
          have : y = u := by rw [ha2] at hy0; simpa using hy0.symm
          subst this
          exact sim_put (dst := some d') (by exact hd) (h2.dropT d r) hf2 (hl.dropT d) hQ (fun k e => by injection e with e; subst e; rw [put_size]; exact hdl') (flat_plain hfl.2) (flat_rep hfl.2 (flat_repS hfl.2 hy))
        · cases hs
      · cases hs
    · cases hs
  · cases hs

theorem opsL_sim {D : Den} (hD : Sound E.P T0.F D) {ops : Array Oper} {N : Nat} {Qx : Exit → Act → World → Prop} {m : Option Nat} {n : Nat} (hok : ∀ o ∈ ops.toList, opOK N o = true) (hs : opsL E D m (ops.toList.map (·.dst)) n ops.toList s = some s') (hsim : SimN E.P w0 V0 T0 N n s a w)
    (hQx : ∀ a' w', SimN E.P w0 V0 T0 N (n + ops.size) s' a' w' → Qx .normal a' w') : wpOps E.P ops Qx (List.range' 0 ops.toList.length) a w := by
  unfold opsL at hs
  split at hs
  · exact ops_sim hD ops.toList 0 n s s' a w (fun j o hj => by simpa using hj) (by simp) hok hs hsim (fun a' w' h' => hQx a' w' (by simpa using h'))
  · rename_i m
    obtain ⟨s1, h1, hs⟩ := bind_some hs
    split at hs
    · rename_i ap cl r hdr
      obtain ⟨s2, h2, hs⟩ := bind_some hs
      have hlen : m + (r.length + 2) = ops.size := by
        have e1 := congrArg List.length hdr
        simp only [List.length_drop, Array.length_toList, List.length_cons] at e1
        omega
      have htk : (ops.toList.take m).length = m := by rw [List.length_take, Array.length_toList]; omega
      have e : List.range' 0 ops.toList.length = List.range' 0 (ops.toList.take m).length ++ (m :: (m + 1) :: List.range' (m + 2) r.length) := by
        rw [htk, Array.length_toList, ← hlen, ← List.range'_append_1, Nat.zero_add, List.range'_succ, List.range'_succ]
      have hget : ∀ j o, (ap :: cl :: r)[j]? = some o → ops[m + j]? = some o := fun j o hj => by
        rw [← hdr, List.getElem?_drop] at hj; simpa using hj
      have hmem : ∀ o ∈ ap :: cl :: r, opOK N o = true := fun o ho => hok o (List.mem_of_mem_drop (by rw [hdr]; exact ho))
      rw [e]
      refine ops_simK hD (ops.toList.take m) 0 n s s1 a w (fun j o hj => ?_) (fun o ho => hok o (List.mem_of_mem_take ho)) h1 hsim fun a1 w1 hs1 => ?_
      · rw [List.getElem?_take] at hj
        split at hj
        · simpa using hj
        · cases hj
      · rw [htk] at hs1
        obtain ⟨⟨hd, V, μ, γ, h, hf, hl⟩, hN⟩ := hs1
        have g1 : ap.guard = none := by
          unfold lendF at h2; split at h2
          · rename_i q _; exact (getAp_eq q).2.1
          · cases h2
        have g2 : cl.guard = none := by
          unfold lendF at h2; split at h2
          · rename_i q; exact (getCl_spec q).2.1
          · cases h2
        have o1 : ops[m]? = some ap := by simpa using hget 0 ap rfl
        have o2 : ops[m + 1]? = some cl := hget 1 cl rfl
        rw [wpOps_cons]
        unfold wpOp
        simp only [o1, Region.wanted, g1, if_true]
        refine .inl (Oper.wp_mono (fun a2 w2 h3 => ?_) (wp_size (lend_wp (Q' := fun k => k < n + m + 2) hD hd h hf hl (fun k hk => by omega) (by rw [hN]; exact hmem ap (by simp)) (by rw [hN]; exact hmem cl (by simp)) h2)))
        obtain ⟨h3, hz⟩ := h3
        rw [wpOps_cons]
        unfold wpOp
        simp only [o2, Region.wanted, g2, if_true]
        refine .inl (Oper.wp_mono (fun a3 w3 h4 => ?_) (wp_size h3))
        obtain ⟨h4, hz2⟩ := h4
        have := ops_simK (Qx := Qx) (R := []) hD r (m + 2) (n + m + 2) s2 s' a3 w3 (fun j o hj => by
          have := hget (j + 2) o (by simpa using hj)
          rw [show m + 2 + j = m + (j + 2) by omega]; exact this) (fun o ho => hmem o (by simp [ho])) hs ⟨h4, by rw [hz2, hz, hN]⟩ (fun a' w' h' => hQx a' w' (by rw [← hlen, show n + (m + (r.length + 2)) = n + m + 2 + r.length by omega]; exact h'))
        simpa using this
    · cases hs
end
end Go.Av
namespace Go.Av

/-- the frame comes to its return -/
def Runs (P : Program) (b : Frame) (cs : List Frame) (K : List Item) (a : Act) (w : World) (R : Act → World → Prop) : Prop :=
  ∃ a' w' todo, R a' w' ∧ Steps P (lone (b.at a K) cs w) (lone { b.at a' todo with mode := .returning } cs w')

theorem Runs.step {P : Program} {b : Frame} {cs : List Frame} {K K' : List Item} {a a1 : Act} {w w1 : World} {R : Act → World → Prop} (h : step P (lone (b.at a K) cs w) = .next (lone (b.at a1 K') cs w1)) (hr : Runs P b cs K' a1 w1 R) : Runs P b cs K a w R :=
  let ⟨a', w', todo, h1, h2⟩ := hr
  ⟨a', w', todo, h1, .head h h2⟩
theorem Runs.steps {P : Program} {b : Frame} {cs : List Frame} {K K' : List Item} {a a1 : Act} {w w1 : World} {R : Act → World → Prop} (h : Steps P (lone (b.at a K) cs w) (lone (b.at a1 K') cs w1)) (hr : Runs P b cs K' a1 w1 R) : Runs P b cs K a w R :=
  let ⟨a', w', todo, h1, h2⟩ := hr
  ⟨a', w', todo, h1, h.trans h2⟩

def itemOK (E : Env) (N : Nat) (f : FuncId) : Item → Bool
  | .code c => codeOK E N f c
  | .inLoop c => codeOK E N f c
  | _ => true

theorem exitTo_mem {id : Nat} : ∀ {K K' : List Item}, exitTo id K = some K' → ∀ i ∈ K', i ∈ K
  | [], _, h => by simp [exitTo] at h
  | x :: K, K', h => by
    have rest : exitTo id K = some K' → ∀ i ∈ K', i ∈ x :: K := fun h i hi => List.mem_cons_of_mem _ (exitTo_mem h i hi)
    cases x with
    | inBlock id' =>
      simp only [exitTo] at h
      split at h
      · injection h with h; subst h; exact fun i hi => List.mem_cons_of_mem _ hi
      · exact rest h
    | _ => exact rest (by simpa [exitTo] using h)

theorem opOK_mono {N M : Nat} {o : Oper} (h : N ≤ M) (ho : opOK N o = true) : opOK M o = true := by
  unfold opOK at *
  simp only [Bool.and_eq_true] at *
  refine ⟨?_, ho.2⟩
  have h1 := ho.1
  cases hd : o.dst with
  | none => rfl
  | some k => rw [hd] at h1; exact decide_eq_true (Nat.lt_of_lt_of_le (of_decide_eq_true h1) h)

/-- what is asked of the drawn regions -/
def DrawnOK (E : Env) : Prop :=
  ∀ (D : Den) (w0 : World) (V0 : Vis) (T0 : Tch), Sound E.P T0.F D → ∀ (N n : Nat) (ps : List (Nat × Nat)) (id : Nat) (ops : Array Oper) (s s1 : St) (a : Act) (w : World),
    drawnOK ps ops.toList = true → (∀ o ∈ ops.toList, opOK N o = true) → drawnR E D ps ops.toList (ops.toList.map fun o => o.dst) s = some s1 →
    SimN E.P w0 V0 T0 N s.ver s a w → (Code.region id ops true).wp E.P (fun e a' w' => e = .normal ∧ SimN E.P w0 V0 T0 N (s.ver + ops.size) s1 a' w') a w
/-- and of the others -/
def IdiomOK (E : Env) : Prop :=
  ∀ (D : Den) (w0 : World) (V0 : Vis) (T0 : Tch), Sound E.P T0.F D → ∀ (N n : Nat) (id : Nat) (ops : Array Oper) (s s1 : St) (a : Act) (w : World),
    idiomOK ops = true → (∀ o ∈ ops.toList, opOK N o = true) → idiomR E D ops.toList (ops.toList.map fun o => o.dst) s = some s1 →
    SimN E.P w0 V0 T0 N s.ver s a w → (Code.region id ops true).wp E.P (fun e a' w' => e = .normal ∧ SimN E.P w0 V0 T0 N (s.ver + ops.size) s1 a' w') a w
def PrimOK (E : Env) (F : World → Prop) : Prop := ∀ g p, E.prim g = some p → Sound E.P F fun f as H => if f = g then p as H else none

section
variable {E : Env}

theorem region_sim (hdr : DrawnOK E ∧ IdiomOK E) {D : Den} {w0 : World} {V0 : Vis} {T0 : Tch} (hD : Sound E.P T0.F D) {N M : Nat} (hN : M ≤ N) {f : FuncId} {id : Nat} {ops : Array Oper} {d : Bool} {s s1 : St} {a : Act} {w : World}
    (hok : codeOK E M f (.region id ops d) = true) (hs : regionR E D f id ops d s = some s1) (h : SimN E.P w0 V0 T0 N s.ver s a w) :
    (Code.region id ops d).wp E.P (fun e a' w' => e = .normal ∧ SimN E.P w0 V0 T0 N s1.ver s1 a' w') a w := by
  obtain ⟨s2, hs2, rfl⟩ := map_some hs
  simp only [codeOK, Bool.and_eq_true] at hok
  obtain ⟨k1, k2⟩ := hok
  have k1' : ∀ o ∈ ops.toList, opOK N o = true := fun o ho => opOK_mono hN (List.all_eq_true.1 k1 o ho)
  have fin : ∀ a' w', SimN E.P w0 V0 T0 N (s.ver + ops.size) s2 a' w' → SimN E.P w0 V0 T0 N (s.ver + ops.size) { s2 with ver := s.ver + ops.size } a' w' := by
    rintro a' w' ⟨⟨hd, V, μ, γ, h1, h2, h3⟩, h4⟩
    exact ⟨⟨hd, V, μ, γ, { tm := h1.tm, bx := h1.bx, dom := h1.dom, inj := h1.inj, visb := h1.visb, vis := h1.vis, ow := h1.ow, ow2 := h1.ow2, gq := h1.gq }, h2, ⟨h3.box, h3.par, h3.own⟩⟩, h4⟩
  cases d with
  | false =>
    simp only [Bool.false_eq_true, if_false] at hs2
    refine wp_region ?_
    rw [List.range_eq_range']
    have := opsL_sim (Qx := fun e a' w' => e = .normal ∧ SimN E.P w0 V0 T0 N (s.ver + ops.size) { s2 with ver := s.ver + ops.size } a' w') hD k1' hs2 h (fun a' w' h' => ⟨rfl, fin a' w' h'⟩)
    simpa using this
  | true =>
    simp only [if_true] at hs2
    split at hs2
    · rename_i ps h1
      simp only [h1, Bool.not_true, Bool.false_or] at k2
      have := hdr.1 D w0 V0 T0 hD N s.ver ps id ops s s2 a w k2 k1' hs2 h
      intro b k cs
      obtain ⟨e, a', w', ⟨he, hq⟩, harr⟩ := this b k cs
      exact ⟨e, a', w', ⟨he, fin a' w' hq⟩, harr⟩
    · rename_i h1
      simp only [h1, Bool.not_true, Bool.false_or] at k2
      have := hdr.2 D w0 V0 T0 hD N s.ver id ops s s2 a w k2 k1' hs2 h
      intro b k cs
      obtain ⟨e, a', w', ⟨he, hq⟩, harr⟩ := this b k cs
      exact ⟨e, a', w', ⟨he, fin a' w' hq⟩, harr⟩

theorem runF_sim {F : World → Prop} (hdr : DrawnOK E ∧ IdiomOK E) : ∀ (n : Nat), (∀ m, m < n → Sound E.P F (denOf E (runF E m))) → ∀ (f : FuncId) (M N : Nat) (K : List Item) (s : St) (r : AVal × Heap) (b : Frame) (cs : List Frame) (a : Act) (w w0 : World) (V0 : Vis) (T0 : Tch), T0.F = F →
    runF E n f K s = some r → (∀ i ∈ K, itemOK E M f i = true) → M ≤ N → SimN E.P w0 V0 T0 N s.ver s a w →
    Runs E.P b cs K a w fun a' w' => ∃ s', SimN E.P w0 V0 T0 N s'.ver s' a' w' ∧ finishF E f s' = some r
  | 0, _, _, _, _, _, _, _, _, _, _, _, _, _, _, _, h, _, _, _ => by cases h
  | n + 1, hS, f, M, N, K, s, r, b, cs, a, w, w0, V0, T0, hF, h, hK, hN, hsim => by
    have ih : ∀ {K' : List Item} {s' : St} {a' : Act} {w' : World}, runF E n f K' s' = some r → (∀ i ∈ K', itemOK E M f i = true) → SimN E.P w0 V0 T0 N s'.ver s' a' w' →
        Runs E.P b cs K' a' w' fun a' w' => ∃ s', SimN E.P w0 V0 T0 N s'.ver s' a' w' ∧ finishF E f s' = some r :=
      fun h1 h2 h3 => runF_sim hdr n (fun m hm => hS m (by omega)) f M N _ _ r b cs _ _ w0 V0 T0 hF h1 h2 hN h3
    have hd : ∀ {i : Item} {k : List Item}, K = i :: k → itemOK E M f i = true ∧ ∀ j ∈ k, itemOK E M f j = true := fun e => by
      subst e; exact ⟨hK _ (by simp), fun j hj => hK j (by simp [hj])⟩
    have cons : ∀ {i : Item} {k : List Item}, itemOK E M f i = true → (∀ j ∈ k, itemOK E M f j = true) → ∀ j ∈ i :: k, itemOK E M f j = true := fun h1 h2 j hj => by
      rcases List.mem_cons.1 hj with rfl | hj
      · exact h1
      · exact h2 j hj
    have head : ∀ {k : List Item} {s1 : St}, headF E f s k = some s1 → SimN E.P w0 V0 T0 N s1.ver s1 a w := by
      intro k s1 hh
      unfold headF at hh
      split at hh
      · split at hh
        · obtain ⟨h1, _⟩ := restrict_sim hh hsim.1
          exact ⟨h1, hsim.2⟩
        · injection hh with hh; subst hh; exact hsim
      · injection hh with hh; subst hh; exact hsim
    unfold runF at h
    split at h
    · exact ⟨a, w, _, ⟨s, hsim, h⟩, .one step_end⟩
    · exact ⟨a, w, _, ⟨s, hsim, h⟩, .one step_ret⟩
    · exact .step step_skip (ih h (hd rfl).2 hsim)
    · exact .step step_inBlock (ih h (hd rfl).2 hsim)
    · obtain ⟨h1, h2⟩ := hd rfl
      simp only [itemOK, codeOK, Bool.and_eq_true] at h1
      exact .step step_seq (ih h (cons h1.1 (cons h1.2 h2)) hsim)
    · obtain ⟨h1, h2⟩ := hd rfl
      simp only [itemOK, codeOK, Bool.and_eq_true] at h1
      obtain ⟨v, hv, h⟩ := bind_some h
      cases v <;> try (cases h; done)
      rename_i t
      obtain ⟨⟨hdf, V, μ, γ, hrel, hf, hl⟩, hsz⟩ := hsim
      have he : a.eval _ = .bool t := hrel.rd hv
      cases t with
      | true => exact .step (step_cond he) (ih h (cons h1.1 h2) ⟨⟨hdf, V, μ, γ, hrel, hf, hl⟩, hsz⟩)
      | false => exact .step (step_cond he) (ih h (cons h1.2 h2) ⟨⟨hdf, V, μ, γ, hrel, hf, hl⟩, hsz⟩)
    · obtain ⟨h1, h2⟩ := hd rfl
      exact .step step_block (ih h (cons h1 (cons rfl h2)) hsim)
    · obtain ⟨h1, h2⟩ := hd rfl
      obtain ⟨s1, hh, h⟩ := bind_some h
      exact .step step_loop (ih h (cons h1 (cons h1 h2)) (head hh))
    · obtain ⟨h1, h2⟩ := hd rfl
      obtain ⟨s1, hh, h⟩ := bind_some h
      exact .step step_inLoop (ih h (cons h1 (cons h1 h2)) (head hh))
    · obtain ⟨h1, h2⟩ := hd rfl
      obtain ⟨k', hk, h⟩ := bind_some h
      exact .step (step_exit hk) (ih h (fun j hj => h2 j (exitTo_mem hk j hj)) hsim)
    · obtain ⟨h1, h2⟩ := hd rfl
      obtain ⟨s0, h0, h⟩ := bind_some h
      obtain ⟨s1, hh, h⟩ := bind_some h
      obtain ⟨e, a', w', ⟨rfl, hq⟩, harr⟩ := region_sim hdr (hF ▸ hS n (by omega)) hN h1 hh (frzF_sim h0 hsim) b _ cs
      exact .steps harr (ih h h2 hq)
    · cases h

theorem body_spec {g : FuncId} {c : Code} (h : bodyOf E g = some c) : ∃ fn, E.P.funcs[g]? = some fn ∧ fn.body = some c ∧ (fn.name == "runtime.NumGoroutine") = false ∧ codeOK E fn.ntmps g c = true := by
  obtain ⟨fn, h1, h⟩ := bind_some h
  split at h
  · rename_i hok
    unfold fnOK at hok
    rw [h] at hok
    simp only [Bool.and_eq_true, Bool.not_eq_true'] at hok
    exact ⟨fn, h1, h, hok.1, hok.2⟩
  · cases h

theorem initTm_get : ∀ (as : List AVal) (k j : Nat), alGet (initTm k as) j = if k ≤ j then as[j - k]? else none
  | [], k, j => by simp [initTm, alGet]
  | v :: as, k, j => by
    simp only [initTm, alGet]
    by_cases h : k = j
    · subst h; simp
    · simp only [h, if_false]
      rw [initTm_get as (k + 1) j]
      by_cases h2 : k ≤ j
      · have h3 : k + 1 ≤ j := by omega
        simp only [h2, h3, if_true]
        rw [show j - k = (j - (k + 1)) + 1 by omega, List.getElem?_cons_succ]
      · have h3 : ¬ k + 1 ≤ j := by omega
        simp only [h2, h3, if_false]

/-- the callee's first state -/
theorem init_sim {P : Program} {as : List AVal} {H : Heap} {xs : Array Value} {n : Nat} {w : World} {V : Vis} {T0 : Tch} {μ : BMap} {γ : GMap} {a0 : Act} (hx : All2 (Rep3 w V μ) as xs.toList) (hp : ∀ v ∈ as, plainV v = true)
    (h : SRel P old (boxSt H) a0 w V μ γ) (hl : Loc w T0 (boxSt H) μ γ) (hsl : Sealed T0 w) : SimN P w V T0 (xs ++ Array.replicate n undef).size 1 (initF as H) ⟨xs ++ Array.replicate n undef, []⟩ w := by
  have gat : ∀ p T m es, (initF as H).at p = some (.own T m es) → (boxSt H).at p = some (.own T m es) := by
    intro p T m es hp2
    cases p with
    | tmp k =>
      simp only [St.at, initF, initTm_get, Nat.zero_le, if_true, Nat.sub_zero] at hp2
      have := hp _ (List.mem_of_getElem? hp2)
      cases this
    | cell b off =>
      cases b <;> exact hp2
  refine ⟨⟨rfl, V, μ, γ, { tm := ?_, bx := ?_, dom := ?_, inj := h.inj, visb := h.visb, vis := h.vis, ow := ?_, ow2 := ?_, gq := h.gq }, ?_, ?_⟩, rfl⟩
  · intro k v hv
    simp only [initF, initTm_get, Nat.zero_le, if_true, Nat.sub_zero] at hv
    obtain ⟨x, h1, h2⟩ := hx.get hv
    refine ⟨x, ?_, h2.repS (hp v (List.mem_of_getElem? hv))⟩
    have : k < xs.size := by
      have := (List.getElem?_eq_some_iff.1 h1).1; simpa using this
    rw [Array.getElem?_append_left this]; simpa using h1
  · intro b cs hcs
    have : (boxSt H).box b = some cs := by cases b <;> exact hcs
    exact h.bx b cs this
  · intro b g hb
    obtain ⟨cs, h1⟩ := h.dom b g hb
    exact ⟨cs, by cases b <;> exact h1⟩
  · intro p T m es x g hp2 hx2 hg
    exact h.ow p T m es x g (gat p T m es hp2) hx2 hg
  · intro p p' T m es T' m' es' x x' g hp2 hp3 hx2 hx3 hg hg'
    exact h.ow2 p p' T m es T' m' es' x x' g (gat _ _ _ _ hp2) (gat _ _ _ _ hp3) hx2 hx3 hg hg'
  · exact ⟨rfl, rfl, rfl, Nat.le_refl _, fun _ _ _ => rfl, Keeps.refl _ _, fun _ _ h => .inl h, hsl⟩
  · exact ⟨hl.box, hl.par, fun p T m es x g hp2 hx2 hg => hl.own p T m es x g (gat _ _ _ _ hp2) hx2 hg⟩

theorem runF_sound {F : World → Prop} (hdr : DrawnOK E ∧ IdiomOK E) (hpr : PrimOK E F) : ∀ n, Sound E.P F (denOf E (runF E n)) := by
  intro n
  induction n using Nat.strongRecOn with
  | _ n ih =>
  intro f as H r hr xs w V T0 μ γ a0 hx hp h hl hF hsl
  unfold denOf at hr
  split at hr
  · rename_i p hpf
    exact hpr f p hpf f as H r (by simpa using hr) xs w V T0 μ γ a0 hx hp h hl hF hsl
  · obtain ⟨c, hb, hr⟩ := bind_some hr
    obtain ⟨fn, h1, h2, h3, h4⟩ := body_spec hb
    refine ⟨⟨fn, c, h1, h3, h2⟩, ?_⟩
    intro cs
    let b : Frame := { (default : Frame) with fn := f, kind := .normal }
    have henter : Frame.enter E.P f xs .normal = b.at { tmps := xs ++ Array.replicate (fn.ntmps - xs.size) undef, defers := [] } [.code c] := by
      simp [Frame.enter, Frame.at, h1, h2, b]
    have hsz : fn.ntmps ≤ (xs ++ Array.replicate (fn.ntmps - xs.size) undef).size := by simp; omega
    obtain ⟨a', w', todo, ⟨s', hsim, hfin⟩, hsteps⟩ := runF_sim hdr n (fun m hm => ih m hm) f fn.ntmps _ [.code c] (initF as H) r b cs ⟨xs ++ Array.replicate (fn.ntmps - xs.size) undef, []⟩ w w V T0 hF hr
      (by simpa [itemOK] using h4) hsz (init_sim hx hp h hl hsl)
    have hm2 : ∀ k, μ (.loc k) = none := fun k => by
      cases hk : μ (.loc k) with
      | none => rfl
      | some g => obtain ⟨cs, hc⟩ := h.dom _ g hk; simp [boxSt, St.box, alGet] at hc
    obtain ⟨x, hres, hback⟩ := finish_sim h1 hfin hsim.1 (μ0 := μ) hl.par hm2
    rw [← henter] at hsteps
    exact ⟨.returned x, w', _, ⟨x, rfl, hback⟩, hsteps, rfl, rfl, hsim.1.1, rfl, fn, h1, hres⟩

theorem den_sound {F : World → Prop} (hdr : DrawnOK E ∧ IdiomOK E) (hpr : PrimOK E F) : Sound E.P F (den E) := by
  intro f as H r hr
  obtain ⟨n, hn⟩ := den_fuel hr
  exact runF_sound hdr hpr n f as H r (hn n (Nat.le_refl _))
end
end Go.Av
