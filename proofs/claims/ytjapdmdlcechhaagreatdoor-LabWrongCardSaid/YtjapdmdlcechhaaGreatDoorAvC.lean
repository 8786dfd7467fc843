/- Runs of the machine are as the model's, in whatever order a region draws; no condition. -/
import Derived.Test.YtjapdmdlcechhaaGreatDoorAvB
import Derived.Orders
namespace Go.Cx

/-- calls that are put off -/
def DR (μ : Mp) : List D → List Deferred → Prop
  | [], l => l = []
  | .col r :: ds, l => ∃ h l', μ r = some h ∧ l = { target := .collected h.g, args := #[] } :: l' ∧ DR μ ds l'
  | .cal g as ys :: ds, l => ∃ xs cap l', VL μ as (Array.toList xs) ∧ VL μ ys (Array.toList cap) ∧ l = { target := .fn (.func g) cap, args := xs } :: l' ∧ DR μ ds l'
theorem DR.mono [Lay] {μ ν : Mp} (h : Le μ ν) : ∀ {ds : List D} {l : List Deferred}, DR μ ds l → DR ν ds l
  | [], _, hr => hr
  | .col r :: ds, _, ⟨x, l', h1, h2, h3⟩ => ⟨x, l', h _ _ h1, h2, h3.mono h⟩
  | .cal g as ys :: ds, _, ⟨xs, cap, l', h1, h2, h3, h4⟩ => ⟨xs, cap, l', h1.mono h, h2.mono h, h3, h4.mono h⟩

/-- a frame's state -/
structure FS [Lay] (P : Program) (μ0 : Mp) (M0 : Mem) (w0 : World) (N : Nat) (s : St) (a : Act) (w : World) (μ : Mp) : Prop where
  tm : TR μ s.tm a.tmps
  st : Step P μ0 M0 w0 μ s.M w
  df : DR μ s.df a.defers
  sz : a.tmps.size = N

section
variable {E : Env} {X : Cfg} {b : Frame} {cs : List Frame} {o : Oper} {a : Act} {μ μ0 : Mp} {M M' M0 : Mem} {w w' w0 : World} {N : Nat} {s s' : St}

theorem put_size [Lay] (a : Act) (d : Option Nat) (v : Value) : (a.put d v).tmps.size = a.tmps.size := by
  cases d with
  | none => rfl
  | some k => simp [Act.put]
theorem put_defers [Lay] (a : Act) (d : Option Nat) (v : Value) : (a.put d v).defers = a.defers := by cases d <;> rfl
theorem TR.put [Lay] {tm : Tm} (h : TR μ tm a.tmps) {d : Option Nat} (hd : ∀ k, d = some k → k < a.tmps.size) {v : C} {x : Value} (hv : VR μ v x) : TR μ (putT tm d v) (a.put d x).tmps := by
  cases d with
  | none => exact h
  | some k =>
    intro j c hj
    rw [putT_some, upd_eq] at hj
    have hk := hd k rfl
    simp only [Act.put]
    split at hj
    · rename_i e; subst e
      injection hj with hj; subst hj
      exact ⟨x, by rw [Array.getElem?_setIfInBounds_self_of_lt hk], hv⟩
    · rename_i e
      obtain ⟨y, h1, h2⟩ := h j c hj
      exact ⟨y, by rw [Array.getElem?_setIfInBounds_ne (Ne.symm e)]; exact h1, h2⟩

theorem after_ok [Lay] {tm : Tm} {d : Option Nat} {df : List D} {v : C} (h : after tm d df (.ok v M') = some s') : s' = ⟨putT tm d v, M', df⟩ := by
  cases d with
  | none =>
    replace h : some (⟨tm, M', df⟩ : St) = some s' := h
    injection h with h; exact h.symm
  | some k =>
    replace h : some (⟨upd tm k v, M', df⟩ : St) = some s' := h
    injection h with h; exact h.symm
theorem after_dfr [Lay] {tm : Tm} {d : Option Nat} {df : List D} {x : D} (h : after tm d df (.dfr x M') = some s') : s' = ⟨putT tm d (.tup []), M', x :: df⟩ := by
  replace h : some (⟨putT tm d (.tup []), M', x :: df⟩ : St) = some s' := h
  injection h with h; exact h.symm

theorem want_sim [Lay] (ht : TR μ s.tm a.tmps) {ops : Array Oper} {t : Bool} (h : wantC ops.toList o s.tm = some t) : Region.wanted o (yielded ops a.tmps) = t := by
  unfold wantC at h
  unfold Region.wanted
  cases hg : o.guard with
  | none =>
    rw [hg] at h
    replace h : some true = some t := h
    injection h
  | some g =>
    obtain ⟨j, want⟩ := g
    rw [hg] at h
    replace h : wantG ops.toList s.tm (j, want) = some t := h
    unfold wantG at h
    split at h
    · rename_i o' ho'
      rw [nth_eq] at ho'
      have ho1 : ops[j]? = some o' := by simpa using ho'
      split at h
      · rename_i k hk
        split at h
        · rename_i t' hv
          injection h with h; subst h
          obtain ⟨y, h1, h2⟩ := ht k _ hv
          replace h2 : y = .bool t' := h2
          subst h2
          simp only [yielded, ho1, Option.bind_some, hk, h1]
          cases t' <;> cases want <;> first | rfl | decide
        · rename_i l hv
          injection h with h; subst h
          obtain ⟨y, h1, q, h2, _⟩ := ht k _ hv
          subst h2
          simp only [yielded, ho1, Option.bind_some, hk, h1]
          rfl
        · cases h
      · cases h
    · cases h

theorem rr_of [Lay] (ht : TR μ s.tm a.tmps) (o : Oper) : RR μ (rd s.tm) a o.op := fun _ _ _ h => rd_rep ht h

/-- one operation goes by -/
theorem step_sim [Lay] (hE : EOK E) (hC : SndC E.P X.call) (hY : SndY E.P X.yld) (hrec : X.rnd = false → NoRec b cs) (hdst : ∀ k, o.dst = some k → k < N) {ops : Array Oper} (h : stepC E X ops.toList o s = some s') (hs : FS E.P μ0 M0 w0 N s a w μ) {i : Nat} {rest : List Nat} {k : List Item} (ho : ops[i]? = some o) :
    ∃ a' w' μ', FS E.P μ0 M0 w0 N s' a' w' μ' ∧ Le μ μ' ∧ Steps E.P (lone (b.atR a (.inRegion ops (i :: rest) :: k)) cs w) (lone (b.atR a' (.inRegion ops rest :: k)) cs w') := by
  obtain ⟨tm, M, df⟩ := s
  have hd' : ∀ k, o.dst = some k → k < a.tmps.size := fun k hk => by rw [hs.sz]; exact hdst k hk
  replace h : ob (wantC ops.toList o tm) (fun t => stepW E X o tm M df t) = some s' := h
  obtain ⟨t, ht, h⟩ := ob_eq h
  have hw := want_sim hs.tm ht
  unfold stepW at h
  cases t with
  | false =>
    replace h : some (⟨putT tm o.dst (.tup []), M, df⟩ : St) = some s' := h
    injection h with h; subst h
    refine ⟨a.put o.dst undef, w, μ, ⟨hs.tm.put hd' .undef, hs.st, by rw [put_defers]; exact hs.df, by rw [put_size]; exact hs.sz⟩, .refl _, .one ?_⟩
    have := stepR_op_skip (P := E.P) (b := b) (a := a) (k := k) (cs := cs) (w := w) (ops := ops) (i := i) (rest := rest) (by simp [ho, hw])
    simpa [ho] using this
  | true =>
    replace h : after tm o.dst df (opTab o.op E X (rd tm) M o.type) = some s' := h
    cases hop : opTab o.op E X (rd tm) M o.type with
    | no => rw [hop] at h; cases h
    | ok v M' =>
      rw [hop] at h
      have := after_ok h; subst this
      obtain ⟨a', w', ⟨x, μ', rfl, h1, h2⟩, h3⟩ := op_ok hE hC hY hrec hs.st.mr hs.st.fresh (rr_of hs.tm o) hop ops i rest k ho hw
      exact ⟨_, w', μ', ⟨(hs.tm.mono h2.le).put hd' h1, hs.st.trans h2, by rw [put_defers]; exact hs.df.mono h2.le, by rw [put_size]; exact hs.sz⟩, h2.le, h3⟩
    | dfr d M' =>
      rw [hop] at h
      have := after_dfr h; subst this
      obtain ⟨c, hc1, hc2⟩ := op_dfr hop
      obtain ⟨a', w', ⟨rfl, rfl, g, xs, cap, as, ys, rfl, h1, h2, rfl⟩, h3⟩ := op_defer (b := b) (cs := cs) (w := w) (fun hr => (hrec hr).1) hc1 hs.st.mr hs.st.fresh (rr_of hs.tm o) hc2 ops i rest k ho hw
      refine ⟨_, w', μ, ⟨TR.put (a := { a with defers := { target := .fn (.func g) cap, args := xs } :: a.defers }) hs.tm hd' .undef, hs.st, ?_, by rw [put_size]; exact hs.sz⟩, .refl _, h3⟩
      rw [put_defers]
      exact ⟨xs, cap, _, h1, h2, rfl, hs.df⟩

theorem ops_sim [Lay] (hE : EOK E) (hC : SndC E.P X.call) (hY : SndY E.P X.yld) (hrec : X.rnd = false → NoRec b cs) {ops : Array Oper} {k : List Item} : ∀ (l : List Oper) (i : Nat) (s s' : St) (a : Act) (w : World) (μ : Mp), (∀ (j : Nat) (o : Oper), l[j]? = some o → ops[i + j]? = some o) →
    (∀ o ∈ l, ∀ k, o.dst = some k → k < N) → opsC E X ops.toList l s = some s' → FS E.P μ0 M0 w0 N s a w μ →
    ∃ a' w' μ', FS E.P μ0 M0 w0 N s' a' w' μ' ∧ Le μ μ' ∧ Steps E.P (lone (b.atR a (.inRegion ops (List.range' i l.length) :: k)) cs w) (lone (b.atR a' (.inRegion ops [] :: k)) cs w')
  | [], i, s, s', a, w, μ, _, _, h, hs => by
    replace h : some s = some s' := h
    injection h with h; subst h
    exact ⟨a, w, μ, hs, .refl _, .refl _ _⟩
  | o :: l, i, s, s', a, w, μ, hops, hd, h, hs => by
    replace h : ob (stepC E X ops.toList o s) (fun s1 => opsC E X ops.toList l s1) = some s' := h
    obtain ⟨s1, h1, h⟩ := ob_eq h
    have hi : ops[i]? = some o := by simpa using hops 0 o rfl
    obtain ⟨a1, w1, μ1, k1, l1, k2⟩ := step_sim (b := b) (cs := cs) hE hC hY hrec (hd o (by simp)) h1 hs (rest := List.range' (i + 1) l.length) (k := k) hi
    obtain ⟨a2, w2, μ2, k3, l2, k4⟩ := ops_sim hE hC hY hrec l (i + 1) s1 s' a1 w1 μ1 (fun j o' hj => by
      have := hops (j + 1) o' (by simpa using hj)
      rw [show i + 1 + j = i + (j + 1) by omega]; exact this) (fun o' ho' => hd o' (by simp [ho'])) h k1
    exact ⟨a2, w2, μ2, k3, l1.trans l2, by rw [List.length_cons, List.range'_succ]; exact k2.trans k4⟩
end
end Go.Cx
namespace Go.Cx

/-- what is asked of regions that draw -/
def DrawOK [Lay] (E : Env) : Prop := ∀ (X : Cfg) (b : Frame) (cs : List Frame) (id : Nat) (ops : Array Oper) (k : List Item) (N : Nat) (μ0 : Mp) (M0 : Mem) (w0 : World) (s s' : St) (a : Act) (w : World) (μ : Mp), SndC E.P X.call → SndY E.P X.yld → (X.rnd = false → NoRec b cs) →
  (∀ o ∈ ops.toList, ∀ k, o.dst = some k → k < N) → drawC E X ops.toList s = some s' → FS E.P μ0 M0 w0 N s a w μ →
  ∃ a' w' μ', FS E.P μ0 M0 w0 N s' a' w' μ' ∧ Le μ μ' ∧ Steps E.P (lone (b.atR a (.code (.region id ops true) :: k)) cs w) (lone (b.atR a' k) cs w')
/-- what is asked of the functions that are not run -/
def PrimOK [Lay] (E : Env) : Prop := ∀ g p, E.prim.get g = some p → SndC E.P fun f as M => if f = g then primC p as M else none

theorem sameC_eq [Lay] : ∀ {n : Nat} {x y : C}, sameC n x y = true → x = y := by
  intro n
  induction n using Nat.strongRecOn with
  | _ n ih =>
  have lst : ∀ (m : Nat), m < n → ∀ (l l' : List C), sameC.sameL m l l' = true → l = l' := by
    intro m
    induction m with
    | zero =>
      intro _ l l' h
      cases l <;> cases l' <;> first | rfl | (simp [sameC.sameL] at h)
    | succ m ihm =>
      intro hm l l' h
      cases l <;> cases l' <;> try (simp [sameC.sameL] at h; done)
      · rfl
      · simp only [sameC.sameL, Bool.and_eq_true] at h
        rw [ih m (by omega) h.1, ihm (by omega) _ _ h.2]
  intro x y h
  cases n with
  | zero => simp [sameC] at h
  | succ n =>
    cases x <;> cases y <;> simp only [sameC, Bool.and_eq_true, Bool.false_eq_true, nbeq, decide_eq_true_eq, intEq_eq, bytesEq_eq, beq_iff_eq] at h <;> first
      | rfl
      | exact h.elim
      | (obtain ⟨h1, h2⟩ := h; have := kindEq_true h1; subst this; subst h2; rfl)
      | (obtain ⟨h1, h2⟩ := h; subst h1; subst h2; rfl)
      | (obtain ⟨⟨⟨h1, h2⟩, h3⟩, h4⟩ := h; subst h1; subst h2; subst h3; subst h4; rfl)
      | (obtain ⟨⟨h1, h2⟩, h3⟩ := h; subst h1; rw [lst n (by omega) _ _ h2, lst n (by omega) _ _ h3])
      | (obtain ⟨h1, h2⟩ := h; subst h1; rw [ih n (by omega) h2])
      | (rw [lst n (by omega) _ _ h])
      | (subst h; rfl)
theorem sameEnts_eq [Lay] : ∀ {l m : List (C × C × Nat)}, sameEnts l m = true → l = m
  | [], [], _ => rfl
  | [], _ :: _, h => by simp [sameEnts] at h
  | _ :: _, [], h => by simp [sameEnts] at h
  | (k, v, b) :: l, (k', v', b') :: m, h => by
    simp only [sameEnts, Bool.and_eq_true] at h
    obtain ⟨⟨⟨h1, h2⟩, h3⟩, h4⟩ := h
    rw [sameC_eq h1, sameC_eq h2, nbeq_true h3, sameEnts_eq h4]
theorem sameB_eq [Lay] {x y : Blk} (h : sameB x y = true) : x = y := by
  cases x <;> cases y <;> simp only [sameB, Bool.and_eq_true] at h <;> try (cases h; done)
  · obtain ⟨⟨h1, h2⟩, h3⟩ := h
    have e3 := sameC_eq h3
    injection e3 with e3
    have e2 : ∀ m m' : Mode, sameMode m m' = true → m = m' := fun m m' h => by cases m <;> cases m' <;> first | rfl | cases h
    rw [nbeq_true h1, e2 _ _ h2, e3]
  · obtain ⟨h1, h2⟩ := h
    rw [nbeq_true h1, sameEnts_eq h2]
theorem interT_get [Lay] : ∀ {t t' : Tr Blk} {k : Nat} {b : Blk}, (interT t t').get k = some b → t.get k = some b ∧ t'.get k = some b
  | .lf, _, k, b, h => by cases h
  | .nd _ _ _, .lf, k, b, h => by cases h
  | .nd v l r, .nd v' l' r', k, b, h => by
    simp only [interT] at h
    rw [Tr.get_nd] at h
    rw [Tr.get_nd, Tr.get_nd]
    split at h
    · rename_i hk
      simp only [hk, if_true]
      split at h
      · rename_i b1 b2
        cases hs : sameB b1 b2 with
        | false => rw [hs] at h; cases h
        | true =>
          rw [hs] at h
          replace h : some b1 = some b := h
          rw [← sameB_eq hs]; exact ⟨h, h⟩
      · cases h
    · rename_i hk
      simp only [hk, if_false]
      split at h
      · rename_i hk2
        simp only [hk2, if_true]; exact interT_get h
      · rename_i hk2
        simp only [hk2, if_false]; exact interT_get h

section
variable {P : Program} {E : Env} {X : Cfg} {b : Frame} {cs : List Frame} {o : Oper} {a : Act} {μ μ' μ0 : Mp} {M M' M'' M0 : Mem} {w w' w0 : World} {N : Nat} {s s' : St}

theorem Step.sub [Lay] (h : Step P μ M w μ' M' w') (hs : ∀ k b, M''.get k = some b → M'.get k = some b) (hn : M''.nx = M'.nx) : Step P μ M w μ' M'' w' :=
  { h with nx := by rw [hn]; exact h.nx, fresh := ⟨fun k hk => h.fresh.1 k (by rw [← hn]; exact hk), fun k hk => by
      have h0 := h.fresh.2 k (by rw [← hn]; exact hk)
      cases e : M''.get k with
      | none => rfl
      | some b => rw [hs k b e] at h0; cases h0⟩, mr := h.mr.sub hs, und := fun k b hk h0 hb => h.und k b hk h0 (hs k b hb) }

/-- where a frame comes to its end -/
def Fin (P : Program) (b : Frame) (cs : List Frame) (Q : Value → World → Prop) (m : Machine) : Prop :=
  match b.roundOf with
  | none => ∃ v w' fr, Q v w' ∧ Steps P m (lone fr cs w') ∧ fr.fn = b.fn ∧ fr.mode = .returning ∧ fr.defers = [] ∧ fr.kind = b.kind ∧ ∃ fn, P.funcs[b.fn]? = some fn ∧ (results fn fr.tmps).run P w' = .ok v w'
  | some _ => ∀ c cs', cs = c :: cs' → ∃ v w', Q v w' ∧ Steps P m (lone (c.finish v) cs' w')
theorem Fin.step [Lay] {Q : Value → World → Prop} {m m1 : Machine} (h : Steps P m m1) (hf : Fin P b cs Q m1) : Fin P b cs Q m := by
  unfold Fin at hf ⊢
  split at hf
  · obtain ⟨v, w', fr, h1, h2, h3⟩ := hf
    exact ⟨v, w', fr, h1, h.trans h2, h3⟩
  · intro c cs' hc
    obtain ⟨v, w', h1, h2⟩ := hf c cs' hc
    exact ⟨v, w', h1, h.trans h2⟩
theorem Fin.mono [Lay] {Q Q' : Value → World → Prop} {m : Machine} (hf : Fin P b cs Q m) (hq : ∀ v w', Q v w' → Q' v w') : Fin P b cs Q' m := by
  unfold Fin at hf ⊢
  split at hf
  · obtain ⟨v, w', fr, h1, h2⟩ := hf
    exact ⟨v, w', fr, hq _ _ h1, h2⟩
  · intro c cs' hc
    obtain ⟨v, w', h1, h2⟩ := hf c cs' hc
    exact ⟨v, w', hq _ _ h1, h2⟩

/-- of which loop a frame is a round -/
def RO (μ : Mp) (ro : Option Nat) (b : Frame) (cs : List Frame) : Prop :=
  match ro with
  | none => NoRec b cs
  | some l => ∃ h, μ l = some h ∧ b.roundOf = some h.g ∧ b.kind = .normal
theorem RO.mono [Lay] {ro : Option Nat} (h : Le μ μ') (hr : RO μ ro b cs) : RO μ' ro b cs := by
  cases ro with
  | none => exact hr
  | some l => obtain ⟨x, h1, h2⟩ := hr; exact ⟨x, h _ _ h1, h2⟩

def itemOK (N : Nat) : Item → Bool
  | .code c => codeOK N c
  | .inLoop c => codeOK N c
  | _ => true
theorem exitC_eq [Lay] (id : Nat) : ∀ K : List Item, exitC id K = exitTo id K
  | [] => rfl
  | .inBlock j :: K => by
    simp only [exitC, exitTo, nbeq, exitC_eq id K]
    by_cases h : j = id <;> simp [h]
  | .code _ :: K => exitC_eq id K
  | .inLoop _ :: K => exitC_eq id K
  | .inScope _ :: K => exitC_eq id K
  | .inRegion _ _ :: K => exitC_eq id K
  | .inRangeFunc _ :: K => exitC_eq id K
  | .endRangeFunc _ :: K => exitC_eq id K
  | .beginRound :: K => exitC_eq id K
  | .call _ _ _ _ :: K => exitC_eq id K
  | .extern _ _ :: K => exitC_eq id K
theorem exitTo_mem [Lay] {id : Nat} : ∀ {K K' : List Item}, exitTo id K = some K' → ∀ i ∈ K', i ∈ K
  | [], _, h => by simp [exitTo] at h
  | x :: K, K', h => by
    have rest : exitTo id K = some K' → ∀ i ∈ K', i ∈ x :: K := fun h i hi => List.mem_cons_of_mem _ (exitTo_mem h i hi)
    cases x with
    | inBlock id' =>
      simp only [exitTo] at h
      split at h
      · injection h with h; subst h; exact fun i hi => List.mem_cons_of_mem _ hi
      · exact rest h
    | _ => exact rest (by simpa [exitTo] using h)

/-- results -/
def resRun (tmps : Array Value) : ResultVar → Sem Value
  | .tmp t => pure (tmps.getD t undef)
  | .cell a t => do loadVar t (← asAddr (tmps.getD a undef))
theorem res_rep [Lay] (hE : EOK E) (ht : TR μ s.tm a.tmps) (hm : MR E.P μ s.M w) : ∀ {rs : List ResultVar} {vs : List C}, resC E s rs = some vs → ∃ xs, (rs.mapM (resRun a.tmps)).run E.P w = .ok xs w ∧ VL μ vs xs
  | [], vs, h => by simp only [resC, Option.some.injEq] at h; subst h; exact ⟨[], by simp, rfl⟩
  | r :: rs, vs, h => by
    simp only [resC] at h
    split at h
    · rename_i v hv
      split at h
      · rename_i us hus
        injection h with h; subst h
        obtain ⟨xs, h1, h2⟩ := res_rep hE ht hm hus
        obtain ⟨x, h3, h4⟩ : ∃ x, (resRun a.tmps r).run E.P w = .ok x w ∧ VR μ v x := by
          split at hv
          · rename_i t
            obtain ⟨y, q1, q2⟩ := ht t v hv
            exact ⟨y, by simp [resRun, Array.getD_eq_getD_getElem?, q1], q2⟩
          · rename_i ad T
            split at hv
            · rename_i p hp
              obtain ⟨y, q1, q2⟩ := ht ad p hp
              cases p <;> simp only [loadC] at hv <;> try (cases hv; done)
              rename_i k off
              split at hv
              · rename_i U m ds hk
                obtain ⟨q, q3, q4⟩ := q2
                obtain ⟨z, q5, q6⟩ := run_loadVar hE (hm.bk k q _ q3 hk) hv
                refine ⟨z, ?_, q6⟩
                simp only [resRun, Array.getD_eq_getD_getElem?, q1, Option.getD_some, q4]
                simp [asAddr, q5]
              · cases hv
            · cases hv
        refine ⟨x :: xs, ?_, VL.cons.2 ⟨h4, h2⟩⟩
        simp only [List.mapM_cons, Sem.run_bind, h3, h1, Result.andThen_ok, Sem.run_pure]
      · cases h
    · cases h
def packV : List Value → Value
  | [x] => x
  | xs => .tuple xs.toArray
theorem results_eq [Lay] (fn : Func) (tmps : Array Value) {xs : List Value} (h : (fn.results.toList.mapM (resRun tmps)).run P w = .ok xs w) :
    (results fn tmps).run P w = .ok (packV xs) w := by
  have h1 : (fn.results.mapM (resRun tmps)).run P w = .ok xs.toArray w := by
    rw [Array.mapM_eq_mapM_toList]
    simp only [Sem.run_map, h, Result.andThen_ok]
  have h0 : results fn tmps = (do
    let vs ← fn.results.mapM (resRun tmps)
    pure (if h : vs.size = 1 then vs[0] else .tuple vs)) := rfl
  rw [h0, Sem.run_bind, h1, Result.andThen_ok, Sem.run_pure]
  match xs with
  | [] => rfl
  | [x] => rfl
  | _ :: _ :: _ => rfl
theorem pack_rep [Lay] {vs : List C} {xs : List Value} (h : VL μ vs xs) : VR μ (packC vs) (packV xs) := by
  match vs, xs, h with
  | [], xs, h => rw [VL.nil] at h; subst h; exact ⟨#[], rfl, rfl⟩
  | [v], xs, ⟨x, l, h1, h2, h3⟩ => rw [VL.nil] at h3; subst h3; subst h1; exact h2
  | u :: v :: vs, xs, ⟨x, l, h1, h2, y, l', h3, h4, h5⟩ =>
    subst h3; subst h1
    exact ⟨_, rfl, VL.cons.2 ⟨h2, VL.cons.2 ⟨h4, h5⟩⟩⟩
end
end Go.Cx
namespace Go.Cx

/-- bodies that are run are as the model's -/
def SndB [Lay] (E : Env) (r : Rn) : Prop := ∀ g as M c M', callB E r g as M = some (c, M') → ∀ μ w (xs : Array Value), MR E.P μ M w → Fresh μ M → VL μ as xs.toList →
  (callFunc g xs).run E.P w = .ok (.enter g xs) w ∧ BodyN E.P g xs w (Post E.P μ M w c M')
/-- a run is as the model's -/
def RunSnd [Lay] (E : Env) (r : Rn) : Prop := ∀ ro f K s c M', r ro f K s = some (c, M') → ∀ (b : Frame) (cs : List Frame) (a : Act) (w w0 : World) (μ μ0 : Mp) (M0 : Mem) (N : Nat), b.fn = f → RO μ ro b cs → (∀ i ∈ K, itemOK N i = true) → FS E.P μ0 M0 w0 N s a w μ →
  Fin E.P b cs (Post E.P μ0 M0 w0 c M') (lone (b.atR a K) cs w)

section
variable {P : Program} {E : Env} {X : Cfg} {b : Frame} {cs : List Frame} {o : Oper} {a : Act} {μ μ' μ0 : Mp} {M M' M'' M0 : Mem} {w w' w0 : World} {N : Nat} {s s' : St} {r : Rn}

theorem run_getDef [Lay] {P : Program} {g : Nat} {c : Option (List Deferred)} (h : w.heap[g]? = some (.deferred c)) : (getObj g).run P w = .ok (.deferred c) w := by
  simp [getObj, Sem.run, h]
theorem run_getLoopObj [Lay] {P : Program} {g : Nat} {l : Loop} (h : w.heap[g]? = some (.loop l)) : (getObj g).run P w = .ok (.loop l) w := by
  simp [getObj, Sem.run, h]
theorem run_getLoop [Lay] {P : Program} {g : Nat} {l : Loop} (h : w.heap[g]? = some (.loop l)) : (Instr.getLoop g).run P w = .ok l w := by
  unfold Instr.getLoop
  simp only [Sem.run_bind, run_getLoopObj h, Result.andThen_ok, Sem.run_pure]

/-- the calls that were put off are made -/
theorem dfs_sim [Lay] (hB : SndB E r) : ∀ {ds : List D} {l : List Deferred} {M M' : Mem} {w : World} {μ : Mp}, dfsC (callB E r) M ds = some M' → MR E.P μ M w → Fresh μ M → DR μ ds l → ∀ (fr : Frame) (cs : List Frame), fr.mode = .returning → fr.defers = l →
    ∃ w' μ', Step E.P μ M w μ' M' w' ∧ Steps E.P (lone fr cs w) (lone { fr with defers := [] } cs w')
  | [], l, M, M', w, μ, h, hm, hf, hd, fr, cs, h1, h2 => by
    simp only [dfsC, Option.some.injEq] at h; subst h
    simp only [DR] at hd; subst hd
    exact ⟨w, μ, .refl hm hf, by rw [← h2]; exact .refl _ _⟩
  | .col rr :: ds, l, M, M', w, μ, h, hm, hf, ⟨y, l', h3, h4, h5⟩, fr, cs, h1, h2 => by
    subst h4
    simp only [dfsC] at h
    split at h
    · rename_i hb
      have hbr : w.heap[y.g]? = some (.deferred (some [])) := hm.bk rr y _ h3 hb
      have hst := set_step (P := E.P) hm hf h3 hb trivial (obj := .deferred none) (b' := .df true) (setW_get (hm.lt rr y h3))
      have hrun : (Instr.takeDeferred y.g).run E.P w = .ok [] (setW w y.g (.deferred none)) := by
        unfold Instr.takeDeferred
        simp only [Sem.run_bind, run_getDef hbr, Result.andThen_ok, run_setObj hbr (by simp), Sem.run_pure]
      obtain ⟨w', μ', k1, k2⟩ := dfs_sim hB h hst.mr hst.fresh (h5.mono hst.le) { fr with defers := l' } cs h1 rfl
      refine ⟨w', μ', hst.trans k1, .head (m₁ := lone { fr with defers := l' } cs (setW w y.g (.deferred none))) (step_lone_go ?_) k2⟩
      simp [stepG, unwind, h1, h2, Sem.runT_eq, hrun]
    · cases h
  | .cal g as ys :: ds, l, M, M', w, μ, h, hm, hf, ⟨xs, cap, l', h3, h4, h5, h6⟩, fr, cs, h1, h2 => by
    subst h5
    simp only [dfsC] at h
    split at h
    · rename_i c M1 hc
      obtain ⟨k1, k2⟩ := hB g _ M c M1 hc μ w (xs ++ cap) hm hf (by simp only [app_eq, Array.toList_append]; exact h3.append h4)
      have h7 := step_defer (P := E.P) (fr := fr) (cs := cs) (w := w) (d := { target := .fn (.func g) cap, args := xs }) (ds := l') (by rw [h1]; simp) h2 rfl (f := g) (args := xs ++ cap) (by simp only [invoke]; exact k1)
      obtain ⟨v, w1, ⟨μ1, _, hst⟩, k4⟩ := k2.callD { fr with defers := l' } cs h1
      obtain ⟨w', μ', k5, k6⟩ := dfs_sim hB h hst.mr hst.fresh (h6.mono hst.le) { fr with defers := l' } cs h1 rfl
      exact ⟨w', μ', hst.trans k5, .head h7 (k4.trans k6)⟩
    · cases h

theorem initTm_get [Lay] : ∀ {as : List C} {i k : Nat} {c : C}, initTm i as k = some c → i ≤ k ∧ as[k - i]? = some c
  | [], _, _, _, h => by cases h
  | v :: as, i, k, c, h => by
    have h1 : upd (initTm (i + 1) as) i v k = some c := h
    rw [upd_eq] at h1
    split at h1
    · rename_i e; subst e
      exact ⟨Nat.le_refl _, by simpa using h1⟩
    · obtain ⟨h2, h3⟩ := initTm_get h1
      refine ⟨by omega, ?_⟩
      rw [show k - i = (k - (i + 1)) + 1 by omega]; simpa using h3

theorem codeOK_mono [Lay] {n m : Nat} (h : n ≤ m) : ∀ {c : Code}, codeOK n c = true → codeOK m c = true := by
  intro c
  induction c with
  | region id ops d =>
    intro hc
    simp only [codeOK, List.all_eq_true] at hc ⊢
    intro o ho
    have := hc o ho
    cases hd : o.dst with
    | none => rfl
    | some k => rw [hd] at this; simp only [nblt, decide_eq_true_eq] at this ⊢; omega
  | seq a b iha ihb => intro hc; simp only [codeOK, Bool.and_eq_true] at hc ⊢; exact ⟨iha hc.1, ihb hc.2⟩
  | cond x a b iha ihb => intro hc; simp only [codeOK, Bool.and_eq_true] at hc ⊢; exact ⟨iha hc.1, ihb hc.2⟩
  | block id c ih => intro hc; exact ih hc
  | loop c ih => intro hc; exact ih hc
  | scope c ih => intro hc; exact ih hc
  | rangeFunc f ps a b iha ihb =>
    intro hc
    simp only [codeOK, Bool.and_eq_true, List.all_eq_true] at hc ⊢
    exact ⟨⟨fun k hk => by have := hc.1.1 k hk; simp only [nblt, decide_eq_true_eq] at this ⊢; omega, iha hc.1.2⟩, ihb hc.2⟩
  | _ => intro _; rfl

theorem body_snd [Lay] (hE : EOK E) (ih : RunSnd E r) : SndB E r := by
  intro g as M c M' h μ w xs hm hf hv
  unfold callB at h
  obtain ⟨fn, h1, h⟩ := ob_eq h
  obtain ⟨cd, h2, h⟩ := ob_eq h
  obtain ⟨k1, k2, k3⟩ := hE.fn g fn h1
  have hne : ¬ fn.name = "runtime.NumGoroutine" := by simpa using k2
  refine ⟨by simp [callFunc, k1, hne, h2], fun kind cs hk => ?_⟩
  let b : Frame := { (default : Frame) with fn := g, kind := kind, roundOf := none }
  have henter : Frame.enter E.P g xs kind = b.atR ⟨xs ++ Array.replicate (fn.ntmps - xs.size) undef, []⟩ [.code cd] := by
    simp [Frame.enter, Frame.atR, k1, h2, b]
  have hfs : FS E.P μ M w (xs ++ Array.replicate (fn.ntmps - xs.size) undef).size { tm := initTm 0 as, M := M, df := [] } ⟨xs ++ Array.replicate (fn.ntmps - xs.size) undef, []⟩ w μ := by
    refine ⟨fun k c hk => ?_, .refl hm hf, rfl, rfl⟩
    obtain ⟨_, h3⟩ := initTm_get hk
    obtain ⟨x, h4, h5⟩ := hv.get h3
    have hlt : k < xs.size := by have := (List.getElem?_eq_some_iff.1 h4).1; simpa using this
    exact ⟨x, by rw [Array.getElem?_append_left hlt]; simpa using h4, h5⟩
  have := ih none g [.code cd] _ c M' h b cs ⟨xs ++ Array.replicate (fn.ntmps - xs.size) undef, []⟩ w w μ μ M _ rfl ⟨rfl, hk⟩ (fun i hi => by
    simp only [List.mem_singleton] at hi; subst hi
    exact codeOK_mono (by simp; omega) (k3 cd h2)) hfs
  rw [← henter] at this
  obtain ⟨v, w', fr, q1, q2, q3, q4, q5, q6, q7⟩ := this
  exact ⟨v, w', fr, q1, q2, q3, q4, q5, q6, q7⟩

theorem call_snd [Lay] (hP : PrimOK E) (hB : SndB E r) : SndC E.P (callF E r) := by
  intro g as M c M' h μ w xs hm hf hv
  unfold callF at h
  split at h
  · rename_i p hp
    exact hP g p hp g as M c M' (by simpa using h) μ w xs hm hf hv
  · obtain ⟨k1, k2⟩ := hB g as M c M' h μ w xs hm hf hv
    exact .inr ⟨k1, k2.callN⟩

theorem setPs_rep [Lay] : ∀ {ps : List Nat} {as : List C} {tm tm' : Tm} {t : Array Value} {xs : List Value}, setPs tm ps as = some tm' → (∀ k ∈ ps, k < t.size) → TR μ tm t → VL μ as xs →
    ps.length = xs.length ∧ TR μ tm' ((ps.zip xs).foldl (fun tmps (t, a) => tmps.setIfInBounds t a) t) ∧ ((ps.zip xs).foldl (fun (tmps : Array Value) (t, a) => tmps.setIfInBounds t a) t).size = t.size
  | [], [], tm, tm', t, xs, h, _, ht, hv => by
    simp only [setPs, Option.some.injEq] at h; subst h
    rw [VL.nil] at hv; subst hv
    exact ⟨rfl, ht, rfl⟩
  | [], _ :: _, _, _, _, _, h, _, _, _ => by simp [setPs] at h
  | _ :: _, [], _, _, _, _, h, _, _, _ => by simp [setPs] at h
  | p :: ps, v :: as, tm, tm', t, xs, h, hp, ht, ⟨x, l, h1, h2, h3⟩ => by
    subst h1
    simp only [setPs] at h
    have hlt := hp p (by simp)
    have ht1 : TR μ (upd tm p v) (t.setIfInBounds p x) := by
      have := TR.put (a := ⟨t, []⟩) (d := some p) ht (fun k hk => by injection hk with hk; subst hk; exact hlt) h2
      exact this
    obtain ⟨k1, k2, k3⟩ := setPs_rep h (fun k hk => by simp; exact hp k (by simp [hk])) ht1 h3
    exact ⟨by simp [k1], k2, by simpa using k3⟩

theorem yld_snd [Lay] (ih : RunSnd E r) : SndY E.P (yldF r) := by
  intro l as M c M' h μ w xs y hl hm hf hv
  unfold yldF at h
  split at h
  · rename_i L hL
    obtain ⟨tm, h1, h⟩ := ob_eq h
    obtain ⟨hd, tmps, q1, q2, ⟨q3, q4, q5, q6⟩, q7⟩ := hm.bk l y _ hl hL
    obtain ⟨k1, k2, k3⟩ := setPs_rep h1 q5 q2 hv
    have hz : ((L.ps.toArray.zip xs).foldl (fun tmps (t, a) => tmps.setIfInBounds t a) tmps) = ((L.ps.zip xs.toList).foldl (fun tmps (t, a) => tmps.setIfInBounds t a) tmps) := by
      rw [← Array.foldl_toList]; simp
    refine ⟨L.fn, (L.ps.zip xs.toList).foldl (fun tmps (t, a) => tmps.setIfInBounds t a) tmps, L.assign, L.body, ?_, fun cc cs => ?_⟩
    · unfold Instr.yield
      simp only [Sem.run_bind, run_getLoop q7, Result.andThen_ok]
      have : ¬ (xs.size ≠ L.ps.toArray.size) := by simp at k1 ⊢; omega
      simp only [this, if_false, hz]
      simp
    · let b : Frame := { (default : Frame) with fn := L.fn, kind := .normal, roundOf := some y.g }
      have hfr : Frame.round y.g L.fn ((L.ps.zip xs.toList).foldl (fun tmps (t, a) => tmps.setIfInBounds t a) tmps) L.assign L.body .normal = b.atR ⟨(L.ps.zip xs.toList).foldl (fun tmps (t, a) => tmps.setIfInBounds t a) tmps, []⟩ [.code L.assign, .beginRound, .code L.body] := rfl
      have := ih (some l) L.fn _ _ c M' h b (cc :: cs) ⟨(L.ps.zip xs.toList).foldl (fun tmps (t, a) => tmps.setIfInBounds t a) tmps, []⟩ w w μ μ M tmps.size rfl ⟨y, hl, rfl, rfl⟩ (fun i hi => by
        simp only [List.mem_cons, List.not_mem_nil, or_false] at hi
        rcases hi with rfl | rfl | rfl
        · exact q3
        · rfl
        · exact q4) ⟨k2, .refl hm hf, rfl, k3⟩
      rw [← hfr] at this
      exact this cc cs rfl
  · cases h
end
end Go.Cx
namespace Go.Cx

section
variable {P : Program} {E : Env} {X : Cfg} {b : Frame} {cs : List Frame} {o : Oper} {a : Act} {μ μ' μ0 : Mp} {M M' M'' M0 : Mem} {w w' w0 : World} {N : Nat} {s s' : St} {r : Rn}

theorem leave_sim [Lay] (hE : EOK E) (hB : SndB E r) {ro : Option Nat} {f : Nat} {j : Option Code} {c : C} {K : List Item} (h : leave E r ro f s j = some (c, M')) (hf : b.fn = f) (hro : RO μ ro b cs) (hs : FS E.P μ0 M0 w0 N s a w μ) (hj : ∀ d, j = some d → ∀ n, codeOK n d = true)
    (step1 : b.roundOf = none → isRet j = true → step E.P (lone (b.atR a K) cs w) = .next (lone { b.atR a K with mode := .returning } cs w))
    (step2 : ∀ g v w' cc cs', b.roundOf = some g → b.kind = .normal → cs = cc :: cs' → (Instr.endRound g j).run E.P w = .ok v w' → step E.P (lone (b.atR a K) cs w) = .next (lone (cc.finish v) cs' w')) :
    Fin E.P b cs (Post E.P μ0 M0 w0 c M') (lone (b.atR a K) cs w) := by
  unfold leave at h
  cases ro with
  | some l =>
    obtain ⟨y, h1, h2, h3⟩ := hro
    replace h : endRoundC l j s = some (c, M') := h
    unfold endRoundC at h
    unfold Fin
    rw [h2]
    intro cc cs' hcs
    split at h
    · split at h
      · rename_i L hL
        injection h with h; injection h with h4 h5; subst h4; subst h5
        have hlt := hs.st.mr.lt l y h1
        obtain ⟨hd, tmps, q1, q2, ⟨q3, q4, q5, q6⟩, q7⟩ := hs.st.mr.bk l y _ h1 hL
        have hst := set_step (P := E.P) hs.st.mr hs.st.fresh h1 hL trivial (obj := .loop { state := if j.isNone then .ready else .done, pending := j, fn := L.fn, tmps := tmps, params := L.ps.toArray, assign := L.assign, body := L.body, defers := hd.g }) (b' := .lp { L with st := if j.isNone then .ready else .done, pend := j })
          ⟨hd, tmps, q1, q2, ⟨q3, q4, q5, hj⟩, setW_get hlt⟩
        have hrun : (Instr.endRound y.g j).run E.P w = .ok (.bool j.isNone) (setW w y.g (.loop { state := if j.isNone then .ready else .done, pending := j, fn := L.fn, tmps := tmps, params := L.ps.toArray, assign := L.assign, body := L.body, defers := hd.g })) := by
          unfold Instr.endRound
          simp only [Sem.run_bind, run_getLoop q7, Result.andThen_ok, run_setObj q7 (by simp), Sem.run_pure]
        exact ⟨.bool j.isNone, _, ⟨μ, rfl, hs.st.trans hst⟩, .one (step2 y.g _ _ cc cs' h2 h3 hcs hrun)⟩
      · cases h
    · cases h
  | none =>
    replace h : bb (isRet j) (leaveF E r f s) none = some (c, M') := h
    replace h := bb_none h; obtain ⟨hr, h⟩ := h
    replace hro : NoRec b cs := hro
    unfold leaveF at h
    obtain ⟨fn, h1, h⟩ := ob_eq h
    obtain ⟨M1, h2, h⟩ := ob_eq h
    obtain ⟨vs, h3, h⟩ := ob_eq h
    injection h with h; injection h with h4 h5; subst h4; subst h5
    obtain ⟨k1, k2, k3⟩ := hE.fn f fn h1
    obtain ⟨w', μ', q1, q2⟩ := dfs_sim hB h2 hs.st.mr hs.st.fresh hs.df { b.atR a K with mode := .returning } cs rfl rfl
    have ht : TR μ' s.tm a.tmps := hs.tm.mono q1.le
    obtain ⟨xs, r1, r2⟩ := res_rep (s := { s with M := M1 }) (a := a) hE ht q1.mr h3
    have hres := results_eq fn a.tmps r1
    unfold Fin
    rw [hro.1]
    refine ⟨packV xs, w', { { b.atR a K with mode := .returning } with defers := [] }, ⟨μ', pack_rep r2, hs.st.trans q1⟩, .head (step1 hro.1 hr) q2, rfl, rfl, rfl, rfl, fn, hf ▸ k1, hres⟩

theorem step_rangeFunc [Lay] {f : Operand} {ps : Array Nat} {assign body : Code} {k : List Item} {g : Nat} {xs ys : Array Value} (hb : b.roundOf = none) (hf : a.eval f = .func (.func g) xs ys)
    (hr : (callFunc g (xs ++ #[.func (.yield (w.heap.size + 1)) #[] #[]] ++ ys)).run P ((w.alloc (.deferred (some []))).alloc (.loop { state := .ready, pending := none, fn := b.fn, tmps := a.tmps, params := ps, assign, body, defers := w.heap.size })) =
      .ok (.enter g (xs ++ #[.func (.yield (w.heap.size + 1)) #[] #[]] ++ ys)) ((w.alloc (.deferred (some []))).alloc (.loop { state := .ready, pending := none, fn := b.fn, tmps := a.tmps, params := ps, assign, body, defers := w.heap.size }))) :
    step P (lone (b.atR a (.code (.rangeFunc f ps assign body) :: k)) cs w) = .next (lone (Frame.enter P g (xs ++ #[.func (.yield (w.heap.size + 1)) #[] #[]] ++ ys) .normal)
      (b.atR { a with defers := { target := .collected w.heap.size, args := #[] } :: a.defers } (.inRangeFunc (w.heap.size + 1) :: k) :: cs) ((w.alloc (.deferred (some []))).alloc (.loop { state := .ready, pending := none, fn := b.fn, tmps := a.tmps, params := ps, assign, body, defers := w.heap.size }))) := by
  have henter : (Instr.enterLoop b.fn a.tmps ps assign body none).run P w = .ok (w.heap.size + 1, [{ target := .collected w.heap.size, args := #[] }]) ((w.alloc (.deferred (some []))).alloc (.loop { state := .ready, pending := none, fn := b.fn, tmps := a.tmps, params := ps, assign, body, defers := w.heap.size })) := by
    unfold Instr.enterLoop
    simp
  let a2 : Act := { a with defers := { target := .collected w.heap.size, args := #[] } :: a.defers }
  let w2 : World := (w.alloc (.deferred (some []))).alloc (.loop { state := .ready, pending := none, fn := b.fn, tmps := a.tmps, params := ps, assign, body, defers := w.heap.size })
  have he : (b.atR a2 (.inRangeFunc (w.heap.size + 1) :: k)).eval f = .func (.func g) xs ys := by
    rw [Frame.eval_atR]; rw [← hf]; cases f <;> rfl
  have hsem : ((do let d ← resolve (b.atR a2 (.inRangeFunc (w.heap.size + 1) :: k)).eval { callee := .value f, args := #[.const (.func (.yield (w.heap.size + 1)) #[] #[])], argTypes := #[] } 0; invoke d.target d.args : Sem Next)).run P w2 =
      .ok (.enter g (xs ++ #[.func (.yield (w.heap.size + 1)) #[] #[]] ++ ys)) w2 := by
    simp only [resolve, Sem.run_bind, he, Deferred.ofValue, Sem.run_pure, Result.andThen_ok, invoke]
    have e : Array.map (b.atR a2 (.inRangeFunc (w.heap.size + 1) :: k)).eval #[Operand.const (.func (.yield (w.heap.size + 1)) #[] #[])] = #[.func (.yield (w.heap.size + 1)) #[] #[]] := by simp [Frame.eval]
    rw [e]; exact hr
  have h1 : (stepG P true { frame := b.atR a (.code (.rangeFunc f ps assign body) :: k), callers := cs, status := .running, dying := none } w).bare =
      GStep.bare (stepG.apply P true (b.atR a2 (.inRangeFunc (w.heap.size + 1) :: k)) cs none (do let d ← resolve (b.atR a2 (.inRangeFunc (w.heap.size + 1) :: k)).eval { callee := .value f, args := #[.const (.func (.yield (w.heap.size + 1)) #[] #[])], argTypes := #[] } 0; invoke d.target d.args) w2) := by
    simp only [stepG, stepG.exec, Frame.atR, hb, Sem.runT_eq, henter, GStep.bare_after]
    rfl
  refine step_lone_go ?_
  rw [h1]
  simp only [stepG.apply, Sem.runT_eq, hsem, if_true, GStep.bare_after]
  simp [Frame.atR]
  exact ⟨⟨rfl, rfl⟩, rfl⟩
theorem step_endRangeFunc [Lay] {l : Nat} {k : List Item} {jump : Option Code} (hr : (Instr.endLoop l).run P w = .ok jump w') : step P (lone (b.atR a (.endRangeFunc l :: k)) cs w) = .next (lone (b.atR a ((jump.map Item.code).toList ++ k)) cs w') :=
  step_lone_go (by simp [stepG, stepG.exec, Frame.atR, Sem.runT_eq, hr])
end
end Go.Cx
namespace Go.Cx

section
variable {P : Program} {E : Env} {X : Cfg} {b : Frame} {cs : List Frame} {o : Oper} {a : Act} {μ μ' μ0 : Mp} {M M' M'' M0 : Mem} {w w' w0 : World} {N : Nat} {s s' : St} {r : Rn}

theorem headS_fs [Lay] {f : Nat} {k : List Item} (h : FS P μ0 M0 w0 N s a w μ) : FS P μ0 M0 w0 N (headS E f k s) a w μ := by
  unfold headS
  split
  · split
    · exact ⟨fun j c hj => h.tm j c (prune_le _ _ _ _ hj), h.st, h.df, h.sz⟩
    · exact h
  · exact h

theorem Post.sub [Lay] {r : C} (hs : ∀ k b, M''.get k = some b → M'.get k = some b) (hn : M''.nx = M'.nx) {v : Value} (h : Post P μ M w r M' v w') : Post P μ M w r M'' v w' := by
  obtain ⟨μ', h1, h2⟩ := h
  exact ⟨μ', h1, h2.sub hs hn⟩

theorem join_some [Lay] {x y : Option (C × Mem)} {c : C} (h : joinC x y = some (c, M')) : ∃ M1 M2, x = some (c, M1) ∧ y = some (c, M2) ∧ (∀ k b, M'.get k = some b → M1.get k = some b) ∧ (∀ k b, M'.get k = some b → M2.get k = some b) ∧ M'.nx = M1.nx ∧ M'.nx = M2.nx := by
  unfold joinC at h
  split at h
  · rename_i v M1 v' M2
    replace h := cond_none h; obtain ⟨hc, h⟩ := h
    simp only [Bool.and_eq_true] at hc
    injection h with h; injection h with h1 h2; subst h1; subst h2
    have := sameC_eq hc.1; subst this
    have hn := nbeq_true hc.2
    exact ⟨M1, M2, rfl, rfl, fun k b hb => (interT_get hb).1, fun k b hb => (interT_get hb).2, rfl, hn⟩
  · cases h

theorem run_snd [Lay] (hE : EOK E) (hD : DrawOK E) (hP : PrimOK E) : ∀ n, RunSnd E (runC E n) := by
  intro n
  induction n with
  | zero => intro ro f K s c M' h; cases h
  | succ n ih =>
    have hB := body_snd hE ih
    have hC := call_snd hP hB
    have hY := yld_snd ih
    intro ro f K s c M' h b cs a w w0 μ μ0 M0 N hf hro hK hs
    replace h : stepR E (runC E n) ro f K s = some (c, M') := h
    cases K with
    | nil =>
      replace h : leave E (runC E n) ro f s none = some (c, M') := h
      exact leave_sim hE hB h hf hro hs (fun d hd => by cases hd) (fun hb _ => stepR_end hb) (fun g v w' cc cs' hb hk hcs hr => by subst hcs; exact stepR_round_end hb hk hr)
    | cons i k =>
      have hi := hK i (by simp)
      have hk : ∀ j ∈ k, itemOK N j = true := fun j hj => hK j (by simp [hj])
      have cons : ∀ {i : Item} {k : List Item}, itemOK N i = true → (∀ j ∈ k, itemOK N j = true) → ∀ j ∈ i :: k, itemOK N j = true := fun h1 h2 j hj => by
        rcases List.mem_cons.1 hj with rfl | hj
        · exact h1
        · exact h2 j hj
      -- one step, and the rest
      have go : ∀ {K' : List Item} {s1 : St} {a1 : Act} {w1 : World} {μ1 : Mp}, runC E n ro f K' s1 = some (c, M') → (∀ j ∈ K', itemOK N j = true) → FS E.P μ0 M0 w0 N s1 a1 w1 μ1 → RO μ1 ro b cs → Steps E.P (lone (b.atR a (i :: k)) cs w) (lone (b.atR a1 K') cs w1) → Fin E.P b cs (Post E.P μ0 M0 w0 c M') (lone (b.atR a (i :: k)) cs w) :=
        fun h1 h2 h3 h4 h5 => Fin.step h5 (ih ro f _ _ c M' h1 b cs _ _ w0 _ μ0 M0 N hf h4 h2 h3)
      cases i with
      | code cd =>
        replace hi : codeOK N cd = true := hi
        replace h : codeTab cd E (runC E n) ro f k s = some (c, M') := h
        cases cd with
        | skip => exact go h hk hs hro (.one stepR_skip)
        | label l => exact go h hk hs hro (.one stepR_label)
        | seq x y =>
          simp only [codeOK, Bool.and_eq_true] at hi
          exact go h (cons hi.1 (cons hi.2 hk)) hs hro (.one stepR_seq)
        | cond x y z =>
          simp only [codeOK, Bool.and_eq_true] at hi
          replace h : (match rd s.tm x with
            | some (.bool t) => runC E n ro f (.code (bb t y z) :: k) s
            | some .amb => joinC (runC E n ro f (.code y :: k) s) (runC E n ro f (.code z :: k) s)
            | _ => none) = some (c, M') := h
          split at h
          · rename_i t ht
            have he : a.eval x = .bool t := rd_rep hs.tm ht
            have hs1 := stepR_cond (P := E.P) (b := b) (cs := cs) (w := w) (k := k) (x := y) (y := z) he
            cases t with
            | true => exact go h (cons hi.1 hk) hs hro (.one hs1)
            | false => exact go h (cons hi.2 hk) hs hro (.one hs1)
          · rename_i ht
            obtain ⟨t, he⟩ := (rd_rep hs.tm ht : VR μ .amb (a.eval x))
            obtain ⟨M1, M2, h1, h2, h3, h4, h5, h6⟩ := join_some h
            have hs1 := stepR_cond (P := E.P) (b := b) (cs := cs) (w := w) (k := k) (x := y) (y := z) he
            cases t with
            | true => exact (Fin.step (.one hs1) (ih ro f _ _ c M1 h1 b cs _ _ w0 _ μ0 M0 N hf hro (cons hi.1 hk) hs)).mono fun v w' hp => hp.sub h3 h5
            | false => exact (Fin.step (.one hs1) (ih ro f _ _ c M2 h2 b cs _ _ w0 _ μ0 M0 N hf hro (cons hi.2 hk) hs)).mono fun v w' hp => hp.sub h4 h6
          · cases h
        | block id x => exact go h (cons hi (cons rfl hk)) hs hro (.one stepR_block)
        | loop x => exact go h (cons hi (cons hi hk)) (headS_fs hs) hro (.one stepR_loop)
        | scope x =>
          refine go h (cons hi (cons rfl hk)) hs hro (.one (step_lone_go ?_))
          simp [stepG, stepG.exec, Frame.atR]
        | exit id =>
          replace h : (match exitC id k with
            | some k => runC E n ro f k s
            | none => leave E (runC E n) ro f s (some (.exit id))) = some (c, M') := h
          rw [exitC_eq] at h
          split at h
          · rename_i k' hx
            exact go h (fun j hj => hk j (exitTo_mem hx j hj)) hs hro (.one (stepR_exit hx))
          · rename_i hx
            refine leave_sim hE hB h hf hro hs (fun d hd => by injection hd with hd; subst hd; intro _; rfl) (fun _ hr => by cases hr) (fun g v w' cc cs' hb hk hcs hr => by subst hcs; exact stepR_round_exit hb hk hx hr)
        | ret =>
          replace h : leave E (runC E n) ro f s (some .ret) = some (c, M') := h
          exact leave_sim hE hB h hf hro hs (fun d hd => by injection hd with hd; subst hd; intro _; rfl) (fun hb _ => stepR_ret hb) (fun g v w' cc cs' hb hk hcs hr => by subst hcs; exact stepR_round_ret hb hk hr)
        | goto l => cases h
        | refuse y => cases h
        | region id ops d =>
          replace h : ob (regionC E (cfg E (runC E n) ro) d ops.toList s) (fun s => runC E n ro f k s) = some (c, M') := h
          replace h := ob_eq h; obtain ⟨s1, h1, h⟩ := h
          have hdst : ∀ o ∈ ops.toList, ∀ k, o.dst = some k → k < N := by
            intro o ho k hk'
            have := List.all_eq_true.1 hi o ho
            rw [hk'] at this
            simpa only [nblt, decide_eq_true_eq] using this
          have hrec : (cfg E (runC E n) ro).rnd = false → NoRec b cs := by
            intro hr
            cases ro with
            | none => exact hro
            | some l => cases hr
          cases d with
          | true =>
            obtain ⟨a1, w1, μ1, q1, l1, q2⟩ := hD (cfg E (runC E n) ro) b cs id ops k N μ0 M0 w0 s s1 a w μ hC hY hrec hdst h1 hs
            exact go h hk q1 (hro.mono l1) q2
          | false =>
            replace h1 : opsC E (cfg E (runC E n) ro) ops.toList ops.toList s = some s1 := h1
            obtain ⟨a1, w1, μ1, q1, l1, q2⟩ := ops_sim (b := b) (cs := cs) (k := k) hE hC hY hrec ops.toList 0 s s1 a w μ (fun j o hj => by simpa using hj) hdst h1 hs
            refine go h hk q1 (hro.mono l1) (.head stepR_region (.trans (m₁ := lone (b.atR a1 (.inRegion ops [] :: k)) cs w1) ?_ (.one stepR_region_end)))
            rw [List.range_eq_range']; simpa using q2
        | rangeFunc x ps as bd =>
          replace h : hRange x ps as bd hNo hNo E (runC E n) ro f k s = some (c, M') := h
          unfold hRange at h
          cases ro with
          | some l => cases h
          | none =>
            simp only at h
            split at h
            · rename_i g xs ys hx
              replace h := ob_eq h; obtain ⟨p, h1, h⟩ := h
              obtain ⟨c1, M1⟩ := p
              simp only [codeOK, Bool.and_eq_true, List.all_eq_true] at hi
              obtain ⟨⟨i1, i2⟩, i3⟩ := hi
              obtain ⟨u, v, hv, v1, v2⟩ := (rd_rep hs.tm hx : VR μ (.fn g xs ys) (a.eval x))
              have hb := hro.1
              let W1 : World := w.alloc (.deferred (some []))
              let lo : Loop := { state := .ready, pending := none, fn := b.fn, tmps := a.tmps, params := ps, assign := as, body := bd, defers := w.heap.size }
              let W2 : World := W1.alloc (.loop lo)
              have st1 : Step E.P μ s.M w (addM μ s.M.nx ⟨w.heap.size, 0, 0, 0⟩) (s.M.add (.df false)) W1 :=
                Step.add hs.st.mr hs.st.fresh rfl (obj := .deferred (some [])) rfl rfl rfl rfl (by show (w.heap.push _)[w.heap.size]? = _; simp)
              have hW1 : W1.heap.size = w.heap.size + 1 := by simp [W1]
              have st2 : Step E.P (addM μ s.M.nx ⟨w.heap.size, 0, 0, 0⟩) (s.M.add (.df false)) W1 (addM (addM μ s.M.nx ⟨w.heap.size, 0, 0, 0⟩) (s.M.nx + 1) ⟨w.heap.size + 1, 0, 0, 0⟩)
                  ((s.M.add (.df false)).add (.lp { st := .ready, pend := none, fn := f, tm := s.tm, ps := ps.toList, assign := as, body := bd, df := s.M.nx })) W2 := by
                have hle := addM_le (h := ⟨w.heap.size + 1, 0, 0, 0⟩) (st1.fresh.1 (s.M.nx + 1) (Nat.le_refl _))
                refine Step.add st1.mr st1.fresh hW1.symm (obj := .loop lo) rfl rfl rfl rfl ⟨⟨w.heap.size, 0, 0, 0⟩, a.tmps, hle _ _ (addM_self _ _ _), (hs.tm.mono st1.le).mono hle, ⟨by rw [hs.sz]; exact i2, by rw [hs.sz]; exact i3, fun j hj => ?_, fun d hd => by cases hd⟩, ?_⟩
                · have := i1 j hj
                  rw [hs.sz]; simpa only [nblt, decide_eq_true_eq] using this
                · show (W1.heap.push _)[w.heap.size + 1]? = _
                  rw [← hW1]
                  simp [lo, hf]
              have st12 := st1.trans st2
              have hall : VL (addM (addM μ s.M.nx ⟨w.heap.size, 0, 0, 0⟩) (s.M.nx + 1) ⟨w.heap.size + 1, 0, 0, 0⟩) (app xs (app [.yld (s.M.nx + 1)] ys)) (u ++ #[Value.func (.yield (w.heap.size + 1)) #[] #[]] ++ v).toList := by
                simp only [app_eq, Array.toList_append]
                rw [List.append_assoc]
                exact (v1.mono st12.le).append (VL.append (VL.cons.2 ⟨⟨_, addM_self _ _ _, rfl⟩, rfl⟩) (v2.mono st12.le))
              obtain ⟨r1, r2⟩ := hB g _ _ c1 M1 h1 _ W2 (u ++ #[Value.func (.yield (w.heap.size + 1)) #[] #[]] ++ v) st12.mr st12.fresh hall
              have hs1 := step_rangeFunc (P := E.P) (b := b) (a := a) (w := w) (cs := cs) (k := k) (f := x) (ps := ps) (assign := as) (body := bd) hb hv r1
              obtain ⟨z, w3, ⟨μ3, _, st3⟩, r3⟩ := r2.callN (b.atR { a with defers := { target := .collected w.heap.size, args := #[] } :: a.defers } (.inRangeFunc (w.heap.size + 1) :: k)) cs
              have hfin : (b.atR { a with defers := { target := .collected w.heap.size, args := #[] } :: a.defers } (.inRangeFunc (w.heap.size + 1) :: k)).finish z = b.atR { a with defers := { target := .collected w.heap.size, args := #[] } :: a.defers } (.endRangeFunc (w.heap.size + 1) :: k) := rfl
              rw [hfin] at r3
              have st123 := st12.trans st3
              split at h
              · rename_i L hL
                have hl3 : μ3 (s.M.nx + 1) = some ⟨w.heap.size + 1, 0, 0, 0⟩ := st3.le _ _ (addM_self _ _ _)
                obtain ⟨hd, tmps, q1, q2, q3, q7⟩ := st3.mr.bk _ _ _ hl3 hL
                have hstep := set_step (P := E.P) st3.mr st3.fresh hl3 hL trivial (obj := .loop { state := .exhausted, pending := L.pend, fn := L.fn, tmps := tmps, params := L.ps.toArray, assign := L.assign, body := L.body, defers := hd.g }) (b' := .lp { L with st := .exhausted })
                  ⟨hd, tmps, q1, q2, q3, setW_get (st3.mr.lt _ _ hl3)⟩
                have hnb : L.st ≠ .busy → (Instr.endLoop (w.heap.size + 1)).run E.P w3 = .ok L.pend (setW w3 (w.heap.size + 1) (.loop { state := .exhausted, pending := L.pend, fn := L.fn, tmps := tmps, params := L.ps.toArray, assign := L.assign, body := L.body, defers := hd.g })) := by
                  intro hn
                  unfold Instr.endLoop
                  have hbq : (L.st == LoopState.busy) = false := by simpa using hn
                  simp only [Sem.run_bind, run_getLoop q7, Result.andThen_ok, hbq, Bool.false_eq_true, if_false, Sem.run_pure, run_setObj q7 (by simp)]
                have fin : L.st ≠ .busy → runC E n none f (codesOf L.pend ++ k) { s with M := M1.set (s.M.nx + 1) (.lp { L with st := .exhausted }), df := .col s.M.nx :: s.df } = some (c, M') → Fin E.P b cs (Post E.P μ0 M0 w0 c M') (lone (b.atR a (.code (.rangeFunc x ps as bd) :: k)) cs w) := by
                  intro hn hrn
                  have hle : Le μ μ3 := st123.le
                  refine go hrn ?_ (s1 := { s with M := M1.set (s.M.nx + 1) (.lp { L with st := .exhausted }), df := .col s.M.nx :: s.df }) (a1 := { a with defers := { target := .collected w.heap.size, args := #[] } :: a.defers }) (μ1 := μ3) ⟨hs.tm.mono hle, (hs.st.trans st123).trans hstep, ⟨⟨w.heap.size, 0, 0, 0⟩, a.defers, st3.le _ _ (st2.le _ _ (addM_self _ _ _)), rfl, hs.df.mono hle⟩, hs.sz⟩ (RO.mono (ro := none) hle hro) (.head hs1 (.trans r3 (.one ?_)))
                  · intro j hj
                    rcases List.mem_append.1 hj with hj | hj
                    · cases hp : L.pend with
                      | none => rw [hp] at hj; cases hj
                      | some d =>
                        rw [hp] at hj
                        have : j = .code d := by simpa [codesOf] using hj
                        subst this
                        exact q3.2.2.2 d hp N
                    · exact hk j hj
                  · have := step_endRangeFunc (P := E.P) (b := b) (a := { a with defers := { target := .collected w.heap.size, args := #[] } :: a.defers }) (cs := cs) (k := k) (hnb hn)
                    have e : (L.pend.map Item.code).toList ++ k = codesOf L.pend ++ k := by cases L.pend <;> rfl
                    rw [e] at this; exact this
                split at h
                · cases h
                · rename_i hn
                  exact fin (fun e => hn e) h
              · cases h
            · cases h
      | inBlock id => exact go h hk hs hro (.one stepR_inBlock)
      | inScope id => refine go h hk hs hro (.one (step_lone_go (by simp [stepG, stepG.exec, Frame.atR])))
      | inLoop cd =>
        replace hi : codeOK N cd = true := hi
        exact go h (cons hi (cons hi hk)) (headS_fs hs) hro (.one stepR_inLoop)
      | beginRound =>
        replace h : hBegin E (runC E n) ro f k s = some (c, M') := h
        unfold hBegin at h
        split at h
        · rename_i l
          split at h
          · rename_i L hL
            split at h
            · rename_i hst
              obtain ⟨y, r1, r2, r3⟩ := hro
              obtain ⟨hd, tmps, q1, q2, q3, q7⟩ := hs.st.mr.bk l y _ r1 hL
              have hstep := set_step (P := E.P) hs.st.mr hs.st.fresh r1 hL trivial (obj := .loop { state := .busy, pending := L.pend, fn := L.fn, tmps := tmps, params := L.ps.toArray, assign := L.assign, body := L.body, defers := hd.g }) (b' := .lp { L with st := .busy })
                ⟨hd, tmps, q1, q2, q3, setW_get (hs.st.mr.lt l y r1)⟩
              have hrun : (Instr.beginRound y.g).run E.P w = .ok () (setW w y.g (.loop { state := .busy, pending := L.pend, fn := L.fn, tmps := tmps, params := L.ps.toArray, assign := L.assign, body := L.body, defers := hd.g })) := by
                unfold Instr.beginRound
                simp only [Sem.run_bind, run_getLoop q7, Result.andThen_ok, run_setObj q7 (by simp)]
                rw [hst]; rfl
              exact go h hk ⟨hs.tm, hs.st.trans hstep, hs.df, hs.sz⟩ ⟨y, r1, r2, r3⟩ (.one (stepR_beginRound r2 hrun))
            · cases h
          · cases h
        · cases h
      | inRegion ops l => cases h
      | inRangeFunc l => cases h
      | endRangeFunc l => cases h
      | call d wr rs sv => cases h
      | extern rw ar => cases h
end
end Go.Cx
namespace Go.Cx

/-- what an operation that touches no memory does -/
def PM (f : Mem → Res) : Prop := ∀ v M M', f M = .ok v M' → M' = M ∧ ∀ M2, f M2 = .ok v M2
/-- what one that only looks at memory does -/
def LM (f : Mem → Res) : Prop := ∀ v M M', f M = .ok v M' → M' = M ∧ ∀ n, f ⟨n, M.tr⟩ = .ok v ⟨n, M.tr⟩
/-- what one that makes a block does -/
def NM (f : Mem → Res) : Prop := ∀ v M M', f M = .ok v M' → ∃ b, M' = M.add b ∧ ∀ M2, M2.nx = M.nx → f M2 = .ok v (M2.add b)

theorem PM.no [Lay] : PM fun _ => .no := fun _ _ _ h => by cases h
theorem PM.ok [Lay] {v : C} : PM fun M => .ok v M := fun _ _ _ h => by injection h with h1 h2; subst h1; subst h2; exact ⟨rfl, fun _ => rfl⟩
theorem PM.outV [Lay] {r : Option C} : PM fun M => outV M r := fun v M M' h => by
  obtain ⟨rfl, rfl⟩ := outV_ok h
  exact ⟨rfl, fun _ => rfl⟩
theorem PM.wv [Lay] {x : Option C} {f : C → Mem → Res} (h : ∀ c, PM (f c)) : PM fun M => wv x fun c => f c M := by
  cases x with
  | none => exact .no
  | some c => exact h c
theorem PM.bb [Lay] {t : Bool} {f g : Mem → Res} (h : PM f) (h' : PM g) : PM fun M => bb t (f M) (g M) := by cases t <;> assumption
theorem PM.lm [Lay] {f : Mem → Res} (h : PM f) : LM f := fun v M M' h1 => ⟨(h v M M' h1).1, fun n => (h v M M' h1).2 _⟩
theorem LM.no [Lay] : LM fun _ => .no := PM.lm .no
theorem LM.outV [Lay] {r : Mem → Option C} (hr : ∀ n n' tr, r ⟨n, tr⟩ = r ⟨n', tr⟩) : LM fun M => outV M (r M) := fun v M M' h => by
  obtain ⟨rfl, h1⟩ := outV_ok h
  refine ⟨rfl, fun n => ?_⟩
  show Go.Cx.outV _ (r ⟨n, M'.tr⟩) = _
  rw [hr n M'.nx M'.tr, show (⟨M'.nx, M'.tr⟩ : Mem) = M' from rfl, h1]; rfl
theorem LM.wv [Lay] {x : Option C} {f : C → Mem → Res} (h : ∀ c, LM (f c)) : LM fun M => wv x fun c => f c M := by
  cases x with
  | none => exact .no
  | some c => exact h c
theorem NM.no [Lay] : NM fun _ => .no := fun _ _ _ h => by cases h
theorem NM.wv [Lay] {x : Option C} {f : C → Mem → Res} (h : ∀ c, NM (f c)) : NM fun M => wv x fun c => f c M := by
  cases x with
  | none => exact .no
  | some c => exact h c
theorem NM.newC [Lay] {T : Nat} {cs : List C} : NM fun M => out (newC M T cs) := fun v M M' h => by
  replace h := out_ok h
  unfold Go.Cx.newC at h
  replace h := cond_none h; obtain ⟨h1, h⟩ := h
  injection h with h; injection h with h2 h3; subst h2; subst h3
  refine ⟨_, rfl, fun M2 hn => ?_⟩
  simp only [Go.Cx.newC, h1, cond_true, hn]; rfl

section
variable {E : Env} {X : Cfg} {ρ : Operand → Option C} {M M' : Mem} {R : Nat} {v : C} {o : Oper}

theorem eq_noptr [Lay] {T : Nat} (ht : ∀ e, E.tk T ≠ some (.ptr e)) (M M2 : Mem) (x y : C) : eqC E M T x y = eqC E M2 T x y := by
  unfold eqC
  split
  · rfl
  · rfl
  · split <;> first | rfl | exact absurd ‹E.tk T = some (.ptr _)› (ht _)

theorem cap_any [Lay] (r : Bool) (M M2 : Mem) (l : List Nat) (as : List C) : builtinC E r M2 .cap l as = (builtinC E r M .cap l as).map fun p => (p.1, M2) := by
  unfold builtinC
  split <;> first | (split <;> rfl) | (simp_all; done) | rfl
theorem max_any [Lay] (r : Bool) (M M2 : Mem) (l : List Nat) (as : List C) : builtinC E r M2 .max l as = (builtinC E r M .max l as).map fun p => (p.1, M2) := by
  unfold builtinC
  simp only
  split <;> rfl
theorem min_any [Lay] (r : Bool) (M M2 : Mem) (l : List Nat) (as : List C) : builtinC E r M2 .min l as = (builtinC E r M .min l as).map fun p => (p.1, M2) := by
  unfold builtinC
  simp only
  split <;> rfl
theorem data_any [Lay] (r : Bool) (M M2 : Mem) (l : List Nat) (as : List C) : builtinC E r M2 .unsafeSliceData l as = (builtinC E r M .unsafeSliceData l as).map fun p => (p.1, M2) := by
  match as with
  | [] => rfl
  | [x] => cases x <;> first | rfl | (rename_i f k o n; cases hn : Nat.blt 0 n <;> simp [builtinC, hn])
  | _ :: _ :: _ => simp [builtinC]

theorem pure_M [Lay] (hk : kdC E o = .pure) (h : opTab o.op E X ρ M R = .ok v M') : M' = M ∧ ∀ M2, opTab o.op E X ρ M2 R = .ok v M2 := by
  have go : ∀ {f : OpF}, opTab o.op = f → PM (fun M => f E X ρ M R) → M' = M ∧ ∀ M2, opTab o.op E X ρ M2 R = .ok v M2 := fun e hp => by
    have := hp v M M' (by rw [← e]; exact h)
    rw [e]; exact this
  cases ho : o.op with
  | move x => rw [← ho]; exact go (by rw [ho]; rfl) (f := oMove x) PM.outV
  | assign x => rw [← ho]; exact go (by rw [ho]; rfl) (f := oMove x) PM.outV
  | pick c x y => rw [← ho]; exact go (by rw [ho]; rfl) (f := oPick c x y) (PM.wv fun u => by cases u <;> first | exact PM.no | exact PM.outV)
  | build T ps => rw [← ho]; exact go (by rw [ho]; rfl) (f := oBuild T ps) PM.outV
  | nilCheck x => rw [← ho]; exact go (by rw [ho]; rfl) (f := oNilCheck x) (PM.wv fun u => PM.outV)
  | unOp op T x => rw [← ho]; exact go (by rw [ho]; rfl) (f := oUn op T x) (PM.wv fun u => PM.outV)
  | makeInterface T x =>
    rw [← ho]
    refine go (by rw [ho]; rfl) (f := oIface T x) (PM.wv fun u => ?_)
    cases E.tk T with
    | none => exact PM.no
    | some k => cases k <;> first | exact PM.no | exact PM.bb .no .ok
  | makeFunc fn xs ys =>
    rw [← ho]
    refine go (by rw [ho]; rfl) (f := oFunc fn xs ys) ?_
    unfold oFunc
    cases fn with
    | func f =>
      cases rdAll ρ xs.toList with
      | none => exact PM.no
      | some a => cases rdAll ρ ys.toList with
        | none => exact PM.no
        | some b => exact PM.ok
    | _ => exact PM.no
  | fieldAddr T x f => rw [← ho]; exact go (by rw [ho]; rfl) (f := oFieldAddr T x f) (PM.wv fun u => PM.outV)
  | field T x f => rw [← ho]; exact go (by rw [ho]; rfl) (f := oField T x f) (PM.wv fun u => PM.outV)
  | indexAddr T x i => rw [← ho]; exact go (by rw [ho]; rfl) (f := oIndexAddr T x i) (PM.wv fun u => PM.wv fun u => PM.outV)
  | index T x i => rw [← ho]; exact go (by rw [ho]; rfl) (f := oIndex T x i) (PM.wv fun u => PM.wv fun u => PM.outV)
  | typeAssert x T A ok => rw [← ho]; exact go (by rw [ho]; rfl) (f := oAssert x T A ok) (PM.wv fun u => PM.outV)
  | extract x i => rw [← ho]; exact go (by rw [ho]; rfl) (f := oExtract x i) (PM.wv fun u => PM.outV)
  | binOp op T x y U =>
    rw [← ho]
    have ht : (op = .eql ∨ op = .neq) → ∀ e, E.tk T ≠ some (.ptr e) := by
      intro hop e he
      rcases hop with rfl | rfl <;> simp [kdC, ho, he] at hk
    refine go (by rw [ho]; rfl) (f := oBin op T x y U) (PM.wv fun u => PM.wv fun u' => ?_)
    have : ∀ M2 M3, binC op E M2 T x y u u' = binC op E M3 T x y u u' := by
      intro M2 M3
      have key : ∀ neg, (∀ e, E.tk T ≠ some (.ptr e)) → bEq neg E M2 T x y u u' = bEq neg E M3 T x y u u' := fun neg h => by
        unfold bEq
        rw [eq_noptr h M2 M3]
      cases op <;> first | rfl | exact key _ (ht (.inl rfl)) | exact key _ (ht (.inr rfl))
    intro v M M' h
    obtain ⟨rfl, h1⟩ := outV_ok h
    refine ⟨rfl, fun M2 => ?_⟩
    show outV M2 (binC op E M2 T x y u u') = _
    rw [this M2 M', h1]; rfl
  | convert src dst x =>
    rw [← ho]
    refine go (by rw [ho]; rfl) (f := oConv src dst x) (PM.wv fun u => ?_)
    simp only [kdC, ho] at hk
    split at hk <;> try (cases hk; done)
    · rename_i k1 k2 h1 h2
      intro v M M' h
      replace h := out_ok h
      simp only [convC, h1, h2] at h ⊢
      cases u <;> first | (cases h; done) | skip
      injection h with h; injection h with h3 h4; subst h3; subst h4
      exact ⟨rfl, fun _ => rfl⟩
    · rename_i h1 h2
      intro v M M' h
      replace h := out_ok h
      simp only [convC, h1, h2] at h ⊢
      cases u <;> first | (cases h; done) | skip
      injection h with h; injection h with h3 h4; subst h3; subst h4
      exact ⟨rfl, fun _ => rfl⟩
    · rename_i h1 h2
      intro v M M' h
      replace h := out_ok h
      simp only [convC, h1, h2] at h ⊢
      cases u <;> first | (cases h; done) | skip
      injection h with h; injection h with h3 h4; subst h3; subst h4
      exact ⟨rfl, fun _ => rfl⟩
  | call c =>
    rw [← ho]
    obtain ⟨cal, args, ats⟩ := c
    cases cal with
    | value f => simp [kdC, ho] at hk
    | invoke f m => rw [ho] at h; cases h
    | builtin bi =>
      refine go (by rw [ho]; rfl) (f := cBuiltin bi args ats) ?_
      unfold cBuiltin
      cases rdAll ρ args.toList with
      | none => exact PM.no
      | some as =>
        have key : ∀ M2, builtinC E X.rnd M2 bi ats.toList as = (builtinC E X.rnd M bi ats.toList as).map fun p => (p.1, M2) := by
          intro M2
          cases bi <;> simp only [kdC, ho] at hk <;> try (cases hk; done)
          · exact cap_any ..
          · exact max_any ..
          · exact min_any ..
          · exact data_any ..
        intro v M1 M' h
        replace h := out_ok h
        simp only [key M1] at h
        obtain ⟨p, h1, h2⟩ := map_some h
        injection h2 with h2 h3; subst h2; subst h3
        refine ⟨rfl, fun M2 => ?_⟩
        simp only [key M2, h1]; rfl
  | _ => simp [kdC, ho] at hk

theorem load_M [Lay] (hk : kdC E o = .load) (h : opTab o.op E X ρ M R = .ok v M') : M' = M ∧ ∀ n, opTab o.op E X ρ ⟨n, M.tr⟩ R = .ok v ⟨n, M.tr⟩ := by
  have go : ∀ {f : OpF}, opTab o.op = f → LM (fun M => f E X ρ M R) → M' = M ∧ ∀ n, opTab o.op E X ρ ⟨n, M.tr⟩ R = .ok v ⟨n, M.tr⟩ := fun e hp => by
    have := hp v M M' (by rw [← e]; exact h)
    rw [e]; exact this
  cases ho : o.op with
  | load T x => rw [← ho]; exact go (by rw [ho]; rfl) (f := oLoad T x) (LM.wv fun u => LM.outV fun _ _ _ => rfl)
  | lookup T x k ok => rw [← ho]; exact go (by rw [ho]; rfl) (f := oLookup T x k ok) (LM.wv fun u => LM.wv fun u' => LM.outV fun _ _ _ => rfl)
  | entry x => rw [← ho]; exact go (by rw [ho]; rfl) (f := oEntry x) (LM.wv fun u => LM.outV fun _ _ _ => rfl)
  | slice T x lo hi mx => rw [← ho]; exact go (by rw [ho]; rfl) (f := oSlice T x lo hi mx) (LM.wv fun u => LM.outV fun _ _ _ => rfl)
  | binOp op T x y U => rw [← ho]; exact go (by rw [ho]; rfl) (f := oBin op T x y U) (LM.wv fun u => LM.wv fun u' => LM.outV fun _ _ _ => by cases op <;> rfl)
  | convert src dst x =>
    rw [← ho]
    refine go (by rw [ho]; rfl) (f := oConv src dst x) (LM.wv fun u => ?_)
    intro v M M' h
    replace h := out_ok h
    show M' = M ∧ ∀ n, out (convC E ⟨n, M.tr⟩ src dst u) = .ok v ⟨n, M.tr⟩
    simp only [kdC, ho] at hk
    split at hk <;> try (cases hk; done)
    · rename_i e h1 h2
      cases u <;> simp only [convC, h1, h2] at h <;> try (cases h; done)
      · injection h with h; injection h with h3 h4; subst h3; subst h4
        exact ⟨rfl, fun n => by simp only [convC, h1, h2]; rfl⟩
      · split at h <;> try (cases h; done)
        rename_i hT
        injection h with h; injection h with h3 h4; subst h3; subst h4
        refine ⟨rfl, fun n => ?_⟩
        simp only [convC, h1, h2, hT]; rfl
      · rename_i f k off n
        split at h <;> try (cases h; done)
        rename_i hT hb
        split at h <;> try (cases h; done)
        rename_i hc
        split at h <;> try (cases h; done)
        rename_i hbs
        injection h with h; injection h with h3 h4; subst h3; subst h4
        refine ⟨rfl, fun n => ?_⟩
        have hb' : (Mem.get ⟨n, M.tr⟩ k) = _ := hb
        simp only [convC, h1, h2, hT, hb', hc, hbs]; rfl
    · rename_i e h1 h2
      cases u <;> simp only [convC, h1, h2] at h <;> try (cases h; done)
      rename_i k off
      split at h <;> try (cases h; done)
      rename_i n0 U md cs hT hb
      replace h := cond_none h; obtain ⟨hc, h⟩ := h
      injection h with h; injection h with h3 h4; subst h3; subst h4
      refine ⟨rfl, fun n => ?_⟩
      have hb' : (Mem.get ⟨n, M.tr⟩ k) = _ := hb
      simp only [convC, h1, h2, hT, hb', hc, cond_true]; rfl
    · rename_i e h1 h2
      cases u <;> simp only [convC, h1, h2] at h <;> try (cases h; done)
      rename_i k off
      split at h <;> try (cases h; done)
      rename_i U cs hb
      split at h <;> try (cases h; done)
      rename_i n0 u0 hT hU
      replace h := cond_none h; obtain ⟨hc, h⟩ := h
      injection h with h; injection h with h3 h4; subst h3; subst h4
      refine ⟨rfl, fun n => ?_⟩
      have hb' : (Mem.get ⟨n, M.tr⟩ k) = _ := hb
      simp only [convC, h1, h2, hT, hU, hb', hc, cond_true]; rfl
  | call c =>
    rw [← ho]
    obtain ⟨cal, args, ats⟩ := c
    cases cal with
    | value f => simp [kdC, ho] at hk
    | invoke f m => rw [ho] at h; cases h
    | builtin bi =>
      refine go (by rw [ho]; rfl) (f := cBuiltin bi args ats) ?_
      unfold cBuiltin
      cases rdAll ρ args.toList with
      | none => exact LM.no
      | some as =>
        cases bi <;> simp only [kdC, ho] at hk <;> try (cases hk; done)
        intro v M M' h
        replace h := out_ok h
        show M' = M ∧ ∀ n, out (builtinC E X.rnd ⟨n, M.tr⟩ .len ats.toList as) = .ok v ⟨n, M.tr⟩
        generalize ats.toList = l at h ⊢
        match l, as with
        | [t], [x] =>
          simp only [builtinC] at h ⊢
          split at h
          · rename_i k hk'
            injection h with h; injection h with h3 h4; subst h3; subst h4
            refine ⟨rfl, fun n => ?_⟩
            have hk2 : lenC E ⟨n, M.tr⟩ t x = some k := hk'
            simp only [hk2]; rfl
          · cases h
        | [], _ => simp [builtinC] at h
        | _ :: _ :: _, _ => simp [builtinC] at h
        | [_], [] => simp [builtinC] at h
        | [_], _ :: _ :: _ => simp [builtinC] at h
  | _ => simp [kdC, ho] at hk

theorem new_M [Lay] (hk : kdC E o = .new) (h : opTab o.op E X ρ M R = .ok v M') : ∃ b, M' = M.add b ∧ ∀ M2, M2.nx = M.nx → opTab o.op E X ρ M2 R = .ok v (M2.add b) := by
  have go : ∀ {f : OpF}, opTab o.op = f → NM (fun M => f E X ρ M R) → ∃ b, M' = M.add b ∧ ∀ M2, M2.nx = M.nx → opTab o.op E X ρ M2 R = .ok v (M2.add b) := fun e hp => by
    have := hp v M M' (by rw [← e]; exact h)
    rw [e]; exact this
  cases ho : o.op with
  | alloc T =>
    rw [← ho]
    refine go (by rw [ho]; rfl) (f := oAlloc T) ?_
    unfold oAlloc
    cases E.ty.get T with
    | none => exact NM.no
    | some x => exact NM.newC
  | box T x => rw [← ho]; exact go (by rw [ho]; rfl) (f := oBox T x) (NM.wv fun u => NM.newC)
  | buildSlice T n ps =>
    rw [← ho]
    refine go (by rw [ho]; rfl) (f := oBuildSlice T n ps) ?_
    intro v M M' h
    replace h := out_ok h
    unfold buildSliceC at h
    split at h <;> try (cases h; done)
    rename_i e hT
    split at h <;> try (cases h; done)
    rename_i x hx
    replace h := cond_none h; obtain ⟨hc, h⟩ := h
    split at h <;> try (cases h; done)
    rename_i cs hcs
    injection h with h; injection h with h3 h4; subst h3; subst h4
    refine ⟨_, rfl, fun M2 hn => ?_⟩
    show out (buildSliceC E ρ M2 T n ps.toList) = _
    simp only [buildSliceC, hT, hx, hc, cond_true, hcs, hn]; rfl
  | makeMap T r =>
    rw [← ho]
    refine go (by rw [ho]; rfl) (f := oMap T r) ?_
    have mk : NM fun M => Res.ok (.map M.nx) (M.add (.mp [] 0)) := fun v M M' h => by
      injection h with h3 h4; subst h3; subst h4
      exact ⟨_, rfl, fun M2 hn => by simp only [hn]⟩
    unfold oMap
    split
    · cases r with
      | none => exact mk
      | some x => exact NM.wv fun u => by cases u <;> first | exact mk | exact NM.no
    · exact NM.no
  | makeSlice T l c =>
    rw [← ho]
    refine go (by rw [ho]; rfl) (f := oMakeSlice T l c) (NM.wv fun u => NM.wv fun u' => ?_)
    intro v M M' h
    replace h := out_ok h
    unfold makeSliceC at h
    split at h <;> try (cases h; done)
    rename_i e hT
    split at h <;> try (cases h; done)
    rename_i x hx
    split at h <;> try (cases h; done)
    rename_i n m hn hm
    replace h := cond_none h; obtain ⟨hc, h⟩ := h
    injection h with h; injection h with h3 h4; subst h3; subst h4
    refine ⟨_, rfl, fun M2 hn2 => ?_⟩
    show out (makeSliceC E M2 T u u') = _
    simp only [makeSliceC, hT, hx, hn, hm, hc, cond_true, hn2]; rfl
  | binOp op T x y U =>
    simp only [kdC, ho] at hk
    split at hk
    · split at hk <;> cases hk
    · split at hk <;> cases hk
    · cases hk
  | convert s d x =>
    simp only [kdC, ho] at hk
    split at hk <;> cases hk
  | call c =>
    obtain ⟨cal, args, ats⟩ := c
    cases cal with
    | value f => simp [kdC, ho] at hk
    | invoke f m => rw [ho] at h; cases h
    | builtin bi =>
      simp only [kdC, ho] at hk
      split at hk <;> cases hk
  | _ => simp [kdC, ho] at hk
end
end Go.Cx
namespace Go.Cx

/-! what a region's text says -/
section
variable {E : Env} {X : Cfg} {ops : List Oper}

theorem bit_eq [Lay] (m i : Nat) : bit m i = m.testBit i := by
  unfold bit
  rw [nbeq, Nat.testBit_eq_decide_div_mod_eq]
theorem bit_lor [Lay] {a b x : Nat} (h : bit (Nat.lor a b) x = true) : bit a x = true ∨ bit b x = true := by
  rw [bit_eq] at h ⊢
  rw [bit_eq]
  have : (a ||| b).testBit x = true := h
  rw [Nat.testBit_or] at this
  simpa using this
theorem bit_pow [Lay] {k x : Nat} (h : bit (2 ^ k) x = true) : x = k := by
  rw [bit_eq] at h
  rw [Nat.testBit_two_pow] at h
  simpa using Eq.symm (of_decide_eq_true h)
theorem bit_zero [Lay] (x : Nat) : bit 0 x = false := by rw [bit_eq]; simp

theorem mask_some [Lay] {ms : List Nat} {i : Nat} : ∀ {l : List Edge} {m : Nat}, maskOf ms i l = some m → (∀ e ∈ l, Region.binds .any e = true → e.on < i) ∧
    ∀ x, bit m x = true → ∃ e ∈ l, Region.binds .any e = true ∧ (x = e.on ∨ ∃ a, ms[e.on]? = some a ∧ bit a x = true)
  | [], m, h => by
    simp only [maskOf, Option.some.injEq] at h; subst h
    exact ⟨fun e he => (by cases he), fun x hx => (by rw [bit_zero] at hx; cases hx)⟩
  | e :: l, m, h => by
    unfold maskOf at h
    split at h
    · rename_i m1 hm1
      obtain ⟨k1, k2⟩ := mask_some hm1
      cases hb : Region.binds .any e with
      | false =>
        rw [hb] at h
        replace h : some m1 = some m := h
        injection h with h; subst h
        refine ⟨fun e' he' hb' => ?_, fun x hx => ?_⟩
        · rcases List.mem_cons.1 he' with rfl | he'
          · rw [hb] at hb'; cases hb'
          · exact k1 e' he' hb'
        · obtain ⟨e', h1, h2⟩ := k2 x hx
          exact ⟨e', List.mem_cons_of_mem _ h1, h2⟩
      | true =>
        rw [hb] at h
        replace h : (bif Nat.blt e.on i then match nth ms e.on with
          | some a => some (Nat.lor m1 (Nat.lor a (2 ^ e.on)))
          | none => none else none) = some m := h
        replace h := cond_none h; obtain ⟨hlt, h⟩ := h
        rw [nblt] at hlt
        replace hlt := of_decide_eq_true hlt
        split at h
        · rename_i a ha
          rw [nth_eq] at ha
          injection h with h; subst h
          refine ⟨fun e' he' hb' => ?_, fun x hx => ?_⟩
          · rcases List.mem_cons.1 he' with rfl | he'
            · exact hlt
            · exact k1 e' he' hb'
          · rcases bit_lor hx with h1 | h1
            · obtain ⟨e', h1, h2⟩ := k2 x h1
              exact ⟨e', List.mem_cons_of_mem _ h1, h2⟩
            · refine ⟨e, by simp, hb, ?_⟩
              rcases bit_lor h1 with h2 | h2
              · exact .inr ⟨a, ha, h2⟩
              · exact .inl (bit_pow h2)
        · cases h
    · cases h

/-- what masksC found -/
structure MS (ops : List Oper) (ms : List Nat) : Prop where
  len : ms.length = ops.length
  back : ∀ (j : Nat) (o : Oper), ops[j]? = some o → ∀ e ∈ o.after.toList, Region.binds .any e = true → e.on < j
  bits : ∀ (j : Nat) (o : Oper) (m : Nat), ops[j]? = some o → ms[j]? = some m → ∀ x, bit m x = true → ∃ e ∈ o.after.toList, Region.binds .any e = true ∧ (x = e.on ∨ ∃ a, ms[e.on]? = some a ∧ bit a x = true)

theorem masks_go [Lay] : ∀ {l : List Oper} {pre : List Oper} {ms ms' : List Nat}, MS pre ms → masksC ms pre.length l = some ms' → MS (pre ++ l) ms'
  | [], pre, ms, ms', hp, h => by
    simp only [masksC, Option.some.injEq] at h; subst h; simpa using hp
  | o :: l, pre, ms, ms', hp, h => by
    unfold masksC at h
    split at h
    · rename_i m hm
      obtain ⟨k1, k2⟩ := mask_some hm
      have := masks_go (pre := pre ++ [o]) (l := l) (ms := app ms [m]) (ms' := ms') ?_ (by simpa using h)
      · simpa using this
      · rw [app_eq]
        refine ⟨by simp [hp.len], fun j o' hj e he hb => ?_, fun j o' m' hj hm' x hx => ?_⟩
        · rw [List.getElem?_append] at hj
          split at hj
          · exact hp.back j o' hj e he hb
          · rename_i hge
            have hj0 : j = pre.length := by
              have := (List.getElem?_eq_some_iff.1 hj).1; simp at this; omega
            subst hj0
            simp at hj; subst hj
            exact k1 e he hb
        · rw [List.getElem?_append] at hj
          split at hj
          · rename_i hlt
            rw [List.getElem?_append_left (by rw [hp.len]; exact hlt)] at hm'
            obtain ⟨e, h1, h2, h3⟩ := hp.bits j o' m' hj hm' x hx
            refine ⟨e, h1, h2, h3.imp id fun ⟨a, ha, hb⟩ => ⟨a, ?_, hb⟩⟩
            rw [List.getElem?_append_left (List.getElem?_eq_some_iff.1 ha).1]; exact ha
          · rename_i hge
            have hj0 : j = pre.length := by
              have := (List.getElem?_eq_some_iff.1 hj).1; simp at this; omega
            subst hj0
            simp at hj; subst hj
            rw [← hp.len] at hm'
            simp at hm'; subst hm'
            obtain ⟨e, h1, h2, h3⟩ := k2 x hx
            refine ⟨e, h1, h2, h3.imp id fun ⟨a, ha, hb⟩ => ⟨a, ?_, hb⟩⟩
            rw [List.getElem?_append_left (List.getElem?_eq_some_iff.1 ha).1]; exact ha
    · cases h
theorem masks_ok [Lay] {ms : List Nat} (h : masksC [] 0 ops = some ms) : MS ops ms := by
  have := masks_go (pre := []) (ms := []) (l := ops) ⟨rfl, fun j o h => by simp at h, fun j o m h => by simp at h⟩ h
  simpa using this

/-- nothing is done ahead of what it needs -/
def Cl (ops : List Oper) (D : Nat → Prop) : Prop := ∀ (i : Nat) (o : Oper), D i → ops[i]? = some o → ∀ e ∈ o.after.toList, Region.binds .any e = true → D e.on
/-- i is done ahead of j -/
def Anc (ops : List Oper) (i j : Nat) : Prop := ∀ (D : Nat → Prop) (o : Oper), Cl ops D → ops[j]? = some o → (∀ e ∈ o.after.toList, Region.binds .any e = true → D e.on) → D i

theorem MS.anc [Lay] {ms : List Nat} (h : MS ops ms) : ∀ {j m x : Nat}, ms[j]? = some m → bit m x = true → Anc ops x j := by
  intro j
  induction j using Nat.strongRecOn with
  | _ j ih =>
    intro m x hm hx D o hcl ho hpre
    obtain ⟨e, h1, h2, h3⟩ := h.bits j o m ho hm x hx
    rcases h3 with rfl | ⟨a, ha, hb⟩
    · exact hpre e h1 h2
    · have hlt := h.back j o ho e h1 h2
      have hlen : e.on < ops.length := Nat.lt_trans hlt (List.getElem?_eq_some_iff.1 ho).1
      exact ih e.on hlt ha hb D ops[e.on] hcl (List.getElem?_eq_getElem hlen) fun e' he' hb' => hcl e.on _ (hpre e h1 h2) (List.getElem?_eq_getElem hlen) e' he' hb'
theorem Anc.done [Lay] {i j : Nat} (h : Anc ops i j) {D : Nat → Prop} (hcl : Cl ops D) (hj : D j) (hlt : j < ops.length) : D i :=
  h D ops[j] hcl (List.getElem?_eq_getElem hlt) fun e he hb => hcl j _ hj (List.getElem?_eq_getElem hlt) e he hb
theorem Anc.trans [Lay] {i j k : Nat} (h : Anc ops i j) (h' : Anc ops j k) (hlt : j < ops.length) : Anc ops i k :=
  fun D o hcl ho hpre => h.done hcl (h' D o hcl ho hpre) hlt

/-! slots -/
theorem dsts_get [Lay] : ∀ (l : List Oper) (i : Nat), (dstsC l)[i]? = (l[i]?).map (·.dst)
  | [], i => by simp [dstsC]
  | o :: l, 0 => rfl
  | o :: l, i + 1 => by simpa [dstsC] using dsts_get l i
theorem notIn_ok [Lay] {k : Nat} : ∀ {ds : List (Option Nat)}, notIn k ds = true → ∀ (j : Nat), ds[j]? ≠ some (some k)
  | [], _, j => by simp
  | some d :: ds, h, j => by
    simp only [notIn] at h
    cases hd : Nat.beq d k with
    | true => rw [hd] at h; cases h
    | false =>
      rw [hd] at h
      cases j with
      | zero => simp; intro e; subst e; simp at hd
      | succ j => simpa using notIn_ok (ds := ds) h j
  | none :: ds, h, j => by
    cases j with
    | zero => simp
    | succ j => simpa using notIn_ok (ds := ds) h j
theorem distinct_ok [Lay] : ∀ {ds : List (Option Nat)}, distinct ds = true → ∀ (i j k : Nat), ds[i]? = some (some k) → ds[j]? = some (some k) → i = j
  | [], _, i, j, k, h, _ => by simp at h
  | some d :: ds, hd, i, j, k, h, h' => by
    simp only [distinct, Bool.and_eq_true] at hd
    cases i with
    | zero =>
      simp at h; subst h
      cases j with
      | zero => rfl
      | succ j => exact absurd (by simpa using h') (notIn_ok hd.1 j)
    | succ i =>
      cases j with
      | zero => simp at h'; subst h'; exact absurd (by simpa using h) (notIn_ok hd.1 i)
      | succ j => rw [distinct_ok hd.2 i j k (by simpa using h) (by simpa using h')]
  | none :: ds, hd, i, j, k, h, h' => by
    cases i with
    | zero => simp at h
    | succ i =>
      cases j with
      | zero => simp at h'
      | succ j => rw [distinct_ok (ds := ds) hd i j k (by simpa using h) (by simpa using h')]
theorem readOK_ok [Lay] {ms : List Nat} {i mi k : Nat} : ∀ {ds : List (Option Nat)} {j0 : Nat}, readOK ms i mi k j0 ds = true → ∀ j, ds[j]? = some (some k) →
    (j0 + j < i → bit mi (j0 + j) = true) ∧ (i < j0 + j → ∃ m, ms[j0 + j]? = some m ∧ bit m i = true)
  | [], _, _, j, h => by simp at h
  | none :: ds, j0, hr, j, h => by
    cases j with
    | zero => simp at h
    | succ j =>
      have := readOK_ok (ds := ds) (j0 := j0 + 1) hr j (by simpa using h)
      rw [show j0 + (j + 1) = j0 + 1 + j by omega]; exact this
  | some d :: ds, j0, hr, j, h => by
    simp only [readOK] at hr
    have hrest : readOK ms i mi k (j0 + 1) ds = true := by
      cases hd : Nat.beq d k with
      | true => rw [hd] at hr; simp only [cond_true, Bool.and_eq_true] at hr; exact hr.2
      | false => rw [hd] at hr; exact hr
    cases j with
    | succ j =>
      have := readOK_ok (ds := ds) (j0 := j0 + 1) hrest j (by simpa using h)
      rw [show j0 + (j + 1) = j0 + 1 + j by omega]; exact this
    | zero =>
      simp at h; subst h
      have : Nat.beq d d = true := by rw [nbeq]; simp
      rw [this] at hr
      simp only [cond_true, Bool.and_eq_true, nblt] at hr
      obtain ⟨hr, _⟩ := hr
      refine ⟨fun hlt => ?_, fun hlt => ?_⟩
      · have hlt : j0 < i := hlt
        simp [hlt] at hr; exact hr
      · have hlt : i < j0 := hlt
        have h2 : ¬ j0 < i := by omega
        simp [hlt, h2] at hr
        show ∃ m, ms[j0]? = some m ∧ bit m i = true
        cases hm : ms[j0]? with
        | none => rw [hm] at hr; cases hr
        | some m => rw [hm] at hr; exact ⟨m, rfl, hr⟩
theorem readsOK_mem [Lay] {ms : List Nat} {ds : List (Option Nat)} {i mi : Nat} : ∀ {l : List Nat}, readsOK ms ds i mi l = true → ∀ k ∈ l, readOK ms i mi k 0 ds = true
  | [], _, k, h => by cases h
  | a :: l, h, k, hk => by
    simp only [readsOK, Bool.and_eq_true] at h
    rcases List.mem_cons.1 hk with rfl | hk
    · exact h.1
    · exact readsOK_mem h.2 k hk
theorem slotsOK_go [Lay] {ms : List Nat} {ds : List (Option Nat)} : ∀ {l : List Oper} {i0 : Nat}, slotsOK ms ds i0 l = true → ∀ (i : Nat) (o : Oper), l[i]? = some o → ∃ mi, ms[i0 + i]? = some mi ∧ readsOK ms ds (i0 + i) mi (readsC ds o) = true
  | [], _, _, i, o, h => by simp at h
  | a :: l, i0, hs, i, o, h => by
    simp only [slotsOK, Bool.and_eq_true] at hs
    cases i with
    | zero =>
      simp at h; subst h
      have hs := hs.1
      split at hs
      · rename_i mi hm
        rw [nth_eq] at hm
        exact ⟨mi, hm, hs⟩
      · cases hs
    | succ i =>
      have := slotsOK_go hs.2 i o (by simpa using h)
      rw [show i0 + (i + 1) = i0 + 1 + i by omega]; exact this
theorem slots_ok [Lay] {ms : List Nat} (hm : MS ops ms) (h : slotsOK ms (dstsC ops) 0 ops = true) {i j k : Nat} {o oj : Oper} (ho : ops[i]? = some o) (hj : ops[j]? = some oj) (hd : oj.dst = some k) (hr : k ∈ readsC (dstsC ops) o) :
    (j < i → Anc ops j i) ∧ (i < j → Anc ops i j) := by
  obtain ⟨mi, h1, h2⟩ := slotsOK_go h i o ho
  simp only [Nat.zero_add] at h1 h2
  have h3 := readsOK_mem h2 k hr
  have h4 := readOK_ok h3 j (by rw [dsts_get, hj]; simp [hd])
  simp only [Nat.zero_add] at h4
  refine ⟨fun hlt => hm.anc h1 (h4.1 hlt), fun hlt => ?_⟩
  obtain ⟨m, h5, h6⟩ := h4.2 hlt
  exact hm.anc h5 h6
theorem tmps_mem [Lay] {k : Nat} : ∀ {l : List Operand}, .tmp k ∈ l → k ∈ tmpsOf l
  | [], h => by cases h
  | .tmp j :: l, h => by
    simp only [tmpsOf]
    rcases List.mem_cons.1 h with h | h
    · injection h with h; subst h; simp
    · exact List.mem_cons_of_mem _ (tmps_mem h)
  | .const v :: l, h => by
    rcases List.mem_cons.1 h with h | h
    · cases h
    · exact tmps_mem (l := l) h
  | .global v :: l, h => by
    rcases List.mem_cons.1 h with h | h
    · cases h
    · exact tmps_mem (l := l) h
  | .func v :: l, h => by
    rcases List.mem_cons.1 h with h | h
    · cases h
    · exact tmps_mem (l := l) h
theorem reads_op [Lay] {ds : List (Option Nat)} {o : Oper} {k : Nat} (h : .tmp k ∈ o.op.operands) : k ∈ readsC ds o := by
  have h1 : k ∈ tmpsOf o.op.operands.toList := tmps_mem (by simpa using h)
  unfold readsC
  split
  · exact h1
  · split
    · exact List.mem_cons_of_mem _ h1
    · exact h1
theorem reads_guard [Lay] {o o' : Oper} {j k : Nat} {t : Bool} (hg : o.guard = some (j, t)) (ho : ops[j]? = some o') (hd : o'.dst = some k) : k ∈ readsC (dstsC ops) o := by
  unfold readsC
  rw [hg]
  simp only [nth_eq, dsts_get, ho, Option.map_some, hd]
  simp

/-! kinds -/
theorem touch_go [Lay] : ∀ {l : List Oper} {i0 : Nat} {ts : List (Nat × Kd)}, touchC E i0 l = some ts → (∀ (i : Nat) (o : Oper), l[i]? = some o → kdC E o ≠ .bad ∧ (kdC E o ≠ .pure → (i0 + i, kdC E o) ∈ ts)) ∧
    (∀ p ∈ ts, ∃ i o, p.1 = i0 + i ∧ l[i]? = some o ∧ p.2 = kdC E o ∧ kdC E o ≠ .pure) ∧ ts.Pairwise (fun p q => p.1 < q.1)
  | [], i0, ts, h => by
    simp only [touchC, Option.some.injEq] at h; subst h
    exact ⟨fun i o h => (by simp at h), fun p hp => (by cases hp), List.Pairwise.nil⟩
  | a :: l, i0, ts, h => by
    unfold touchC at h
    split at h
    · rename_i r hr
      obtain ⟨k1, k2, k3⟩ := touch_go hr
      have k1' : ∀ (i : Nat) (o : Oper), l[i]? = some o → kdC E o ≠ .bad ∧ (kdC E o ≠ .pure → (i0 + (i + 1), kdC E o) ∈ r) := fun i o h => by
        have := k1 i o h
        rw [show i0 + (i + 1) = i0 + 1 + i by omega]; exact this
      have k2' : ∀ p ∈ r, ∃ i o, p.1 = i0 + i ∧ (a :: l)[i]? = some o ∧ p.2 = kdC E o ∧ kdC E o ≠ .pure := fun p hp => by
        obtain ⟨i, o, h1, h2, h3⟩ := k2 p hp
        exact ⟨i + 1, o, by omega, by simpa using h2, h3⟩
      have k2'' : ∀ p ∈ r, i0 < p.1 := fun p hp => by
        obtain ⟨i, o, h1, _⟩ := k2 p hp
        omega
      have cons : ∀ k, kdC E a = k → k ≠ .bad → k ≠ .pure → some ((i0, k) :: r) = some ts → (∀ (i : Nat) (o : Oper), (a :: l)[i]? = some o → kdC E o ≠ .bad ∧ (kdC E o ≠ .pure → (i0 + i, kdC E o) ∈ ts)) ∧
          (∀ p ∈ ts, ∃ i o, p.1 = i0 + i ∧ (a :: l)[i]? = some o ∧ p.2 = kdC E o ∧ kdC E o ≠ .pure) ∧ ts.Pairwise (fun p q => p.1 < q.1) := by
        intro k hk hb hp h
        injection h with h; subst h
        refine ⟨fun i o hi => ?_, fun p hp' => ?_, List.Pairwise.cons (fun p hp => k2'' p hp) k3⟩
        · cases i with
          | zero => simp at hi; subst hi; rw [hk]; exact ⟨hb, fun _ => by simp⟩
          | succ i =>
            obtain ⟨h1, h2⟩ := k1' i o (by simpa using hi)
            exact ⟨h1, fun h => List.mem_cons_of_mem _ (h2 h)⟩
        · rcases List.mem_cons.1 hp' with rfl | hp'
          · exact ⟨0, a, rfl, rfl, hk.symm, by rw [hk]; exact hp⟩
          · exact k2' p hp'
      cases hk : kdC E a with
      | pure =>
        rw [hk] at h
        injection h with h; subst h
        refine ⟨fun i o hi => ?_, k2', k3⟩
        cases i with
        | zero => simp at hi; subst hi; rw [hk]; exact ⟨by simp, fun h => absurd rfl h⟩
        | succ i => exact k1' i o (by simpa using hi)
      | bad => rw [hk] at h; cases h
      | load => rw [hk] at h; exact cons .load hk (by simp) (by simp) h
      | new => rw [hk] at h; exact cons .new hk (by simp) (by simp) h
      | chain => rw [hk] at h; exact cons .chain hk (by simp) (by simp) h
    · cases h
theorem chains_mem [Lay] {i : Nat} : ∀ {ts : List (Nat × Kd)}, i ∈ chainsOf ts ↔ (i, Kd.chain) ∈ ts
  | [] => by simp [chainsOf]
  | (j, k) :: ts => by
    have ih := chains_mem (i := i) (ts := ts)
    cases k <;> simp [chainsOf, ih]
theorem chains_sorted [Lay] : ∀ {ts : List (Nat × Kd)}, ts.Pairwise (fun p q => p.1 < q.1) → (chainsOf ts).Pairwise (· < ·)
  | [], _ => by simp [chainsOf]
  | (j, k) :: ts, h => by
    rw [List.pairwise_cons] at h
    have ih := chains_sorted h.2
    cases k <;> simp only [chainsOf] <;> first | exact ih | skip
    refine List.Pairwise.cons (fun a ha => h.1 (a, .chain) (chains_mem.1 ha)) ih
/-- chain operations stand one behind another -/
theorem linear_anc [Lay] {ms : List Nat} (hm : MS ops ms) : ∀ {cs : List Nat}, cs.Pairwise (· < ·) → linear ms cs = some none → ∀ a ∈ cs, ∀ b ∈ cs, a < b → Anc ops a b
  | [], _, _, a, ha, _, _, _ => by cases ha
  | [i], _, _, a, ha, b, hb, hlt => by simp at ha hb; omega
  | i :: j :: l, hp, h, a, ha, b, hb, hlt => by
    rw [List.pairwise_cons] at hp
    unfold linear at h
    split at h
    · rename_i m hm1
      rw [nth_eq] at hm1
      cases hbit : bit m i with
      | false =>
        rw [hbit] at h
        replace h : (match l with | [] => some (some (i, j)) | _ => none) = some none := h
        split at h <;> cases h
      | true =>
        rw [hbit] at h
        replace h : linear ms (j :: l) = some none := h
        have ih := linear_anc hm hp.2 h
        have hij := hm.anc hm1 hbit
        rcases List.mem_cons.1 ha with rfl | ha
        · rcases List.mem_cons.1 hb with rfl | hb
          · omega
          · rcases List.mem_cons.1 hb with rfl | hb'
            · exact hij
            · have hjb : j < b := (List.pairwise_cons.1 hp.2).1 b hb'
              exact hij.trans (ih j (by simp) b hb hjb) (by rw [← hm.len]; exact (List.getElem?_eq_some_iff.1 hm1).1)
        · rcases List.mem_cons.1 hb with hb | hb
          · have := hp.1 a ha; omega
          · exact ih a ha b hb hlt
    · cases h
noncomputable def hasB (ms : List Nat) (x y : Nat) : Bool := match nth ms x with | some m => bit m y | none => false
theorem hasB_ok [Lay] {ms : List Nat} {x y : Nat} (h : hasB ms x y = true) : ∃ m, ms[x]? = some m ∧ bit m y = true := by
  unfold hasB at h
  split at h
  · rename_i m hm
    rw [nth_eq] at hm
    exact ⟨m, hm, h⟩
  · cases h
theorem pr_cons [Lay] (ms : List Nat) (i j : Nat) (l : List Nat) : pairsOf.pr ms i (j :: l) = bif hasB ms (bif Nat.blt i j then j else i) (bif Nat.blt i j then i else j) then pairsOf.pr ms i l else (i, j) :: pairsOf.pr ms i l := rfl
theorem pr_ok [Lay] {ms : List Nat} {i : Nat} : ∀ {cs : List Nat}, ∀ j ∈ cs, (∃ m, ms[if i < j then j else i]? = some m ∧ bit m (if i < j then i else j) = true) ∨ (i, j) ∈ pairsOf.pr ms i cs
  | [], j, h => by cases h
  | c :: cs, j, h => by
    rw [pr_cons]
    have hbb : ∀ (t : Bool) (x y : Nat), (bif t then x else y) = if t = true then x else y := fun t x y => by cases t <;> rfl
    rcases List.mem_cons.1 h with rfl | h
    · cases hc : hasB ms (bif Nat.blt i j then j else i) (bif Nat.blt i j then i else j) with
      | true =>
        left
        have := hasB_ok hc
        rw [nblt, hbb, hbb] at this
        simpa only [decide_eq_true_eq] using this
      | false => right; simp
    · rcases pr_ok (ms := ms) (i := i) j h with h1 | h1
      · exact .inl h1
      · right
        cases hc : hasB ms (bif Nat.blt i c then c else i) (bif Nat.blt i c then i else c) with
        | true => exact h1
        | false => exact List.mem_cons_of_mem _ h1
theorem pairs_ok [Lay] {ms cs : List Nat} {i j : Nat} (hj : j ∈ cs) : ∀ {ts : List (Nat × Kd)}, (i, Kd.load) ∈ ts → (∃ m, ms[if i < j then j else i]? = some m ∧ bit m (if i < j then i else j) = true) ∨ (i, j) ∈ pairsOf ms cs ts
  | [], h => by cases h
  | (a, k) :: ts, h => by
    rcases List.mem_cons.1 h with h | h
    · injection h with h1 h2; subst h1; subst h2
      simp only [pairsOf]
      rcases pr_ok (ms := ms) (i := i) j hj with h1 | h1
      · exact .inl h1
      · right; rw [app_eq]; exact List.mem_append.2 (.inl h1)
    · rcases pairs_ok hj h with h1 | h1
      · exact .inl h1
      · right
        cases k <;> simp only [pairsOf] <;> first | exact h1 | (rw [app_eq]; exact List.mem_append.2 (.inr h1))
end
end Go.Cx
namespace Go.Cx

/-! any order -/
def done (listed : Array Bool) (i : Nat) : Prop := listed.getD i false = true

theorem done_set [Lay] {listed : Array Bool} {i j : Nat} (hi : i < listed.size) : done (listed.setIfInBounds i true) j ↔ (done listed j ∨ j = i) := by
  unfold done
  by_cases e : i = j
  · subst e; simp [hi]
  · have e2 : (listed.setIfInBounds i true).getD j false = listed.getD j false := by
      simp only [Array.getD_eq_getD_getElem?]
      rw [Array.getElem?_setIfInBounds_ne e]
    rw [e2]
    constructor
    · exact .inl
    · rintro (h | h)
      · exact h
      · exact absurd h.symm e

theorem ready_done [Lay] {ops : Array Oper} {listed : Array Bool} (hsz : listed.size = ops.size) {j : Nat} (h : j ∈ Region.ready .any ops listed) : ∃ o, ops[j]? = some o ∧ j < ops.size ∧ ¬ done listed j ∧ ∀ e ∈ o.after.toList, Region.binds .any e = true → done listed e.on := by
  obtain ⟨h1, o, h2, h3⟩ := mem_ready.1 h
  have hlt : j < ops.size := (Array.getElem?_eq_some_iff.1 h2).1
  refine ⟨o, h2, hlt, fun hd => ?_, fun e he hb => h3 e (Array.mem_toList_iff.1 he) hb⟩
  unfold done at hd
  have : j < listed.size := by omega
  simp [this] at h1 hd
  rw [h1] at hd; cases hd

/-- as long as one is not done, one is ready -/
theorem ready_some [Lay] {ops : Array Oper} {listed : Array Bool} (hsz : listed.size = ops.size) (hs : ∀ (j : Nat) (o : Oper), ops.toList[j]? = some o → ∀ e ∈ o.after.toList, Region.binds .any e = true → e.on < j) :
    ∀ (j : Nat), j < ops.size → ¬ done listed j → Region.ready .any ops listed ≠ [] := by
  intro j
  induction j using Nat.strongRecOn with
  | _ j ih =>
    intro hj hn
    by_cases hall : ∀ e ∈ (ops[j]).after, Region.binds .any e = true → done listed e.on
    · have : j ∈ Region.ready .any ops listed := by
        refine mem_ready.2 ⟨?_, ops[j], Array.getElem?_eq_getElem hj, hall⟩
        unfold done at hn
        have hj' : j < listed.size := by omega
        simpa [hj'] using hn
      intro h; rw [h] at this; cases this
    · have : ∃ e ∈ (ops[j]).after, Region.binds .any e = true ∧ ¬ done listed e.on := by
        refine Classical.byContradiction fun hc => hall fun e he hb => Classical.byContradiction fun hd => hc ⟨e, he, hb, hd⟩
      obtain ⟨e, he, hbi, hd⟩ := this
      have hlt := hs j ops[j] (by simp [hj]) e (Array.mem_toList_iff.2 he) hbi
      exact ih e.on hlt (by omega) hd

def left (listed : Array Bool) : Nat := listed.toList.count false
theorem left_set [Lay] {listed : Array Bool} {i : Nat} (hi : i < listed.size) (h : ¬ done listed i) : left (listed.setIfInBounds i true) + 1 = left listed := by
  have hf : listed[i] = false := by
    unfold done at h; simpa [hi] using h
  unfold left
  have : (listed.setIfInBounds i true).toList = listed.toList.set i true := by simp
  rw [this]
  have h2 : i < listed.toList.length := by simpa using hi
  have hpos : 0 < listed.toList.count false := List.count_pos_iff.2 (by rw [← hf]; simp)
  rw [List.count_set h2]
  simp [hf]
  have : Array.count false listed = List.count false listed.toList := by simp
  omega
theorem left_zero [Lay] {listed : Array Bool} (h : left listed = 0) {i : Nat} (hi : i < listed.size) : done listed i := by
  unfold left at h
  rw [List.count_eq_zero] at h
  unfold done
  have : listed[i] ≠ false := fun e => h (by rw [← e]; simp)
  simpa [hi] using this

section
variable {P : Program} {b : Frame} {cs : List Frame} {k : List Item} {ops : Array Oper}

/-- one operation of a region goes by, in whatever order -/
def StepI (P : Program) (b : Frame) (cs : List Frame) (k : List Item) (ops : Array Oper) (I : (Nat → Prop) → Act → World → Prop) : Prop :=
  ∀ (D : Nat → Prop) (a : Act) (w : World) (j : Nat) (o : Oper) (rest : List Nat), I D a w → (∀ i, D i → i < ops.size) → ops[j]? = some o → ¬ D j → Cl ops.toList D → (∀ e ∈ o.after.toList, Region.binds .any e = true → D e.on) →
    ∃ a' w', I (fun i => D i ∨ i = j) a' w' ∧ Steps P (lone (b.atR a (.inRegion ops (j :: rest) :: k)) cs w) (lone (b.atR a' (.inRegion ops rest :: k)) cs w')

theorem any_run [Lay] {I : (Nat → Prop) → Act → World → Prop} (hs : ∀ (j : Nat) (o : Oper), ops.toList[j]? = some o → ∀ e ∈ o.after.toList, Region.binds .any e = true → e.on < j) (hI : StepI P b cs k ops I) :
    ∀ (fuel t : Nat) (listed : Array Bool) (a : Act) (w : World), listed.size = ops.size → left listed ≤ fuel → Cl ops.toList (done listed) → (∀ i, done listed i → i < ops.size) → I (done listed) a w →
      ∃ D a' w', I D a' w' ∧ (∀ i, i < ops.size → D i) ∧ Steps P (lone (b.atR a (.inRegion ops (Region.linearise.go .any ops fuel t listed []) :: k)) cs w) (lone (b.atR a' (.inRegion ops [] :: k)) cs w') := by
  intro fuel
  induction fuel with
  | zero =>
    intro t listed a w hsz hl hcl hd h
    exact ⟨_, a, w, h, fun i hi => left_zero (by omega) (by omega), by simpa [Region.linearise.go] using Steps.refl _ _⟩
  | succ fuel ih =>
    intro t listed a w hsz hl hcl hd h
    simp only [Region.linearise.go]
    change ∃ D a' w', I D a' w' ∧ (∀ i, i < ops.size → D i) ∧ Steps P (lone (b.atR a (.inRegion ops (match (Region.ready .any ops listed)[t % (Region.ready .any ops listed).length]? with
      | some i => Region.linearise.go .any ops fuel (t / (Region.ready .any ops listed).length) (listed.setIfInBounds i true) [i]
      | none => [].reverse) :: k)) cs w) (lone (b.atR a' (.inRegion ops [] :: k)) cs w')
    cases hi : (Region.ready .any ops listed)[t % (Region.ready .any ops listed).length]? with
    | none =>
      have hnil : Region.ready .any ops listed = [] := by
        cases hr : Region.ready .any ops listed with
        | nil => rfl
        | cons x xs =>
          rw [hr] at hi
          have hlt : t % (x :: xs).length < (x :: xs).length := Nat.mod_lt _ (by simp)
          simp at hi
          simp at hlt
          omega
      exact ⟨_, a, w, h, fun i hi => Classical.byContradiction fun hn => ready_some hsz hs i hi hn hnil, Steps.refl _ _⟩
    | some i =>
      simp only []
      rw [linearise_go_acc, List.reverse_singleton, List.singleton_append]
      obtain ⟨o, ho, hjlt, hnd, hpre⟩ := ready_done hsz (List.mem_of_getElem? hi)
      obtain ⟨a1, w1, h1, s1⟩ := hI (done listed) a w i o (Region.linearise.go .any ops fuel (t / (Region.ready .any ops listed).length) (listed.setIfInBounds i true) []) h hd ho hnd hcl hpre
      have hsz' : i < listed.size := by omega
      have hds : ∀ x, done (listed.setIfInBounds i true) x ↔ (done listed x ∨ x = i) := fun x => done_set hsz'
      have hfun : done (listed.setIfInBounds i true) = fun x => done listed x ∨ x = i := funext fun x => propext (hds x)
      have hleft := left_set hsz' hnd
      obtain ⟨D, a', w', h2, h3, h4⟩ := ih (t / (Region.ready .any ops listed).length) (listed.setIfInBounds i true) a1 w1 (by simpa using hsz) (by omega) (fun x ox hx hox e he hb => by
        refine (hds _).2 (.inl ?_)
        rcases (hds x).1 hx with h1 | h1
        · exact hcl x ox h1 hox e he hb
        · subst h1
          have : ops.toList[x]? = some o := by simpa using ho
          rw [this] at hox; injection hox with hox; subst hox
          exact hpre e he hb) (fun x hx => ((hds x).1 hx).elim (hd x) (fun e => by omega)) (by rw [hfun]; exact h1)
      exact ⟨D, a', w', h2, h3, s1.trans h4⟩

/-- a region that draws -/
theorem region_run [Lay] {I : (Nat → Prop) → Act → World → Prop} (hm : P.follows .mixedOrders = true) (hs : ∀ (j : Nat) (o : Oper), ops.toList[j]? = some o → ∀ e ∈ o.after.toList, Region.binds .any e = true → e.on < j) (hI : StepI P b cs k ops I) {id : Nat} {a : Act} {w : World}
    (h : I (fun _ => False) a { w with drawn := w.drawn + 1 }) : ∃ D a' w', I D a' w' ∧ (∀ i, i < ops.size → D i) ∧ Steps P (lone (b.atR a (.code (.region id ops true) :: k)) cs w) (lone (b.atR a' k) cs w') := by
  have hno : ∀ i, ¬ done (Array.replicate ops.size false) i := fun i h => by by_cases hi : i < ops.size <;> simp [done, hi] at h
  have hfun : done (Array.replicate ops.size false) = fun _ => False := funext fun i => propext ⟨fun h => hno i h, False.elim⟩
  obtain ⟨D, a', w', h1, h2, h3⟩ := any_run (P := P) (b := b) (cs := cs) (k := k) hs hI ops.size (w.tape w.drawn (.order b.fn id)) (Array.replicate ops.size false) a { w with drawn := w.drawn + 1 } (by simp) (by unfold left; simp) (fun i o hi => absurd hi (hno i)) (fun i hi => absurd hi (hno i)) (by rw [hfun]; exact h)
  refine ⟨D, a', w', h1, h2, .head stepR_region_draw (.trans (m₁ := lone (b.atR a' (.inRegion ops [] :: k)) cs w') ?_ (.one stepR_region_end))⟩
  simp only [Region.schedule, hm, Bool.true_or, if_true]
  exact h3
end
end Go.Cx
namespace Go.Cx

def cutM (μ : Mp) (n : Nat) : Mp := fun k => if k < n then μ k else none
theorem cutM_some [Lay] {μ : Mp} {n k : Nat} {h : Home} : cutM μ n k = some h ↔ k < n ∧ μ k = some h := by
  unfold cutM
  split
  · simp_all
  · exact ⟨fun h => (by cases h), fun ⟨h1, _⟩ => absurd h1 (by assumption)⟩
theorem cutM_mono [Lay] {μ μ' : Mp} {n n' : Nat} (hn : n ≤ n') (hm : Le μ μ') : Le (cutM μ n) (cutM μ' n') := fun k h hk => by
  obtain ⟨h1, h2⟩ := cutM_some.1 hk
  exact cutM_some.2 ⟨by omega, hm _ _ h2⟩
theorem cutM_le [Lay] {μ : Mp} {n : Nat} : Le (cutM μ n) μ := fun k h hk => (cutM_some.1 hk).2
theorem cutM_all [Lay] {μ : Mp} {n : Nat} (h : ∀ k, n ≤ k → μ k = none) : cutM μ n = μ := by
  funext k
  unfold cutM
  split
  · rfl
  · exact (h k (by omega)).symm

/-! the text's states -/
section
variable {E : Env} {X : Cfg} {ops : List Oper}

theorem trace_ok [Lay] {l : List Oper} : ∀ {s : St} {tr : List St}, traceC E X ops l s = some tr → ∃ T : Nat → St, T 0 = s ∧ tr.length = l.length + 1 ∧ (∀ i, i ≤ l.length → tr[i]? = some (T i)) ∧
    (∀ (i : Nat) (o : Oper), l[i]? = some o → stepC E X ops o (T i) = some (T (i + 1)) ∧ (T i).M.nx ≤ (T (i + 1)).M.nx) := by
  induction l with
  | nil =>
    intro s tr h
    replace h : some [s] = some tr := h
    injection h with h; subst h
    exact ⟨fun _ => s, rfl, rfl, fun i hi => (by simp at hi; subst hi; rfl), fun i o ho => (by simp at ho)⟩
  | cons o l ih =>
    intro s tr h
    replace h : ob (stepC E X ops o s) (fun s' => bb (Nat.ble s.M.nx s'.M.nx) (ob (traceC E X ops l s') fun tr => some (s :: tr)) none) = some tr := h
    obtain ⟨s', h1, h⟩ := ob_eq h
    obtain ⟨h2, h⟩ := bb_none h
    obtain ⟨tr', h3, h⟩ := ob_eq h
    injection h with h; subst h
    obtain ⟨T, t0, t1, t2, t3⟩ := ih h3
    rw [nble] at h2
    replace h2 := of_decide_eq_true h2
    refine ⟨fun i => match i with | 0 => s | i + 1 => T i, rfl, by simp [t1], fun i hi => ?_, fun i o' ho' => ?_⟩
    · cases i with
      | zero => rfl
      | succ i => simpa using t2 i (by simpa using hi)
    · cases i with
      | zero =>
        simp at ho'; subst ho'
        exact ⟨by show stepC E X ops o s = some (T 0); rw [t0]; exact h1, by show s.M.nx ≤ (T 0).M.nx; rw [t0]; exact h2⟩
      | succ i => exact t3 i o' (by simpa using ho')
theorem opsN_trace [Lay] {l : List Oper} : ∀ {s s' : St}, opsN E X ops l s = some s' → ∃ tr, traceC E X ops l s = some tr ∧ lastS tr = some s' := by
  induction l with
  | nil =>
    intro s s' h
    replace h : some s = some s' := h
    injection h with h; subst h
    exact ⟨[s], rfl, rfl⟩
  | cons o l ih =>
    intro s s' h
    replace h : ob (stepC E X ops o s) (fun s1 => bb (Nat.ble s.M.nx s1.M.nx) (opsN E X ops l s1) none) = some s' := h
    obtain ⟨s1, h1, h⟩ := ob_eq h
    obtain ⟨h2, h⟩ := bb_none h
    obtain ⟨tr, h3, h4⟩ := ih h
    refine ⟨s :: tr, ?_, ?_⟩
    · show ob (stepC E X ops o s) (fun s' => bb (Nat.ble s.M.nx s'.M.nx) (ob (traceC E X ops l s') fun tr => some (s :: tr)) none) = some (s :: tr)
      rw [h1, ob_some, h2, bb_true, h3, ob_some]
    · cases tr with
      | nil => cases h4
      | cons x tr => exact h4
theorem lastS_get [Lay] : ∀ {tr : List St} {s : St}, lastS tr = some s → tr[tr.length - 1]? = some s
  | [], _, h => by cases h
  | [x], s, h => by simpa [lastS] using h
  | x :: y :: tr, s, h => by
    have := lastS_get (tr := y :: tr) h
    simpa using this

/-- what became of an operation -/
def OpI (E : Env) (X : Cfg) (ops : List Oper) (s s' : St) (o : Oper) : Prop :=
  (wantC ops o s.tm = some false ∧ s' = ⟨putT s.tm o.dst (.tup []), s.M, s.df⟩) ∨
  (wantC ops o s.tm = some true ∧ ∃ v M', opTab o.op E X (rd s.tm) s.M o.type = .ok v M' ∧ s' = ⟨putT s.tm o.dst v, M', s.df⟩)
theorem step_opI [Lay] {s s' : St} {o : Oper} (hk : kdC E o ≠ .bad) (h : stepC E X ops o s = some s') : OpI E X ops s s' o := by
  obtain ⟨tm, M, df⟩ := s
  replace h : ob (wantC ops o tm) (fun t => stepW E X o tm M df t) = some s' := h
  obtain ⟨t, ht, h⟩ := ob_eq h
  unfold stepW at h
  cases t with
  | false =>
    replace h : some (⟨putT tm o.dst (.tup []), M, df⟩ : St) = some s' := h
    injection h with h; subst h
    exact .inl ⟨ht, rfl⟩
  | true =>
    replace h : after tm o.dst df (opTab o.op E X (rd tm) M o.type) = some s' := h
    cases hop : opTab o.op E X (rd tm) M o.type with
    | no => rw [hop] at h; cases h
    | ok v M' =>
      rw [hop] at h
      have := after_ok h; subst this
      exact .inr ⟨ht, v, M', hop, rfl⟩
    | dfr d M' =>
      obtain ⟨c, hc1, _⟩ := op_dfr hop
      exact absurd (show kdC E o = .bad by simp [kdC, hc1]) hk
theorem OpI.tm [Lay] {s s' : St} {o : Oper} (h : OpI E X ops s s' o) : ∃ v, s'.tm = putT s.tm o.dst v := by
  rcases h with ⟨_, rfl⟩ | ⟨_, v, M', _, rfl⟩
  · exact ⟨_, rfl⟩
  · exact ⟨_, rfl⟩
theorem OpI.df [Lay] {s s' : St} {o : Oper} (h : OpI E X ops s s' o) : s'.df = s.df := by
  rcases h with ⟨_, rfl⟩ | ⟨_, v, M', _, rfl⟩ <;> rfl

/-- a region that is treated: its text, and its states -/
structure RG (E : Env) (X : Cfg) (ops : List Oper) (T : Nat → St) : Prop where
  back : ∀ (j : Nat) (o : Oper), ops[j]? = some o → ∀ e ∈ o.after.toList, Region.binds .any e = true → e.on < j
  op : ∀ (i : Nat) (o : Oper), ops[i]? = some o → OpI E X ops (T i) (T (i + 1)) o
  mono : ∀ i, i < ops.length → (T i).M.nx ≤ (T (i + 1)).M.nx
  good : ∀ (i : Nat) (o : Oper), ops[i]? = some o → kdC E o ≠ .bad
  dist : ∀ (i j k : Nat) (o o' : Oper), ops[i]? = some o → ops[j]? = some o' → o.dst = some k → o'.dst = some k → i = j
  slot : ∀ (i j k : Nat) (o o' : Oper), ops[i]? = some o → ops[j]? = some o' → o'.dst = some k → k ∈ readsC (dstsC ops) o → (j < i → Anc ops j i) ∧ (i < j → Anc ops i j)

def Ch (E : Env) (ops : List Oper) (i : Nat) : Prop := ∃ o, ops[i]? = some o ∧ kdC E o = .chain
def Nw (E : Env) (ops : List Oper) (T : Nat → St) (i : Nat) (b : Blk) : Prop := ∃ o, ops[i]? = some o ∧ kdC E o = .new ∧ wantC ops o (T i).tm = some true ∧ (T (i + 1)).M = (T i).M.add b
theorem Ch.lt [Lay] {i : Nat} (h : Ch E ops i) : i < ops.length := by obtain ⟨o, h, _⟩ := h; exact (List.getElem?_eq_some_iff.1 h).1
theorem Nw.lt [Lay] {T : Nat → St} {i : Nat} {b : Blk} (h : Nw E ops T i b) : i < ops.length := by obtain ⟨o, h, _⟩ := h; exact (List.getElem?_eq_some_iff.1 h).1
theorem Nw.eq [Lay] {T : Nat → St} {i : Nat} {b b' : Blk} (h : Nw E ops T i b) (h' : Nw E ops T i b') : b = b' := by
  obtain ⟨_, _, _, _, h⟩ := h
  obtain ⟨_, _, _, _, h'⟩ := h'
  rw [h] at h'
  have : ((T i).M.add b).get (T i).M.nx = ((T i).M.add b').get (T i).M.nx := by rw [h']
  rw [Mem.get_add, Mem.get_add, if_pos rfl, if_pos rfl] at this
  injection this

section
variable {T : Nat → St} (R : RG E X ops T)
include R
theorem RG.nx [Lay] {i j : Nat} (h : i ≤ j) (hj : j ≤ ops.length) : (T i).M.nx ≤ (T j).M.nx := by
  induction j with
  | zero => have : i = 0 := by omega
            subst this; exact Nat.le_refl _
  | succ j ih =>
    by_cases e : i = j + 1
    · subst e; exact Nat.le_refl _
    · exact Nat.le_trans (ih (by omega) (by omega)) (R.mono j (by omega))
theorem RG.nonch [Lay] {i : Nat} (hi : i < ops.length) (hn : ¬ Ch E ops i) : ((T (i + 1)).M = (T i).M ∧ ∀ b, ¬ Nw E ops T i b) ∨ ∃ b, Nw E ops T i b := by
  have ho := List.getElem?_eq_getElem hi
  generalize ops[i] = o at ho
  have hkd := R.good i o ho
  rcases R.op i o ho with ⟨h1, h2⟩ | ⟨h1, v, M', h2, h3⟩
  · refine .inl ⟨by rw [h2], fun b ⟨o', h3, _, h5, _⟩ => ?_⟩
    rw [ho] at h3; injection h3 with h3; subst h3
    rw [h1] at h5; cases h5
  · cases hk : kdC E o with
    | bad => exact absurd hk hkd
    | chain => exact absurd ⟨o, ho, hk⟩ hn
    | pure =>
      obtain ⟨rfl, _⟩ := pure_M hk h2
      refine .inl ⟨by rw [h3], fun b ⟨o', h3, h4, _⟩ => ?_⟩
      rw [ho] at h3; injection h3 with h3; subst h3
      rw [hk] at h4; cases h4
    | load =>
      obtain ⟨rfl, _⟩ := load_M hk h2
      refine .inl ⟨by rw [h3], fun b ⟨o', h3, h4, _⟩ => ?_⟩
      rw [ho] at h3; injection h3 with h3; subst h3
      rw [hk] at h4; cases h4
    | new =>
      obtain ⟨b, rfl, _⟩ := new_M hk h2
      exact .inr ⟨b, o, ho, hk, h1, by rw [h3]⟩
theorem RG.nw_nx [Lay] {i j : Nat} {b : Blk} (h : Nw E ops T i b) (hlt : i < j) (hj : j ≤ ops.length) : (T i).M.nx < (T j).M.nx := by
  obtain ⟨o, _, _, _, h4⟩ := h
  have := R.nx (i := i + 1) (j := j) (by omega) hj
  rw [h4, Mem.nx_add] at this
  omega
theorem RG.nw_ne [Lay] {i j : Nat} {b b' : Blk} (h : Nw E ops T i b) (h' : Nw E ops T j b') (hne : i ≠ j) : (T i).M.nx ≠ (T j).M.nx := by
  rcases Nat.lt_or_gt_of_ne hne with h1 | h1
  · have := R.nw_nx h h1 (Nat.le_of_lt h'.lt); omega
  · have := R.nw_nx h' h1 (Nat.le_of_lt h.lt); omega
/-- a slot that is not written stays -/
theorem RG.stay [Lay] {k i j : Nat} (h : i ≤ j) (hj : j ≤ ops.length) (hn : ∀ (x : Nat) (o : Oper), i ≤ x → x < j → ops[x]? = some o → o.dst ≠ some k) : (T j).tm k = (T i).tm k := by
  induction j with
  | zero => have : i = 0 := by omega
            subst this; rfl
  | succ j ih =>
    by_cases e : i = j + 1
    · subst e; rfl
    · have ho := List.getElem?_eq_getElem (show j < ops.length by omega)
      rw [← ih (by omega) (by omega) fun x o h1 h2 => hn x o h1 (by omega)]
      obtain ⟨v, hv⟩ := (R.op j _ ho).tm
      rw [hv]
      have hd := hn j _ (by omega) (by omega) ho
      cases hdd : (ops[j]'(by omega)).dst with
      | none => rfl
      | some k' =>
        rw [hdd] at hd
        rw [putT_some, upd_eq, if_neg (fun e => hd (by rw [e]))]
theorem RG.df0 [Lay] {j : Nat} (hj : j ≤ ops.length) : (T j).df = (T 0).df := by
  induction j with
  | zero => rfl
  | succ j ih => rw [(R.op j _ (List.getElem?_eq_getElem (show j < ops.length by omega))).df, ih (by omega)]
end
end

/-- in the midst of a region: D is done, the chain's operations ahead of t -/
structure DI [Lay] (P : Program) (E : Env) (ops : List Oper) (T : Nat → St) (μ0 : Mp) (w0 : World) (N : Nat) (D : Nat → Prop) (t : Nat) (a : Act) (w : World) (μ : Mp) : Prop where
  lt : t ≤ ops.length
  ch : ∀ i, Ch E ops i → (D i ↔ i < t)
  tmW : ∀ (i : Nat) (o : Oper) (k : Nat) (c : C), ops[i]? = some o → D i → o.dst = some k → (T (i + 1)).tm k = some c → ∃ x, a.tmps[k]? = some x ∧ VR (cutM μ (T (max (i + 1) t)).M.nx) c x
  tm0 : ∀ (k : Nat) (c : C), (∀ (i : Nat) (o : Oper), D i → ops[i]? = some o → o.dst ≠ some k) → (T 0).tm k = some c → ∃ x, a.tmps[k]? = some x ∧ VR (cutM μ (T 0).M.nx) c x
  mr : MR P (cutM μ (T t).M.nx) (T t).M w
  fr : ∀ i, i ≤ t → ∀ k, (T i).M.nx ≤ k → (T i).M.get k = none
  ext : ∀ i b, D i → t ≤ i → Nw E ops T i b → ∃ h, μ (T i).M.nx = some h ∧ BR P (cutM μ (T (i + 1)).M.nx) h b w ∧ ∀ k h', μ k = some h' → k ≠ (T i).M.nx → h'.g ≠ h.g
  und1 : ∀ i b, ¬ D i → Nw E ops T i b → μ (T i).M.nx = none ∧ (i < t → ∀ b', (T t).M.get (T i).M.nx = some b' → b' = b)
  dom : ∀ k h, μ k = some h → k < (T t).M.nx ∨ ∃ i b, D i ∧ t ≤ i ∧ Nw E ops T i b ∧ k = (T i).M.nx
  hp : ∀ k h, μ k = some h → h.g < w.heap.size
  le : Le μ0 μ
  new : ∀ k, μ0 k = none → μ k ≠ none → (T 0).M.nx ≤ k
  und : ∀ k b, k < (T 0).M.nx → μ0 k = none → (T t).M.get k = some b → (T 0).M.get k = some b
  os : w.os = w0.os
  tape : w.tape = w0.tape
  output : w.output = w0.output
  size : w0.heap.size ≤ w.heap.size
  keep : ∀ g, g < w0.heap.size → (∀ k h, μ0 k = some h → h.g ≠ g) → w.heap[g]? = w0.heap[g]?
  home : ∀ k h, μ k = some h → (∃ k0 h0, μ0 k0 = some h0 ∧ h0.g = h.g) ∨ w0.heap.size ≤ h.g
  df : DR μ (T 0).df a.defers
  sz : a.tmps.size = N
  lay : LayOK μ w

section
variable {P : Program} {E : Env} {X : Cfg} {ops : List Oper} {T : Nat → St} {μ0 μ : Mp} {w0 w : World} {N t : Nat} {D : Nat → Prop} {a : Act}


theorem DI.adv [Lay] (R : RG E X ops T) (h : DI P E ops T μ0 w0 N D t a w μ) (hlt : t < ops.length) (hn : ¬ Ch E ops t) : DI P E ops T μ0 w0 N D (t + 1) a w μ := by
  have hch : ∀ i, Ch E ops i → (D i ↔ i < t + 1) := fun i hi => by
    have h1 := h.ch i hi
    have h2 : i ≠ t := fun e => hn (e ▸ hi)
    rw [h1]; omega
  have htmW : ∀ (i : Nat) (o : Oper) (k : Nat) (c : C), ops[i]? = some o → D i → o.dst = some k → (T (i + 1)).tm k = some c → ∃ x, a.tmps[k]? = some x ∧ VR (cutM μ (T (max (i + 1) (t + 1))).M.nx) c x := fun i o k c ho hd hk hc => by
    obtain ⟨x, h1, h2⟩ := h.tmW i o k c ho hd hk hc
    have hi := (List.getElem?_eq_some_iff.1 ho).1
    exact ⟨x, h1, h2.mono (cutM_mono (R.nx (by omega) (by omega)) (.refl _))⟩
  have hnx := R.mono t hlt
  rcases R.nonch hlt hn with ⟨hM, hnw⟩ | ⟨b, hb⟩
  · refine { h with lt := hlt, ch := hch, tmW := htmW, mr := by rw [hM]; exact h.mr, fr := fun i hi => ?_, ext := fun i b hd hi hb => h.ext i b hd (by omega) hb, und1 := fun i b hd hb => ?_, dom := fun k x hk => ?_, und := by rw [hM]; exact h.und }
    · by_cases e : i = t + 1
      · subst e; rw [hM]; exact h.fr t (Nat.le_refl _)
      · exact h.fr i (by omega)
    · obtain ⟨h1, h2⟩ := h.und1 i b hd hb
      refine ⟨h1, fun hi b' hb' => h2 ?_ b' (by rw [← hM]; exact hb')⟩
      have : i ≠ t := fun e => hnw b (e ▸ hb)
      omega
    · rcases h.dom k x hk with h1 | ⟨i, b, h1, h2, h3, h4⟩
      · exact .inl (by omega)
      · have : i ≠ t := fun e => hnw b (e ▸ h3)
        exact .inr ⟨i, b, h1, by omega, h3, h4⟩
  · obtain ⟨o, ho, hk, hw, hM⟩ := id hb
    have hnx1 : (T (t + 1)).M.nx = (T t).M.nx + 1 := by rw [hM]; rfl
    refine { h with lt := hlt, ch := hch, tmW := htmW, mr := ?_, fr := fun i hi => ?_, ext := fun i b hd hi hb => h.ext i b hd (by omega) hb, und1 := fun i b' hd hb' => ?_, dom := fun k x hk => ?_, und := fun k b' hk h0 hb' => ?_ }
    · have hex : ∀ x, μ (T t).M.nx = some x → BR P (cutM μ (T (t + 1)).M.nx) x b w ∧ ∀ k h', μ k = some h' → k ≠ (T t).M.nx → h'.g ≠ x.g := fun x hx => by
        have hD : D t := Classical.byContradiction fun hnd => by
          have := (h.und1 t b hnd hb).1
          rw [hx] at this; cases this
        obtain ⟨y, h1, h2, h3⟩ := h.ext t b hD (Nat.le_refl _) hb
        rw [hx] at h1; injection h1 with h1; subst h1
        exact ⟨h2, h3⟩
      refine ⟨fun k x c hk hc => ?_, fun k k' x x' c c' hk hk' hc hc' hg hne => ?_, fun k x hk => h.hp k x (cutM_some.1 hk).2, h.lay.sub fun k x hk => (cutM_some.1 hk).2⟩
      · obtain ⟨h1, h2⟩ := cutM_some.1 hk
        rw [hM, Mem.get_add] at hc
        split at hc
        · rename_i e; subst e
          injection hc with hc; subst hc
          exact (hex x h2).1
        · exact (h.mr.bk k x c (cutM_some.2 ⟨by omega, h2⟩) hc).mono (cutM_mono hnx (.refl _)) rfl
      · obtain ⟨h1, h2⟩ := cutM_some.1 hk
        obtain ⟨h1', h2'⟩ := cutM_some.1 hk'
        rw [hM, Mem.get_add] at hc hc'
        split at hc
        · rename_i e; subst e
          exact absurd hg.symm ((hex x h2).2 k' x' h2' (Ne.symm hne))
        · split at hc'
          · rename_i e; subst e
            exact absurd hg ((hex x' h2').2 k x h2 hne)
          · exact h.mr.al k k' x x' c c' (cutM_some.2 ⟨by omega, h2⟩) (cutM_some.2 ⟨by omega, h2'⟩) hc hc' hg hne
    · by_cases e : i = t + 1
      · subst e
        intro k hk
        rw [hM, Mem.get_add, if_neg (by omega)]
        exact h.fr t (Nat.le_refl _) k (by omega)
      · exact h.fr i (by omega)
    · obtain ⟨h1, h2⟩ := h.und1 i b' hd hb'
      refine ⟨h1, fun hi c hc => ?_⟩
      rw [hM, Mem.get_add] at hc
      split at hc
      · rename_i e
        injection hc with hc; subst hc
        have hit : i = t := Classical.byContradiction fun hne => R.nw_ne hb' hb hne e
        subst hit
        exact hb.eq hb'
      · rename_i e
        have hit : i ≠ t := fun e' => e (by rw [e'])
        exact h2 (by omega) c hc
    · rcases h.dom k x hk with h1 | ⟨i, b, h1, h2, h3, h4⟩
      · exact .inl (by omega)
      · by_cases e : i = t
        · subst e; exact .inl (by omega)
        · exact .inr ⟨i, b, h1, by omega, h3, h4⟩
    · have := R.nx (i := 0) (j := t) (Nat.zero_le _) h.lt
      rw [hM, Mem.get_add, if_neg (by omega)] at hb'
      exact h.und k b' hk h0 hb'

/-- as far as it goes -/
theorem DI.far [Lay] (R : RG E X ops T) : ∀ {n t : Nat}, ops.length - t ≤ n → DI P E ops T μ0 w0 N D t a w μ → ∃ t', t ≤ t' ∧ DI P E ops T μ0 w0 N D t' a w μ ∧ (t' = ops.length ∨ Ch E ops t')
  | 0, t, hn, h => ⟨t, Nat.le_refl _, h, .inl (by have := h.lt; omega)⟩
  | n + 1, t, hn, h => by
    by_cases e : t = ops.length
    · exact ⟨t, Nat.le_refl _, h, .inl e⟩
    · by_cases hc : Ch E ops t
      · exact ⟨t, Nat.le_refl _, h, .inr hc⟩
      · have := h.lt
        obtain ⟨t', h1, h2, h3⟩ := DI.far R (n := n) (by omega) (h.adv R (by omega) hc)
        exact ⟨t', by omega, h2, h3⟩
end
end Go.Cx
namespace Go.Cx

section
variable {P : Program} {E : Env} {X : Cfg} {ops : List Oper} {T : Nat → St} {μ0 μ μ' : Mp} {w0 w w' : World} {N t t' : Nat} {D : Nat → Prop} {a : Act} {b : Frame} {cs : List Frame}

/-- what an operation reads is as the text has it -/
theorem DI.reads [Lay] (R : RG E X ops T) (h : DI P E ops T μ0 w0 N D t a w μ) (hcl : Cl ops D) {j : Nat} {o : Oper} (ho : ops[j]? = some o) (hj : ¬ D j) (hpre : ∀ e ∈ o.after.toList, Region.binds .any e = true → D e.on)
    {k : Nat} {c : C} (hk : k ∈ readsC (dstsC ops) o) (hc : (T j).tm k = some c) : ∃ x, a.tmps[k]? = some x ∧ VR (cutM μ (T (max j t)).M.nx) c x := by
  have hjl := (List.getElem?_eq_some_iff.1 ho).1
  have hl := h.lt
  by_cases hw : ∃ (i : Nat) (oi : Oper), ops[i]? = some oi ∧ oi.dst = some k ∧ i < j
  · obtain ⟨i, oi, h1, h2, h3⟩ := hw
    have hD : D i := (R.slot j i k o oi ho h1 h2 hk).1 h3 D o hcl ho hpre
    have hs : (T j).tm k = (T (i + 1)).tm k := R.stay (by omega) (by omega) fun x ox hx1 hx2 hox e => by
      have := R.dist i x k oi ox h1 hox h2 e
      omega
    obtain ⟨x, h4, h5⟩ := h.tmW i oi k c h1 hD h2 (by rw [← hs]; exact hc)
    exact ⟨x, h4, h5.mono (cutM_mono (R.nx (by omega) (by omega)) (.refl _))⟩
  · have hs : (T j).tm k = (T 0).tm k := R.stay (by omega) (by omega) fun x ox hx1 hx2 hox e => hw ⟨x, ox, hox, e, hx2⟩
    obtain ⟨x, h4, h5⟩ := h.tm0 k c (fun i oi hD hoi hd => by
      have hij : ¬ i < j := fun hlt => hw ⟨i, oi, hoi, hd, hlt⟩
      by_cases e : i = j
      · subst e; exact hj hD
      · have := (R.slot j i k o oi ho hoi hd hk).2 (by omega)
        exact hj (this.done hcl hD (List.getElem?_eq_some_iff.1 hoi).1)) (by rw [← hs]; exact hc)
    exact ⟨x, h4, h5.mono (cutM_mono (R.nx (Nat.zero_le _) (by omega)) (.refl _))⟩
theorem DI.rr [Lay] (R : RG E X ops T) (h : DI P E ops T μ0 w0 N D t a w μ) (hcl : Cl ops D) {j : Nat} {o : Oper} (ho : ops[j]? = some o) (hj : ¬ D j) (hpre : ∀ e ∈ o.after.toList, Region.binds .any e = true → D e.on) :
    RR (cutM μ (T (max j t)).M.nx) (rd (T j).tm) a o.op := by
  intro x hx c hc
  cases x with
  | tmp k =>
    obtain ⟨y, h1, h2⟩ := h.reads R hcl ho hj hpre (reads_op hx) hc
    simp only [Act.eval, Array.getD_eq_getD_getElem?, h1, Option.getD_some]; exact h2
  | const v => exact const_rep hc
  | global g => cases hc
  | func f => replace hc : some (C.fn f [] []) = some c := hc; injection hc with hc; subst hc; exact ⟨#[], #[], rfl, rfl, rfl⟩
theorem DI.want [Lay] {ops : Array Oper} (R : RG E X ops.toList T) (h : DI P E ops.toList T μ0 w0 N D t a w μ) (hcl : Cl ops.toList D) {j : Nat} {o : Oper} (ho : ops.toList[j]? = some o) (hj : ¬ D j) (hpre : ∀ e ∈ o.after.toList, Region.binds .any e = true → D e.on)
    {u : Bool} (hw : wantC ops.toList o (T j).tm = some u) : Region.wanted o (yielded ops a.tmps) = u := by
  unfold wantC at hw
  unfold Region.wanted
  cases hg : o.guard with
  | none =>
    rw [hg] at hw
    replace hw : some true = some u := hw
    injection hw
  | some g =>
    obtain ⟨i, want⟩ := g
    rw [hg] at hw
    replace hw : wantG ops.toList (T j).tm (i, want) = some u := hw
    unfold wantG at hw
    split at hw
    · rename_i o' ho'
      rw [nth_eq] at ho'
      have ho1 : ops[i]? = some o' := by simpa using ho'
      split at hw
      · rename_i k hk
        have hrd : k ∈ readsC (dstsC ops.toList) o := reads_guard hg ho' hk
        split at hw
        · rename_i t' hv
          injection hw with hw; subst hw
          obtain ⟨y, h1, h2⟩ := h.reads R hcl ho hj hpre hrd hv
          replace h2 : y = .bool t' := h2
          subst h2
          simp only [yielded, ho1, Option.bind_some, hk, h1]
          cases t' <;> cases want <;> first | rfl | decide
        · rename_i l hv
          injection hw with hw; subst hw
          obtain ⟨y, h1, q, h2, _⟩ := h.reads R hcl ho hj hpre hrd hv
          subst h2
          simp only [yielded, ho1, Option.bind_some, hk, h1]
          rfl
        · cases hw
      · cases hw
    · cases hw

/-- the slots behind an operation -/
theorem DI.slots [Lay] (R : RG E X ops T) (h : DI P E ops T μ0 w0 N D t a w μ) {j : Nat} {o : Oper} (ho : ops[j]? = some o) (hj : ¬ D j) (hdst : ∀ k, o.dst = some k → k < N) (hle : Le μ μ') (ht : t ≤ t') (ht' : t' ≤ ops.length) {x : Value}
    (hv : ∀ k c, o.dst = some k → (T (j + 1)).tm k = some c → VR (cutM μ' (T (max (j + 1) t')).M.nx) c x) :
    (∀ (i : Nat) (oi : Oper) (k : Nat) (c : C), ops[i]? = some oi → (D i ∨ i = j) → oi.dst = some k → (T (i + 1)).tm k = some c → ∃ y, (a.put o.dst x).tmps[k]? = some y ∧ VR (cutM μ' (T (max (i + 1) t')).M.nx) c y) ∧
    (∀ (k : Nat) (c : C), (∀ (i : Nat) (oi : Oper), (D i ∨ i = j) → ops[i]? = some oi → oi.dst ≠ some k) → (T 0).tm k = some c → ∃ y, (a.put o.dst x).tmps[k]? = some y ∧ VR (cutM μ' (T 0).M.nx) c y) := by
  have other : ∀ k, o.dst ≠ some k → (a.put o.dst x).tmps[k]? = a.tmps[k]? := fun k hk => by
    cases hd : o.dst with
    | none => rfl
    | some d =>
      rw [hd] at hk
      simp only [Act.put]
      rw [Array.getElem?_setIfInBounds_ne (fun e => hk (by rw [e]))]
  refine ⟨fun i oi k c hoi hd hk hc => ?_, fun k c hn hc => ?_⟩
  · by_cases e : i = j
    · subst e
      rw [ho] at hoi; injection hoi with hoi; subst hoi
      refine ⟨x, ?_, hv k c hk hc⟩
      rw [hk]
      simp only [Act.put]
      rw [Array.getElem?_setIfInBounds_self_of_lt (by rw [h.sz]; exact hdst k hk)]
    · have hD : D i := hd.resolve_right e
      have hne : o.dst ≠ some k := fun hd' => e (R.dist i j k oi o hoi ho hk hd')
      obtain ⟨y, h1, h2⟩ := h.tmW i oi k c hoi hD hk hc
      have hi := (List.getElem?_eq_some_iff.1 hoi).1
      exact ⟨y, by rw [other k hne]; exact h1, h2.mono (cutM_mono (R.nx (by omega) (by omega)) hle)⟩
  · obtain ⟨y, h1, h2⟩ := h.tm0 k c (fun i oi hD => hn i oi (.inl hD)) hc
    exact ⟨y, by rw [other k (hn j o (.inr rfl) ho)]; exact h1, h2.mono (cutM_mono (Nat.le_refl _) hle)⟩

/-- an operation that turns nothing -/
theorem DI.quiet [Lay] (R : RG E X ops T) (h : DI P E ops T μ0 w0 N D t a w μ) {j : Nat} {o : Oper} (ho : ops[j]? = some o) (hj : ¬ D j) (hdst : ∀ k, o.dst = some k → k < N) (hc : ¬ Ch E ops j) (hn : ∀ b, ¬ Nw E ops T j b) {x : Value}
    (hv : ∀ k c, o.dst = some k → (T (j + 1)).tm k = some c → VR (cutM μ (T (max (j + 1) t)).M.nx) c x) : DI P E ops T μ0 w0 N (fun i => D i ∨ i = j) t (a.put o.dst x) w μ := by
  obtain ⟨s1, s2⟩ := h.slots R ho hj hdst (.refl _) (Nat.le_refl t) h.lt hv
  refine { h with ch := fun i hi => ?_, tmW := s1, tm0 := s2, ext := fun i b hd hi hb => ?_, und1 := fun i b hd hb => ?_, dom := fun k y hk => ?_, df := by rw [put_defers]; exact h.df, sz := by rw [put_size]; exact h.sz }
  · have : i ≠ j := fun e => hc (e ▸ hi)
    simp only [this, or_false]; exact h.ch i hi
  · have : i ≠ j := fun e => hn b (e ▸ hb)
    exact h.ext i b (hd.resolve_right this) hi hb
  · exact h.und1 i b (fun hd' => hd (.inl hd')) hb
  · rcases h.dom k y hk with h1 | ⟨i, b, h1, h2⟩
    · exact .inl h1
    · exact .inr ⟨i, b, .inl h1, h2⟩

theorem empty_mr [Lay] {P : Program} {n : Nat} (h : ∀ k y, μ k = some y → y.g < w.heap.size) (hl : LayOK μ w) : MR P μ ⟨n, .lf⟩ w :=
  ⟨fun k y b _ hb => (by cases hb), fun k k' y y' b b' _ _ hb => (by cases hb), h, hl⟩
theorem get_nx [Lay] {M : Mem} {n k : Nat} : (Mem.mk n M.tr).get k = M.get k := rfl

/-- a new block -/
theorem DI.newb [Lay] (R : RG E X ops T) (h : DI P E ops T μ0 w0 N D t a w μ) {j : Nat} {o : Oper} {bl : Blk} (ho : ops[j]? = some o) (hj : ¬ D j) (hdst : ∀ k, o.dst = some k → k < N) (hc : ¬ Ch E ops j) (hn : Nw E ops T j bl) {x : Value} {y : Home} {obj : Obj}
    (hw : w'.heap = w.heap.push obj) (h1 : w'.os = w.os) (h2 : w'.tape = w.tape) (h3 : w'.output = w.output) (hy : y.g = w.heap.size) (hb : BR P (addM (cutM μ (T (max j t)).M.nx) (T j).M.nx y) y bl w')
    (hv : ∀ k c, o.dst = some k → (T (j + 1)).tm k = some c → VR (addM (cutM μ (T (max j t)).M.nx) (T j).M.nx y) c x) : DI P E ops T μ0 w0 N (fun i => D i ∨ i = j) t (a.put o.dst x) w' (addM μ (T j).M.nx y) := by
  obtain ⟨u1, u2⟩ := h.und1 j bl hj hn
  have hjl := hn.lt
  have hl := h.lt
  have hle : Le μ (addM μ (T j).M.nx y) := addM_le u1
  have hadd : ∀ n, (T j).M.nx < n → (T (max j t)).M.nx ≤ n → Le (addM (cutM μ (T (max j t)).M.nx) (T j).M.nx y) (cutM (addM μ (T j).M.nx y) n) := fun n hn1 hn2 k z hk => by
    by_cases e : k = (T j).M.nx
    · subst e; rw [addM_self] at hk; exact cutM_some.2 ⟨hn1, by rw [addM_self]; exact hk⟩
    · simp only [addM, e, if_false] at hk
      obtain ⟨k1, k2⟩ := cutM_some.1 hk
      exact cutM_some.2 ⟨by omega, hle _ _ k2⟩
  have hcase : ∀ k z, addM μ (T j).M.nx y k = some z → (k = (T j).M.nx ∧ z = y) ∨ (k ≠ (T j).M.nx ∧ μ k = some z) := fun k z hz => by
    by_cases e : k = (T j).M.nx
    · subst e; rw [addM_self] at hz; injection hz with hz; exact .inl ⟨rfl, hz.symm⟩
    · simp only [addM, e, if_false] at hz; exact .inr ⟨e, hz⟩
  have hold : ∀ g, g < w.heap.size → w'.heap[g]? = w.heap[g]? := fun g hg => by
    rw [hw, Array.getElem?_push]; rw [if_neg (by omega)]
  have hs : w'.heap.size = w.heap.size + 1 := by rw [hw]; simp
  have hlay : LayOK (addM μ (T j).M.nx y) w' := h.lay.step (fun g hg _ => hold g hg) fun k z hz => (hcase k z hz).elim (fun e => .inr (by rw [e.2]; omega)) fun e => .inl ⟨k, z, e.2, rfl⟩
  have hjt : (T j).M.nx < (T t).M.nx → j < t := fun hlt => by
    refine Nat.lt_of_not_le fun hle => ?_
    have := R.nx hle (by omega)
    omega
  have hnj : (T j).M.nx < (T (j + 1)).M.nx := R.nw_nx hn (by omega) (by omega)
  have hmax : (T (max j t)).M.nx ≤ (T (max (j + 1) t)).M.nx := R.nx (by omega) (by omega)
  have hmaxj : (T (j + 1)).M.nx ≤ (T (max (j + 1) t)).M.nx := R.nx (by omega) (by omega)
  obtain ⟨s1, s2⟩ := h.slots (μ' := addM μ (T j).M.nx y) R ho hj hdst hle (Nat.le_refl t) h.lt (fun k c hd hc => (hv k c hd hc).mono (hadd _ (by omega) hmax))
  have hbt : j < t → BR P (cutM (addM μ (T j).M.nx y) (T t).M.nx) y bl w' := fun hlt => hb.mono (hadd _ (R.nw_nx hn hlt hl) (by rw [show max j t = t by omega]; exact Nat.le_refl _)) rfl
  refine ⟨hl, fun i hi => ?_, s1, s2, ⟨fun k z c hk hcc => ?_, fun k k' z z' c c' hk hk' hcc hcc' hg hne => ?_, fun k z hk => ?_, hlay.sub fun k z hk => (cutM_some.1 hk).2⟩, h.fr, fun i c hd hi hnc => ?_, fun i c hd hnc => ?_, fun k z hk => ?_, fun k z hk => ?_, h.le.trans hle, fun k h0 hk => ?_, h.und, h1.trans h.os, h2.trans h.tape, h3.trans h.output, by have := h.size; omega, fun g hg hgn => ?_, fun k z hk => ?_, ?_, by rw [put_size]; exact h.sz, hlay⟩
  · have : i ≠ j := fun e => hc (e ▸ hi)
    simp only [this, or_false]; exact h.ch i hi
  · obtain ⟨k1, k2⟩ := cutM_some.1 hk
    rcases hcase k z k2 with ⟨rfl, rfl⟩ | ⟨e, k3⟩
    · have := u2 (hjt k1) c hcc
      subst this
      exact hbt (hjt k1)
    · exact (h.mr.bk k z c (cutM_some.2 ⟨k1, k3⟩) hcc).mono (cutM_mono (Nat.le_refl _) hle) (hold _ (h.hp k z k3))
  · obtain ⟨k1, k2⟩ := cutM_some.1 hk
    obtain ⟨k1', k2'⟩ := cutM_some.1 hk'
    rcases hcase k z k2 with ⟨rfl, rfl⟩ | ⟨e, k3⟩
    · rcases hcase k' z' k2' with ⟨rfl, rfl⟩ | ⟨e', k3'⟩
      · exact absurd rfl hne
      · have := h.hp k' z' k3'; omega
    · have hz := h.hp k z k3
      rcases hcase k' z' k2' with ⟨rfl, rfl⟩ | ⟨e', k3'⟩
      · omega
      · exact h.mr.al k k' z z' c c' (cutM_some.2 ⟨k1, k3⟩) (cutM_some.2 ⟨k1', k3'⟩) hcc hcc' hg hne
  · obtain ⟨k1, k2⟩ := cutM_some.1 hk
    rcases hcase k z k2 with ⟨rfl, rfl⟩ | ⟨e, k3⟩
    · omega
    · have := h.hp k z k3; omega
  · by_cases e : i = j
    · subst e
      have := hnc.eq hn
      subst this
      refine ⟨y, addM_self _ _ _, hb.mono (hadd _ hnj (by rw [show max i t = i by omega]; omega)) rfl, fun k z hk hne => ?_⟩
      rcases hcase k z hk with ⟨rfl, rfl⟩ | ⟨e, k3⟩
      · exact absurd rfl hne
      · have := h.hp k z k3; omega
    · obtain ⟨z, k1, k2, k3⟩ := h.ext i c (hd.resolve_right e) hi hnc
      refine ⟨z, hle _ _ k1, k2.mono (cutM_mono (Nat.le_refl _) hle) (hold _ (h.hp _ z k1)), fun k z' hk hne => ?_⟩
      rcases hcase k z' hk with ⟨rfl, rfl⟩ | ⟨e, k4⟩
      · have := h.hp _ z k1; omega
      · exact k3 k z' k4 hne
  · have hij : i ≠ j := fun e => hd (.inr e)
    obtain ⟨k1, k2⟩ := h.und1 i c (fun hd' => hd (.inl hd')) hnc
    refine ⟨?_, k2⟩
    have := R.nw_ne hnc hn hij
    simp only [addM, this, if_false]; exact k1
  · rcases hcase k z hk with ⟨rfl, rfl⟩ | ⟨e, k3⟩
    · by_cases hlt : j < t
      · exact .inl (R.nw_nx hn hlt hl)
      · exact .inr ⟨j, bl, .inr rfl, by omega, hn, rfl⟩
    · rcases h.dom k z k3 with h1 | ⟨i, c, h1, h2⟩
      · exact .inl h1
      · exact .inr ⟨i, c, .inl h1, h2⟩
  · rcases hcase k z hk with ⟨rfl, rfl⟩ | ⟨e, k3⟩
    · omega
    · have := h.hp k z k3; omega
  · by_cases e : k = (T j).M.nx
    · subst e; exact R.nx (Nat.zero_le _) (by omega)
    · simp only [addM, e, if_false] at hk
      exact h.new k h0 hk
  · rw [hold g (Nat.lt_of_lt_of_le hg h.size)]
    exact h.keep g hg hgn
  · rcases hcase k z hk with ⟨rfl, rfl⟩ | ⟨e, k3⟩
    · exact .inr (by have := h.size; omega)
    · exact h.home k z k3
  · rw [put_defers]; exact h.df.mono hle

/-- the chain's next operation -/
theorem DI.chain [Lay] (R : RG E X ops T) (h : DI P E ops T μ0 w0 N D t a w μ) {o : Oper} (ho : ops[t]? = some o) (hj : ¬ D t) (hdst : ∀ k, o.dst = some k → k < N) (hc : Ch E ops t) {ν : Mp} (hs : Step P (cutM μ (T t).M.nx) (T t).M w ν (T (t + 1)).M w') {x : Value}
    (hv : ∀ k c, o.dst = some k → (T (t + 1)).tm k = some c → VR ν c x) : ∃ μ', DI P E ops T μ0 w0 N (fun i => D i ∨ i = t) (t + 1) (a.put o.dst x) w' μ' := by
  have htl := hc.lt
  have hnx := R.mono t htl
  have hnot : ∀ b, ¬ Nw E ops T t b := fun b ⟨o', h1, h2, _⟩ => by
    obtain ⟨o'', h3, h4⟩ := hc
    rw [h1] at h3; injection h3 with h3; subst h3
    rw [h2] at h4; cases h4
  have hfr : ∀ k, (T (t + 1)).M.nx ≤ k → ν k = none := hs.fresh.1
  let μ' : Mp := fun k => if k < (T (t + 1)).M.nx then ν k else μ k
  have hcut : cutM μ' (T (t + 1)).M.nx = ν := by
    funext k
    unfold cutM
    split
    · rename_i hk; simp only [μ', hk, if_true]
    · exact (hfr k (by omega)).symm
  have hlow : ∀ {k z}, μ k = some z → k < (T (t + 1)).M.nx → cutM μ (T t).M.nx k = some z := fun {k z} hk hlt => by
    rcases h.dom k z hk with h1 | ⟨i, b, h1, h2, h3, h4⟩
    · exact cutM_some.2 ⟨h1, hk⟩
    · have hne : i ≠ t := fun e => hnot b (e ▸ h3)
      have := R.nx (i := t + 1) (j := i) (by omega) (Nat.le_of_lt h3.lt)
      omega
  have hle : Le μ μ' := fun k z hk => by
    simp only [μ']
    split
    · rename_i hlt; exact hs.le k z (hlow hk hlt)
    · exact hk
  have hνle : Le ν μ' := fun k z hk => by
    have hlt : k < (T (t + 1)).M.nx := Nat.lt_of_not_le fun hge => by rw [hfr k hge] at hk; cases hk
    simp only [μ', hlt, if_true]; exact hk
  have hνcut : ∀ n, (T (t + 1)).M.nx ≤ n → Le ν (cutM μ' n) := fun n hn k z hk => by
    have hlt : k < (T (t + 1)).M.nx := Nat.lt_of_not_le fun hge => by rw [hfr k hge] at hk; cases hk
    exact cutM_some.2 ⟨by omega, hνle k z hk⟩
  have hhome : ∀ {k z}, ν k = some z → (∃ k0 z0, cutM μ (T t).M.nx k0 = some z0 ∧ z0.g = z.g) ∨ w.heap.size ≤ z.g := fun {k z} hk => hs.home k z hk
  obtain ⟨s1, s2⟩ := h.slots (μ' := μ') (t' := t + 1) R ho hj hdst hle (by omega) htl (fun k c hd hc => (hv k c hd hc).mono (hνcut _ (R.nx (by omega) (by omega))))
  refine ⟨μ', htl, fun i hi => ?_, s1, s2, by rw [hcut]; exact hs.mr, fun i hi => ?_, fun i bl hd hi hn => ?_, fun i bl hd hn => ?_, fun k z hk => ?_, fun k z hk => ?_, h.le.trans hle, fun k h0 hk => ?_, fun k bl hk h0 hb => ?_, hs.os.trans h.os, hs.tape.trans h.tape, hs.output.trans h.output, Nat.le_trans h.size hs.size, fun g hg hgn => ?_, fun k z hk => ?_, ?_, by rw [put_size]; exact h.sz, h.lay.step (fun g hg hn => hs.keep g hg fun k z hk => hn k z (cutM_some.1 hk).2) fun k z hk => ?_⟩
  rotate_right
  · simp only [μ'] at hk
    split at hk
    · rcases hhome hk with ⟨k0, z0, h1, h2⟩ | h1
      · exact .inl ⟨k0, z0, (cutM_some.1 h1).2, h2⟩
      · exact .inr h1
    · exact .inl ⟨k, z, hk, rfl⟩
  · by_cases e : i = t
    · subst e; simp
    · simp only [e, or_false]
      rw [h.ch i hi]; omega
  · by_cases e : i = t + 1
    · subst e; exact hs.fresh.2
    · exact h.fr i (by omega)
  · have hne : i ≠ t := fun e => hnot bl (e ▸ hn)
    obtain ⟨z, k1, k2, k3⟩ := h.ext i bl (hd.resolve_right hne) (by omega) hn
    have hge := R.nx (i := t + 1) (j := i) (by omega) (Nat.le_of_lt hn.lt)
    refine ⟨z, hle _ _ k1, k2.mono (cutM_mono (Nat.le_refl _) hle) (hs.keep z.g (h.hp _ z k1) fun k z' hk => ?_), fun k z' hk hne' => ?_⟩
    · obtain ⟨h1, h2⟩ := cutM_some.1 hk
      exact k3 k z' h2 (by omega)
    · simp only [μ'] at hk
      split at hk
      · rcases hhome hk with ⟨k0, z0, h1, h2⟩ | h1
        · obtain ⟨h3, h4⟩ := cutM_some.1 h1
          rw [← h2]
          exact k3 k0 z0 h4 (by omega)
        · have := h.hp _ z k1; omega
      · exact k3 k z' hk hne'
  · have hne : i ≠ t := fun e => hd (.inr e)
    obtain ⟨k1, k2⟩ := h.und1 i bl (fun hd' => hd (.inl hd')) hn
    have hil := hn.lt
    have hcn : cutM μ (T t).M.nx (T i).M.nx = none := by unfold cutM; split <;> first | exact k1 | rfl
    refine ⟨?_, fun hi c hc => ?_⟩
    · simp only [μ']
      split
      · rename_i hlt
        have hit : i < t := Nat.lt_of_not_le fun hge => by
          have := R.nx (i := t + 1) (j := i) (by omega) (by omega)
          omega
        have hlt2 := R.nw_nx hn hit (by omega)
        cases e : ν (T i).M.nx with
        | none => rfl
        | some z =>
          have := hs.new _ hcn (by rw [e]; simp)
          omega
      · exact k1
    · have hit : i < t := by omega
      exact k2 hit c (hs.und _ c (R.nw_nx hn hit (by omega)) hcn hc)
  · simp only [μ'] at hk
    split at hk
    · exact .inl ‹_›
    · rcases h.dom k z hk with h1 | ⟨i, c, h1, h2, h3, h4⟩
      · exact .inl (by omega)
      · have hne : i ≠ t := fun e => hnot c (e ▸ h3)
        exact .inr ⟨i, c, .inl h1, by omega, h3, h4⟩
  · simp only [μ'] at hk
    split at hk
    · exact hs.mr.lt k z hk
    · exact Nat.lt_of_lt_of_le (h.hp k z hk) hs.size
  · have h0t := R.nx (i := 0) (j := t) (Nat.zero_le _) (by omega)
    by_cases e : μ k = none
    · simp only [μ'] at hk
      split at hk
      · have := hs.new k (by unfold cutM; split <;> first | exact e | rfl) hk
        omega
      · exact absurd e hk
    · exact h.new k h0 e
  · have h0t := R.nx (i := 0) (j := t) (Nat.zero_le _) (by omega)
    refine h.und k bl hk h0 (hs.und k bl (by omega) ?_ hb)
    unfold cutM
    split
    · cases e : μ k with
      | none => rfl
      | some z =>
        have := h.new k h0 (by rw [e]; simp)
        omega
    · rfl
  · rw [hs.keep g (Nat.lt_of_lt_of_le hg h.size) fun k z hk => ?_]
    · exact h.keep g hg hgn
    · rcases h.home k z (cutM_some.1 hk).2 with ⟨k0, z0, h1, h2⟩ | h1
      · rw [← h2]; exact hgn k0 z0 h1
      · omega
  · simp only [μ'] at hk
    split at hk
    · rcases hhome hk with ⟨k0, z0, h1, h2⟩ | h1
      · rcases h.home k0 z0 (cutM_some.1 h1).2 with ⟨k1, z1, h3, h4⟩ | h3
        · exact .inl ⟨k1, z1, h3, h4.trans h2⟩
        · exact .inr (by omega)
      · exact .inr (Nat.le_trans h.size h1)
    · exact h.home k z hk
  · rw [put_defers]; exact h.df.mono hle
end
end Go.Cx
namespace Go.Cx

/-- what a load finds is the same on both sides of what writes and is not ordered -/
def HP (E : Env) (X : Cfg) (ops : List Oper) (T : Nat → St) : Prop := ∀ (j c : Nat) (o : Oper) (v : C) (M' : Mem), ops[j]? = some o → kdC E o = .load → Ch E ops c → wantC ops o (T j).tm = some true →
  opTab o.op E X (rd (T j).tm) (T j).M o.type = .ok v M' →
  (j < c ∧ Anc ops j c) ∨ (c < j ∧ Anc ops c j) ∨ ((∃ M1, opTab o.op E X (rd (T j).tm) (T c).M o.type = .ok v M1) ∧ ∃ M2, opTab o.op E X (rd (T j).tm) (T (c + 1)).M o.type = .ok v M2)
/-- the chain's operations stand one behind another -/
def HL (E : Env) (ops : List Oper) : Prop := ∀ i j, Ch E ops i → Ch E ops j → i < j → Anc ops i j

section
variable {P : Program} {E : Env} {X : Cfg} {ops : List Oper} {T : Nat → St} {μ0 μ μ' : Mp} {w0 w w' : World} {N t t' : Nat} {D : Nat → Prop} {a : Act} {b : Frame} {cs : List Frame}

theorem lastCh [Lay] (E : Env) (ops : List Oper) (j : Nat) : ∀ d : Nat, ∃ i, j ≤ i ∧ i ≤ j + d ∧ (∀ x, i ≤ x → x < j + d → ¬ Ch E ops x) ∧ (i = j ∨ ∃ c, i = c + 1 ∧ Ch E ops c ∧ j ≤ c)
  | 0 => ⟨j, Nat.le_refl _, by omega, fun x h1 h2 => by omega, .inl rfl⟩
  | d + 1 => by
    by_cases hc : Ch E ops (j + d)
    · exact ⟨j + d + 1, by omega, by omega, fun x h1 h2 => by omega, .inr ⟨j + d, rfl, hc, by omega⟩⟩
    · obtain ⟨i, h1, h2, h3, h4⟩ := lastCh E ops j d
      refine ⟨i, h1, by omega, fun x h5 h6 => ?_, h4⟩
      by_cases e : x = j + d
      · subst e; exact hc
      · exact h3 x h5 (by omega)

/-- blocks stay where nothing of the chain is done -/
theorem DI.blocks [Lay] (R : RG E X ops T) (h : DI P E ops T μ0 w0 N D t a w μ) {i : Nat} (hi : i ≤ t) (hn : ∀ x, i ≤ x → x < t → ¬ Ch E ops x) {k : Nat} {bl : Blk} (hk : (T i).M.get k = some bl) : (T t).M.get k = some bl := by
  have key : ∀ d, i + d ≤ t → (T (i + d)).M.get k = some bl := by
    intro d
    induction d with
    | zero => intro _; exact hk
    | succ d ih =>
      intro hd
      have h1 := ih (by omega)
      have hl := h.lt
      rcases R.nonch (i := i + d) (by omega) (hn _ (by omega) (by omega)) with ⟨h2, _⟩ | ⟨b, o, _, _, _, h2⟩
      · rw [show i + (d + 1) = i + d + 1 by omega, h2]; exact h1
      · rw [show i + (d + 1) = i + d + 1 by omega, h2, Mem.get_add, if_neg]
        · exact h1
        · intro e
          subst e
          rw [h.fr (i + d) (by omega) _ (Nat.le_refl _)] at h1; cases h1
  have := key (t - i) (by omega)
  rwa [show i + (t - i) = t by omega] at this

/-- a load's value, at a memory that is there now -/
theorem DI.load [Lay] (R : RG E X ops T) (hp : HP E X ops T) (h : DI P E ops T μ0 w0 N D t a w μ) (hcl : Cl ops D) (hmax : t = ops.length ∨ Ch E ops t) {j : Nat} {o : Oper} {v : C} {M' : Mem} (ho : ops[j]? = some o) (hj : ¬ D j)
    (hpre : ∀ e ∈ o.after.toList, Region.binds .any e = true → D e.on) (hk : kdC E o = .load) (hw : wantC ops o (T j).tm = some true) (hv : opTab o.op E X (rd (T j).tm) (T j).M o.type = .ok v M') :
    ∃ M1, opTab o.op E X (rd (T j).tm) M1 o.type = .ok v M1 ∧ MR P (cutM μ (T (max j t)).M.nx) M1 w ∧ Fresh (cutM μ (T (max j t)).M.nx) M1 := by
  have hjl := (List.getElem?_eq_some_iff.1 ho).1
  have hl := h.lt
  -- from a memory of the text
  have fin : ∀ i, i ≤ t → (∀ k bl, (T i).M.get k = some bl → (T t).M.get k = some bl) → (∃ M'', opTab o.op E X (rd (T j).tm) (T i).M o.type = .ok v M'') →
      ∃ M1, opTab o.op E X (rd (T j).tm) M1 o.type = .ok v M1 ∧ MR P (cutM μ (T (max j t)).M.nx) M1 w ∧ Fresh (cutM μ (T (max j t)).M.nx) M1 := by
    intro i hi hsub ⟨M'', hop⟩
    obtain ⟨rfl, hall⟩ := load_M hk hop
    have hit := R.nx hi hl
    have htm : (T t).M.nx ≤ (T (max j t)).M.nx := R.nx (by omega) (by omega)
    have hlow : ∀ k bl, (T i).M.get k = some bl → k < (T t).M.nx := fun k bl hb => by
      refine Nat.lt_of_not_le fun hge => ?_
      have := h.fr i hi k (by omega)
      rw [hb] at this; cases this
    refine ⟨⟨(T (max j t)).M.nx, (T i).M.tr⟩, hall _, ⟨fun k y bl hy hb => ?_, fun k k' y y' c c' hy hy' hb hb' hg hne => ?_, fun k y hy => h.hp k y (cutM_some.1 hy).2, h.lay.sub fun k y hy => (cutM_some.1 hy).2⟩, ⟨fun k hk => ?_, fun k hk => ?_⟩⟩
    · rw [get_nx] at hb
      exact (h.mr.bk k y bl (cutM_some.2 ⟨hlow k bl hb, (cutM_some.1 hy).2⟩) (hsub k bl hb)).mono (cutM_mono htm (.refl _)) rfl
    · rw [get_nx] at hb hb'
      exact h.mr.al k k' y y' c c' (cutM_some.2 ⟨hlow k c hb, (cutM_some.1 hy).2⟩) (cutM_some.2 ⟨hlow k' c' hb', (cutM_some.1 hy').2⟩) (hsub k c hb) (hsub k' c' hb') hg hne
    · show cutM μ (T (max j t)).M.nx k = none
      unfold cutM
      rw [if_neg (by have : (T (max j t)).M.nx ≤ k := hk; omega)]
    · rw [get_nx]
      have : (T (max j t)).M.nx ≤ k := hk
      exact h.fr i hi k (by omega)
  by_cases htj : t ≤ j
  · have hct : Ch E ops t := hmax.resolve_left (by omega)
    have hnd : ¬ D t := fun hd => by have := (h.ch t hct).1 hd; omega
    have hne : t ≠ j := fun e => by
      subst e
      obtain ⟨o', h1, h2⟩ := hct
      rw [ho] at h1; injection h1 with h1; subst h1
      rw [hk] at h2; cases h2
    rcases hp j t o v M' ho hk hct hw hv with ⟨h1, _⟩ | ⟨_, h2⟩ | ⟨h3, _⟩
    · omega
    · exact absurd (h2 D o hcl ho hpre) hnd
    · exact fin t (Nat.le_refl _) (fun _ _ h => h) h3
  · have hjt : j + (t - j) = t := Nat.add_sub_of_le (Nat.le_of_not_le htj)
    obtain ⟨i, h1, h2, h3, h4⟩ := lastCh E ops j (t - j)
    rw [hjt] at h2 h3
    have hsub : ∀ k bl, (T i).M.get k = some bl → (T t).M.get k = some bl := fun k bl hb => h.blocks R h2 h3 hb
    rcases h4 with rfl | ⟨c, rfl, hc, hjc⟩
    · exact fin _ h2 hsub ⟨M', hv⟩
    · have hdc : D c := (h.ch c hc).2 h2
      rcases hp j c o v M' ho hk hc hw hv with ⟨_, h5⟩ | ⟨h5, _⟩ | ⟨_, h5⟩
      · exact absurd (h5.done hcl hdc hc.lt) hj
      · exact absurd h5 (Nat.not_lt.2 hjc)
      · exact fin _ h2 hsub h5

theorem nodefer_of [Lay] {o : Oper} (h : kdC E o ≠ .bad) : ∀ c, o.op ≠ .defer c := fun c e => h (by simp [kdC, e])

/-- one operation of a region goes by -/
theorem gen_step [Lay] {ops : Array Oper} (hE : EOK E) (hC : SndC E.P X.call) (hY : SndY E.P X.yld) (hrec : X.rnd = false → NoRec b cs) (R : RG E X ops.toList T) (hp : HP E X ops.toList T) (hdst : ∀ o ∈ ops.toList, ∀ k, o.dst = some k → k < N) {k : List Item} {j : Nat} {o : Oper} (rest : List Nat)
    (hl : ∀ t, Ch E ops.toList t → Ch E ops.toList j → t < j → ¬ D t → Anc ops.toList t j)
    (h0 : DI E.P E ops.toList T μ0 w0 N D t a w μ) (ho : ops[j]? = some o) (hj : ¬ D j) (hcl : Cl ops.toList D) (hpre : ∀ e ∈ o.after.toList, Region.binds .any e = true → D e.on) :
    ∃ a' w' t' μ', DI E.P E ops.toList T μ0 w0 N (fun i => D i ∨ i = j) t' a' w' μ' ∧ Steps E.P (lone (b.atR a (.inRegion ops (j :: rest) :: k)) cs w) (lone (b.atR a' (.inRegion ops rest :: k)) cs w') := by
  obtain ⟨t, _, h, hmax⟩ := DI.far R (n := ops.toList.length) (by omega) h0
  have hol : ops.toList[j]? = some o := by simpa using ho
  have hjl := (List.getElem?_eq_some_iff.1 hol).1
  have hd : ∀ k, o.dst = some k → k < N := hdst o (List.mem_of_getElem? hol)
  have hkd := R.good j o hol
  have hjt : Ch E ops.toList j → j = t := fun hc => by
    have h1 : ¬ j < t := fun hlt => hj ((h.ch j hc).2 hlt)
    rcases hmax with e | hct
    · omega
    · by_cases e : t = j
      · exact e.symm
      · have := (hl t hct hc (by omega) (fun hd => by have := (h.ch t hct).1 hd; omega)) D o hcl hol hpre
        have := (h.ch t hct).1 this
        omega
  have hrr := h.rr R hcl hol hj hpre
  have hnw : kdC E o ≠ .new → ∀ bl, ¬ Nw E ops.toList T j bl := fun hk bl ⟨o', h1, h2, _⟩ => by
    rw [hol] at h1; injection h1 with h1; subst h1; exact hk h2
  have hch : kdC E o ≠ .chain → ¬ Ch E ops.toList j := fun hk ⟨o', h1, h2⟩ => by
    rw [hol] at h1; injection h1 with h1; subst h1; exact hk h2
  rcases R.op j o hol with ⟨hw, hT⟩ | ⟨hw, v, M', hop, hT⟩
  · have hwant := h.want R hcl hol hj hpre hw
    have hsteps : Steps E.P (lone (b.atR a (.inRegion ops (j :: rest) :: k)) cs w) (lone (b.atR (a.put o.dst undef) (.inRegion ops rest :: k)) cs w) := by
      have := stepR_op_skip (P := E.P) (b := b) (a := a) (k := k) (cs := cs) (w := w) (ops := ops) (i := j) (rest := rest) (by simp [ho, hwant])
      exact .one (by simpa [ho] using this)
    have hval : ∀ ν : Mp, ∀ k c, o.dst = some k → (T (j + 1)).tm k = some c → VR ν c undef := fun ν k c hk hc => by
      rw [hT] at hc
      rw [hk] at hc
      replace hc : upd (T j).tm k (.tup []) k = some c := hc
      rw [upd_eq, if_pos rfl] at hc
      injection hc with hc; subst hc; exact .undef
    have hnot : ∀ bl, ¬ Nw E ops.toList T j bl := fun bl ⟨o', h1, _, h3, _⟩ => by
      rw [hol] at h1; injection h1 with h1; subst h1
      rw [hw] at h3; cases h3
    by_cases hc : Ch E ops.toList j
    · have := hjt hc; subst this
      obtain ⟨μ', h1⟩ := h.chain R hol hj hd hc (ν := cutM μ (T j).M.nx) (w' := w) (x := undef) (by
        rw [hT]
        exact Step.refl h.mr ⟨fun k hk => by unfold cutM; rw [if_neg (by omega)], h.fr j (Nat.le_refl _)⟩) (hval _)
      exact ⟨_, w, _, μ', h1, hsteps⟩
    · exact ⟨_, w, t, μ, h.quiet R hol hj hd hc hnot (hval _), hsteps⟩
  · have hwant := h.want R hcl hol hj hpre hw
    have hval : ∀ {ν : Mp} {x : Value}, VR ν v x → ∀ k c, o.dst = some k → (T (j + 1)).tm k = some c → VR ν c x := fun {ν x} hv k c hk hc => by
      rw [hT] at hc
      rw [hk] at hc
      replace hc : upd (T j).tm k v k = some c := hc
      rw [upd_eq, if_pos rfl] at hc
      injection hc with hc; subst hc; exact hv
    have hmm : (T (max j t)).M.nx ≤ (T (max (j + 1) t)).M.nx := R.nx (by omega) (by have := h.lt; omega)
    have quiet : ∀ (M1 : Mem), kdC E o ≠ .new → kdC E o ≠ .chain → VOut E.P o a (cutM μ (T (max j t)).M.nx) M1 w v M1 →
        ∃ a' w' t' μ', DI E.P E ops.toList T μ0 w0 N (fun i => D i ∨ i = j) t' a' w' μ' ∧ Steps E.P (lone (b.atR a (.inRegion ops (j :: rest) :: k)) cs w) (lone (b.atR a' (.inRegion ops rest :: k)) cs w') := by
      intro M1 h1 h2 ⟨_, x, h3, h4⟩
      obtain ⟨a', w', ⟨h5, h6⟩, h7⟩ := opRun_val (P := E.P) (b := b) (cs := cs) (o := o) (a := a) (w := w) (w' := w) (Q := fun a' w' => a' = a.put o.dst x ∧ w' = w) (nodefer_of hkd) h3 ⟨rfl, rfl⟩ ops j rest k ho hwant
      subst h5; subst h6
      exact ⟨_, _, t, μ, h.quiet R hol hj hd (hch h2) (hnw h1) (fun k c hk hc => (hval h4 k c hk hc).mono (cutM_mono hmm (.refl _))), h7⟩
    cases hk : kdC E o with
    | bad => exact absurd hk hkd
    | pure =>
      obtain ⟨_, hall⟩ := pure_M hk hop
      refine quiet ⟨(T (max j t)).M.nx, .lf⟩ (by rw [hk]; simp) (by rw [hk]; simp) (op_quiet hE hrec (.inl hk) (empty_mr (fun k y hy => h.hp k y (cutM_some.1 hy).2) (h.lay.sub fun k y hy => (cutM_some.1 hy).2)) ⟨fun k hk => ?_, fun k hk => rfl⟩ hrr (hall _))
      unfold cutM
      rw [if_neg (by have : (T (max j t)).M.nx ≤ k := hk; omega)]
    | load =>
      obtain ⟨M1, h1, h2, h3⟩ := h.load R hp hcl hmax hol hj hpre hk hw hop
      exact quiet M1 (by rw [hk]; simp) (by rw [hk]; simp) (op_quiet hE hrec (.inr hk) h2 h3 hrr h1)
    | new =>
      obtain ⟨bl, rfl, hall⟩ := new_M hk hop
      have hn : Nw E ops.toList T j bl := ⟨o, hol, hk, hw, by rw [hT]⟩
      obtain ⟨u1, _⟩ := h.und1 j bl hj hn
      have hcn : cutM μ (T (max j t)).M.nx (T j).M.nx = none := by unfold cutM; split <;> first | exact u1 | rfl
      obtain ⟨b', y, x, obj, w', h1, h2, h3, h4, h5, h6, h7, h8, h9, _⟩ := op_new (w := w) hE hk hcn hrr hop
      have : b' = bl := by
        have e : ((T j).M.add b').get (T j).M.nx = ((T j).M.add bl).get (T j).M.nx := by rw [h1]
        rw [Mem.get_add, Mem.get_add, if_pos rfl, if_pos rfl] at e
        injection e
      subst this
      obtain ⟨a', w'', ⟨k5, k6⟩, k7⟩ := opRun_val (P := E.P) (b := b) (cs := cs) (o := o) (a := a) (w := w) (w' := w') (Q := fun a' w'' => a' = a.put o.dst x ∧ w'' = w') (nodefer_of hkd) h2 ⟨rfl, rfl⟩ ops j rest k ho hwant
      subst k5; subst k6
      exact ⟨_, _, t, _, h.newb R hol hj hd (hch (by rw [hk]; simp)) hn h3 h4 h5 h6 h7 h8 (hval h9), k7⟩
    | chain =>
      have hc : Ch E ops.toList j := ⟨o, hol, hk⟩
      have := hjt hc; subst this
      rw [Nat.max_self] at hrr
      obtain ⟨a', w', ⟨x, ν, rfl, h1, h2⟩, h3⟩ := op_ok hE hC hY hrec h.mr ⟨fun k hk => by unfold cutM; rw [if_neg (by omega)], h.fr j (Nat.le_refl _)⟩ hrr hop ops j rest k ho hwant
      have hM : M' = (T (j + 1)).M := by rw [hT]
      obtain ⟨μ', h4⟩ := h.chain R hol hj hd hc (ν := ν) (by rw [← hM]; exact h2) (hval h1)
      exact ⟨_, w', _, μ', h4, h3⟩

/-- ahead of a region -/
theorem DI.start [Lay] {μ00 : Mp} {M00 : Mem} {w00 : World} (h : FS P μ00 M00 w00 N (T 0) a w μ) (R : RG E X ops T) : DI P E ops T μ { w with drawn := w.drawn + 1 } N (fun _ => False) 0 a { w with drawn := w.drawn + 1 } μ := by
  have hcut : cutM μ (T 0).M.nx = μ := cutM_all h.st.fresh.1
  refine ⟨Nat.zero_le _, fun i _ => by simp, fun i o k c _ hd => hd.elim, fun k c _ hc => by rw [hcut]; exact h.tm k c hc, by rw [hcut]; exact h.st.mr.world rfl, fun i hi => ?_, fun i bl hd => hd.elim, fun i bl _ hn => ⟨h.st.fresh.1 _ (R.nx (Nat.zero_le _) (Nat.le_of_lt hn.lt)), fun hi => by omega⟩, fun k y hk => ?_, h.st.mr.lt, .refl _, fun k h0 h1 => absurd h0 h1, fun _ _ _ _ hb => hb, rfl, rfl, rfl, Nat.le_refl _, fun _ _ _ => rfl, fun k y hk => .inl ⟨k, y, hk, rfl⟩, h.df, h.sz, h.st.mr.lay.step (fun _ _ _ => rfl) fun k y hk => .inl ⟨k, y, hk, rfl⟩⟩
  · have : i = 0 := by omega
    subst this; exact h.st.fresh.2
  · left
    refine Nat.lt_of_not_le fun hge => ?_
    rw [h.st.fresh.1 k hge] at hk; cases hk

/-- behind a region -/
theorem DI.fin [Lay] {μ00 : Mp} {M00 : Mem} {w00 : World} {a0 : Act} {w1 : World} (R : RG E X ops T) (h0 : FS P μ00 M00 w00 N (T 0) a0 w1 μ0) (h : DI P E ops T μ0 { w1 with drawn := w1.drawn + 1 } N D t a w μ) (hD : ∀ i, i < ops.length → D i) :
    FS P μ00 M00 w00 N (T ops.length) a w μ ∧ Le μ0 μ := by
  obtain ⟨t', _, h, hmax⟩ := DI.far R (n := ops.length) (by omega) h
  have ht : t' = ops.length := by
    rcases hmax with e | hc
    · exact e
    · have := (h.ch t' hc).1 (hD t' hc.lt); omega
  subst ht
  have hdom : ∀ k, (T ops.length).M.nx ≤ k → μ k = none := fun k hk => by
    cases e : μ k with
    | none => rfl
    | some y =>
      rcases h.dom k y e with h1 | ⟨i, b, _, h2, h3, _⟩
      · omega
      · have := h3.lt; omega
  have hcut : cutM μ (T ops.length).M.nx = μ := cutM_all hdom
  have hmr : MR P μ (T ops.length).M w := by have := h.mr; rwa [hcut] at this
  refine ⟨⟨fun k c hc => ?_, ?_, by rw [R.df0 (Nat.le_refl _)]; exact h.df, h.sz⟩, h.le⟩
  · by_cases hw : ∃ (i : Nat) (o : Oper), ops[i]? = some o ∧ o.dst = some k
    · obtain ⟨i, o, h1, h2⟩ := hw
      have hi := (List.getElem?_eq_some_iff.1 h1).1
      have hs : (T ops.length).tm k = (T (i + 1)).tm k := R.stay (by omega) (Nat.le_refl _) fun x ox hx1 hx2 hox e => by
        have := R.dist i x k o ox h1 hox h2 e; omega
      obtain ⟨x, h3, h4⟩ := h.tmW i o k c h1 (hD i hi) h2 (by rw [← hs]; exact hc)
      exact ⟨x, h3, h4.mono cutM_le⟩
    · have hs : (T ops.length).tm k = (T 0).tm k := R.stay (Nat.zero_le _) (Nat.le_refl _) fun x ox _ _ hox e => hw ⟨x, ox, hox, e⟩
      obtain ⟨x, h3, h4⟩ := h.tm0 k c (fun i o _ ho hd => hw ⟨i, o, ho, hd⟩) (by rw [← hs]; exact hc)
      exact ⟨x, h3, h4.mono cutM_le⟩
  · exact h0.st.trans ⟨h.le, R.nx (Nat.zero_le _) (Nat.le_refl _), h.new, ⟨hdom, h.fr _ (Nat.le_refl _)⟩, hmr, h.und, h.os, h.tape, h.output, h.size, h.keep, h.home⟩
end
end Go.Cx
