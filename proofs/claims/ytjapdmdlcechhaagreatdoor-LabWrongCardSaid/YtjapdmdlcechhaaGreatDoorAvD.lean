/- Regions that draw, functions of the library, and tables of calls; no condition. -/
import Derived.Test.YtjapdmdlcechhaaGreatDoorAvC
import Derived.Laws.Externs
import Derived.Lib.Join
import Derived.Lib.ItoaNum
import Derived.Lib.Bytealg
import Derived.Below
namespace Go.Cx

/-- the slots, in the midst of a region -/
structure SLT (ops : List Oper) (T : Nat → St) (ν : Nat → Mp) (N : Nat) (D : Nat → Prop) (a : Act) : Prop where
  tmW : ∀ (i : Nat) (o : Oper) (k : Nat) (c : C), ops[i]? = some o → D i → o.dst = some k → (T (i + 1)).tm k = some c → ∃ x, a.tmps[k]? = some x ∧ VR (ν (i + 1)) c x
  tm0 : ∀ (k : Nat) (c : C), (∀ (i : Nat) (o : Oper), D i → ops[i]? = some o → o.dst ≠ some k) → (T 0).tm k = some c → ∃ x, a.tmps[k]? = some x ∧ VR (ν 0) c x
  sz : a.tmps.size = N

section
variable {P : Program} {E : Env} {X : Cfg} {ops : List Oper} {T : Nat → St} {ν ν' : Nat → Mp} {N : Nat} {D : Nat → Prop} {a : Act}

/-- what an operation reads is as the text has it -/
theorem SLT.reads [Lay] (R : RG E X ops T) (hν : ∀ p q, p ≤ q → q ≤ ops.length → Le (ν p) (ν q)) (h : SLT ops T ν N D a) (hcl : Cl ops D) {j : Nat} {o : Oper} (ho : ops[j]? = some o) (hj : ¬ D j) (hpre : ∀ e ∈ o.after.toList, Region.binds .any e = true → D e.on)
    {k : Nat} {c : C} (hk : k ∈ readsC (dstsC ops) o) (hc : (T j).tm k = some c) : ∃ x, a.tmps[k]? = some x ∧ VR (ν j) c x := by
  have hjl := (List.getElem?_eq_some_iff.1 ho).1
  by_cases hw : ∃ (i : Nat) (oi : Oper), ops[i]? = some oi ∧ oi.dst = some k ∧ i < j
  · obtain ⟨i, oi, h1, h2, h3⟩ := hw
    have hD : D i := (R.slot j i k o oi ho h1 h2 hk).1 h3 D o hcl ho hpre
    have hs : (T j).tm k = (T (i + 1)).tm k := R.stay (by omega) (by omega) fun x ox hx1 hx2 hox e => by
      have := R.dist i x k oi ox h1 hox h2 e
      omega
    obtain ⟨x, h4, h5⟩ := h.tmW i oi k c h1 hD h2 (by rw [← hs]; exact hc)
    exact ⟨x, h4, h5.mono (hν _ _ (by omega) (by omega))⟩
  · have hs : (T j).tm k = (T 0).tm k := R.stay (by omega) (by omega) fun x ox hx1 hx2 hox e => hw ⟨x, ox, hox, e, hx2⟩
    obtain ⟨x, h4, h5⟩ := h.tm0 k c (fun i oi hD hoi hd => by
      have hij : ¬ i < j := fun hlt => hw ⟨i, oi, hoi, hd, hlt⟩
      by_cases e : i = j
      · subst e; exact hj hD
      · have := (R.slot j i k o oi ho hoi hd hk).2 (by omega)
        exact hj (this.done hcl hD (List.getElem?_eq_some_iff.1 hoi).1)) (by rw [← hs]; exact hc)
    exact ⟨x, h4, h5.mono (hν _ _ (Nat.zero_le _) (by omega))⟩
theorem SLT.rr [Lay] (R : RG E X ops T) (hν : ∀ p q, p ≤ q → q ≤ ops.length → Le (ν p) (ν q)) (h : SLT ops T ν N D a) (hcl : Cl ops D) {j : Nat} {o : Oper} (ho : ops[j]? = some o) (hj : ¬ D j) (hpre : ∀ e ∈ o.after.toList, Region.binds .any e = true → D e.on) :
    RR (ν j) (rd (T j).tm) a o.op := by
  intro x hx c hc
  cases x with
  | tmp k =>
    obtain ⟨y, h1, h2⟩ := h.reads R hν hcl ho hj hpre (reads_op hx) hc
    simp only [Act.eval, Array.getD_eq_getD_getElem?, h1, Option.getD_some]; exact h2
  | const v => exact const_rep hc
  | global g => cases hc
  | func f => replace hc : some (C.fn f [] []) = some c := hc; injection hc with hc; subst hc; exact ⟨#[], #[], rfl, rfl, rfl⟩
theorem SLT.want [Lay] {ops : Array Oper} (R : RG E X ops.toList T) (hν : ∀ p q, p ≤ q → q ≤ ops.toList.length → Le (ν p) (ν q)) (h : SLT ops.toList T ν N D a) (hcl : Cl ops.toList D) {j : Nat} {o : Oper} (ho : ops.toList[j]? = some o) (hj : ¬ D j) (hpre : ∀ e ∈ o.after.toList, Region.binds .any e = true → D e.on)
    {u : Bool} (hw : wantC ops.toList o (T j).tm = some u) : Region.wanted o (yielded ops a.tmps) = u := by
  unfold wantC at hw
  unfold Region.wanted
  cases hg : o.guard with
  | none =>
    rw [hg] at hw
    replace hw : some true = some u := hw
    injection hw
  | some g =>
    obtain ⟨i, want⟩ := g
    rw [hg] at hw
    replace hw : wantG ops.toList (T j).tm (i, want) = some u := hw
    unfold wantG at hw
    split at hw
    · rename_i o' ho'
      rw [nth_eq] at ho'
      have ho1 : ops[i]? = some o' := by simpa using ho'
      split at hw
      · rename_i k hk
        have hrd : k ∈ readsC (dstsC ops.toList) o := reads_guard hg ho' hk
        split at hw
        · rename_i t' hv
          injection hw with hw; subst hw
          obtain ⟨y, h1, h2⟩ := h.reads R hν hcl ho hj hpre hrd hv
          replace h2 : y = .bool t' := h2
          subst h2
          simp only [yielded, ho1, Option.bind_some, hk, h1]
          cases t' <;> cases want <;> first | rfl | decide
        · rename_i l hv
          injection hw with hw; subst hw
          obtain ⟨y, h1, q, h2, _⟩ := h.reads R hν hcl ho hj hpre hrd hv
          subst h2
          simp only [yielded, ho1, Option.bind_some, hk, h1]
          rfl
        · cases hw
      · cases hw
    · cases hw

/-- the slots behind an operation -/
theorem SLT.slots [Lay] (R : RG E X ops T) (h : SLT ops T ν N D a) {j : Nat} {o : Oper} (ho : ops[j]? = some o) (hdst : ∀ k, o.dst = some k → k < N) (hle : ∀ p, Le (ν p) (ν' p)) {x : Value}
    (hv : ∀ k c, o.dst = some k → (T (j + 1)).tm k = some c → VR (ν' (j + 1)) c x) :
    SLT ops T ν' N (fun i => D i ∨ i = j) (a.put o.dst x) := by
  have other : ∀ k, o.dst ≠ some k → (a.put o.dst x).tmps[k]? = a.tmps[k]? := fun k hk => by
    cases hd : o.dst with
    | none => rfl
    | some d =>
      rw [hd] at hk
      simp only [Act.put]
      rw [Array.getElem?_setIfInBounds_ne (fun e => hk (by rw [e]))]
  refine ⟨fun i oi k c hoi hd hk hc => ?_, fun k c hn hc => ?_, by rw [put_size]; exact h.sz⟩
  · by_cases e : i = j
    · subst e
      rw [ho] at hoi; injection hoi with hoi; subst hoi
      refine ⟨x, ?_, hv k c hk hc⟩
      rw [hk]
      simp only [Act.put]
      rw [Array.getElem?_setIfInBounds_self_of_lt (by rw [h.sz]; exact hdst k hk)]
    · have hD : D i := hd.resolve_right e
      have hne : o.dst ≠ some k := fun hd' => e (R.dist i j k oi o hoi ho hk hd')
      obtain ⟨y, h1, h2⟩ := h.tmW i oi k c hoi hD hk hc
      have hi := (List.getElem?_eq_some_iff.1 hoi).1
      exact ⟨y, by rw [other k hne]; exact h1, h2.mono (hle _)⟩
  · obtain ⟨y, h1, h2⟩ := h.tm0 k c (fun i oi hD => hn i oi (.inl hD)) hc
    exact ⟨y, by rw [other k (hn j o (.inr rfl) ho)]; exact h1, h2.mono (hle _)⟩

end
end Go.Cx
namespace Go.Cx

section
variable {E : Env} {M M1 M2 : Mem} {T T' : Nat} {v v' p p' : C}
theorem store_inv [Lay] (h : storeC E M T v p = some M1) : ∃ k o U cs n r, p = .ptr k o ∧ M.get k = some (.cells U .ex cs) ∧ E.size T = some n ∧ (Nat.beq (len (cellsOf v)) n && allCell (cellsOf v)) = true ∧ splice cs o (cellsOf v) = some r ∧ M1 = M.set k (.cells U .ex r) := by
  cases p <;> simp only [storeC] at h <;> try (cases h; done)
  rename_i k o
  split at h
  · rename_i U cs hk
    split at h
    · rename_i n hn
      replace h := cond_none h; obtain ⟨hc, h⟩ := h
      split at h
      · rename_i r hr
        injection h with h; subst h
        exact ⟨k, o, U, cs, n, r, rfl, hk, hn, hc, hr, rfl⟩
      · cases h
    · cases h
  · cases h
theorem store_mk [Lay] {k o U n : Nat} {cs r : List C} (hk : M.get k = some (.cells U .ex cs)) (hn : E.size T = some n) (hc : (Nat.beq (len (cellsOf v)) n && allCell (cellsOf v)) = true) (hr : splice cs o (cellsOf v) = some r) :
    storeC E M T v (.ptr k o) = some (M.set k (.cells U .ex r)) := by
  simp only [storeC, hk, hn, hc, cond_true, hr]
theorem splice_mk [Lay] {cs xs : List C} {o : Nat} (h : o + xs.length ≤ cs.length) : ∃ r, splice cs o xs = some r := by
  refine ⟨cs.take o ++ (xs ++ cs.drop (o + xs.length)), ?_⟩
  unfold splice
  rw [nble]
  simp only [len_eq, h, decide_true, cond_true, takeN_eq, dropN_eq, app_eq]
/-- two stores that do not meet -/
theorem store_swap [Lay] (h1 : storeC E M T v p = some M1) (h2 : storeC E M1 T' v' p' = some M2)
    (ha : ∃ k o k' o' n n', p = .ptr k o ∧ p' = .ptr k' o' ∧ E.size T = some n ∧ E.size T' = some n' ∧ (k ≠ k' ∨ o + n ≤ o' ∨ o' + n' ≤ o)) :
    ∃ M1', storeC E M T' v' p' = some M1' ∧ ∃ M2', storeC E M1' T v p = some M2' ∧ M2'.nx = M2.nx ∧ ∀ k, M2'.get k = M2.get k := by
  obtain ⟨k, o, U, cs, n, r, rfl, a1, a2, a3, a4, rfl⟩ := store_inv h1
  obtain ⟨k', o', U', cs', n', r', rfl, b1, b2, b3, b4, rfl⟩ := store_inv h2
  obtain ⟨_, _, _, _, _, _, c1, c2, c3, c4, c5⟩ := ha
  injection c1 with c1 c1'; injection c2 with c2 c2'
  subst c1; subst c1'; subst c2; subst c2'
  rw [a2] at c3; injection c3 with c3; subst c3
  rw [b2] at c4; injection c4 with c4; subst c4
  have l1 : (cellsOf v).length = n := by
    simp only [Bool.and_eq_true] at a3
    have := nbeq_true a3.1
    simpa using this
  have l2 : (cellsOf v').length = n' := by
    simp only [Bool.and_eq_true] at b3
    have := nbeq_true b3.1
    simpa using this
  by_cases hk : k = k'
  · subst hk
    rw [Mem.get_set, if_pos rfl] at b1
    injection b1 with b1; injection b1 with b1 b1' b1''
    subst b1; subst b1''
    have hl := splice_length a4
    obtain ⟨hb, _⟩ := splice_some b4
    obtain ⟨ha', _⟩ := splice_some a4
    obtain ⟨s1, hs1⟩ := splice_mk (cs := cs) (xs := cellsOf v') (o := o') (by omega)
    have hl1 := splice_length hs1
    obtain ⟨s2, hs2⟩ := splice_mk (cs := s1) (xs := cellsOf v) (o := o) (by omega)
    refine ⟨_, store_mk a1 b2 b3 hs1, _, store_mk (cs := s1) (by rw [Mem.get_set, if_pos rfl]) a2 a3 hs2, rfl, fun x => ?_⟩
    simp only [Mem.get_set]
    split
    · have : s2 = r' := by
        apply List.ext_getElem?
        intro x
        rw [splice_get hs2, splice_get b4, splice_get hs1, splice_get a4]
        have hc5 : o + n ≤ o' ∨ o' + n' ≤ o := by rcases c5 with h | h; exact absurd rfl h; exact h
        by_cases e1 : o ≤ x ∧ x < o + (cellsOf v).length
        · have e2 : ¬ (o' ≤ x ∧ x < o' + (cellsOf v').length) := by omega
          rw [if_pos e1, if_neg e2, if_pos e1]
        · rw [if_neg e1, if_neg e1]
      rw [this]
    · rfl
  · rw [Mem.get_set, if_neg (Ne.symm hk)] at b1
    refine ⟨_, store_mk b1 b2 b3 b4, _, store_mk (cs := cs) (by rw [Mem.get_set, if_neg hk]; exact a1) a2 a3 a4, rfl, fun x => ?_⟩
    simp only [Mem.get_set]
    by_cases e1 : x = k
    · subst e1
      rw [if_pos rfl, if_neg hk, if_pos rfl]
    · rw [if_neg e1]
      by_cases e2 : x = k'
      · subst e2; rw [if_pos rfl, if_pos rfl]
      · rw [if_neg e2, if_neg e2, if_neg e1]
end

/-- in the midst of a region: what touches memory, but for the last two, is done -/
structure PI [Lay] (P : Program) (ops : List Oper) (T : Nat → St) (μ0 : Mp) (w0 : World) (N : Nat) (D : Nat → Prop) (M : Mem) (a : Act) (w : World) (μ : Mp) : Prop where
  sl : SLT ops T (fun _ => μ) N D a
  st : Step P μ0 (T 0).M w0 μ M w
  df : DR μ (T 0).df a.defers

section
variable {P : Program} {E : Env} {X : Cfg} {T : Nat → St} {μ0 μ μ' : Mp} {w0 w w' : World} {N t t' : Nat} {D : Nat → Prop} {a : Act} {b : Frame} {cs : List Frame} {M : Mem}

theorem SLT.mono [Lay] {ops : List Oper} {ν ν' : Nat → Mp} (h : SLT ops T ν N D a) (hle : ∀ p, Le (ν p) (ν' p)) : SLT ops T ν' N D a :=
  ⟨fun i o k c ho hd hk hc => let ⟨x, h1, h2⟩ := h.tmW i o k c ho hd hk hc; ⟨x, h1, h2.mono (hle _)⟩, fun k c hn hc => let ⟨x, h1, h2⟩ := h.tm0 k c hn hc; ⟨x, h1, h2.mono (hle _)⟩, h.sz⟩

/-- one that touches no memory -/
theorem PI.pure [Lay] {ops : Array Oper} (hE : EOK E) (hrec : X.rnd = false → NoRec b cs) (R : RG E X ops.toList T) (h : PI E.P ops.toList T μ0 w0 N D M a w μ) (hdst : ∀ o ∈ ops.toList, ∀ k, o.dst = some k → k < N) {k : List Item} {j : Nat} {o : Oper} (rest : List Nat)
    (ho : ops[j]? = some o) (hj : ¬ D j) (hcl : Cl ops.toList D) (hpre : ∀ e ∈ o.after.toList, Region.binds .any e = true → D e.on) (hk : kdC E o = .pure) :
    ∃ a', PI E.P ops.toList T μ0 w0 N (fun i => D i ∨ i = j) M a' w μ ∧ Steps E.P (lone (b.atR a (.inRegion ops (j :: rest) :: k)) cs w) (lone (b.atR a' (.inRegion ops rest :: k)) cs w) := by
  have hol : ops.toList[j]? = some o := by simpa using ho
  have hd : ∀ k, o.dst = some k → k < N := hdst o (List.mem_of_getElem? hol)
  have hν : ∀ p q : Nat, p ≤ q → q ≤ ops.toList.length → Le μ μ := fun _ _ _ _ => .refl _
  have hrr := h.sl.rr R hν hcl hol hj hpre
  rcases R.op j o hol with ⟨hw, hT⟩ | ⟨hw, v, M', hop, hT⟩
  · have hwant := h.sl.want R hν hcl hol hj hpre hw
    have := stepR_op_skip (P := E.P) (b := b) (a := a) (k := k) (cs := cs) (w := w) (ops := ops) (i := j) (rest := rest) (by simp [ho, hwant])
    refine ⟨a.put o.dst undef, ⟨h.sl.slots R hol hd (fun _ => .refl _) fun k c hk hc => ?_, h.st, by rw [put_defers]; exact h.df⟩, .one (by simpa [ho] using this)⟩
    rw [hT, hk] at hc
    replace hc : upd (T j).tm k (.tup []) k = some c := hc
    rw [upd_eq, if_pos rfl] at hc
    injection hc with hc; subst hc; exact .undef
  · have hwant := h.sl.want R hν hcl hol hj hpre hw
    obtain ⟨_, hall⟩ := pure_M hk hop
    obtain ⟨_, x, h3, h4⟩ := op_quiet (M := M) hE hrec (.inl hk) h.st.mr h.st.fresh hrr (hall _)
    obtain ⟨a', w', ⟨h5, h6⟩, h7⟩ := opRun_val (P := E.P) (b := b) (cs := cs) (o := o) (a := a) (w := w) (w' := w) (Q := fun a' w' => a' = a.put o.dst x ∧ w' = w) (nodefer_of (E := E) (by rw [hk]; simp)) h3 ⟨rfl, rfl⟩ ops j rest k ho hwant
    subst h5; subst h6
    refine ⟨_, ⟨h.sl.slots R hol hd (fun _ => .refl _) fun k c hk hc => ?_, h.st, by rw [put_defers]; exact h.df⟩, h7⟩
    rw [hT, hk] at hc
    replace hc : upd (T j).tm k v k = some c := hc
    rw [upd_eq, if_pos rfl] at hc
    injection hc with hc; subst hc; exact h4

/-- one that writes, at a memory that the text does not have -/
theorem PI.chain [Lay] {ops : Array Oper} (hE : EOK E) (hC : SndC E.P X.call) (hY : SndY E.P X.yld) (hrec : X.rnd = false → NoRec b cs) (R : RG E X ops.toList T) (h : PI E.P ops.toList T μ0 w0 N D M a w μ) (hdst : ∀ o ∈ ops.toList, ∀ k, o.dst = some k → k < N) {k : List Item} {j : Nat} {o : Oper} (rest : List Nat)
    (ho : ops[j]? = some o) (hj : ¬ D j) (hcl : Cl ops.toList D) (hpre : ∀ e ∈ o.after.toList, Region.binds .any e = true → D e.on) {v : C} {M' : Mem} (hw : wantC ops.toList o (T j).tm = some true) (hop : opTab o.op E X (rd (T j).tm) M o.type = .ok v M')
    (hT : (T (j + 1)).tm = putT (T j).tm o.dst v) :
    ∃ a' w' μ', PI E.P ops.toList T μ0 w0 N (fun i => D i ∨ i = j) M' a' w' μ' ∧ Steps E.P (lone (b.atR a (.inRegion ops (j :: rest) :: k)) cs w) (lone (b.atR a' (.inRegion ops rest :: k)) cs w') := by
  have hol : ops.toList[j]? = some o := by simpa using ho
  have hd : ∀ k, o.dst = some k → k < N := hdst o (List.mem_of_getElem? hol)
  have hν : ∀ p q : Nat, p ≤ q → q ≤ ops.toList.length → Le μ μ := fun _ _ _ _ => .refl _
  have hrr := h.sl.rr R hν hcl hol hj hpre
  have hwant := h.sl.want R hν hcl hol hj hpre hw
  obtain ⟨a', w', ⟨x, ν, rfl, h1, h2⟩, h3⟩ := op_ok hE hC hY hrec h.st.mr h.st.fresh hrr hop ops j rest k ho hwant
  refine ⟨_, w', ν, ⟨h.sl.slots R hol hd (fun _ => h2.le) fun k c hk hc => ?_, h.st.trans h2, by rw [put_defers]; exact h.df.mono h2.le⟩, h3⟩
  rw [hT, hk] at hc
  replace hc : upd (T j).tm k v k = some c := hc
  rw [upd_eq, if_pos rfl] at hc
  injection hc with hc; subst hc; exact h1

/-- what is known of the last two -/
structure TL (E : Env) (X : Cfg) (ops : List Oper) (T : Nat → St) (i j : Nat) (oi oj : Oper) (Mj M2 : Mem) : Prop where
  ci : Ch E ops i
  cj : Ch E ops j
  lt : i < j
  hi : ops[i]? = some oi
  hj : ops[j]? = some oj
  all : ∀ (x : Nat) (o : Oper), ops[x]? = some o → kdC E o ≠ .pure → x ≠ i → x ≠ j → Anc ops x i ∧ Anc ops x j ∧ x < i
  anc : ∀ x y, Ch E ops x → Ch E ops y → x < y → ¬ (x = i ∧ y = j) → Anc ops x y
  wi : wantC ops oi (T i).tm = some true
  wj : wantC ops oj (T j).tm = some true
  oi : ∃ v, opTab oi.op E X (rd (T i).tm) Mj oi.type = .ok v M2 ∧ (T (i + 1)).tm = putT (T i).tm oi.dst v
  oj : ∃ v, opTab oj.op E X (rd (T j).tm) (T i).M oj.type = .ok v Mj ∧ (T (j + 1)).tm = putT (T j).tm oj.dst v
  nx : M2.nx = (T ops.length).M.nx
  get : ∀ k b, (T ops.length).M.get k = some b → M2.get k = some b

def TaI [Lay] (P : Program) (E : Env) (ops : List Oper) (T : Nat → St) (μ0 : Mp) (w0 : World) (N i j : Nat) (Mj : Mem) (D : Nat → Prop) (a : Act) (w : World) : Prop :=
  (∃ t μ, DI P E ops T μ0 w0 N D t a w μ ∧ (D j → D i)) ∨
  ((∀ (x : Nat) (o : Oper), ops[x]? = some o → kdC E o ≠ .pure → x ≠ i → x ≠ j → D x) ∧ D j ∧ ((¬ D i ∧ ∃ μ, PI P ops T μ0 w0 N D Mj a w μ) ∨ (D i ∧ ∃ μ, PI P ops T μ0 w0 N D (T ops.length).M a w μ)))

theorem tail_step [Lay] {ops : Array Oper} {i j : Nat} {oi oj : Oper} {Mj M2 : Mem} (hE : EOK E) (hC : SndC E.P X.call) (hY : SndY E.P X.yld) (hrec : X.rnd = false → NoRec b cs) (R : RG E X ops.toList T) (hp : HP E X ops.toList T) (L : TL E X ops.toList T i j oi oj Mj M2) (hdst : ∀ o ∈ ops.toList, ∀ k, o.dst = some k → k < N) {k : List Item} :
    StepI E.P b cs k ops (TaI E.P E ops.toList T μ0 w0 N i j Mj) := by
  intro D a w x o rest hI hD ho hx hcl hpre
  have hol : ops.toList[x]? = some o := by simpa using ho
  rcases hI with ⟨t, μ, h, hji⟩ | ⟨hall, hDj, hI⟩
  · by_cases hxj : x = j ∧ ¬ D i
    · obtain ⟨rfl, hni⟩ := hxj
      obtain ⟨t, _, h, hmax⟩ := DI.far R (n := ops.toList.length) (by omega) h
      have hti : t = i := by
        have h1 : ¬ i < t := fun hlt => hni ((h.ch i L.ci).2 hlt)
        have hil := L.ci.lt
        have hct := hmax.resolve_left (by omega)
        refine Classical.byContradiction fun hne => ?_
        have hnt : ¬ D t := fun hd => by have := (h.ch t hct).1 hd; omega
        have := L.lt
        exact hnt (L.anc t x hct L.cj (by omega) (by omega) D o hcl hol hpre)
      subst hti
      have hoj : o = oj := by have := L.hj; rw [hol] at this; injection this
      subst hoj
      have hdom : ∀ k, (T t).M.nx ≤ k → μ k = none := fun k hk => by
        cases e : μ k with
        | none => rfl
        | some y =>
          rcases h.dom k y e with h1 | ⟨i', bl, _, h2, h3, _⟩
          · omega
          · obtain ⟨o', k1, k2, _⟩ := h3
            have h4 : i' ≠ t := fun e => by
              subst e
              obtain ⟨o'', k3, k4⟩ := L.ci
              rw [k1] at k3; injection k3 with k3; subst k3; rw [k2] at k4; cases k4
            have h5 : i' ≠ x := fun e => by
              subst e
              obtain ⟨o'', k3, k4⟩ := L.cj
              rw [k1] at k3; injection k3 with k3; subst k3; rw [k2] at k4; cases k4
            have := (L.all i' o' k1 (by rw [k2]; simp) h4 h5).2.2
            omega
      have hcut : cutM μ (T t).M.nx = μ := cutM_all hdom
      have hmr : MR E.P μ (T t).M w := by have := h.mr; rwa [hcut] at this
      have hpi : PI E.P ops.toList T μ0 w0 N D (T t).M a w μ :=
        ⟨⟨fun i o k c ho hd hk hc => let ⟨x, h1, h2⟩ := h.tmW i o k c ho hd hk hc; ⟨x, h1, h2.mono cutM_le⟩, fun k c hn hc => let ⟨x, h1, h2⟩ := h.tm0 k c hn hc; ⟨x, h1, h2.mono cutM_le⟩, h.sz⟩,
          ⟨h.le, R.nx (Nat.zero_le _) h.lt, h.new, ⟨hdom, h.fr _ (Nat.le_refl _)⟩, hmr, h.und, h.os, h.tape, h.output, h.size, h.keep, h.home⟩, h.df⟩
      obtain ⟨v, hop, hT⟩ := L.oj
      obtain ⟨a', w', μ', h1, h2⟩ := hpi.chain hE hC hY hrec R hdst rest ho hx hcl hpre L.wj hop hT
      refine ⟨a', w', .inr ⟨fun y oy hy hky hyi hyj => .inl ((L.all y oy hy hky hyi hyj).2.1 D o hcl hol hpre), .inr rfl, .inl ⟨?_, μ', h1⟩⟩, h2⟩
      rintro (hd | e)
      · exact hni hd
      · have := L.lt; omega
    · obtain ⟨a', w', t', μ', h1, h2⟩ := gen_step hE hC hY hrec R hp hdst rest (fun y hy hxc hlt hny => L.anc y x hy hxc hlt fun ⟨e1, e2⟩ => hxj ⟨e2, fun hd => hny (e1 ▸ hd)⟩) h ho hx hcl hpre (k := k)
      refine ⟨a', w', .inl ⟨t', μ', h1, ?_⟩, h2⟩
      rintro (hd | e)
      · exact .inl (hji hd)
      · exact .inl (Classical.byContradiction fun hni => hxj ⟨e.symm, hni⟩)
  · have hxj : x ≠ j := fun e => hx (e ▸ hDj)
    by_cases hxi : x = i
    · subst hxi
      have hoi : o = oi := by have := L.hi; rw [hol] at this; injection this
      subst hoi
      rcases hI with ⟨_, μ, h⟩ | ⟨hd, _⟩
      · obtain ⟨v, hop, hT⟩ := L.oi
        obtain ⟨a', w', μ', h1, h2⟩ := h.chain hE hC hY hrec R hdst rest ho hx hcl hpre L.wi hop hT
        exact ⟨a', w', .inr ⟨fun y oy hy hky hyi hyj => .inl (hall y oy hy hky hyi hyj), .inl hDj, .inr ⟨.inr rfl, μ', { h1 with st := h1.st.sub L.get L.nx.symm }⟩⟩, h2⟩
      · exact absurd hd hx
    · have hk : kdC E o = .pure := Classical.byContradiction fun hk => hx (hall x o hol hk hxi hxj)
      rcases hI with ⟨hni, μ, h⟩ | ⟨hd, μ, h⟩
      · obtain ⟨a', h1, h2⟩ := h.pure hE hrec R hdst rest ho hx hcl hpre hk
        exact ⟨a', w, .inr ⟨fun y oy hy hky hyi hyj => .inl (hall y oy hy hky hyi hyj), .inl hDj, .inl ⟨fun hd => hd.elim hni (fun e => hxi e.symm), μ, h1⟩⟩, h2⟩
      · obtain ⟨a', h1, h2⟩ := h.pure hE hrec R hdst rest ho hx hcl hpre hk
        exact ⟨a', w, .inr ⟨fun y oy hy hky hyi hyj => .inl (hall y oy hy hky hyi hyj), .inl hDj, .inr ⟨.inl hd, μ, h1⟩⟩, h2⟩

/-- behind such a region -/
theorem PI.fin [Lay] {ops : List Oper} {μ00 : Mp} {M00 : Mem} {w00 : World} {a0 : Act} {w1 : World} (R : RG E X ops T) (h0 : FS P μ00 M00 w00 N (T 0) a0 w1 μ0) (h : PI P ops T μ0 { w1 with drawn := w1.drawn + 1 } N D (T ops.length).M a w μ) (hD : ∀ i, i < ops.length → D i) :
    FS P μ00 M00 w00 N (T ops.length) a w μ ∧ Le μ0 μ := by
  refine ⟨⟨fun k c hc => ?_, ?_, by rw [R.df0 (Nat.le_refl _)]; exact h.df, h.sl.sz⟩, h.st.le⟩
  · by_cases hw : ∃ (i : Nat) (o : Oper), ops[i]? = some o ∧ o.dst = some k
    · obtain ⟨i, o, h1, h2⟩ := hw
      have hi := (List.getElem?_eq_some_iff.1 h1).1
      have hs : (T ops.length).tm k = (T (i + 1)).tm k := R.stay (by omega) (Nat.le_refl _) fun x ox hx1 hx2 hox e => by
        have := R.dist i x k o ox h1 hox h2 e; omega
      exact h.sl.tmW i o k c h1 (hD i hi) h2 (by rw [← hs]; exact hc)
    · have hs : (T ops.length).tm k = (T 0).tm k := R.stay (Nat.zero_le _) (Nat.le_refl _) fun x ox _ _ hox e => hw ⟨x, ox, hox, e⟩
      exact h.sl.tm0 k c (fun i o _ ho hd => hw ⟨i, o, ho, hd⟩) (by rw [← hs]; exact hc)
  · have := h.st
    exact h0.st.trans ⟨this.le, this.nx, this.new, this.fresh, this.mr, this.und, this.os, this.tape, this.output, this.size, this.keep, this.home⟩
end
end Go.Cx
namespace Go.Cx

section
variable {P : Program} {E : Env} {X : Cfg} {ops : List Oper} {T : Nat → St} {μ μ0 : Mp} {w w0 : World} {N : Nat} {a : Act} {b : Frame} {cs : List Frame} {s s' : St} {M0 : Mem}

theorem rg_of [Lay] {ms : List Nat} {ts : List (Nat × Kd)} {tr : List St} (hm : masksC [] 0 ops = some ms) (ht : touchC E 0 ops = some ts) (hd : distinct (dstsC ops) = true) (hs : slotsOK ms (dstsC ops) 0 ops = true)
    (htr : traceC E X ops ops s = some tr) : ∃ T : Nat → St, T 0 = s ∧ tr.length = ops.length + 1 ∧ (∀ i, i ≤ ops.length → tr[i]? = some (T i)) ∧ RG E X ops T := by
  obtain ⟨T, t0, t1, t2, t3⟩ := trace_ok htr
  have hms := masks_ok hm
  have hgood : ∀ (i : Nat) (o : Oper), ops[i]? = some o → kdC E o ≠ .bad := fun i o ho => ((touch_go ht).1 i o ho).1
  refine ⟨T, t0, t1, t2, hms.back, fun i o ho => step_opI (hgood i o ho) (t3 i o ho).1, fun i hi => (t3 i _ (List.getElem?_eq_getElem hi)).2, hgood, fun i j k o o' ho ho' hk hk' => ?_, fun i j k o o' ho ho' hk hr => slots_ok hms hs ho ho' hk hr⟩
  exact distinct_ok hd i j k (by rw [dsts_get, ho]; simp [hk]) (by rw [dsts_get, ho']; simp [hk'])

theorem ch_mem [Lay] {ts : List (Nat × Kd)} (ht : touchC E 0 ops = some ts) {i : Nat} (h : Ch E ops i) : i ∈ chainsOf ts := by
  obtain ⟨o, ho, hk⟩ := h
  have := ((touch_go ht).1 i o ho).2 (by rw [hk]; simp)
  rw [hk, Nat.zero_add] at this
  exact chains_mem.2 this
theorem mem_ch [Lay] {ts : List (Nat × Kd)} (ht : touchC E 0 ops = some ts) {i : Nat} (h : i ∈ chainsOf ts) : Ch E ops i := by
  obtain ⟨j, o, h1, h2, h3, _⟩ := (touch_go ht).2.1 _ (chains_mem.1 h)
  simp only [Nat.zero_add] at h1
  subst h1
  exact ⟨o, h2, h3.symm⟩

theorem sameO_eq [Lay] {x y : Option C} {v : C} (h : sameO x y = true) (hx : x = some v) : y = some v := by
  subst hx
  cases y with
  | none => cases h
  | some u => exact congrArg some (sameC_eq h).symm
theorem valOf_some [Lay] {r : Res} {v : C} (h : valOf r = some v) : ∃ M, r = .ok v M := by
  cases r with
  | no => cases h
  | ok u M => injection h with h; subst h; exact ⟨M, rfl⟩
  | dfr d M => cases h
theorem pairs_all [Lay] {tr : List St} : ∀ {ps : List (Nat × Nat)}, pairsC E X ops tr ps = true → ∀ p ∈ ps, pairC E X ops tr p.1 p.2 = true
  | [], _, p, hp => by cases hp
  | (i, j) :: l, h, p, hp => by
    simp only [pairsC, Bool.and_eq_true] at h
    rcases List.mem_cons.1 hp with rfl | hp
    · exact h.1
    · exact pairs_all h.2 p hp

theorem hp_of [Lay] {ms : List Nat} {ts : List (Nat × Kd)} {tr : List St} (hm : masksC [] 0 ops = some ms) (ht : touchC E 0 ops = some ts) (t2 : ∀ i, i ≤ ops.length → tr[i]? = some (T i))
    (hp : pairsC E X ops tr (pairsOf ms (chainsOf ts) ts) = true) : HP E X ops T := by
  intro j c o v M' ho hk hc hw hv
  have hms := masks_ok hm
  have hjl := (List.getElem?_eq_some_iff.1 ho).1
  have hcl := hc.lt
  have hne : j ≠ c := fun e => by
    subst e
    obtain ⟨o', h1, h2⟩ := hc
    rw [ho] at h1; injection h1 with h1; subst h1
    rw [hk] at h2; cases h2
  have hmem : (j, Kd.load) ∈ ts := by
    have := ((touch_go ht).1 j o ho).2 (by rw [hk]; simp)
    rwa [hk, Nat.zero_add] at this
  rcases pairs_ok (ms := ms) (ch_mem ht hc) hmem with ⟨m, h1, h2⟩ | h1
  · by_cases hlt : j < c
    · rw [if_pos hlt] at h1 h2
      exact .inl ⟨hlt, hms.anc h1 h2⟩
    · rw [if_neg hlt] at h1 h2
      exact .inr (.inl ⟨by omega, hms.anc h1 h2⟩)
  · have := pairs_all hp _ h1
    unfold pairC at this
    simp only [nth_eq, ho, t2 j (by omega), t2 c (by omega), t2 (c + 1) (by omega), hw, Bool.and_eq_true] at this
    have hval : valOf (opTab o.op E X (rd (T j).tm) (T j).M o.type) = some v := by rw [hv]; rfl
    exact .inr (.inr ⟨valOf_some (sameO_eq this.1 hval), valOf_some (sameO_eq this.2 hval)⟩)

theorem FS.world [Lay] (h : FS P μ0 M0 w0 N s a w μ) : FS P μ0 M0 w0 N s a { w with drawn := w.drawn + 1 } μ :=
  ⟨h.tm, { h.st with mr := h.st.mr.world rfl }, h.df, h.sz⟩

theorem draw_gen [Lay] {ops : Array Oper} (hE : EOK E) (hfm : E.P.follows .mixedOrders = true) (hC : SndC E.P X.call) (hY : SndY E.P X.yld) (hrec : X.rnd = false → NoRec b cs) (hdst : ∀ o ∈ ops.toList, ∀ k, o.dst = some k → k < N)
    (R : RG E X ops.toList T) (hp : HP E X ops.toList T) (hl : HL E ops.toList) (hs : FS E.P μ0 M0 w0 N (T 0) a w μ) (id : Nat) (k : List Item) :
    ∃ a' w' μ', FS E.P μ0 M0 w0 N (T ops.toList.length) a' w' μ' ∧ Le μ μ' ∧ Steps E.P (lone (b.atR a (.code (.region id ops true) :: k)) cs w) (lone (b.atR a' k) cs w') := by
  have hI : StepI E.P b cs k ops (fun D a' w' => ∃ t ν, DI E.P E ops.toList T μ { w with drawn := w.drawn + 1 } N D t a' w' ν) := by
    intro D a1 w1 j o rest ⟨t, ν, h⟩ hD ho hj hcl hpre
    obtain ⟨a', w', t', μ', h1, h2⟩ := gen_step (b := b) (cs := cs) hE hC hY hrec R hp hdst rest (fun x hx hjc hlt _ => hl x j hx hjc hlt) h ho hj hcl hpre (k := k)
    exact ⟨a', w', ⟨t', μ', h1⟩, h2⟩
  obtain ⟨D, a', w', ⟨t, ν, h1⟩, h2, h3⟩ := region_run (P := E.P) (b := b) (cs := cs) (k := k) hfm R.back hI (id := id) (a := a) (w := w) ⟨0, μ, DI.start hs R⟩
  obtain ⟨h4, h5⟩ := h1.fin R hs (fun i hi => h2 i (by simpa using hi))
  exact ⟨a', w', ν, h4, h5, h3⟩

/-- the last two of the chain stand beside each other -/
theorem linear_tail [Lay] {ms : List Nat} (hm : MS ops ms) : ∀ {cs : List Nat} {i j : Nat}, cs.Pairwise (· < ·) → linear ms cs = some (some (i, j)) → i ∈ cs ∧ j ∈ cs ∧ i < j ∧ ∀ a ∈ cs, ∀ b ∈ cs, a < b → Anc ops a b ∨ b = j
  | [], _, _, _, h => by cases h
  | [_], _, _, _, h => by cases h
  | i0 :: j0 :: l, i, j, hp, h => by
    rw [List.pairwise_cons] at hp
    unfold linear at h
    split at h
    · rename_i m hm1
      rw [nth_eq] at hm1
      cases hbit : bit m i0 with
      | false =>
        rw [hbit] at h
        simp only [cond_false] at h
        cases l with
        | nil =>
          injection h with h; injection h with h; injection h with h1 h2; subst h1; subst h2
          have hlt := hp.1 j0 (by simp)
          refine ⟨by simp, by simp, hlt, fun a ha b hb hlt => ?_⟩
          simp at ha hb
          rcases ha with rfl | rfl <;> rcases hb with rfl | rfl <;> first | omega | exact .inr rfl
        | cons y l => cases h
      | true =>
        rw [hbit] at h
        replace h : linear ms (j0 :: l) = some (some (i, j)) := h
        obtain ⟨k1, k2, k3, k4⟩ := linear_tail hm hp.2 h
        have hij := hm.anc hm1 hbit
        refine ⟨List.mem_cons_of_mem _ k1, List.mem_cons_of_mem _ k2, k3, fun a ha b hb hlt => ?_⟩
        rcases List.mem_cons.1 ha with rfl | ha
        · rcases List.mem_cons.1 hb with rfl | hb
          · omega
          · rcases List.mem_cons.1 hb with rfl | hb'
            · exact .inl hij
            · have hjb : j0 < b := (List.pairwise_cons.1 hp.2).1 b hb'
              rcases k4 j0 (by simp) b hb hjb with h1 | h1
              · exact .inl (hij.trans h1 (by rw [← hm.len]; exact (List.getElem?_eq_some_iff.1 hm1).1))
              · exact .inr h1
        · rcases List.mem_cons.1 hb with hb | hb
          · have := hp.1 a ha; omega
          · exact k4 a ha b hb hlt
    · cases h
theorem allAhead_mem [Lay] {mi mj i j : Nat} : ∀ {ts : List (Nat × Kd)}, allAhead mi mj i j ts = true → ∀ p ∈ ts, p.1 = i ∨ p.1 = j ∨ (bit mi p.1 = true ∧ bit mj p.1 = true)
  | [], _, p, hp => by cases hp
  | (x, k) :: l, h, p, hp => by
    simp only [allAhead, Bool.and_eq_true, Bool.or_eq_true] at h
    rcases List.mem_cons.1 hp with rfl | hp
    · rcases h.1 with (h1 | h1) | h1
      · exact .inl (nbeq_true h1)
      · exact .inr (.inl (nbeq_true h1))
      · exact .inr (.inr h1)
    · exact allAhead_mem h.2 p hp
theorem MS.low [Lay] {ms : List Nat} (h : MS ops ms) : ∀ {j m x : Nat}, ms[j]? = some m → bit m x = true → x < j := by
  intro j
  induction j using Nat.strongRecOn with
  | _ j ih =>
    intro m x hm hx
    have hlt : j < ops.length := by rw [← h.len]; exact (List.getElem?_eq_some_iff.1 hm).1
    obtain ⟨e, h1, h2, h3⟩ := h.bits j _ m (List.getElem?_eq_getElem hlt) hm x hx
    have hb := h.back j _ (List.getElem?_eq_getElem hlt) e h1 h2
    rcases h3 with rfl | ⟨a, ha, hb'⟩
    · exact hb
    · have := ih e.on hb ha hb'; omega

theorem store_op [Lay] {o : Oper} {ρ : Operand → Option C} {M M' : Mem} {v : C} (hs : isStore o = true) (h : opTab o.op E X ρ M o.type = .ok v M') : ∃ U x y p u, o.op = .store U x y ∧ ρ x = some p ∧ ρ y = some u ∧ v = .tup [] ∧ storeC E M U u p = some M' := by
  unfold isStore at hs
  split at hs
  · rename_i U x y ho
    rw [ho] at h
    replace h : wv (ρ x) (fun p => wv (ρ y) fun v => outM (storeC E M U v p)) = .ok v M' := h
    cases hx : ρ x with
    | none => rw [hx] at h; cases h
    | some p =>
      rw [hx] at h
      replace h : wv (ρ y) (fun v => outM (storeC E M U v p)) = .ok v M' := h
      cases hy : ρ y with
      | none => rw [hy] at h; cases h
      | some u =>
        rw [hy] at h
        replace h : outM (storeC E M U u p) = .ok v M' := h
        cases hm : storeC E M U u p with
        | none => rw [hm] at h; cases h
        | some M1 =>
          rw [hm] at h
          replace h : Res.ok (.tup []) M1 = .ok v M' := h
          injection h with h1 h2; subst h1; subst h2
          exact ⟨U, x, y, p, u, ho, hx, hy, rfl, hm⟩
  · cases hs
theorem store_opM [Lay] {o : Oper} {ρ : Operand → Option C} {M M' : Mem} {U : Nat} {x y : Operand} {p u : C} (ho : o.op = .store U x y) (hx : ρ x = some p) (hy : ρ y = some u) (h : storeC E M U u p = some M') : opTab o.op E X ρ M o.type = .ok (.tup []) M' := by
  rw [ho]
  show wv (ρ x) (fun p => wv (ρ y) fun v => outM (storeC E M U v p)) = _
  rw [hx]
  show wv (ρ y) (fun v => outM (storeC E M U v p)) = _
  rw [hy]
  show outM (storeC E M U u p) = _
  rw [h]; rfl
end
end Go.Cx
namespace Go.Cx

section
variable {P : Program} {E : Env} {X : Cfg} {ops : List Oper} {T : Nat → St} {μ μ0 : Mp} {w w0 : World} {N : Nat} {a : Act} {b : Frame} {cs : List Frame} {s s' : St} {M0 : Mem}

theorem RG.still [Lay] (R : RG E X ops T) {i j : Nat} (hij : i ≤ j) (hj : j ≤ ops.length) (hn : ∀ x, i ≤ x → x < j → ∃ o, ops[x]? = some o ∧ kdC E o = .pure) : (T j).M = (T i).M := by
  induction j with
  | zero => have : i = 0 := by omega
            subst this; rfl
  | succ j ih =>
    by_cases e : i = j + 1
    · subst e; rfl
    · rw [← ih (by omega) (by omega) fun x h1 h2 => hn x h1 (by omega)]
      obtain ⟨o, ho, hk⟩ := hn j (by omega) (by omega)
      rcases R.op j o ho with ⟨_, h2⟩ | ⟨_, v, M', h2, h3⟩
      · rw [h2]
      · obtain ⟨rfl, _⟩ := pure_M hk h2
        rw [h3]

theorem tail_of [Lay] {ms : List Nat} {ts : List (Nat × Kd)} {i j mi mj : Nat} {oi oj : Oper} (R : RG E X ops T) (hm : masksC [] 0 ops = some ms) (ht : touchC E 0 ops = some ts) (hl : linear ms (chainsOf ts) = some (some (i, j)))
    (hmi : ms[i]? = some mi) (hmj : ms[j]? = some mj) (hi : ops[i]? = some oi) (hj : ops[j]? = some oj) (ha : allAhead mi mj i j ts = true) (si : isStore oi = true) (sj : isStore oj = true) (gi : oi.guard.isNone = true) (gj : oj.guard.isNone = true)
    (hap : apartC E oi oj (T i) (T j) = true) : ∃ Mj M2, TL E X ops T i j oi oj Mj M2 := by
  have hms := masks_ok hm
  obtain ⟨l1, l2, l3, l4⟩ := linear_tail hms (chains_sorted (touch_go ht).2.2) hl
  have hil := (List.getElem?_eq_some_iff.1 hi).1
  have hjl := (List.getElem?_eq_some_iff.1 hj).1
  have hall : ∀ (x : Nat) (o : Oper), ops[x]? = some o → kdC E o ≠ .pure → x ≠ i → x ≠ j → Anc ops x i ∧ Anc ops x j ∧ x < i := fun x o ho hk h1 h2 => by
    have := ((touch_go ht).1 x o ho).2 hk
    rw [Nat.zero_add] at this
    rcases allAhead_mem ha _ this with h3 | h3 | ⟨h3, h4⟩
    · exact absurd h3 h1
    · exact absurd h3 h2
    · exact ⟨hms.anc hmi h3, hms.anc hmj h4, hms.low hmi h3⟩
  have hpure : ∀ x, i < x → x < ops.length → x ≠ j → ∃ o, ops[x]? = some o ∧ kdC E o = .pure := fun x h1 h2 h3 => by
    refine ⟨_, List.getElem?_eq_getElem h2, Classical.byContradiction fun hk => ?_⟩
    have := (hall x _ (List.getElem?_eq_getElem h2) hk (by omega) h3).2.2
    omega
  have hMj : (T j).M = (T (i + 1)).M := R.still (by omega) (by omega) fun x h1 h2 => hpure x (by omega) (by omega) (by omega)
  have hMl : (T ops.length).M = (T (j + 1)).M := R.still (by omega) (by omega) fun x h1 h2 => hpure x (by omega) (by omega) (by omega)
  have wi : wantC ops oi (T i).tm = some true := by
    unfold wantC
    cases hg : oi.guard with
    | none => rfl
    | some g => rw [hg] at gi; cases gi
  have wj : wantC ops oj (T j).tm = some true := by
    unfold wantC
    cases hg : oj.guard with
    | none => rfl
    | some g => rw [hg] at gj; cases gj
  rcases R.op i oi hi with ⟨hw, _⟩ | ⟨_, v, M1, hop, hT⟩
  · rw [wi] at hw; cases hw
  rcases R.op j oj hj with ⟨hw, _⟩ | ⟨_, v', M1', hop', hT'⟩
  · rw [wj] at hw; cases hw
  obtain ⟨U, x, y, p, u, e1, e2, e3, e4, e5⟩ := store_op si hop
  obtain ⟨U', x', y', p', u', f1, f2, f3, f4, f5⟩ := store_op sj hop'
  have hM1 : (T (i + 1)).M = M1 := by rw [hT]
  have hM1' : (T (j + 1)).M = M1' := by rw [hT']
  rw [hMj, hM1] at f5
  unfold apartC at hap
  simp only [e1, f1, e2, f2] at hap
  obtain ⟨N1, g1, N2, g2, g3, g4⟩ := store_swap e5 f5 (by
    split at hap
    · rename_i k q k' q' n n' h1 h2 h3 h4
      simp only [Bool.or_eq_true, Bool.not_eq_true', nbeq, nble, decide_eq_true_eq, decide_eq_false_iff_not] at hap
      injection h1 with h1; injection h2 with h2
      exact ⟨k, q, k', q', n, n', h1, h2, h3, h4, by rcases hap with (h | h) | h; exact .inl h; exact .inr (.inl h); exact .inr (.inr h)⟩
    · cases hap)
  have ci : Ch E ops i := mem_ch ht l1
  have cj : Ch E ops j := mem_ch ht l2
  refine ⟨N1, N2, ci, cj, l3, hi, hj, hall, fun x y hx hy hlt hne => ?_, wi, wj, ⟨.tup [], store_opM e1 e2 e3 g2, by rw [hT, e4]⟩, ⟨.tup [], store_opM f1 f2 f3 g1, by rw [hT', f4]⟩, by rw [g3, hMl, hM1'], fun k bl hb => ?_⟩
  · have nonpure : ∀ {z}, Ch E ops z → ∃ o, ops[z]? = some o ∧ kdC E o ≠ .pure := fun ⟨o, h1, h2⟩ => ⟨o, h1, by rw [h2]; simp⟩
    rcases l4 x (ch_mem ht hx) y (ch_mem ht hy) hlt with h | h
    · exact h
    · subst h
      obtain ⟨o, h1, h2⟩ := nonpure hx
      exact (hall x o h1 h2 (fun e => hne ⟨e, rfl⟩) (by omega)).2.1
  · rw [g4, ← hM1', ← hMl]; exact hb

theorem draw_tail [Lay] {ops : Array Oper} {i j : Nat} {oi oj : Oper} {Mj M2 : Mem} (hE : EOK E) (hfm : E.P.follows .mixedOrders = true) (hC : SndC E.P X.call) (hY : SndY E.P X.yld) (hrec : X.rnd = false → NoRec b cs) (hdst : ∀ o ∈ ops.toList, ∀ k, o.dst = some k → k < N)
    (R : RG E X ops.toList T) (hp : HP E X ops.toList T) (L : TL E X ops.toList T i j oi oj Mj M2) (hs : FS E.P μ0 M0 w0 N (T 0) a w μ) (id : Nat) (k : List Item) :
    ∃ a' w' μ', FS E.P μ0 M0 w0 N (T ops.toList.length) a' w' μ' ∧ Le μ μ' ∧ Steps E.P (lone (b.atR a (.code (.region id ops true) :: k)) cs w) (lone (b.atR a' k) cs w') := by
  obtain ⟨D, a', w', h1, h2, h3⟩ := region_run (P := E.P) (b := b) (cs := cs) (k := k) hfm R.back (tail_step (b := b) (cs := cs) (N := N) (μ0 := μ) (w0 := { w with drawn := w.drawn + 1 }) (k := k) hE hC hY hrec R hp L hdst) (id := id) (a := a) (w := w) (.inl ⟨0, μ, DI.start hs R, fun h => h.elim⟩)
  have hD : ∀ i, i < ops.toList.length → D i := fun i hi => h2 i (by simpa using hi)
  rcases h1 with ⟨t, ν, h1, _⟩ | ⟨_, _, ⟨h1, _⟩ | ⟨_, ν, h1⟩⟩
  · obtain ⟨h4, h5⟩ := h1.fin R hs hD
    exact ⟨a', w', ν, h4, h5, h3⟩
  · exact absurd (hD i L.ci.lt) h1
  · obtain ⟨h4, h5⟩ := h1.fin R hs hD
    exact ⟨a', w', ν, h4, h5, h3⟩

theorem opAlloc_eq [Lay] {o : Op} {T : Nat} (h : opAlloc o = some T) : o = .alloc T := by
  unfold opAlloc at h
  split at h
  · injection h with h; subst h; rfl
  · cases h
theorem opStoreB_eq [Lay] {o : Op} {p : Nat × Nat} (h : opStoreB o = some p) : ∃ b, o = .store p.1 (.tmp p.2) (.const (.bool b)) := by
  unfold opStoreB at h
  split at h
  · injection h with h; subst h; exact ⟨_, rfl⟩
  · cases h
theorem opLoadT_eq [Lay] {o : Op} {p : Nat × Nat} (h : opLoadT o = some p) : o = .load p.1 (.tmp p.2) := by
  unfold opLoadT at h
  split at h
  · injection h with h; subst h; rfl
  · cases h
/-- a bool variable that is written twice, in whatever order, and read -/
theorem bit_shape [Lay] {l : List Oper} {t u : Nat} (h : bitRegion E l = some (t, u)) : ∃ T y1 y2 z o0 o1 o2 o3, l = [o0, o1, o2, o3] ∧
    (o0.dst = some t ∧ o0.op = .alloc T ∧ o0.guard = none ∧ bitRegion.low 0 o0.after.toList = true) ∧
    (o1.dst = none ∧ o1.op = .store T (.tmp t) (.const (.bool y1)) ∧ o1.guard = none ∧ bitRegion.has 0 o1.after.toList = true ∧ bitRegion.only 0 o1.after.toList = true) ∧
    (o2.dst = none ∧ o2.op = .store T (.tmp t) (.const (.bool y2)) ∧ o2.guard = none ∧ bitRegion.has 0 o2.after.toList = true ∧ bitRegion.only 0 o2.after.toList = true) ∧
    (o3.dst = some u ∧ o3.op = .load T (.tmp t) ∧ o3.guard = none ∧ bitRegion.has 0 o3.after.toList = true ∧ bitRegion.has 1 o3.after.toList = true ∧ bitRegion.has 2 o3.after.toList = true) ∧ bitRegion.low 3 o3.after.toList = true ∧
    t ≠ u ∧ ∃ x, E.ty.get T = some x ∧ x.k = .bool ∧ x.zero = [.bool z] ∧ x.size = 1 := by
  unfold bitRegion at h
  split at h
  · rename_i o0 o1 o2 o3
    replace h := ob_eq h; obtain ⟨t', a1, h⟩ := h
    replace h := ob_eq h; obtain ⟨T, a2, h⟩ := h
    replace h := ob_eq h; obtain ⟨p1, a3, h⟩ := h
    replace h := ob_eq h; obtain ⟨p2, a4, h⟩ := h
    replace h := ob_eq h; obtain ⟨p3, a5, h⟩ := h
    replace h := ob_eq h; obtain ⟨u', a6, h⟩ := h
    replace h := cond_none h; obtain ⟨hc, h⟩ := h
    injection h with h; injection h with h1 h2; subst h1; subst h2
    obtain ⟨T1, t1⟩ := p1
    obtain ⟨T2, t2⟩ := p2
    obtain ⟨T3, t3⟩ := p3
    simp only [Bool.and_eq_true, Bool.not_eq_true', nbeq, decide_eq_true_eq, decide_eq_false_iff_not, Option.isNone_iff_eq_none] at hc
    obtain ⟨⟨⟨⟨⟨⟨⟨⟨⟨⟨⟨⟨⟨⟨⟨⟨⟨⟨⟨⟨⟨⟨c1, c2⟩, c3⟩, c4⟩, c5⟩, c6⟩, c7⟩, g0⟩, g1⟩, g2⟩, g3⟩, d1⟩, d2⟩, l0⟩, c8⟩, c9⟩, c10⟩, c11⟩, c12⟩, c13⟩, c14⟩, c16⟩, c15⟩ := hc
    subst c1; subst c2; subst c3; subst c4; subst c5; subst c6
    obtain ⟨y1, b1⟩ := opStoreB_eq a3
    obtain ⟨y2, b2⟩ := opStoreB_eq a4
    unfold bitType at c15
    split at c15
    · rename_i x hx
      split at c15
      · rename_i z hk hz
        exact ⟨T, y1, y2, z, o0, o1, o2, o3, rfl, ⟨a1, opAlloc_eq a2, g0, l0⟩, ⟨d1, b1, g1, c8, c9⟩, ⟨d2, b2, g2, c10, c11⟩, ⟨a6, opLoadT_eq a5, g3, c12, c13, c14⟩, c16, c7, x, hx, hk, hz, by simpa [nbeq] using c15⟩
      · cases c15
    · cases c15
  · cases h
theorem has_mem [Lay] {i : Nat} : ∀ {l : List Edge}, bitRegion.has i l = true → ∃ e ∈ l, Region.binds .any e = true ∧ e.on = i
  | [], h => by cases h
  | e :: l, h => by
    simp only [bitRegion.has, Bool.or_eq_true, Bool.and_eq_true] at h
    rcases h with ⟨h1, h2⟩ | h
    · exact ⟨e, by simp, h1, nbeq_true h2⟩
    · obtain ⟨e', h1, h2⟩ := has_mem h
      exact ⟨e', List.mem_cons_of_mem _ h1, h2⟩
theorem only_mem [Lay] {i : Nat} : ∀ {l : List Edge}, bitRegion.only i l = true → ∀ e ∈ l, Region.binds .any e = true → e.on = i
  | [], _, e, he, _ => by cases he
  | e :: l, h, e', he, hb => by
    simp only [bitRegion.only, Bool.and_eq_true, Bool.or_eq_true, Bool.not_eq_true'] at h
    rcases List.mem_cons.1 he with rfl | he
    · rcases h.1 with h1 | h1
      · rw [h1] at hb; cases hb
      · exact nbeq_true h1
    · exact only_mem h.2 e' he hb
theorem low_mem [Lay] {i : Nat} : ∀ {l : List Edge}, bitRegion.low i l = true → ∀ e ∈ l, Region.binds .any e = true → e.on < i
  | [], _, e, he, _ => by cases he
  | e :: l, h, e', he, hb => by
    simp only [bitRegion.low, Bool.and_eq_true, Bool.or_eq_true, Bool.not_eq_true', nblt, decide_eq_true_eq] at h
    rcases List.mem_cons.1 he with rfl | he
    · rcases h.1 with h1 | h1
      · rw [h1] at hb; cases hb
      · exact h1
    · exact low_mem h.2 e' he hb
end
end Go.Cx
namespace Go.Cx

section
variable {P : Program} {E : Env} {X : Cfg} {T : Nat} {μ μ0 : Mp} {w w0 : World} {N : Nat} {a : Act} {b : Frame} {cs : List Frame} {s s' : St} {M0 M M' : Mem} {o : Oper} {tm : Tm} {df : List D} {v : C}

theorem stepC_ok [Lay] {ops : List Oper} (hg : o.guard = none) (hop : opTab o.op E X (rd tm) M o.type = .ok v M') : stepC E X ops o ⟨tm, M, df⟩ = some ⟨putT tm o.dst v, M', df⟩ := by
  show ob (wantC ops o tm) (fun w => stepW E X o tm M df w) = _
  rw [show wantC ops o tm = some true by unfold wantC; rw [hg]]
  show after tm o.dst df (opTab o.op E X (rd tm) M o.type) = _
  rw [hop]
  cases o.dst <;> rfl
theorem FS.cast [Lay] (h : FS P μ0 M0 w0 N ⟨tm, M, df⟩ a w μ) (hm : ∀ k b, M'.get k = some b → M.get k = some b) (hn : M'.nx = M.nx) : FS P μ0 M0 w0 N ⟨tm, M', df⟩ a w μ :=
  ⟨h.tm, h.st.sub hm hn, h.df, h.sz⟩

theorem bit_store [Lay] {s : St} {t n : Nat} {x y : Bool} {ti : TI} (hT : E.ty.get T = some ti) (hsz : ti.size = 1) (ho : o.op = .store T (.tmp t) (.const (.bool y))) (ht : tm t = some (.ptr n 0)) (hM : M.get n = some (.cells T .ex [.bool x])) :
    opTab o.op E X (rd tm) M o.type = .ok (.tup []) (M.set n (.cells T .ex [.bool y])) := by
  refine store_opM ho (p := .ptr n 0) (u := .bool y) ht rfl ?_
  have h1 : E.size T = some 1 := by simp [Env.size, hT, hsz]
  refine store_mk hM h1 rfl rfl

theorem bit_step [Lay] {ops : Array Oper} {t u : Nat} (hE : EOK E) (hC : SndC E.P X.call) (hY : SndY E.P X.yld) (hrec : X.rnd = false → NoRec b cs) (hdst : ∀ o ∈ ops.toList, ∀ k, o.dst = some k → k < N) {y1 y2 z : Bool} {o0 o1 o2 o3 : Oper} (hl : ops.toList = [o0, o1, o2, o3])
    (h0 : o0.dst = some t ∧ o0.op = .alloc T ∧ o0.guard = none ∧ bitRegion.low 0 o0.after.toList = true)
    (h1 : o1.dst = none ∧ o1.op = .store T (.tmp t) (.const (.bool y1)) ∧ o1.guard = none ∧ bitRegion.has 0 o1.after.toList = true ∧ bitRegion.only 0 o1.after.toList = true)
    (h2 : o2.dst = none ∧ o2.op = .store T (.tmp t) (.const (.bool y2)) ∧ o2.guard = none ∧ bitRegion.has 0 o2.after.toList = true ∧ bitRegion.only 0 o2.after.toList = true)
    (h3 : o3.dst = some u ∧ o3.op = .load T (.tmp t) ∧ o3.guard = none ∧ bitRegion.has 0 o3.after.toList = true ∧ bitRegion.has 1 o3.after.toList = true ∧ bitRegion.has 2 o3.after.toList = true)
    {ti : TI} (hT : E.ty.get T = some ti) (hk : ti.k = .bool) (hz : ti.zero = [.bool z]) (hsz : ti.size = 1) (s : St) (μ1 : Mp) {k : List Item} :
    StepI E.P b cs k ops (fun D a w => (¬ D 0 ∧ ∃ ν, Le μ1 ν ∧ FS E.P μ0 M0 w0 N s a w ν) ∨ (D 0 ∧ ¬ D 3 ∧ ∃ x ν, Le μ1 ν ∧ FS E.P μ0 M0 w0 N ⟨upd s.tm t (.ptr s.M.nx 0), s.M.add (.cells T .ex [.bool x]), s.df⟩ a w ν) ∨
      (D 3 ∧ ∃ x ν, Le μ1 ν ∧ FS E.P μ0 M0 w0 N ⟨upd (upd s.tm t (.ptr s.M.nx 0)) u (.bool x), s.M.add (.cells T .ex [.bool x]), s.df⟩ a w ν)) := by
  intro D a w j o rest hI hD ho hj hcl hpre
  have hol : ops.toList[j]? = some o := by simpa using ho
  have hd : ∀ k, o.dst = some k → k < N := hdst o (List.mem_of_getElem? hol)
  have cl0 : ∀ i oi, ops.toList[i]? = some oi → bitRegion.has 0 oi.after.toList = true → D i → D 0 := fun i oi hoi hh hDi => by
    obtain ⟨e, e1, e2, e3⟩ := has_mem hh
    have := hcl i oi hDi hoi e e1 e2
    rwa [e3] at this
  have g0 : ops.toList[0]? = some o0 := by rw [hl]; rfl
  have g1 : ops.toList[1]? = some o1 := by rw [hl]; rfl
  have g2 : ops.toList[2]? = some o2 := by rw [hl]; rfl
  have g3 : ops.toList[3]? = some o3 := by rw [hl]; rfl
  have hj4 : j < 4 := by
    have := (List.getElem?_eq_some_iff.1 hol).1
    rw [hl] at this; simpa using this
  have pre0 : bitRegion.has 0 o.after.toList = true → D 0 := fun hh => by
    obtain ⟨e, e1, e2, e3⟩ := has_mem hh
    have := hpre e e1 e2
    rwa [e3] at this
  -- a store
  have store : ∀ y, o.dst = none → o.op = .store T (.tmp t) (.const (.bool y)) → o.guard = none → D 0 → ¬ D 3 → j ≠ 0 → j ≠ 3 → ∀ x ν, Le μ1 ν → FS E.P μ0 M0 w0 N ⟨upd s.tm t (.ptr s.M.nx 0), s.M.add (.cells T .ex [.bool x]), s.df⟩ a w ν →
      ∃ a' w', ((¬ (D 0 ∨ 0 = j) ∧ ∃ ν, Le μ1 ν ∧ FS E.P μ0 M0 w0 N s a' w' ν) ∨ ((D 0 ∨ 0 = j) ∧ ¬ (D 3 ∨ 3 = j) ∧ ∃ x ν, Le μ1 ν ∧ FS E.P μ0 M0 w0 N ⟨upd s.tm t (.ptr s.M.nx 0), s.M.add (.cells T .ex [.bool x]), s.df⟩ a' w' ν) ∨
        ((D 3 ∨ 3 = j) ∧ ∃ x ν, Le μ1 ν ∧ FS E.P μ0 M0 w0 N ⟨upd (upd s.tm t (.ptr s.M.nx 0)) u (.bool x), s.M.add (.cells T .ex [.bool x]), s.df⟩ a' w' ν)) ∧ Steps E.P (lone (b.atR a (.inRegion ops (j :: rest) :: k)) cs w) (lone (b.atR a' (.inRegion ops rest :: k)) cs w') := by
    intro y q1 q2 q3 hD0 hD3 hj0 hj3 x ν hle hfs
    have hop := bit_store (E := E) (X := X) (s := s) (o := o) (x := x) (y := y) (tm := upd s.tm t (.ptr s.M.nx 0)) (M := s.M.add (.cells T .ex [.bool x])) hT hsz q2 (by rw [upd_eq, if_pos rfl]) (by rw [Mem.get_add, if_pos rfl])
    obtain ⟨a', w', ν', k1, k2, k3⟩ := step_sim (b := b) (cs := cs) hE hC hY hrec hd (stepC_ok (ops := ops.toList) q3 hop (df := s.df)) hfs ho (rest := rest) (k := k)
    rw [q1] at k1
    refine ⟨a', w', .inr (.inl ⟨.inl hD0, by rintro (h | h); exact hD3 h; exact hj3 h.symm, y, ν', hle.trans k2, FS.cast k1 (fun i bl hb => ?_) rfl⟩), k3⟩
    rw [Mem.get_add] at hb
    rw [Mem.get_set, Mem.get_add]
    split at hb
    · rename_i e; subst e; rw [if_pos rfl]; exact hb
    · rename_i e; rw [if_neg e, if_neg e]; exact hb
  rcases Nat.lt_or_ge j 1 with hj' | hj'
  · have : j = 0 := by omega
    subst this
    rw [g0] at hol; injection hol with hol; subst hol
    obtain ⟨q1, q2, q3, q4⟩ := h0
    rcases hI with ⟨_, ν, hle, hfs⟩ | ⟨hc, _⟩ | ⟨hc, _⟩
    · have hop : opTab o0.op E X (rd s.tm) s.M o0.type = .ok (.ptr s.M.nx 0) (s.M.add (.cells T .ex [.bool z])) := by
        rw [q2]
        show oAlloc T E X (rd s.tm) s.M o0.type = _
        unfold oAlloc
        rw [hT]
        simp only [hz]
        rfl
      obtain ⟨a', w', ν', k1, k2, k3⟩ := step_sim (b := b) (cs := cs) hE hC hY hrec hd (stepC_ok (ops := ops.toList) q3 hop (df := s.df)) hfs ho (rest := rest) (k := k)
      rw [q1] at k1
      refine ⟨a', w', .inr (.inl ⟨.inr rfl, ?_, z, ν', hle.trans k2, k1⟩), k3⟩
      rintro (h | h)
      · exact hj (cl0 3 o3 g3 h3.2.2.2.1 h)
      · cases h
    · exact absurd hc hj
    · exact absurd (cl0 3 o3 g3 h3.2.2.2.1 hc) hj
  · rcases Nat.lt_or_ge j 3 with hj'' | hj''
    · have h12 : ∃ y, o.dst = none ∧ o.op = .store T (.tmp t) (.const (.bool y)) ∧ o.guard = none ∧ bitRegion.has 0 o.after.toList = true ∧ (D 3 → D j) := by
        have cl : ∀ i, (bitRegion.has i o3.after.toList = true) → D 3 → D i := fun i hh h => by
          obtain ⟨e, e1, e2, e3⟩ := has_mem hh
          have := hcl 3 o3 h g3 e e1 e2
          rwa [e3] at this
        rcases Nat.lt_or_ge j 2 with hj2 | hj2
        · have : j = 1 := by omega
          subst this
          rw [g1] at hol; injection hol with hol; subst hol
          exact ⟨y1, h1.1, h1.2.1, h1.2.2.1, h1.2.2.2.1, cl 1 h3.2.2.2.2.1⟩
        · have : j = 2 := by omega
          subst this
          rw [g2] at hol; injection hol with hol; subst hol
          exact ⟨y2, h2.1, h2.2.1, h2.2.2.1, h2.2.2.2.1, cl 2 h3.2.2.2.2.2⟩
      obtain ⟨y, q1, q2, q3, q4, q5⟩ := h12
      have hD0 := pre0 q4
      rcases hI with ⟨hc, _⟩ | ⟨_, hD3, x, ν, hle, hfs⟩ | ⟨hc, _⟩
      · exact absurd hD0 hc
      · exact store y q1 q2 q3 hD0 hD3 (by omega) (by omega) x ν hle hfs
      · exact absurd (q5 hc) hj
    · have : j = 3 := by omega
      subst this
      rw [g3] at hol; injection hol with hol; subst hol
      obtain ⟨q1, q2, q3, q4, _⟩ := h3
      have hD0 := pre0 q4
      rcases hI with ⟨hc, _⟩ | ⟨_, hD3, x, ν, hle, hfs⟩ | ⟨hc, _⟩
      · exact absurd hD0 hc
      · have hop : opTab o3.op E X (rd (upd s.tm t (.ptr s.M.nx 0))) (s.M.add (.cells T .ex [.bool x])) o3.type = .ok (.bool x) (s.M.add (.cells T .ex [.bool x])) := by
          rw [q2]
          show wv (rd (upd s.tm t (.ptr s.M.nx 0)) (.tmp t)) (fun p => outV _ (loadC E _ T p)) = _
          rw [show rd (upd s.tm t (.ptr s.M.nx 0)) (.tmp t) = some (.ptr s.M.nx 0) from by show upd s.tm t (.ptr s.M.nx 0) t = _; rw [upd_eq, if_pos rfl]]
          show outV _ (loadC E _ T (.ptr s.M.nx 0)) = _
          have : loadC E (s.M.add (.cells T .ex [.bool x])) T (.ptr s.M.nx 0) = some (.bool x) := by
            simp only [loadC, Mem.get_add, if_pos, partC, hT, hk, isAggK]
            rfl
          rw [this]; rfl
        obtain ⟨a', w', ν', k1, k2, k3⟩ := step_sim (b := b) (cs := cs) hE hC hY hrec hd (stepC_ok (ops := ops.toList) q3 hop (df := s.df)) hfs ho (rest := rest) (k := k)
        rw [q1] at k1
        exact ⟨a', w', .inr (.inr ⟨.inr rfl, x, ν', hle.trans k2, k1⟩), k3⟩
      · exact absurd hc hj

theorem draw_bit [Lay] {ops : Array Oper} {t u : Nat} (hE : EOK E) (hfm : E.P.follows .mixedOrders = true) (hC : SndC E.P X.call) (hY : SndY E.P X.yld) (hrec : X.rnd = false → NoRec b cs) (hdst : ∀ o ∈ ops.toList, ∀ k, o.dst = some k → k < N)
    (h : bitRegion E ops.toList = some (t, u)) (hs : FS E.P μ0 M0 w0 N s a w μ) (id : Nat) (k : List Item) :
    ∃ a' w' μ', FS E.P μ0 M0 w0 N { tm := upd (upd s.tm t (.ptr s.M.nx 0)) u .amb, M := ⟨s.M.nx + 1, s.M.tr⟩, df := s.df } a' w' μ' ∧ Le μ μ' ∧ Steps E.P (lone (b.atR a (.code (.region id ops true) :: k)) cs w) (lone (b.atR a' k) cs w') := by
  obtain ⟨T, y1, y2, z, o0, o1, o2, o3, hl, h0, h1, h2, h3, hlow, hne, ti, hT, hk, hz, hsz⟩ := bit_shape h
  have hback : ∀ (j : Nat) (o : Oper), ops.toList[j]? = some o → ∀ e ∈ o.after.toList, Region.binds .any e = true → e.on < j := by
    intro j o ho e he hb
    rw [hl] at ho
    match j, ho with
    | 0, ho => simp at ho; subst ho; exact low_mem h0.2.2.2 e he hb
    | 1, ho => simp at ho; subst ho; rw [only_mem h1.2.2.2.2 e he hb]; omega
    | 2, ho => simp at ho; subst ho; rw [only_mem h2.2.2.2.2 e he hb]; omega
    | 3, ho => simp at ho; subst ho; exact low_mem hlow e he hb
    | j + 4, ho => simp at ho
  obtain ⟨D, a', w', hI, hD, hst⟩ := region_run (P := E.P) (b := b) (cs := cs) (k := k) hfm hback (bit_step (b := b) (cs := cs) (N := N) (μ0 := μ0) (M0 := M0) (w0 := w0) hE hC hY hrec hdst hl h0 h1 h2 h3 hT hk hz hsz s μ) (id := id) (a := a) (w := w) (.inl ⟨fun h => h, μ, .refl _, hs.world⟩)
  have hs4 : ops.size = 4 := by
    have := congrArg List.length hl
    simpa using this
  rcases hI with ⟨hc, _⟩ | ⟨_, hc, _⟩ | ⟨_, x, ν, hle, hfs⟩
  · exact absurd (hD 0 (by omega)) hc
  · exact absurd (hD 3 (by omega)) hc
  · refine ⟨a', w', ν, ?_, hle, hst⟩
    have hfs2 : FS E.P μ0 M0 w0 N ⟨upd (upd s.tm t (.ptr s.M.nx 0)) u (.bool x), ⟨s.M.nx + 1, s.M.tr⟩, s.df⟩ a' w' ν := FS.cast hfs (fun i bl hb => by
      have hb' : s.M.get i = some bl := hb
      rw [Mem.get_add, if_neg]
      · exact hb'
      · intro e; subst e
        rw [hs.st.fresh.2 _ (Nat.le_refl _)] at hb'; cases hb') rfl
    refine ⟨fun i c hc => ?_, hfs2.st, hfs2.df, hfs2.sz⟩
    by_cases e : i = u
    · subst e
      replace hc : upd (upd s.tm t (.ptr s.M.nx 0)) i .amb i = some c := hc
      rw [upd_eq, if_pos rfl] at hc
      injection hc with hc; subst hc
      obtain ⟨y, r1, r2⟩ := hfs2.tm i (.bool x) (by show upd _ i _ i = _; rw [upd_eq, if_pos rfl])
      exact ⟨y, r1, x, r2⟩
    · refine hfs2.tm i c ?_
      have hc' : upd (upd s.tm t (.ptr s.M.nx 0)) u .amb i = some c := hc
      show upd _ u _ i = some c
      rw [upd_eq, if_neg e] at hc' ⊢
      exact hc'

/-- regions that draw are as the model's -/
theorem draw_ok [Lay] (hE : EOK E) (hfm : E.P.follows .mixedOrders = true) : DrawOK E := by
  intro X b cs id ops k N μ0 M0 w0 s s' a w μ hC hY hrec hdst h hs
  unfold drawC at h
  cases hcl : classC E ops.toList with
  | none => rw [hcl] at h; cases h
  | some rk =>
    rw [hcl] at h
    unfold classC at hcl
    split at hcl
    · rename_i t u hb
      injection hcl with hcl; subst hcl
      injection h with h; subst h
      exact draw_bit hE hfm hC hY hrec hdst hb hs id k
    · split at hcl
      · rename_i ms hm
        split at hcl
        · rename_i ts ht
          replace hcl := cond_none hcl; obtain ⟨hds, hcl⟩ := hcl
          simp only [Bool.and_eq_true] at hds
          have done : ∀ {tr : List St} {T : Nat → St}, tr.length = ops.toList.length + 1 → (∀ i, i ≤ ops.toList.length → tr[i]? = some (T i)) → lastS tr = some s' → T ops.toList.length = s' := fun {tr T} t1 t2 hlast => by
            have h1 := lastS_get hlast
            rw [t1, Nat.add_sub_cancel, t2 _ (Nat.le_refl _)] at h1
            injection h1
          split at hcl
          · rename_i hlin
            injection hcl with hcl; subst hcl
            have fin : ∀ tr, traceC E X ops.toList ops.toList s = some tr → pairsC E X ops.toList tr (pairsOf ms (chainsOf ts) ts) = true → lastS tr = some s' →
                ∃ a' w' μ', FS E.P μ0 M0 w0 N s' a' w' μ' ∧ Le μ μ' ∧ Steps E.P (lone (b.atR a (.code (.region id ops true) :: k)) cs w) (lone (b.atR a' k) cs w') := by
              intro tr htr hps hlast
              obtain ⟨T, t0, t1, t2, R⟩ := rg_of hm ht hds.1 hds.2 htr
              subst t0
              have hp := hp_of hm ht t2 hps
              have hms := masks_ok hm
              have hHL : HL E ops.toList := fun i j hi hj hlt => linear_anc hms (chains_sorted (touch_go ht).2.2) hlin i (ch_mem ht hi) j (ch_mem ht hj) hlt
              have := draw_gen (b := b) (cs := cs) hE hfm hC hY hrec hdst R hp hHL hs id k
              rwa [done t1 t2 hlast] at this
            simp only at h
            split at h
            · rename_i hps
              obtain ⟨tr, h1, h2⟩ := opsN_trace h
              exact fin tr h1 (by rw [hps]; rfl) h2
            · rename_i hps
              split at h
              · rename_i tr htr
                replace h := cond_none h; obtain ⟨hpc, h⟩ := h
                exact fin tr htr hpc h
              · cases h
          · rename_i i j hlin
            split at hcl
            · rename_i mi mj oi oj hmi hmj hoi hoj
              rw [nth_eq] at hmi hmj hoi hoj
              replace hcl := cond_none hcl; obtain ⟨hcc, hcl⟩ := hcl
              injection hcl with hcl; subst hcl
              simp only [Bool.and_eq_true] at hcc
              obtain ⟨⟨⟨⟨c1, c2⟩, c3⟩, c4⟩, c5⟩ := hcc
              simp only at h
              split at h
              · rename_i tr htr
                split at h
                · rename_i oi' oj' si sj k1 k2 k3 k4
                  rw [nth_eq] at k1 k2 k3 k4
                  rw [hoi] at k1; injection k1 with k1; subst k1
                  rw [hoj] at k2; injection k2 with k2; subst k2
                  replace h := cond_none h; obtain ⟨hpc, h⟩ := h
                  simp only [Bool.and_eq_true] at hpc
                  obtain ⟨T, t0, t1, t2, R⟩ := rg_of hm ht hds.1 hds.2 htr
                  subst t0
                  have hil := (List.getElem?_eq_some_iff.1 hoi).1
                  have hjl := (List.getElem?_eq_some_iff.1 hoj).1
                  rw [t2 i (by omega)] at k3; injection k3 with k3; subst k3
                  rw [t2 j (by omega)] at k4; injection k4 with k4; subst k4
                  have hp := hp_of hm ht t2 hpc.1
                  obtain ⟨Mj, M2, L⟩ := tail_of R hm ht hlin hmi hmj hoi hoj c1 c2 c3 c4 c5 hpc.2
                  have := draw_tail (b := b) (cs := cs) hE hfm hC hY hrec hdst R hp L hs id k
                  rwa [done t1 t2 h] at this
                · cases h
              · cases h
            · cases hcl
          · cases hcl
        · cases hcl
      · cases hcl
end
end Go.Cx
namespace Go.Cx
open Go.RowKit (Below)

section
variable {P : Program} {E : Env} {μ μ' : Mp} {w w' : World} {M M' : Mem} {g : Nat} {v : C}

/-- a function of the library that is run by the model itself -/
theorem snd_ext [Lay] {p : Prim} {e : Array Value → Sem Value} (hc : ∀ (args : Array Value) (w : World), (callFunc g args).run P w = ((e args).run P w).andThen fun v w' => .ok (.value v) w')
    (he : ∀ as M r M', primC p as M = some (r, M') → ∀ μ w (xs : Array Value), MR P μ M w → Fresh μ M → VL μ as xs.toList → ∃ v w', (e xs).run P w = .ok v w' ∧ Post P μ M w r M' v w') :
    SndC P fun f as M => if f = g then primC p as M else none := by
  intro f as M r M' h μ w xs hm hf hx
  replace h : (if f = g then primC p as M else none) = some (r, M') := h
  split at h
  · rename_i hfg; subst hfg
    obtain ⟨v, w', h1, h2⟩ := he as M r M' h μ w xs hm hf hx
    exact .inl ⟨v, w', by rw [hc, h1]; rfl, h2⟩
  · cases h
/-- one whose body is entered -/
theorem snd_calls [Lay] {p : Prim} (hc : ∀ (args : Array Value) (w : World), (callFunc g args).run P w = .ok (.enter g args) w)
    (he : ∀ as M r M', primC p as M = some (r, M') → ∀ μ w (xs : Array Value), MR P μ M w → Fresh μ M → VL μ as xs.toList → Calls P g xs w fun e w' => ∃ v, e = .returned v ∧ Post P μ M w r M' v w') :
    SndC P fun f as M => if f = g then primC p as M else none := by
  intro f as M r M' h μ w xs hm hf hx
  replace h : (if f = g then primC p as M else none) = some (r, M') := h
  split at h
  · rename_i hfg; subst hfg
    exact .inr ⟨hc _ _, callN_of_calls (he as M r M' h μ w xs hm hf hx)⟩
  · cases h

theorem VL.one [Lay] {x : C} {xs : Array Value} (h : VL μ [x] xs.toList) : ∃ y, xs = #[y] ∧ VR μ x y := by
  obtain ⟨y, l, h1, h2, h3⟩ := h
  rw [VL.nil] at h3; subst h3
  exact ⟨y, by rw [← Array.toList_inj, h1], h2⟩
theorem VL.two [Lay] {x y : C} {xs : Array Value} (h : VL μ [x, y] xs.toList) : ∃ u v, xs = #[u, v] ∧ VR μ x u ∧ VR μ y v := by
  obtain ⟨u, l, h1, h2, v, l', h3, h4, h5⟩ := h
  rw [VL.nil] at h5; subst h5; subst h3
  exact ⟨u, v, by rw [← Array.toList_inj, h1], h2, h4⟩

theorem noEscape_snd [Lay] (hc : ∀ (args : Array Value) (w : World), (callFunc g args).run P w = ((Extern.AbiNoEscape.same args).run P w).andThen fun v w' => .ok (.value v) w') :
    SndC P fun f as M => if f = g then primC .noEscape as M else none :=
  snd_ext hc fun as M r M' h μ w xs hm hf hx => by
    unfold primC at h
    split at h <;> (try contradiction) <;> try (cases h; done)
    rename_i x hq
    injection h with h; injection h with h1 h2; subst h1; subst h2
    obtain ⟨y, rfl, hy⟩ := hx.one
    exact ⟨y, w, rfl, μ, hy, .refl hm hf⟩

theorem bytes_of [Lay] {s : List Nat} {y : Value} (h : VR μ (.str s) y) : ∃ bs : List UInt8, y = .string ⟨bs.toArray⟩ ∧ s = bs.map UInt8.toNat := h
theorem u8_eq [Lay] {b : Nat} (hb : b < 256) (x : UInt8) : (x == (b : Int).toNat.toUInt8) = decide (x.toNat = b) := by
  have : (b : Int).toNat.toUInt8.toNat = b := by simp [Nat.toUInt8, hb]
  by_cases h : x.toNat = b
  · have : x = (b : Int).toNat.toUInt8 := UInt8.toNat_inj.1 (by rw [this, h])
    rw [decide_eq_true h, this]; simp
  · rw [decide_eq_false h]
    refine beq_eq_false_iff_ne.2 fun e => h ?_
    rw [e, this]
theorem count_eq [Lay] {b : Nat} (hb : b < 256) : ∀ (bs : List UInt8), primC.count b (bs.map UInt8.toNat) = Lib.countByte bs (b : Int).toNat.toUInt8
  | [] => rfl
  | x :: l => by
    have ih := count_eq hb l
    unfold Lib.countByte at ih ⊢
    rw [List.count_cons, List.map_cons, ← ih, u8_eq hb]
    show (bif Nat.beq x.toNat b then primC.count b (l.map UInt8.toNat) + 1 else primC.count b (l.map UInt8.toNat)) = _
    rw [nbeq]
    by_cases h : x.toNat = b <;> simp [h]
theorem index_eq [Lay] {b : Nat} (hb : b < 256) : ∀ (bs : List UInt8) (i : Nat), (primC.index b (bs.map UInt8.toNat) i = none ∧ Lib.indexByte bs (b : Int).toNat.toUInt8 = -1) ∨ ∃ j : Nat, primC.index b (bs.map UInt8.toNat) i = some (i + j) ∧ Lib.indexByte bs (b : Int).toNat.toUInt8 = j
  | [], i => .inl ⟨rfl, rfl⟩
  | x :: l, i => by
    rw [List.map_cons]
    show ((bif Nat.beq x.toNat b then some i else primC.index b (l.map UInt8.toNat) (i + 1)) = none ∧ _) ∨ ∃ j : Nat, (bif Nat.beq x.toNat b then some i else primC.index b (l.map UInt8.toNat) (i + 1)) = some (i + j) ∧ _
    unfold Lib.indexByte
    rw [u8_eq hb, nbeq]
    by_cases h : x.toNat = b
    · right; exact ⟨0, by simp [h], by simp [h]⟩
    · simp only [h, decide_false, cond_false, Bool.false_eq_true, if_false]
      rcases index_eq hb l (i + 1) with ⟨h1, h2⟩ | ⟨j, h1, h2⟩
      · exact .inl ⟨h1, by rw [h2]; rfl⟩
      · right
        refine ⟨j + 1, by rw [h1]; congr 1; omega, ?_⟩
        rw [h2]
        have : ((j : Int) == -1) = false := beq_eq_false_iff_ne.2 (by omega)
        rw [this]; simp
theorem countStr_snd [Lay] (hc : ∀ (args : Array Value) (w : World), (callFunc g args).run P w = ((Extern.BytealgCount.count args).run P w).andThen fun v w' => .ok (.value v) w') :
    SndC P fun f as M => if f = g then primC .countStr as M else none :=
  snd_ext hc fun as M r M' h μ w xs hm hf hx => by
    unfold primC at h
    split at h <;> (try contradiction) <;> try (cases h; done)
    rename_i s b hq
    replace h := cond_none h; obtain ⟨hb, h⟩ := h
    rw [nblt] at hb; replace hb := of_decide_eq_true hb
    injection h with h; injection h with h1 h2; subst h1; subst h2
    obtain ⟨u, v, rfl, hu, hv⟩ := hx.two
    obtain ⟨bs, rfl, rfl⟩ := bytes_of hu
    replace hv : v = .int .u8 (.ofNat b) := hv
    subst hv
    refine ⟨_, w, Lib.run_countString _ _ _, μ, ?_, .refl hm hf⟩
    rw [count_eq hb]; rfl
theorem indexByteStr_snd [Lay] (hc : ∀ (args : Array Value) (w : World), (callFunc g args).run P w = ((Extern.BytealgIndexByte.indexByte args).run P w).andThen fun v w' => .ok (.value v) w') :
    SndC P fun f as M => if f = g then primC .indexByteStr as M else none :=
  snd_ext hc fun as M r M' h μ w xs hm hf hx => by
    unfold primC at h
    split at h <;> (try contradiction) <;> try (cases h; done)
    rename_i s b hq
    replace h := cond_none h; obtain ⟨hb, h⟩ := h
    rw [nblt] at hb; replace hb := of_decide_eq_true hb
    injection h with h; injection h with h1 h2; subst h1; subst h2
    obtain ⟨u, v, rfl, hu, hv⟩ := hx.two
    obtain ⟨bs, rfl, rfl⟩ := bytes_of hu
    replace hv : v = .int .u8 (.ofNat b) := hv
    subst hv
    refine ⟨_, w, Lib.run_indexByteString _ _ _, μ, ?_, .refl hm hf⟩
    rcases index_eq hb bs 0 with ⟨h1, h2⟩ | ⟨j, h1, h2⟩
    · rw [h1]
      show Value.int .i64 (Lib.indexByte bs (b : Int).toNat.toUInt8) = _
      rw [h2]
    · rw [h1]
      show Value.int .i64 (Lib.indexByte bs (b : Int).toNat.toUInt8) = _
      rw [h2, Nat.zero_add]; rfl
theorem mapsClone_snd [Lay] (hc : ∀ (args : Array Value) (w : World), (callFunc g args).run P w = ((Extern.MapsClone.clone args).run P w).andThen fun v w' => .ok (.value v) w') :
    SndC P fun f as M => if f = g then primC .mapsClone as M else none :=
  snd_ext hc fun as M r M' h μ w xs hm hf hx => by
    unfold primC at h
    split at h <;> (try contradiction) <;> try (cases h; done)
    rename_i t k hq
    split at h
    · rename_i es c hk
      injection h with h; injection h with h1 h2; subst h1; subst h2
      obtain ⟨u, rfl, z, rfl, x, h1, rfl⟩ := hx.one
      obtain ⟨ents, h2, h3⟩ := hm.bk k x _ h1 hk
      have hrun : (Extern.MapsClone.clone #[.iface t (.map (some x.g))]).run P w = .ok (.iface t (.map (some w.heap.size))) (w.alloc (.map ents c)) := by
        show Sem.run P (do
          let .map entries clock ← getObj x.g | stuck "maps.clone: a map expected"
          pure (Value.iface t (.map (some (← newObj (.map entries clock)))))) w = _
        have : (getObj x.g).run P w = .ok (.map ents c) w := by simp [getObj, Sem.run, h2]
        simp only [Sem.run_bind, this, Result.andThen_ok]
        have h9 : (newObj (.map ents c)).run P w = .ok w.heap.size (w.alloc (.map ents c)) := rfl
        simp only [h9, Result.andThen_ok, Sem.run_bind, Sem.run_pure]
      refine ⟨_, _, hrun, addM μ M.nx ⟨w.heap.size, 0, 0, 0⟩, ⟨_, rfl, _, addM_self _ _ _, rfl⟩, Step.add hm hf rfl (obj := .map ents c) rfl rfl rfl rfl ⟨ents, ?_, h3.mono (addM_le (hf.1 _ (Nat.le_refl _)))⟩⟩
      show (w.heap.push _)[w.heap.size]? = _
      simp
    · cases h

theorem Step.below [Lay] (hm : MR P μ M w) (hf : Fresh μ M) (h : Below w.heap.size w w') : Step P μ M w μ M w' :=
  ⟨.refl _, Nat.le_refl _, fun _ h h' => absurd h h', hf, ⟨fun k x b hk hb => (hm.bk k x b hk hb).mono (.refl _) (h.block _ (hm.lt k x hk)), hm.al, fun k x hk => Nat.lt_of_lt_of_le (hm.lt k x hk) h.size, hm.lay.step (fun g hg _ => h.block g hg) fun k x hk => .inl ⟨k, x, hk, rfl⟩⟩,
    fun _ _ _ _ h => h, h.os, h.tape, h.output, h.size, fun g hg _ => h.block g hg, fun k x hk => .inl ⟨k, x, hk, rfl⟩⟩

theorem digits_step [Lay] (n a : Nat) (acc : List Nat) : primC.digits (n + 1) a acc = bif Nat.blt a 10 then (48 + a) :: acc else primC.digits n (a / 10) ((48 + a % 10) :: acc) := rfl
theorem digits_eq [Lay] : ∀ (n a : Nat) (acc : List Nat), a < 10 ^ (n + 1) → primC.digits (n + 1) a acc = (Lib.decDigits a).map UInt8.toNat ++ acc
  | 0, a, acc, h => by
    rw [digits_step, nblt, Lib.decDigits]
    have h1 : a < 10 := by simpa using h
    simp [h1]; omega
  | n + 1, a, acc, h => by
    rw [digits_step, nblt, Lib.decDigits]
    by_cases h1 : a < 10
    · simp [h1]; omega
    · simp only [h1, decide_false, cond_false, dite_false]
      rw [digits_eq n (a / 10) _ (by rw [Nat.pow_succ] at h; omega)]
      simp; omega
theorem itoa_snd [Lay] {F : World → Prop} (hF : ∀ w, (∀ g o, Lay.S g = some o → w.heap[g]? = some o) → F w) (hc : ∀ (args : Array Value) (w : World), (callFunc g args).run P w = .ok (.enter g args) w)
    (h : ∀ (n : Int) (w : World), -9223372036854775808 ≤ n → n ≤ 9223372036854775807 → F w → Calls P g #[.int .i64 n] w fun e w' => e = .returned (.string ⟨(Lib.itoa n).toArray⟩) ∧ Below w.heap.size w w') :
    SndC P fun f as M => if f = g then primC .itoa as M else none :=
  snd_calls hc fun as M r M' h1 μ w xs hm hf hx => by
    unfold primC at h1
    split at h1 <;> (try contradiction) <;> try (cases h1; done)
    rename_i n hq
    split at h1
    · rename_i a
      replace h1 := cond_none h1; obtain ⟨ha, h1⟩ := h1
      rw [nblt] at ha; replace ha := of_decide_eq_true ha
      injection h1 with h1; injection h1 with h2 h3; subst h2; subst h3
      obtain ⟨y, rfl, hy⟩ := hx.one
      replace hy : y = .int .i64 (.ofNat a) := hy
      subst hy
      have e0 : (Int.ofNat a : Int) = (a : Int) := rfl
      refine (h (.ofNat a) w (by omega) (by omega) (hF w fun g o ho => (hm.lay g o ho).1)).mono fun e w' ⟨h4, h5⟩ => ⟨_, h4, μ, ?_, .below hm hf h5⟩
      refine ⟨Lib.itoa (.ofNat a), rfl, ?_⟩
      rw [digits_eq 6 a [] (by omega)]
      have e1 : ¬ (Int.ofNat a < 0) := by omega
      rw [Lib.itoa, if_neg e1, List.append_nil]; rfl
    · rename_i a
      replace h1 := cond_none h1; obtain ⟨ha, h1⟩ := h1
      rw [nblt] at ha; replace ha := of_decide_eq_true ha
      injection h1 with h1; injection h1 with h2 h3; subst h2; subst h3
      obtain ⟨y, rfl, hy⟩ := hx.one
      replace hy : y = .int .i64 (.negSucc a) := hy
      subst hy
      have e0 : (Int.negSucc a : Int) = -((a : Int) + 1) := Int.negSucc_eq a
      refine (h (.negSucc a) w (by omega) (by omega) (hF w fun g o ho => (hm.lay g o ho).1)).mono fun e w' ⟨h4, h5⟩ => ⟨_, h4, μ, ?_, .below hm hf h5⟩
      refine ⟨Lib.itoa (.negSucc a), rfl, ?_⟩
      rw [digits_eq 6 (a + 1) [] (by omega)]
      have e1 : Int.negSucc a < 0 := by omega
      rw [Lib.itoa, if_pos e1, List.append_nil, show (Int.negSucc a).natAbs = a + 1 from rfl]; rfl
/-- strconv.Atoi: a number, or an error of which nothing is known -/
theorem atoi_snd [Lay] {t : Nat} {F : World → Prop} (hF : ∀ w, (∀ g o, Lay.S g = some o → w.heap[g]? = some o) → F w) (hc : ∀ (args : Array Value) (w : World), (callFunc g args).run P w = .ok (.enter g args) w)
    (h : ∀ (s : ByteArray) (n : Int) (w : World), s.size ≤ 18 → Lib.atoi s.data.toList = some n → Calls P g #[.string s] w fun e w' => e = .returned (.tuple #[.int .i64 n, .nilIface]) ∧ Below w.heap.size w w')
    (h0 : ∀ (s : ByteArray) (w : World), s.size ≤ 18 → Lib.atoi s.data.toList = none → F w → Calls P g #[.string s] w fun e w' => ∃ N, e = .returned (.tuple #[.int .i64 0, .iface t (.pointer (some ⟨N, 0, none⟩))]) ∧ w.heap.size ≤ N ∧ N < w'.heap.size ∧ Below w.heap.size w w') :
    SndC P fun f as M => if f = g then primC (.atoi t) as M else none :=
  snd_calls hc fun as M r M' h1 μ w xs hm hf hx => by
    unfold primC at h1
    split at h1 <;> (try contradiction) <;> try (cases h1; done)
    rename_i t' s hq
    injection hq with hq; subst hq
    replace h1 := cond_none h1; obtain ⟨ha, h1⟩ := h1
    simp only [nble, decide_eq_true_eq, len_eq] at ha
    obtain ⟨y, rfl, hy⟩ := hx.one
    obtain ⟨bs, rfl, rfl⟩ := bytes_of hy
    have hb : ((bs.map UInt8.toNat).map fun b => UInt8.ofNat b) = bs := by
      rw [List.map_map]
      exact (List.map_congr_left fun s _ => by simp).trans (List.map_id bs)
    rw [hb] at h1
    have hsz : (ByteArray.mk bs.toArray).size ≤ 18 := by simpa [ByteArray.size] using ha
    split at h1
    · rename_i n hn
      injection h1 with h1; injection h1 with h2 h3; subst h2; subst h3
      exact (h _ n w hsz (by simpa using hn)).mono fun e w' ⟨h4, h5⟩ => ⟨_, h4, μ, ⟨_, rfl, VL.cons.2 ⟨rfl, VL.cons.2 ⟨rfl, rfl⟩⟩⟩, .below hm hf h5⟩
    · rename_i hn
      injection h1 with h1; injection h1 with h2 h3; subst h2; subst h3
      refine (h0 _ w hsz (by simpa using hn) (hF w fun g o ho => (hm.lay g o ho).1)).mono fun e w' ⟨N, h4, h5, h6, h7⟩ => ⟨_, h4, addM μ M.nx ⟨N, 0, 0, 0⟩, ⟨_, rfl, VL.cons.2 ⟨rfl, VL.cons.2 ⟨⟨_, rfl, ⟨N, 0, 0, 0⟩, addM_self _ _ _, rfl⟩, rfl⟩⟩⟩, ?_⟩
      have hn0 : μ M.nx = none := hf.1 _ (Nat.le_refl _)
      have hle := addM_le (h := ⟨N, 0, 0, 0⟩) hn0
      have st := Step.below hm hf h7
      have hcase : ∀ k y, addM μ M.nx ⟨N, 0, 0, 0⟩ k = some y → (k = M.nx ∧ y = ⟨N, 0, 0, 0⟩) ∨ (k ≠ M.nx ∧ μ k = some y) := fun k y hy => by
        by_cases e : k = M.nx
        · subst e; rw [addM_self] at hy; injection hy with hy; exact .inl ⟨rfl, hy.symm⟩
        · simp only [addM, e, if_false] at hy; exact .inr ⟨e, hy⟩
      have hgn : M.get M.nx = none := hf.2 _ (Nat.le_refl _)
      have hget : ∀ k b, (Mem.mk (M.nx + 1) M.tr).get k = some b → M.get k = some b := fun k b h => h
      refine ⟨hle, Nat.le_succ _, fun k h0 h' => ?_, ⟨fun k hk => ?_, fun k hk => ?_⟩, ⟨fun k y b hy hb => ?_, fun k k' y y' c c' hy hy' hc hc' hg hne => ?_, fun k y hy => ?_, hm.lay.step (fun g hg _ => h7.block g hg) fun k y hy => (hcase k y hy).elim (fun e => .inr (by rw [e.2]; exact h5)) fun e => .inl ⟨k, y, e.2, rfl⟩⟩, fun k b hk h0 hb => hget k b hb, h7.os, h7.tape, h7.output, h7.size, fun g hg _ => h7.block g hg, fun k y hy => (hcase k y hy).elim (fun e => .inr (by rw [e.2]; exact h5)) fun e => .inl ⟨k, y, e.2, rfl⟩⟩
      · by_cases e : k = M.nx
        · omega
        · simp only [addM, e, if_false] at h'; exact absurd h0 h'
      · have hk : M.nx + 1 ≤ k := hk
        have : k ≠ M.nx := by omega
        simp only [addM, this, if_false]; exact hf.1 k (by omega)
      · have hk : M.nx + 1 ≤ k := hk
        exact hf.2 k (by omega)
      · have hb := hget k b hb
        rcases hcase k y hy with ⟨rfl, rfl⟩ | ⟨e, hy⟩
        · rw [hgn] at hb; cases hb
        · exact (st.mr.bk k y b hy hb).mono hle rfl
      · have hc := hget k c hc
        have hc' := hget k' c' hc'
        rcases hcase k y hy with ⟨rfl, rfl⟩ | ⟨e, hy⟩
        · rw [hgn] at hc; cases hc
        · rcases hcase k' y' hy' with ⟨rfl, rfl⟩ | ⟨e', hy'⟩
          · rw [hgn] at hc'; cases hc'
          · exact hm.al k k' y y' c c' hy hy' hc hc' hg hne
      · rcases hcase k y hy with ⟨rfl, rfl⟩ | ⟨e, hy⟩
        · exact h6
        · exact st.mr.lt k y hy
/-- texts as lists of bytes -/
theorem joinS_eq [Lay] : ∀ {ds : List C} {sep : List UInt8} {s : List Nat} {l : List Value}, primC.joinS (sep.map UInt8.toNat) ds = some s → VL μ ds l → ∃ xs : List (List UInt8), l = xs.map (fun x => Value.string ⟨x.toArray⟩) ∧ s = (Lib.join xs sep).map UInt8.toNat
  | [], sep, s, l, h, hl => by
    rw [VL.nil] at hl; subst hl
    simp only [primC.joinS, Option.some.injEq] at h; subst h
    exact ⟨[], rfl, rfl⟩
  | [c], sep, s, l, h, ⟨x, xs, h1, h2, h3⟩ => by
    rw [VL.nil] at h3; subst h3; subst h1
    cases c <;> simp only [primC.joinS] at h <;> try (cases h; done)
    injection h with h; subst h
    obtain ⟨bs, rfl, rfl⟩ := bytes_of h2
    exact ⟨[bs], rfl, by rw [Lib.join_one]⟩
  | c :: d :: ds, sep, s, l, h, ⟨x, xs, h1, h2, h3⟩ => by
    subst h1
    cases c <;> simp only [primC.joinS] at h <;> try (cases h; done)
    split at h
    · rename_i t ht
      injection h with h; subst h
      obtain ⟨ys, rfl, rfl⟩ := joinS_eq ht h3
      obtain ⟨bs, rfl, rfl⟩ := bytes_of h2
      refine ⟨bs :: ys, rfl, ?_⟩
      have hne : ys ≠ [] := fun e => by
        subst e
        have := h3.length
        simp at this
      obtain ⟨y, zs, rfl⟩ := List.exists_cons_of_ne_nil hne
      rw [Lib.join_cons, Lib.join_cons]
      simp [app_eq, Lib.joinTail]
    · cases h
theorem join_snd [Lay] (hc : ∀ (args : Array Value) (w : World), (callFunc g args).run P w = .ok (.enter g args) w)
    (h0 : ∀ (A : Option Addr) (c : Nat) (sep : ByteArray) (w : World), Calls P g #[.slice A 0 c, .string sep] w fun e w' => e = .returned (.string ⟨#[]⟩) ∧ w' = w)
    (h1 : ∀ (bk o c : Nat) (xs : List ByteArray) (sep : ByteArray) (w : World), (∀ (j : Nat) x, xs[j]? = some x → w.cell? ⟨bk, o + j, none⟩ = some (.string x)) → bk < w.heap.size → xs.length ≤ 140737488355328 → xs.length ≤ c →
      (Lib.join (xs.map (·.data.toList)) sep.data.toList).length ≤ 140737488355328 → Calls P g #[.slice (some ⟨bk, o, none⟩) xs.length c, .string sep] w fun e w' => e = .returned (.string ⟨(Lib.join (xs.map (·.data.toList)) sep.data.toList).toArray⟩) ∧ Below w.heap.size w w') :
    SndC P fun f as M => if f = g then primC .join as M else none :=
  snd_calls hc fun as M r M' h μ w xs hm hf hx => by
    have nil : ∀ (A : Option Addr) (c : Nat) (sep : ByteArray), Calls P g #[.slice A 0 c, .string sep] w fun e w' => ∃ v, e = .returned v ∧ Post P μ M w (.str []) M v w' := fun A c sep =>
      (h0 A c sep w).mono fun e w' ⟨h2, h3⟩ => ⟨_, h2, μ, ⟨[], rfl, rfl⟩, by subst h3; exact .refl hm hf⟩
    unfold primC at h
    split at h <;> (try contradiction) <;> try (cases h; done)
    · rename_i sep hq
      injection h with h; injection h with h2 h3; subst h2; subst h3
      obtain ⟨u, v, rfl, hu, hv⟩ := hx.two
      obtain ⟨bs, rfl, _⟩ := bytes_of hv
      replace hu : u = .slice none 0 0 := hu
      subst hu
      exact nil _ _ _
    · rename_i f k o n sep hq
      split at h
      · rename_i U md cs hk
        split at h
        · rename_i ds hds
          split at h
          · rename_i s hs
            replace h := cond_none h; obtain ⟨hb, h⟩ := h
            simp only [Bool.and_eq_true, nble, decide_eq_true_eq, len_eq] at hb
            injection h with h; injection h with h2 h3; subst h2; subst h3
            obtain ⟨u, v, rfl, ⟨x, off, cap, q1, rfl, q2, _, q3⟩, hv⟩ := hx.two
            obtain ⟨bs, rfl, rfl⟩ := bytes_of hv
            obtain ⟨e1, e2⟩ := cut_some hds
            by_cases hn : n = 0
            · subst hn
              have hd0 : ds = [] := by simpa using e2
              subst hd0
              simp only [primC.joinS, Option.some.injEq] at hs; subst hs
              exact nil _ _ _
            · obtain ⟨r1, _⟩ := q3 (by omega)
              obtain ⟨cur, fz, b1, b2, b3, b4, b5, b6⟩ := hm.bk k x _ q1 hk
              have hvl : VL μ ds ((List.range ds.length).map fun j => cur.getD (x.sh + o + j) undef) := VL.of_get (by simp) fun i c hi => by
                have hil := (List.getElem?_eq_some_iff.1 hi).1
                have hc0 : cs[o + i]? = some c := by
                  rw [e2, List.getElem?_take] at hi
                  split at hi
                  · rwa [List.getElem?_drop] at hi
                  · cases hi
                obtain ⟨_, y, k1, k2⟩ := b5 _ c hc0
                refine ⟨y, ?_, k2⟩
                rw [← Nat.add_assoc] at k1
                simp [hil, Array.getD_eq_getD_getElem?, k1]
              obtain ⟨ys, j1, rfl⟩ := joinS_eq hs hvl
              have hlen : ys.length = n := by
                have := congrArg List.length j1
                simp at this
                rw [← this, e2]; simp; omega
              have hmm : (ys.map fun s => (⟨s.toArray⟩ : ByteArray)).map (·.data.toList) = ys := by
                rw [List.map_map]
                exact (List.map_congr_left fun s _ => by simp).trans (List.map_id ys)
              have := h1 x.g off cap (ys.map fun s => ⟨s.toArray⟩) ⟨bs.toArray⟩ w (fun j z hj => by
                rw [List.getElem?_map] at hj
                obtain ⟨t, ht, hj⟩ := map_some hj
                have hjl := (List.getElem?_eq_some_iff.1 ht).1
                have hdl : ds.length = n := by rw [e2]; simp; omega
                have h9 := congrArg (fun l : List Value => l[j]?) j1
                simp only [List.getElem?_map, ht, List.getElem?_range (show j < ds.length by omega), Option.map_some] at h9
                injection h9 with h9
                have hb4 : x.sh + o + j < cur.size := by omega
                rw [r1]
                have h10 : cur[x.sh + o + j]? = some (.string z) := by
                  rw [← hj, ← h9]
                  simp [Array.getD_eq_getD_getElem?, hb4]
                simp only [World.cell?, b1]
                simpa using h10) (hm.lt k x q1) (by simp; omega) (by simp; omega) (by rw [hmm]; simp at hb ⊢; omega)
              rw [hmm] at this
              simp only [List.length_map, hlen] at this
              exact this.mono fun e w' ⟨k1, k2⟩ => ⟨_, k1, μ, ⟨_, rfl, by simp⟩, .below hm hf k2⟩
          · cases h
        · cases h
      · cases h
end
end Go.Cx
namespace Go.Cx

mutual
/-- no places in it -/
def flat : C → Bool
  | .ptr _ _ | .sl _ _ _ _ | .map _ | .yld _ => false
  | .fn _ xs ys => flatL xs && flatL ys
  | .ifc _ c => flat c
  | .agg cs => flatL cs
  | .tup cs => flatL cs
  | _ => true
def flatL : List C → Bool
  | [] => true
  | c :: l => flat c && flatL l
end
mutual
theorem VR.flat [Lay] {μ ν : Mp} : ∀ {c : C} {v : Value}, flat c = true → VR μ c v → VR ν c v
  | .ptr _ _, _, h, _ => by simp [Cx.flat] at h
  | .sl _ _ _ _, _, h, _ => by simp [Cx.flat] at h
  | .map _, _, h, _ => by simp [Cx.flat] at h
  | .yld _, _, h, _ => by simp [Cx.flat] at h
  | .fn _ _ _, _, h, ⟨a, b, h1, h2, h3⟩ => by
    simp only [Cx.flat, Bool.and_eq_true] at h
    exact ⟨a, b, h1, h2.flatL h.1, h3.flatL h.2⟩
  | .ifc _ _, _, h, ⟨x, h1, h2⟩ => by
    simp only [Cx.flat] at h
    exact ⟨x, h1, h2.flat h⟩
  | .agg _, _, h, ⟨a, h1, h2⟩ => by
    simp only [Cx.flat] at h
    exact ⟨a, h1, h2.flatL h⟩
  | .tup _, _, h, ⟨a, h1, h2⟩ => by
    simp only [Cx.flat] at h
    exact ⟨a, h1, h2.flatL h⟩
  | .int _ _, _, _, hr => hr
  | .bool _, _, _, hr => hr
  | .str _, _, _, hr => hr
  | .nilp, _, _, hr => hr
  | .nils, _, _, hr => hr
  | .nilm, _, _, hr => hr
  | .nilf, _, _, hr => hr
  | .amb, _, _, hr => hr
  | .nili, _, _, hr => hr
theorem VL.flatL [Lay] {μ ν : Mp} : ∀ {cs : List C} {l : List Value}, flatL cs = true → VL μ cs l → VL ν cs l
  | [], _, _, hr => hr
  | _ :: _, _, h, ⟨x, xs, h1, h2, h3⟩ => by
    simp only [Cx.flatL, Bool.and_eq_true] at h
    exact ⟨x, xs, h1, h2.flat h.1, h3.flatL h.2⟩
end

/-- these blocks are there -/
noncomputable def blksC (M : Mem) (bs : List (Nat × Blk)) : Bool := @List.rec (Nat × Blk) (fun _ => Bool) true (fun p _ ih => bb (@Option.rec Blk (fun _ => Bool) false (fun b => sameB b p.2) (M.tr.get p.1)) ih false) bs
/-- what is told of a call is so -/
noncomputable def memoOK (E : Env) (n g : Nat) (m : Memo) : Bool :=
  bb (flatL m.as) (@Option.rec (C × Mem) (fun _ => Bool) false (fun p => bb (sameC 1000 p.1 m.r) (bb (Nat.beq p.2.nx m.nx') (blksC p.2 m.bs) false) false) (callB E (runC E n) g m.as ⟨m.nx, .lf⟩)) false
theorem blksC_ok [Lay] {M : Mem} : ∀ {bs : List (Nat × Blk)}, blksC M bs = true → ∀ p ∈ bs, M.get p.1 = some p.2
  | [], _, p, hp => by cases hp
  | q :: bs, h, p, hp => by
    replace h : bb (@Option.rec Blk (fun _ => Bool) false (fun b => sameB b q.2) (M.tr.get q.1)) (blksC M bs) false = true := h
    cases hg : M.tr.get q.1 with
    | none => rw [hg] at h; cases h
    | some b =>
      rw [hg] at h
      replace h : bb (sameB b q.2) (blksC M bs) false = true := h
      cases hs : sameB b q.2 with
      | false => rw [hs] at h; cases h
      | true =>
        rw [hs] at h
        rcases List.mem_cons.1 hp with rfl | hp
        · have : M.tr.get p.1 = some p.2 := by rw [hg, sameB_eq hs]
          exact this
        · exact blksC_ok h p hp
theorem memoOK_ok [Lay] {E : Env} {n g : Nat} {m : Memo} (h : memoOK E n g m = true) : flatL m.as = true ∧ ∃ M1, callB E (runC E n) g m.as ⟨m.nx, .lf⟩ = some (m.r, M1) ∧ M1.nx = m.nx' ∧ ∀ p ∈ m.bs, M1.get p.1 = some p.2 := by
  unfold memoOK at h
  cases hf : flatL m.as with
  | false => rw [hf] at h; cases h
  | true =>
    rw [hf] at h
    refine ⟨rfl, ?_⟩
    cases hc : callB E (runC E n) g m.as ⟨m.nx, .lf⟩ with
    | none => rw [hc] at h; cases h
    | some p =>
      obtain ⟨c, M1⟩ := p
      rw [hc] at h
      replace h : bb (sameC 1000 c m.r) (bb (Nat.beq M1.nx m.nx') (blksC M1 m.bs) false) false = true := h
      cases h1 : sameC 1000 c m.r with
      | false => rw [h1] at h; cases h
      | true =>
        rw [h1] at h
        replace h : bb (Nat.beq M1.nx m.nx') (blksC M1 m.bs) false = true := h
        cases h2 : Nat.beq M1.nx m.nx' with
        | false => rw [h2] at h; cases h
        | true =>
          rw [h2] at h
          exact ⟨M1, by rw [sameC_eq h1], nbeq_true h2, blksC_ok h⟩

theorem setAll_get [Lay] {tr : Tr Blk} : ∀ {bs : List (Nat × Blk)} {k : Nat} {b : Blk}, (setAll tr bs).get k = some b → (k, b) ∈ bs ∨ tr.get k = some b
  | [], _, _, h => .inr h
  | p :: bs, k, b, h => by
    replace h : ((setAll tr bs).set p.1 p.2).get k = some b := h
    rw [Tr.get_set] at h
    split at h
    · rename_i e
      injection h with h
      exact .inl (by rw [e, ← h]; simp)
    · rcases setAll_get h with h | h
      · exact .inl (List.mem_cons_of_mem _ h)
      · exact .inr h

theorem memoC_ok [Lay] {as : List C} {M M' : Mem} {r : C} : ∀ {l : List Memo}, memoC as M l = some (r, M') → ∃ m ∈ l, m.nx = M.nx ∧ as = m.as ∧ r = m.r ∧ M' = ⟨m.nx', setAll M.tr m.bs⟩
  | [], h => by cases h
  | m :: l, h => by
    simp only [memoC] at h
    cases hb : Nat.beq m.nx M.nx && sameC.sameL 1000 as m.as with
    | true =>
      rw [hb] at h
      replace h : some (m.r, (⟨m.nx', setAll M.tr m.bs⟩ : Mem)) = some (r, M') := h
      injection h with h; injection h with h1 h2
      simp only [Bool.and_eq_true] at hb
      have h3 : C.agg as = C.agg m.as := sameC_eq (n := 1001) hb.2
      injection h3 with h3
      exact ⟨m, by simp, nbeq_true hb.1, h3, h1.symm, h2.symm⟩
    | false =>
      rw [hb] at h
      replace h : memoC as M l = some (r, M') := h
      obtain ⟨m', h1, h2⟩ := memoC_ok h
      exact ⟨m', List.mem_cons_of_mem _ h1, h2⟩

/-- what was evaluated with nothing in memory is so with anything -/
theorem Step.over [Lay] {P : Program} {μ μ1 : Mp} {M M1 : Mem} {w w' : World} {bs : List (Nat × Blk)} (hm : MR P μ M w) (hf : Fresh μ M) (h : Step P (fun _ => none) ⟨M.nx, .lf⟩ w μ1 M1 w') (hb : ∀ p ∈ bs, M1.get p.1 = some p.2) :
    ∃ μ', Le μ1 μ' ∧ Step P μ M w μ' ⟨M1.nx, setAll M.tr bs⟩ w' := by
  have hnew : ∀ k x, μ1 k = some x → M.nx ≤ k := fun k x hk => h.new k rfl (by rw [hk]; simp)
  have hold : ∀ k x, μ k = some x → k < M.nx := fun k x hk => Nat.lt_of_not_le fun hge => by rw [hf.1 k hge] at hk; cases hk
  have hhome : ∀ k x, μ1 k = some x → w.heap.size ≤ x.g := fun k x hk => (h.home k x hk).elim (fun ⟨_, _, e, _⟩ => by cases e) id
  have hkeep : ∀ g, g < w.heap.size → w'.heap[g]? = w.heap[g]? := fun g hg => h.keep g hg fun k x e => by cases e
  let μ' : Mp := fun k => if k < M.nx then μ k else μ1 k
  have hcase : ∀ k x, μ' k = some x → (k < M.nx ∧ μ k = some x) ∨ (M.nx ≤ k ∧ μ1 k = some x) := fun k x hk => by
    simp only [μ'] at hk
    split at hk
    · exact .inl ⟨‹_›, hk⟩
    · exact .inr ⟨by omega, hk⟩
  have hle1 : Le μ1 μ' := fun k x hk => by
    have := hnew k x hk
    simp only [μ']
    rw [if_neg (by omega)]; exact hk
  have hle : Le μ μ' := fun k x hk => by
    simp only [μ']
    rw [if_pos (hold k x hk)]; exact hk
  -- a block is new, or was there
  have hget : ∀ k b, (Mem.mk M1.nx (setAll M.tr bs)).get k = some b → (M.nx ≤ k ∧ M1.get k = some b) ∨ (k < M.nx ∧ M.get k = some b) := fun k b hk => by
    rcases setAll_get hk with h1 | h1
    · have h2 := hb _ h1
      refine .inl ⟨Nat.le_of_not_lt fun hlt => ?_, h2⟩
      have := h.und k b hlt rfl h2
      cases this
    · have hlt : k < M.nx := Nat.lt_of_not_le fun hge => by
        have h2 : M.tr.get k = none := hf.2 k hge
        rw [h2] at h1; cases h1
      exact .inr ⟨hlt, h1⟩
  refine ⟨μ', hle1, ⟨hle, h.nx, fun k h0 h1 => ?_, ⟨fun k hk => ?_, fun k hk => ?_⟩, ⟨fun k x b hk hb' => ?_, fun k k' x x' b b' hk hk' hb1 hb2 hg hne => ?_, fun k x hk => ?_, hm.lay.step (fun g hg _ => hkeep g hg) fun k x hk => ?_⟩, fun k b hk h0 hb' => ?_, h.os, h.tape, h.output, h.size, fun g hg _ => hkeep g hg, fun k x hk => ?_⟩⟩
  · refine Nat.le_of_not_lt fun hlt => h1 ?_
    simp only [μ']
    rw [if_pos hlt]; exact h0
  · have hk : M1.nx ≤ k := hk
    have h1 : M.nx ≤ M1.nx := h.nx
    simp only [μ']
    rw [if_neg (by omega)]
    exact h.fresh.1 k hk
  · have hk : M1.nx ≤ k := hk
    have h1 : M.nx ≤ M1.nx := h.nx
    cases e : (Mem.mk M1.nx (setAll M.tr bs)).get k with
    | none => rfl
    | some b =>
      rcases hget k b e with ⟨_, h2⟩ | ⟨h2, _⟩
      · rw [h.fresh.2 k hk] at h2; cases h2
      · omega
  · rcases hcase k x hk with ⟨h1, h2⟩ | ⟨h1, h2⟩
    · rcases hget k b hb' with ⟨h3, _⟩ | ⟨_, h4⟩
      · omega
      · exact (hm.bk k x b h2 h4).mono hle (hkeep _ (hm.lt k x h2))
    · rcases hget k b hb' with ⟨_, h4⟩ | ⟨h3, _⟩
      · exact (h.mr.bk k x b h2 h4).mono hle1 rfl
      · omega
  · rcases hcase k x hk with ⟨h1, h2⟩ | ⟨h1, h2⟩
    · rcases hcase k' x' hk' with ⟨h1', h2'⟩ | ⟨h1', h2'⟩
      · rcases hget k b hb1 with ⟨h3, _⟩ | ⟨_, h4⟩
        · omega
        · rcases hget k' b' hb2 with ⟨h3, _⟩ | ⟨_, h4'⟩
          · omega
          · exact hm.al k k' x x' b b' h2 h2' h4 h4' hg hne
      · have := hm.lt k x h2
        have := hhome k' x' h2'
        omega
    · rcases hcase k' x' hk' with ⟨h1', h2'⟩ | ⟨h1', h2'⟩
      · have := hm.lt k' x' h2'
        have := hhome k x h2
        omega
      · rcases hget k b hb1 with ⟨_, h4⟩ | ⟨h3, _⟩
        · rcases hget k' b' hb2 with ⟨_, h4'⟩ | ⟨h3, _⟩
          · exact h.mr.al k k' x x' b b' h2 h2' h4 h4' hg hne
          · omega
        · omega
  · rcases hcase k x hk with ⟨_, h2⟩ | ⟨_, h2⟩
    · exact Nat.lt_of_lt_of_le (hm.lt k x h2) h.size
    · exact h.mr.lt k x h2
  · rcases hcase k x hk with ⟨_, h2⟩ | ⟨_, h2⟩
    · exact .inl ⟨k, x, h2, rfl⟩
    · exact .inr (hhome k x h2)
  · rcases hget k b hb' with ⟨h3, _⟩ | ⟨_, h4⟩
    · omega
    · exact h4
  · rcases hcase k x hk with ⟨_, h2⟩ | ⟨_, h2⟩
    · exact .inl ⟨k, x, h2, rfl⟩
    · exact .inr (hhome k x h2)

theorem none_mr [Lay] {P : Program} {μ : Mp} {M : Mem} {w : World} (hm : MR P μ M w) (n : Nat) : MR P (fun _ => none) ⟨n, .lf⟩ w ∧ Fresh (fun _ => none) ⟨n, .lf⟩ :=
  ⟨⟨fun k x b hk => (by cases hk), fun k k' x x' b b' hk => (by cases hk), fun k x hk => (by cases hk), hm.lay.sub fun k x hk => (by cases hk)⟩, fun _ _ => rfl, fun _ _ => rfl⟩

/-- a table of calls that were evaluated apart -/
theorem memo_snd [Lay] {E E0 : Env} {n g : Nat} {l : List Memo} (hP : E.P = E0.P) (hB : SndB E0 (runC E0 n)) (h : ∀ m ∈ l, memoOK E0 n g m = true) : SndC E.P fun f as M => if f = g then primC (.memo l) as M else none := by
  intro f as M r M' h1 μ w xs hm hf hx
  replace h1 : (if f = g then primC (.memo l) as M else none) = some (r, M') := h1
  split at h1
  · rename_i hfg; subst hfg
    replace h1 : memoC as M l = some (r, M') := h1
    obtain ⟨m, h2, h3, rfl, rfl, rfl⟩ := memoC_ok h1
    obtain ⟨k1, M1, k2, k3, k4⟩ := memoOK_ok (h m h2)
    rw [h3] at k2
    rw [hP] at hm ⊢
    obtain ⟨n1, n2⟩ := none_mr hm M.nx
    obtain ⟨r1, r2⟩ := hB f _ _ _ _ k2 _ w xs n1 n2 (hx.flatL k1)
    refine .inr ⟨r1, r2.callN.mono fun v w' ⟨μ1, q1, q2⟩ => ?_⟩
    obtain ⟨μ', q3, q4⟩ := Step.over hm hf q2 k4
    rw [k3] at q4
    exact ⟨μ', q1.mono q3, q4⟩
  · cases h1
end Go.Cx
namespace Go.Cx

/-! the tables are looked through -/
def trAll {α : Type} (p : Nat → α → Bool) : Tr α → Nat → Nat → Bool
  | .lf, _, _ => true
  | .nd v l r, a, b => (match v with | some x => p b x | none => true) && trAll p l (2 * a) (a + b) && trAll p r (2 * a) (2 * a + b)
theorem trAll_ok {α : Type} {p : Nat → α → Bool} : ∀ {t : Tr α} {a b k : Nat} {x : α}, trAll p t a b = true → t.get k = some x → p (a * k + b) x = true
  | .lf, _, _, _, _, _, h => by cases h
  | .nd v l r, a, b, k, x, h, hk => by
    simp only [trAll, Bool.and_eq_true] at h
    obtain ⟨⟨h1, h2⟩, h3⟩ := h
    rw [Tr.get_nd] at hk
    split at hk
    · rename_i e
      subst e; subst hk
      simpa using h1
    · rename_i e
      split at hk
      · rename_i e2
        have := trAll_ok h2 hk
        rwa [show 2 * a * (k / 2) + (a + b) = a * k + b by
          have : k = 2 * (k / 2) + 1 := by omega
          have h9 : a * k = a * (2 * (k / 2) + 1) := congrArg (a * ·) this
          rw [h9, Nat.mul_add, ← Nat.mul_assoc, Nat.mul_comm a 2]; omega] at this
      · rename_i e2
        have := trAll_ok h3 hk
        rwa [show 2 * a * (k / 2 - 1) + (2 * a + b) = a * k + b by
          have : k = 2 * (k / 2 - 1) + 2 := by omega
          have h9 : a * k = a * (2 * (k / 2 - 1) + 2) := congrArg (a * ·) this
          rw [h9, Nat.mul_add, ← Nat.mul_assoc, Nat.mul_comm a 2]; omega] at this
theorem trAll_all {α : Type} {p : Nat → α → Bool} {t : Tr α} (h : trAll p t 1 0 = true) {k : Nat} {x : α} (hk : t.get k = some x) : p k x = true := by
  have := trAll_ok h hk
  simpa using this

/-- what the program has in the places of a table -/
def lookT (P : Program) : Tr Func → Nat → Nat → Tr (Option Func)
  | .lf, _, _ => .lf
  | .nd v l r, a, b => .nd (match v with | some _ => some P.funcs[b]? | none => none) (lookT P l (2 * a) (a + b)) (lookT P r (2 * a) (2 * a + b))
def someT : Tr Func → Tr (Option Func)
  | .lf => .lf
  | .nd v l r => .nd (match v with | some x => some (some x) | none => none) (someT l) (someT r)
theorem lookT_get (P : Program) : ∀ {t : Tr Func} {a b k : Nat} {x : Func}, t.get k = some x → (lookT P t a b).get k = some P.funcs[a * k + b]?
  | .lf, _, _, _, _, h => by cases h
  | .nd v l r, a, b, k, x, hk => by
    rw [lookT.eq_def]; simp only []; rw [Tr.get_nd]
    rw [Tr.get_nd] at hk
    split at hk
    · rename_i e; subst e; subst hk
      simp
    · rename_i e
      rw [if_neg e]
      split at hk
      · rename_i e2
        rw [if_pos e2, lookT_get P hk]
        rw [show 2 * a * (k / 2) + (a + b) = a * k + b by
          have : k = 2 * (k / 2) + 1 := by omega
          have h9 : a * k = a * (2 * (k / 2) + 1) := congrArg (a * ·) this
          rw [h9, Nat.mul_add, ← Nat.mul_assoc, Nat.mul_comm a 2]; omega]
      · rename_i e2
        rw [if_neg e2, lookT_get P hk]
        rw [show 2 * a * (k / 2 - 1) + (2 * a + b) = a * k + b by
          have : k = 2 * (k / 2 - 1) + 2 := by omega
          have h9 : a * k = a * (2 * (k / 2 - 1) + 2) := congrArg (a * ·) this
          rw [h9, Nat.mul_add, ← Nat.mul_assoc, Nat.mul_comm a 2]; omega]
theorem someT_get : ∀ {t : Tr Func} {k : Nat} {x : Func}, t.get k = some x → (someT t).get k = some (some x)
  | .lf, _, _, h => by cases h
  | .nd v l r, k, x, hk => by
    rw [someT.eq_def]; simp only []; rw [Tr.get_nd]
    rw [Tr.get_nd] at hk
    split at hk
    · rename_i e; subst e; subst hk
      simp
    · rename_i e
      rw [if_neg e]
      split at hk
      · rename_i e2
        rw [if_pos e2]; exact someT_get hk
      · rename_i e2
        rw [if_neg e2]; exact someT_get hk
theorem lookT_ok {P : Program} {t : Tr Func} (h : lookT P t 1 0 = someT t) {g : Nat} {fn : Func} (hg : t.get g = some fn) : P.funcs[g]? = some fn := by
  have h1 := lookT_get P (a := 1) (b := 0) hg
  rw [h, someT_get hg] at h1
  injection h1 with h1
  simpa using h1.symm

noncomputable def fnOK (_ : Nat) (fn : Func) : Bool := (fn.name == "runtime.NumGoroutine") == false && match fn.body with
  | some c => codeOK fn.ntmps c
  | none => true

/-! types -/
noncomputable def zeroEq : C → Value → Bool
  | .int k n, .int k' n' => kindEq k k' && intEq n n'
  | .bool b, .bool b' => b == b'
  | .str [], .string s => match s.data.toList with | [] => true | _ => false
  | .nilp, .pointer none => true
  | .nils, .slice none n m => Nat.beq n 0 && Nat.beq m 0
  | .nilm, .map none => true
  | .nilf, .nilFunc => true
  | .nili, .nilIface => true
  | _, _ => false
noncomputable def zeroEqL : List C → List Value → Bool
  | [], [] => true
  | c :: l, v :: m => zeroEq c v && zeroEqL l m
  | _, _ => false
theorem zeroEq_ok {μ : Mp} {c : C} {v : Value} (h : zeroEq c v = true) : VR μ c v ∧ isCell c = true := by
  unfold zeroEq at h
  split at h
  · simp only [Bool.and_eq_true] at h
    have := kindEq_true h.1; subst this
    rw [intEq_eq] at h
    have := of_decide_eq_true h.2; subst this
    exact ⟨rfl, rfl⟩
  · rename_i b b'
    have : b = b' := by simpa using h
    subst this; exact ⟨rfl, rfl⟩
  · rename_i s
    refine ⟨⟨[], ?_, rfl⟩, rfl⟩
    split at h
    · rename_i he
      obtain ⟨⟨l⟩⟩ := s
      simp at he; subst he; rfl
    · cases h
  · exact ⟨rfl, rfl⟩
  · rename_i n m
    simp only [Bool.and_eq_true] at h
    have h1 := nbeq_true h.1
    have h2 := nbeq_true h.2
    subst h1; subst h2; exact ⟨rfl, rfl⟩
  · exact ⟨rfl, rfl⟩
  · exact ⟨rfl, rfl⟩
  · exact ⟨rfl, rfl⟩
  · cases h
theorem zeroEqL_ok {μ : Mp} : ∀ {l : List C} {m : List Value}, zeroEqL l m = true → VL μ l m ∧ ∀ c ∈ l, isCell c = true
  | [], [], _ => ⟨rfl, fun c hc => by cases hc⟩
  | [], _ :: _, h => by cases h
  | _ :: _, [], h => by cases h
  | c :: l, v :: m, h => by
    simp only [zeroEqL, Bool.and_eq_true] at h
    obtain ⟨h1, h2⟩ := zeroEqL_ok (μ := μ) h.2
    obtain ⟨h3, h4⟩ := zeroEq_ok (μ := μ) h.1
    refine ⟨VL.cons.2 ⟨h3, h1⟩, fun d hd => ?_⟩
    rcases List.mem_cons.1 hd with rfl | hd
    · exact h4
    · exact h2 d hd

noncomputable def fieldsOK (P : Program) : List (Nat × Nat × Nat) → List Field → Bool
  | [], [] => true
  | (off, n, t) :: l, f :: m => Nat.beq f.offset off && Nat.beq f.type t && (match P.info? f.type with | some i => Nat.beq i.size n | none => false) && fieldsOK P l m
  | _, _ => false
theorem fieldsOK_ok {P : Program} : ∀ {l : List (Nat × Nat × Nat)} {m : List Field}, fieldsOK P l m = true → l.length = m.length ∧ ∀ (j off n t : Nat), l[j]? = some (off, n, t) → ∃ (f : Field) (i : TypeInfo), m[j]? = some f ∧ f.offset = off ∧ f.type = t ∧ P.info? f.type = some i ∧ i.size = n
  | [], [], _ => ⟨rfl, fun j off n t h => by simp at h⟩
  | [], _ :: _, h => by cases h
  | _ :: _, [], h => by cases h
  | (off, n, t) :: l, f :: m, h => by
    simp only [fieldsOK, Bool.and_eq_true] at h
    obtain ⟨⟨⟨h1, h2⟩, h3⟩, h4⟩ := h
    obtain ⟨k1, k2⟩ := fieldsOK_ok h4
    refine ⟨by simp [k1], fun j off' n' t' hj => ?_⟩
    cases j with
    | zero =>
      simp at hj
      obtain ⟨rfl, rfl, rfl⟩ := hj
      split at h3
      · rename_i i hi
        exact ⟨f, i, rfl, nbeq_true h1, nbeq_true h2, hi, nbeq_true h3⟩
      · cases h3
    | succ j => simpa using k2 j off' n' t' (by simpa using hj)
noncomputable def descOK (P : Program) : TK → TypeDesc → Bool
  | .int k, .int k' => kindEq k k'
  | .bool, .bool => true
  | .string, .string => true
  | .struct fs, .struct F => fieldsOK P fs F.toList
  | .array n e, .array n' e' => Nat.beq n n' && Nat.beq e e'
  | .slice e, .slice e' => Nat.beq e e'
  | .ptr e, .pointer e' => Nat.beq e e'
  | .map k e, .map k' e' => Nat.beq k k' && Nat.beq e e'
  | .func, .func .. => true
  | .iface, .interface _ => true
  | .uptr, .unsafePointer => true
  | .other, d => match d with
    | .interface _ | .struct _ | .array .. => false
    | _ => true
  | _, _ => false
theorem descOK_ok {P : Program} {k : TK} {d : TypeDesc} (h : descOK P k d = true) : KD P k d := by
  unfold descOK at h
  split at h
  · have := kindEq_true h; subst this; rfl
  · rfl
  · rfl
  · rename_i fs F
    obtain ⟨h1, h2⟩ := fieldsOK_ok h
    refine ⟨F, rfl, by simpa using h1, fun j off n t hj => ?_⟩
    obtain ⟨f, i, k1, k2⟩ := h2 j off n t hj
    exact ⟨f, i, by simpa using k1, k2⟩
  · simp only [Bool.and_eq_true] at h
    have h1 := nbeq_true h.1
    have h2 := nbeq_true h.2
    subst h1; subst h2; rfl
  · have := nbeq_true h; subst this; rfl
  · have := nbeq_true h; subst this; rfl
  · simp only [Bool.and_eq_true] at h
    have h1 := nbeq_true h.1
    have h2 := nbeq_true h.2
    subst h1; subst h2; rfl
  · exact ⟨_, _, _, rfl⟩
  · exact ⟨_, rfl⟩
  · rfl
  · refine ⟨fun m e => ?_, fun F e => ?_, fun n x e => ?_⟩ <;> subst e <;> cases h
  · cases h
def isAggV : Value → Bool
  | .agg _ => true
  | _ => false
noncomputable def tyOK (P : Program) (t : Nat) (x : TI) : Bool :=
  match P.info? t, P.underlying t with
  | some i, some d => Nat.beq i.size x.size && Nat.beq i.bytes x.bytes && (match i.zero with
    | some z => zeroEqL x.zero z.cells.toList && (isAggV z == isAggK x.k)
    | none => false) && Nat.beq (len x.zero) x.size && descOK P x.k d
  | _, _ => false
theorem tyOK_ok {P : Program} {t : Nat} {x : TI} (h : tyOK P t x = true) : ∃ i d z, TOK P t x i d z := by
  unfold tyOK at h
  split at h
  · rename_i i d hi hd
    simp only [Bool.and_eq_true] at h
    obtain ⟨⟨⟨⟨h1, h2⟩, h3⟩, h4⟩, h5⟩ := h
    split at h3
    · rename_i z hz
      simp only [Bool.and_eq_true] at h3
      obtain ⟨h6, h7⟩ := h3
      obtain ⟨k1, k2⟩ := zeroEqL_ok (μ := fun _ => none) h6
      have h7 : isAggV z = isAggK x.k := by simpa using h7
      refine ⟨i, d, z, hi, hd, nbeq_true h1, nbeq_true h2, hz, k1, k2, by simpa using nbeq_true h4, fun ha => ?_, fun ha a e => ?_, descOK_ok h5⟩
      · rw [ha] at h7
        cases z <;> first | exact ⟨_, rfl⟩ | cases h7
      · subst e
        rw [ha] at h7; cases h7
    · cases h3
  · cases h

theorem eok_of {E : Env} (h1 : trAll (tyOK E.P) E.ty 1 0 = true) (h2 : lookT E.P E.fn 1 0 = someT E.fn) (h3 : trAll fnOK E.fn 1 0 = true) (h4 : E.P.follows .mixedOrders = true) : EOK E := by
  refine ⟨fun t x hx => tyOK_ok (trAll_all h1 hx), fun g fn hg => ?_, h4⟩
  have h5 := trAll_all h3 hg
  simp only [fnOK, Bool.and_eq_true] at h5
  refine ⟨lookT_ok h2 hg, by simpa using h5.1, fun c hc => ?_⟩
  have h6 := h5.2
  rw [hc] at h6; exact h6
end Go.Cx
