/- Definitions: both readers, both writers, and that what is written is read again; the laws of chapter 12 come out true for any text. -/
import Derived.Test.YtofblkofhgbefaaGreatDoorAvL
import Derived.Test.YtofblkofhgbefaaGreatDoorAvO
import Derived.Test.YtofblkofhgbefaaGreatDoorAvR
import Derived.Test.YtofblkofhgbefaaGreatDoorAvP
namespace Go.Proofs
open Go.Av
set_option maxHeartbeats 32000000
set_option maxRecDepth 100000
/-! definitions: the program's reader -/
structure Df where
  name : List UInt8
  ty : Ty
  tm : Tm
def dfC (d : Df) : List AVal := .str d.name :: .int .i64 d.ty.kind :: .str d.ty.name :: .int .i64 d.ty.n :: .slice (tysV d.ty.args) :: tmC d.tm
def dfsV (l : List Df) : List AVal := l.map fun d => .agg (dfC d)
theorem dfsV_len (l : List Df) : (dfsV l).length = l.length := by simp [dfsV]
theorem dfsV_get (l : List Df) (i : Nat) : (dfsV l)[i]? = (l[i]?).map fun d => .agg (dfC d) := by simp [dfsV]
theorem dfsV_nil : dfsV [] = [] := rfl
theorem dfsV_snoc (l : List Df) (n : List UInt8) (t : Ty) (x : Tm) : dfsV l ++ [.agg (.str n :: .int .i64 t.kind :: .str t.name :: .int .i64 t.n :: .slice (tysV t.args) :: tmC x)] = dfsV (l ++ [⟨n, t, x⟩]) := by simp [dfsV, dfC]
def dsR : Nat → List Df → Rd → Option (List Df × Rd)
  | 0, _, _ => none
  | f + 1, acc, r => match nameR f r with
    | none => none
    | some (t, r3) => match trR f .term (takeR r3 6 [61]) with
      | none => none
      | some (x, r5) => if seesR r5 6 [59] then dsR f (acc ++ [⟨wordR r 1 [], t, x⟩]) (takesR r5 6 [59]) else some (acc ++ [⟨wordR r 1 [], t, x⟩], r5)
theorem nameR_tot {f : Nat} {r : Rd} (h : 5 * r.l.length + 4 ≤ f) : ∃ x, nameR f r = some x := by
  unfold nameR
  have := ((takeR_suf (takeR r 1 []) 6 [58]).trans (takeR_suf r 1 [])).length_le
  exact typR_tot (by omega)
theorem dsR_tot : ∀ (f : Nat) (acc : List Df) (r : Rd), (∀ t ∈ r.l, tokF t) → 11 * r.l.length + 20 ≤ f → ∃ x, dsR f acc r = some x
  | 0, _, _, _, h => by omega
  | f + 1, acc, r, hl, h => by
    simp only [dsR]
    obtain ⟨⟨t, r3⟩, h3⟩ := nameR_tot (f := f) (r := r) (by omega)
    rw [h3]
    have l3 := (takeR_suf r3 6 [61]).trans (nameR_suf h3)
    have le3 := l3.length_le
    obtain ⟨⟨x, r5⟩, h5⟩ := trR_tot f .term (takeR r3 6 [61]) (memF hl l3) (needM_le (by omega) fun _ => by simp only [rankM]; omega)
    simp only [h5]
    have l5 := (trR_suf _ _ _ _ _ h5).trans l3
    have le5 := l5.length_le
    split
    · rename_i hs
      have k := takesR_len hs
      exact dsR_tot f _ _ (memF hl ((takesR_suf _ _ _).trans l5)) (by omega)
    · exact ⟨_, rfl⟩
def GDf (d : Df) : Prop := d.name.length ≤ 16 ∧ GT d.ty ∧ GM d.tm
def Df.tots (l : List Df) : Nat := (l.map fun d => 3 * d.ty.sz + d.tm.tot + 1).sum
theorem dftots_snoc (l : List Df) (d : Df) : Df.tots (l ++ [d]) = Df.tots l + (3 * d.ty.sz + d.tm.tot + 1) := by simp [Df.tots]
theorem dftots_mem {l : List Df} {d : Df} (h : d ∈ l) : 3 * d.ty.sz + d.tm.tot + 1 ≤ Df.tots l := by
  induction l with
  | nil => cases h
  | cons y l ih =>
    simp only [Df.tots, List.map_cons, List.sum_cons] at ih ⊢
    rcases List.mem_cons.1 h with rfl | h
    · omega
    · have := ih h; omega
theorem df_len (l : List Df) : l.length ≤ Df.tots l := by
  induction l with
  | nil => simp
  | cons y l ih => simp only [Df.tots, List.map_cons, List.sum_cons, List.length_cons] at ih ⊢; omega
theorem dsR_ok : ∀ (f : Nat) (acc : List Df) (r : Rd) (l : List Df) (r' : Rd), (∀ t ∈ r.l, tokF t) → dsR f acc r = some (l, r') → r'.bad = false → (∀ d, d ∈ acc → GDf d) →
    (∀ d, d ∈ l → GDf d) ∧ Df.tots l + 3 * r'.l.length ≤ Df.tots acc + 3 * r.l.length
  | 0, _, _, _, _, _, h, _, _ => by cases h
  | f + 1, acc, r, l, r', hl, h, hg, ha => by
    simp only [dsR] at h
    split at h
    · cases h
    · rename_i t r3 h3
      split at h
      · cases h
      · rename_i x r5 h5
        have l3 := (takeR_suf r3 6 [61]).trans (nameR_suf h3)
        have l5 := (trR_suf _ _ _ _ _ h5).trans l3
        have key : r5.bad = false → GDf ⟨wordR r 1 [], t, x⟩ ∧ 3 * t.sz + x.tot + 1 + 3 * r5.l.length + 4 ≤ 3 * r.l.length := by
          intro g5
          have g4 := takeR_len (trR_good h5 g5)
          have i3 := nameR_ok hl h3 g4.2
          have i5 := trR_ok _ _ _ _ _ (memF hl l3) h5 g5
          refine ⟨⟨wordR_ok (tok3 hl) _ _, i3.2.1, i5.1⟩, ?_⟩
          have := i3.2.2
          have := i5.2
          omega
        have snoc : r5.bad = false → ∀ d, d ∈ acc ++ [⟨wordR r 1 [], t, x⟩] → GDf d := by
          intro g5 d hd
          rcases List.mem_append.1 hd with hd | hd
          · exact ha d hd
          · rw [List.mem_singleton.1 hd]; exact (key g5).1
        split at h
        · rename_i hs
          have k := takesR_len hs
          have i := dsR_ok f _ _ _ _ (memF hl ((takesR_suf _ _ _).trans l5)) h hg (snoc k.2.2)
          refine ⟨i.1, ?_⟩
          have h1 := i.2
          rw [dftots_snoc] at h1
          have := (key k.2.2).2
          simp only at h1
          omega
        · injection h with h; injection h with h1 h2; subst h1 h2
          refine ⟨snoc hg, ?_⟩
          rw [dftots_snoc]
          have := (key hg).2
          simp only
          omega
def deepF (d : Df) : Bool := decide (d.ty.depth > 50) || d.tm.deep 0
def endD (l : List Df) (r : Rd) : List Df × Int := if r.bad || decide (0 < r.l.length) then ([], 120) else if l.any deepF then ([], 3) else (l, 0)
def defO (f : Nat) (s : List UInt8) : Option (List Df × Int) := if (scanO s).2 != 0 then some ([], (scanO s).2) else
  if decide (0 < (scanO s).1.length) then (match dsR f [] ⟨(scanO s).1, false⟩ with
    | none => none
    | some (l, r) => some (endD l r)) else some ([], 0)
theorem defO_tot (s : List UInt8) : ∃ p, defO F0 s = some p := by
  obtain ⟨h1, h2⟩ := scanO_F s
  unfold defO
  split
  · exact ⟨_, rfl⟩
  · split
    · obtain ⟨⟨x, r⟩, h3⟩ := dsR_tot F0 [] ⟨(scanO s).1, false⟩ h2 (by unfold F0; simp only; omega)
      rw [h3]; exact ⟨_, rfl⟩
    · exact ⟨_, rfl⟩
theorem defO_good {f : Nat} {s : List UInt8} {p : List Df × Int} (h : defO f s = some p) (h0 : p.2 = 0) : (∀ d, d ∈ p.1 → GDf d) ∧ Df.tots p.1 ≤ 12000 ∧ p.1.any deepF = false := by
  obtain ⟨hlen, hok⟩ := scanO_F s
  unfold defO at h
  split at h
  · rename_i he
    injection h with h; subst h
    simp only at h0
    rw [h0] at he
    exact absurd he (by decide)
  · split at h
    · split at h
      · cases h
      · rename_i x r hd
        injection h with h; subst h
        unfold endD at h0 ⊢
        cases hb : r.bad
        · have k := dsR_ok _ _ _ _ _ hok hd hb (fun d hd => by cases hd)
          rw [hb] at h0
          split at h0
          · exact absurd h0 (by decide)
          · split at h0
            · exact absurd h0 (by decide)
            · rename_i h3 h4
              rw [if_neg (by simpa using h3), if_neg h4]
              refine ⟨k.1, ?_, by simpa using h4⟩
              have := k.2
              simp only [Df.tots, List.map_nil, List.sum_nil] at this
              simp only [Df.tots]
              omega
        · rw [hb] at h0; simp at h0
    · injection h with h; subst h
      exact ⟨fun d hd => (by cases hd), by simp [Df.tots], rfl⟩
end Go.Proofs
namespace Go.Proofs
open Go.Av
set_option maxHeartbeats 32000000
set_option maxRecDepth 100000
theorem dfC_eq (d : Df) : dfC d = [.str d.name, .int .i64 d.ty.kind, .str d.ty.name, .int .i64 d.ty.n, .slice (tysV d.ty.args), .int .i64 d.tm.kind, .str d.tm.name, .int .i64 d.tm.ty.kind, .str d.tm.ty.name, .int .i64 d.tm.ty.n, .slice (tysV d.tm.ty.args), .int .i64 d.tm.co.kind, .str d.tm.co.name, .int .i64 d.tm.co.n, .int .i64 d.tm.co.ty.kind, .str d.tm.co.ty.name, .int .i64 d.tm.co.ty.n, .slice (tysV d.tm.co.ty.args), .slice (cxsV d.tm.co.kids), .slice (tmsV d.tm.kids), .slice (tasV d.tm.alts)] := by rw [dfC, tmC_eq]
theorem fparse_den {f : Nat} {s : List UInt8} {p : List Df × Int} (h : defO f s = some p) : den E 11 [.str s] [] = some (.tup [.slice (dfsV p.1), .int .i64 p.2], []) := by
  rw [den_eq prim_11, body_11]
  obtain ⟨hlen, hok⟩ := scanO_F s
  obtain ⟨pos, hT⟩ := scanO_T s
  have hsc := scanAll_den s
  rw [hT] at hsc
  unfold defO at h
  generalize (scanO s).1 = l at *
  generalize (scanO s).2 = e at *
  cases he : e == 0
  · have he' : (e != 0) = true := by rw [bne_not, he]; rfl
    rw [he', if_pos rfl] at h
    injection h with h; subst h
    simp only [go_sem, ↓reduceIte, Nat.reduceEqDiff, Nat.reduceAdd, reduceCtorEq, Tryz.f11, hsc, he', dfsV_nil]
  · have he' : (e != 0) = false := by rw [bne_not, he]; rfl
    rw [he'] at h
    simp only [Bool.false_eq_true, if_false] at h
    have hgt : ∀ l : List Tok, decide (((toksV l).length : Int) > 0) = decide (0 < l.length) := fun l => by rw [toksV_len]; simp
    obtain ⟨y, hy, hyp⟩ : ∃ y : List Df × Rd, (if decide (0 < l.length) then dsR f [] ⟨l, false⟩ else some ([], ⟨l, false⟩)) = some y ∧ p = endD y.1 y.2 := by
      cases hl : decide (0 < l.length)
      · rw [hl] at h
        simp only [Bool.false_eq_true, if_false] at h ⊢
        injection h with h
        refine ⟨_, rfl, ?_⟩
        rw [← h]
        simp only [endD, hl, Bool.or_self, Bool.false_eq_true, if_false, List.any_nil]
      · rw [hl] at h
        simp only [if_true] at h ⊢
        split at h
        · cases h
        · rename_i x r hx
          injection h with h
          exact ⟨(x, r), hx, h.symm⟩
    have hgood : y.2.bad = false → Df.tots y.1 ≤ 12000 := by
      intro hg
      cases hl : decide (0 < l.length)
      · rw [hl] at hy
        simp only [Bool.false_eq_true, if_false] at hy
        injection hy with hy; subst hy
        simp [Df.tots]
      · rw [hl] at hy
        simp only [if_true] at hy
        have := (dsR_ok _ _ _ _ _ hok (show dsR f [] ⟨l, false⟩ = some (y.1, y.2) from hy) hg (fun d hd => by cases hd)).2
        simp only [Df.tots, List.map_nil, List.sum_nil] at this ⊢
        omega
    obtain ⟨fin, hfin⟩ : ∃ fin, fin = some (AVal.tup [.slice (dfsV p.1), .int .i64 p.2], ([] : Heap)) := ⟨_, rfl⟩
    rw [← hfin]
    simp only [go_sem, ↓reduceIte, Nat.reduceEqDiff, Nat.reduceAdd, Nat.reduceLeDiff, reduceCtorEq, Tryz.f11, hsc, he', hgt]
    refine run_ind (fun x : Nat × List Df × Rd × Bool => x.2.2.1.l <:+ l ∧ (x.2.2.2 = true → x.2.1.length + x.2.2.1.l.length ≤ l.length) ∧ x.2.1.length ≤ l.length + 1 ∧ (if x.2.2.2 then dsR x.1 x.2.1 x.2.2.1 else some (x.2.1, x.2.2.1)) = some y)
      (fun x => ⟨[(7, .ptr (.loc 25) 0), (8, .own 103 0 (dfsV x.2.1)), (9, .bool x.2.2.2)], [], [(25, rdV x.2.2.1)], 1⟩) (fun _ => fin) (fun x => x.1) (f, [], ⟨l, false⟩, decide (0 < l.length)) ⟨List.suffix_refl _, fun _ => by simp, by simp, hy⟩ ?_ ?_
    · simp only [go_sem, ↓reduceIte, Nat.reduceEqDiff, reduceCtorEq, rdV, dfsV_nil]
    · rintro ⟨g, acc, r, more⟩ ⟨hs, hac, hac2, hr⟩ hrun
      simp only at hs hac hac2 hr hrun ⊢
      cases more
      · simp only [Bool.false_eq_true, if_false] at hr
        injection hr with hr; subst hr
        simp only at hgood hyp
        have hend := hgt r.l
        unfold endD at hyp
        cases hb : r.bad
        · rw [hb] at hyp
          cases hn : decide (0 < r.l.length)
          · rw [hn] at hyp
            simp only [Bool.or_self, Bool.false_eq_true, if_false] at hyp
            have hg2 := hgood hb
            have hdl := df_len acc
            simp only [go_sem, ↓reduceIte, Nat.reduceEqDiff, Nat.reduceAdd, Nat.one_ne_zero, beq_self_eq_true, rdV, hb, hgt, hn, dfsV_len]
            refine run_ind (fun i : Nat => i ≤ acc.length ∧ (acc.take i).any deepF = false) (fun i => ⟨[(8, .own 103 0 (dfsV acc)), (59, .slice (dfsV acc)), (60, .int .i64 acc.length), (61, .int .i64 i)], [], [], 1⟩) (fun _ => fin) (fun i => acc.length - i) 0 ⟨Nat.zero_le _, by simp⟩ ?_ ?_
            · simp only [go_sem, ↓reduceIte, Nat.reduceEqDiff, Int.cast_ofNat_Int]
            · rintro i ⟨hi, h0⟩ hrun2
              by_cases hc : i < acc.length
              · have hlt := natlt_t hc
                have hx : acc[i]? = some acc[i] := List.getElem?_eq_getElem hc
                have hg : (dfsV acc)[i]? = some (.agg (dfC acc[i])) := by rw [dfsV_get, hx]; rfl
                have hm := dftots_mem (List.getElem_mem hc)
                have d1 := tdepth_den _ acc[i].ty (Nat.le_refl _) (by omega)
                have d2 := fdeep_den _ acc[i].tm 0 (Nat.le_refl _) (by omega) (by omega)
                obtain ⟨ya, yb⟩ := any_take hx h0
                have w1 : IntKind.i64.wrap ((i : Int) + 1) = ((i + 1 : Nat) : Int) := wrapN (i + 1) (by omega)
                rw [dfC_eq] at hg
                rw [tyV_eq] at d1
                rw [tmC_eq, Int.natCast_zero] at d2
                have hdf : deepF acc[i] = (decide (acc[i].ty.depth > 50) || acc[i].tm.deep 0) := rfl
                cases q1 : decide (acc[i].ty.depth > 50)
                · cases q2 : acc[i].tm.deep 0
                  · rw [q2] at d2
                    simp only [go_sem, ↓reduceIte, Nat.reduceEqDiff, Nat.reduceAdd, Nat.reduceLeDiff, Nat.reduceLT, reduceCtorEq, beq_self_eq_true, hlt, natge0, tonat, hg, d1, natDeep, q1, d2]
                    refine hrun2 (i + 1) _ ⟨hc, yb (by rw [hdf, q1, q2]; rfl)⟩ (by omega) ?_
                    simp only [go_sem, ↓reduceIte, Nat.reduceEqDiff, w1]
                  · rw [q2] at d2
                    rw [ya (by rw [hdf, q1, q2]; rfl), if_pos rfl] at hyp
                    rw [hfin, hyp]
                    simp only [go_sem, ↓reduceIte, Nat.reduceEqDiff, Nat.reduceAdd, Nat.reduceLeDiff, Nat.reduceLT, reduceCtorEq, beq_self_eq_true, hlt, natge0, tonat, hg, d1, natDeep, q1, d2, dfsV_nil]
                · rw [ya (by rw [hdf, q1]; rfl), if_pos rfl] at hyp
                  rw [hfin, hyp]
                  simp only [go_sem, ↓reduceIte, Nat.reduceEqDiff, Nat.reduceAdd, Nat.reduceLeDiff, Nat.reduceLT, reduceCtorEq, hlt, natge0, tonat, hg, d1, natDeep, q1, dfsV_nil]
              · have hlt := natlt_f hc
                have hik : i = acc.length := by omega
                rw [hik, List.take_length] at h0
                rw [h0] at hyp
                simp only [Bool.false_eq_true, if_false] at hyp
                rw [hfin, hyp]
                simp only [go_sem, ↓reduceIte, Nat.reduceEqDiff, Nat.reduceAdd, beq_self_eq_true, hlt]
          · rw [hn] at hyp
            simp only [Bool.false_or, if_true] at hyp
            rw [hfin, hyp]
            simp only [go_sem, ↓reduceIte, Nat.reduceEqDiff, Nat.reduceAdd, Nat.one_ne_zero, beq_self_eq_true, rdV, hb, hgt, hn, dfsV_nil]
        · rw [hb] at hyp
          simp only [Bool.true_or, if_true] at hyp
          rw [hfin, hyp]
          simp only [go_sem, ↓reduceIte, Nat.reduceEqDiff, Nat.reduceAdd, Nat.one_ne_zero, beq_self_eq_true, rdV, hb, dfsV_nil]
      · simp only [if_true] at hr
        cases g with
        | zero => cases hr
        | succ g =>
          simp only [dsR] at hr
          split at hr
          · cases hr
          · rename_i t r3 h3
            split at hr
            · cases hr
            · rename_i x r5 h5
              have l3 := (takeR_suf r3 6 [61]).trans (nameR_suf h3)
              have l5 := (trR_suf _ _ _ _ _ h5).trans l3
              have hle := hs.length_le
              have d3 := fname_den g r (t, r3) (memF hok hs) (by omega) h3
              have d4 := ftake_den r3 6 [61]
              have d5 := trR_den g .term _ (x, r5) (memF hok (l3.trans hs)) (by have := l3.length_le; omega) h5
              have d6 := ftakes_den r5 [59]
              simp only [MDenF] at d5
              have hap : (dfsV acc).length + 1 ≤ appMax := by rw [dfsV_len]; unfold appMax; omega
              have hsn := dfsV_snoc acc (wordR r 1 []) t x
              simp only [rdV, tyV_eq, tmC_eq] at d3 d4 d5 d6 hsn
              have inv : (takesR r5 6 [59]).l <:+ l ∧ (seesR r5 6 [59] = true → (acc ++ [(⟨wordR r 1 [], t, x⟩ : Df)]).length + (takesR r5 6 [59]).l.length ≤ l.length) ∧ (acc ++ [(⟨wordR r 1 [], t, x⟩ : Df)]).length ≤ l.length + 1 ∧
                  (if seesR r5 6 [59] then dsR g (acc ++ [⟨wordR r 1 [], t, x⟩]) (takesR r5 6 [59]) else some (acc ++ [⟨wordR r 1 [], t, x⟩], takesR r5 6 [59])) = some y := by
                refine ⟨(takesR_suf r5 6 [59]).trans (l5.trans hs), fun hse => ?_, ?_, ?_⟩
                · have k := takesR_len hse
                  have := l5.length_le
                  have := hac rfl
                  rw [List.length_append, List.length_singleton]; omega
                · have := hac rfl
                  rw [List.length_append, List.length_singleton]; omega
                · cases hse : seesR r5 6 [59]
                  · rw [hse] at hr
                    simp only [Bool.false_eq_true, if_false] at hr ⊢
                    have : takesR r5 6 [59] = r5 := by unfold takesR; rw [hse]; rfl
                    rw [this]; exact hr
                  · rw [hse] at hr
                    simpa using hr
              simp only [go_sem, ↓reduceIte, Nat.reduceEqDiff, Nat.reduceAdd, Nat.reduceMul, Nat.reduceLeDiff, Nat.reduceLT, beq_self_eq_true, decide_true, rdV, d3, d4, d5, d6, hap, hsn]
              refine hrun (g, acc ++ [⟨wordR r 1 [], t, x⟩], takesR r5 6 [59], seesR r5 6 [59]) _ inv (by simp) ?_
              simp only [go_sem, ↓reduceIte, Nat.reduceEqDiff, rdV]
end Go.Proofs
namespace Go.Proofs
open Go.Av
set_option maxHeartbeats 32000000
set_option maxRecDepth 100000
/-! definitions: the document's reader -/
theorem rdepth5 (t : Ty) (h : t.sz < 1000000) : den E 55 [tyV t] [] = some (.int .i64 t.depth, []) := rdepth_den _ t (Nat.le_refl _) h
theorem r12parse_den {f : Nat} {s : List UInt8} {p : List Df × Int} (h : defO f s = some p) : den E 12 [.str s] [] = some (.tup [.slice (dfsV p.1), .int .i64 p.2], []) := by
  rw [den_eq prim_12, body_12]
  obtain ⟨hlen, hok⟩ := scanO_F s
  obtain ⟨pos, hT⟩ := scanO_T s
  have hsc := scanAll1_den s
  rw [hT] at hsc
  unfold defO at h
  generalize (scanO s).1 = l at *
  generalize (scanO s).2 = e at *
  have hok2 : ∀ t ∈ l, tokOK2 t := fun t ht => (hok t ht).1.1
  cases he : e == 0
  · have he' : (e != 0) = true := by rw [bne_not, he]; rfl
    rw [he', if_pos rfl] at h
    injection h with h; subst h
    simp only [go_sem, ↓reduceIte, Nat.reduceEqDiff, Nat.reduceAdd, reduceCtorEq, Tryz.f12, hsc, he', dfsV_nil]
  · have he' : (e != 0) = false := by rw [bne_not, he]; rfl
    rw [he'] at h
    simp only [Bool.false_eq_true, if_false] at h
    have hgt : ∀ l : List Tok, decide (((toksV l).length : Int) > 0) = decide (0 < l.length) := fun l => by rw [toksV_len]; simp
    obtain ⟨y, hy, hyp⟩ : ∃ y : List Df × Rd, (if decide (0 < l.length) then dsR f [] ⟨l, false⟩ else some ([], ⟨l, false⟩)) = some y ∧ p = endD y.1 y.2 := by
      cases hl : decide (0 < l.length)
      · rw [hl] at h
        simp only [Bool.false_eq_true, if_false] at h ⊢
        injection h with h
        refine ⟨_, rfl, ?_⟩
        rw [← h]
        simp only [endD, hl, Bool.or_self, Bool.false_eq_true, if_false, List.any_nil]
      · rw [hl] at h
        simp only [if_true] at h ⊢
        split at h
        · cases h
        · rename_i x r hx
          injection h with h
          exact ⟨(x, r), hx, h.symm⟩
    have hgood : y.2.bad = false → Df.tots y.1 ≤ 12000 := by
      intro hg
      cases hl : decide (0 < l.length)
      · rw [hl] at hy
        simp only [Bool.false_eq_true, if_false] at hy
        injection hy with hy; subst hy
        simp [Df.tots]
      · rw [hl] at hy
        simp only [if_true] at hy
        have := (dsR_ok _ _ _ _ _ hok (show dsR f [] ⟨l, false⟩ = some (y.1, y.2) from hy) hg (fun d hd => by cases hd)).2
        simp only [Df.tots, List.map_nil, List.sum_nil] at this ⊢
        omega
    obtain ⟨fin, hfin⟩ : ∃ fin, fin = some (AVal.tup [.slice (dfsV p.1), .int .i64 p.2], ([] : Heap)) := ⟨_, rfl⟩
    rw [← hfin]
    simp only [go_sem, ↓reduceIte, Nat.reduceEqDiff, Nat.reduceAdd, reduceCtorEq, Tryz.f12, hsc, he', hgt]
    refine run_ind (fun x : Nat × List Df × Rd × Bool × List Df => x.2.2.1.l <:+ l ∧ (x.2.2.2.1 = true → x.2.1.length + x.2.2.1.l.length ≤ l.length) ∧ x.2.1.length ≤ l.length + 1 ∧ (if x.2.2.2.1 then dsR x.1 x.2.1 x.2.2.1 else some (x.2.1, x.2.2.1)) = some y ∧ x.2.2.2.2.length = x.2.1.length ∧ (x.2.2.1.bad = false → x.2.2.2.2 = x.2.1))
      (fun x => ⟨[(4, .slice (toksV l)), (7, .own 107 0 (dfsV x.2.2.2.2)), (8, .int .i64 (idx l x.2.2.1)), (9, .bool x.2.2.2.1)], [], [], 1⟩) (fun _ => fin) (fun x => x.1) (f, [], ⟨l, false⟩, decide (0 < l.length), []) ⟨List.suffix_refl _, fun _ => by simp, by simp, hy, rfl, fun _ => rfl⟩ ?_ ?_
    · simp only [go_sem, ↓reduceIte, Nat.reduceEqDiff, reduceCtorEq, dfsV_nil, idx0]
    · rintro ⟨g, acc, r, more, acc'⟩ ⟨hs, hac, hac2, hr, hal, hax⟩ hrun
      simp only at hs hac hac2 hr hrun hal hax ⊢
      cases more
      · simp only [Bool.false_eq_true, if_false] at hr
        injection hr with hr; subst hr
        simp only at hgood hyp
        have hne := idx_ne hs
        unfold endD at hyp
        rw [← hne] at hyp
        cases hn : (idx l r != ((l.length : Nat) : Int))
        · rw [hn] at hyp hne
          have hb : r.bad = false := by revert hne; cases r.bad <;> simp
          have hxe := hax hb
          subst hxe
          simp only [Bool.false_eq_true, if_false] at hyp
          have hg2 := hgood hb
          have hdl := df_len acc'
          simp only [go_sem, ↓reduceIte, Nat.reduceEqDiff, Nat.reduceAdd, beq_self_eq_true, toksV_len, hn]
          refine run_ind (fun i : Nat => i ≤ acc'.length ∧ (acc'.take i).any deepF = false) (fun i => ⟨[(7, .own 107 0 (dfsV acc')), (13, .int .i64 i)], [], [], 1⟩) (fun _ => fin) (fun i => acc'.length - i) 0 ⟨Nat.zero_le _, by simp⟩ ?_ ?_
          · simp only [go_sem, ↓reduceIte, Nat.reduceEqDiff, Int.cast_ofNat_Int]
          · rintro i ⟨hi, h0⟩ hrun2
            by_cases hc : i < acc'.length
            · have hlt := natlt_t hc
              have hx : acc'[i]? = some acc'[i] := List.getElem?_eq_getElem hc
              have hg : (dfsV acc')[i]? = some (.agg (dfC acc'[i])) := by rw [dfsV_get, hx]; rfl
              have hm := dftots_mem (List.getElem_mem hc)
              have d1 := rdepth5 acc'[i].ty (by omega)
              have d2 := r12deep_den _ acc'[i].tm 0 (Nat.le_refl _) (by omega) (by omega)
              obtain ⟨ya, yb⟩ := any_take hx h0
              have w1 : IntKind.i64.wrap ((i : Int) + 1) = ((i + 1 : Nat) : Int) := wrapN (i + 1) (by omega)
              rw [dfC_eq] at hg
              rw [tyV_eq] at d1
              rw [tmC_eq, Int.natCast_zero] at d2
              have hdf : deepF acc'[i] = (decide (acc'[i].ty.depth > 50) || acc'[i].tm.deep 0) := rfl
              cases q2 : acc'[i].tm.deep 0
              · rw [q2] at d2
                cases q1 : decide (acc'[i].ty.depth > 50)
                · simp only [go_sem, ↓reduceIte, Nat.reduceEqDiff, Nat.reduceAdd, Nat.reduceLeDiff, reduceCtorEq, beq_self_eq_true, dfsV_len, hlt, natge0, tonat, hg, d1, natDeep, q1, d2]
                  refine hrun2 (i + 1) _ ⟨hc, yb (by rw [hdf, q1, q2]; rfl)⟩ (by omega) ?_
                  simp only [go_sem, ↓reduceIte, Nat.reduceEqDiff, w1]
                · rw [ya (by rw [hdf, q1]; rfl), if_pos rfl] at hyp
                  rw [hfin, hyp]
                  simp only [go_sem, ↓reduceIte, Nat.reduceEqDiff, Nat.reduceAdd, Nat.reduceLeDiff, reduceCtorEq, beq_self_eq_true, dfsV_len, hlt, natge0, tonat, hg, d1, natDeep, q1, d2, dfsV_nil]
              · rw [q2] at d2
                rw [ya (by rw [hdf, q2, Bool.or_true]), if_pos rfl] at hyp
                rw [hfin, hyp]
                simp only [go_sem, ↓reduceIte, Nat.reduceEqDiff, Nat.reduceAdd, Nat.reduceLeDiff, reduceCtorEq, dfsV_len, hlt, natge0, tonat, hg, d2, dfsV_nil]
            · have hlt := natlt_f hc
              have hik : i = acc'.length := by omega
              rw [hik, List.take_length] at h0
              rw [h0] at hyp
              simp only [Bool.false_eq_true, if_false] at hyp
              rw [hfin, hyp]
              simp only [go_sem, ↓reduceIte, Nat.reduceEqDiff, Nat.reduceAdd, beq_self_eq_true, dfsV_len, hlt]
        · rw [hn] at hyp
          simp only [if_true] at hyp
          rw [hfin, hyp]
          simp only [go_sem, ↓reduceIte, Nat.reduceEqDiff, Nat.reduceAdd, beq_self_eq_true, toksV_len, hn, dfsV_nil]
      · simp only [if_true] at hr
        cases g with
        | zero => cases hr
        | succ g =>
          simp only [dsR] at hr
          split at hr
          · cases hr
          · rename_i t r3 h3
            split at hr
            · cases hr
            · rename_i x r5 h5
              have l3 := (takeR_suf r3 6 [61]).trans (nameR_suf h3)
              have l5 := (trR_suf _ _ _ _ _ h5).trans l3
              have hle := hs.length_le
              unfold nameR at h3
              have c0 := text12_den l r hs
              have c1 := next12_den l r 1 [] hs (by omega)
              have hs2 := (takeR_suf r 1 []).trans hs
              have c2 := next12_den l (takeR r 1 []) 6 [58] hs2 (by omega)
              have hs3 := (takeR_suf (takeR r 1 []) 6 [58]).trans hs2
              obtain ⟨t', d3, e3⟩ := typ12_den l hok2 (by omega) g _ (t, r3) hs3 h3
              simp only at d3 e3
              have hs4 := (typR_suf h3).trans hs3
              have c4 := next12_den l r3 6 [61] hs4 (by omega)
              have hs5 := (takeR_suf r3 6 [61]).trans hs4
              have d5 := trR_ref l hok (by omega) g .term _ (x, r5) hs5 h5
              simp only [RT] at d5
              obtain ⟨x', d5, e5⟩ := d5
              have hs6 := (trR_suf _ _ _ _ _ h5).trans hs5
              have c6 := is12_den l r5 6 [59] hs6
              simp only at e5 d5
              have hap : (dfsV acc').length + 1 ≤ appMax := by rw [dfsV_len]; unfold appMax; omega
              have hsn := dfsV_snoc acc' (headR r) t' x'
              have hlast : r5.bad = false → (⟨headR r, t', x'⟩ : Df) = ⟨wordR r 1 [], t, x⟩ ∧ r.bad = false := by
                intro g5
                have g3 := takeR_good2 (trR_good h5 g5)
                have g1 := takeR_good2 (typR_good h3 g3)
                exact ⟨by rw [headR_sees (takeR_good g1), e3 g3, e5 g5], takeR_good2 g1⟩
              have inv : (takesR r5 6 [59]).l <:+ l ∧ (seesR r5 6 [59] = true → (acc ++ [(⟨wordR r 1 [], t, x⟩ : Df)]).length + (takesR r5 6 [59]).l.length ≤ l.length) ∧ (acc ++ [(⟨wordR r 1 [], t, x⟩ : Df)]).length ≤ l.length + 1 ∧
                  (if seesR r5 6 [59] then dsR g (acc ++ [⟨wordR r 1 [], t, x⟩]) (takesR r5 6 [59]) else some (acc ++ [⟨wordR r 1 [], t, x⟩], takesR r5 6 [59])) = some y ∧
                  (acc' ++ [(⟨headR r, t', x'⟩ : Df)]).length = (acc ++ [(⟨wordR r 1 [], t, x⟩ : Df)]).length ∧ ((takesR r5 6 [59]).bad = false → acc' ++ [(⟨headR r, t', x'⟩ : Df)] = acc ++ [⟨wordR r 1 [], t, x⟩]) := by
                refine ⟨(takesR_suf r5 6 [59]).trans (l5.trans hs), fun hse => ?_, ?_, ?_, ?_, ?_⟩
                · have k := takesR_len hse
                  have := l5.length_le
                  have := hac rfl
                  rw [List.length_append, List.length_singleton]; omega
                · have := hac rfl
                  rw [List.length_append, List.length_singleton]; omega
                · cases hse : seesR r5 6 [59]
                  · rw [hse] at hr
                    simp only [Bool.false_eq_true, if_false] at hr ⊢
                    have : takesR r5 6 [59] = r5 := by unfold takesR; rw [hse]; rfl
                    rw [this]; exact hr
                  · rw [hse] at hr
                    simpa using hr
                · rw [List.length_append, List.length_append, hal]; rfl
                · intro hg
                  have g5 : r5.bad = false := by
                    cases hse : seesR r5 6 [59]
                    · have : takesR r5 6 [59] = r5 := by unfold takesR; rw [hse]; rfl
                      rwa [this] at hg
                    · exact sees_good hse
                  obtain ⟨k1, k2⟩ := hlast g5
                  rw [hax k2, k1]
              rw [tyV_eq] at d3
              rw [tmC_eq] at d5 hsn
              cases hse : seesR r5 6 [59]
              · rw [hse] at c6
                have htk : takesR r5 6 [59] = r5 := by unfold takesR; rw [hse]; rfl
                rw [hse, htk] at inv
                simp only [go_sem, ↓reduceIte, Nat.reduceEqDiff, Nat.reduceAdd, Nat.reduceMul, Nat.reduceLeDiff, Nat.reduceLT, reduceCtorEq, decide_true, c0, c1, c2, d3, c4, d5, c6, hap, hsn]
                refine hrun (g, acc ++ [⟨wordR r 1 [], t, x⟩], r5, false, acc' ++ [⟨headR r, t', x'⟩]) _ inv (by simp) ?_
                simp only [go_sem, ↓reduceIte, Nat.reduceEqDiff]
              · rw [hse] at c6
                have w1 := idx_takes hs6 (by omega) hse
                rw [hse] at inv
                simp only [go_sem, ↓reduceIte, Nat.reduceEqDiff, Nat.reduceAdd, Nat.reduceMul, Nat.reduceLeDiff, Nat.reduceLT, reduceCtorEq, decide_true, c0, c1, c2, d3, c4, d5, c6, hap, hsn, w1]
                refine hrun (g, acc ++ [⟨wordR r 1 [], t, x⟩], takesR r5 6 [59], true, acc' ++ [⟨headR r, t', x'⟩]) _ inv (by simp) ?_
                simp only [go_sem, ↓reduceIte, Nat.reduceEqDiff]
end Go.Proofs
namespace Go.Proofs
open Go.Av
set_option maxHeartbeats 32000000
set_option maxRecDepth 100000
/-! definitions, written -/
def defT (d : Df) (t x : List UInt8) : List UInt8 := d.name ++ [32, 58, 32] ++ t ++ [32, 61, 32] ++ x
def dlR (F : Nat) : List Df → Option (List (List UInt8))
  | [] => some []
  | d :: r => match prR F .pr d.ty with
    | none => none
    | some t => match mpR F F d.tm with
      | none => none
      | some x => match dlR F r with
        | none => none
        | some ss => some (defT d t x :: ss)
theorem dlR_get {F : Nat} : ∀ {l : List Df} {ss : List (List UInt8)}, dlR F l = some ss → ss.length = l.length ∧ ∀ (i : Nat) (d : Df), l[i]? = some d → ∃ t x, prR F .pr d.ty = some t ∧ mpR F F d.tm = some x ∧ ss[i]? = some (defT d t x)
  | [], ss, h => by simp only [dlR, Option.some.injEq] at h; subst h; exact ⟨rfl, fun i d hd => by simp at hd⟩
  | d :: r, ss, h => by
    simp only [dlR] at h
    split at h
    · cases h
    · rename_i t ht
      split at h
      · cases h
      · rename_i x hx
        split at h
        · cases h
        · rename_i sr hr
          simp only [Option.some.injEq] at h; subst h
          have ih := dlR_get hr
          refine ⟨by simp [ih.1], fun i y hy => ?_⟩
          cases i with
          | zero => simp only [List.getElem?_cons_zero, Option.some.injEq] at hy; subst hy; exact ⟨t, x, ht, hx, rfl⟩
          | succ i => simpa using ih.2 i y (by simpa using hy)
theorem fdprint_den {F : Nat} {l : List Df} {ss : List (List UInt8)} (h : dlR F l = some ss) (hl : (Lib.join ss [59, 32]).length ≤ 3000000000) (ht : Df.tots l < 1000000) : den E 13 [.slice (dfsV l)] [] = some (.str (Lib.join ss [59, 32]), []) := by
  obtain ⟨g1, g2⟩ := dlR_get h
  have hdl := df_len l
  have dj := join_den ss [59, 32] (by omega) (by omega)
  rw [den_eq prim_13, body_13]
  simp only [go_sem, ↓reduceIte, Nat.reduceEqDiff, Nat.reduceAdd, reduceCtorEq, Tryz.f13, dfsV_len]
  refine run_for (fun i => ⟨[(3, .own 9 0 ((ss.take i).map .str)), (6, .slice (dfsV l)), (7, .int .i64 l.length), (8, .int .i64 i)], [], [], 1⟩) l.length ?_ ?_ ?_
  · simp only [go_sem, ↓reduceIte, Nat.reduceEqDiff, reduceCtorEq, Int.cast_ofNat_Int, List.take_zero, List.map_nil]
  · intro i hi hr
    obtain ⟨y, hy⟩ : ∃ y, l[i]? = some y := ⟨l[i], List.getElem?_eq_getElem hi⟩
    have hyt := dftots_mem (List.mem_of_getElem? hy)
    obtain ⟨t, x, h1, h2, hsb⟩ := g2 i y hy
    have d1 := tprint_den F y.ty t (by omega) h1
    have d2 := fprint_den F F y.tm x (by omega) h2
    have hml := join_mem_len (sep := [59, 32]) (List.mem_of_getElem? hsb)
    simp only [defT, List.length_append, List.length_cons, List.length_nil] at hml
    have hg : (dfsV l)[i]? = some (.agg (dfC y)) := by rw [dfsV_get, hy]; rfl
    have hlt := natlt_t hi
    have w1 : IntKind.i64.wrap ((i : Int) + 1) = ((i + 1 : Nat) : Int) := wrapN (i + 1) (by omega)
    have hap : ((ss.take i).map AVal.str).length + 1 ≤ appMax := by simp; unfold appMax; omega
    have hmap : (ss.take i).map AVal.str ++ [.str (y.name ++ 32 :: 58 :: 32 :: (t ++ 32 :: 61 :: 32 :: x))] = (ss.take (i + 1)).map AVal.str := by rw [take_snoc hsb]; simp [defT]
    rw [dfC_eq] at hg
    rw [tyV_eq] at d1
    rw [tmC_eq] at d2
    simp (disch := ((try simp only [List.length_append, List.length_cons, List.length_nil]); omega)) only [go_sem, ↓reduceIte, Nat.reduceEqDiff, Nat.reduceAdd, Nat.reduceMul, Nat.reduceLeDiff, Nat.one_ne_zero, Nat.reduceLT, reduceCtorEq, decide_true, le_str, hlt, natge0, tonat, hg, d1, d2, hap, List.append_assoc, List.cons_append, List.nil_append, List.length_append, List.length_cons, List.length_nil]
    rw [List.length_map] at hap
    simp (disch := ((try simp only [List.length_append, List.length_cons, List.length_nil]); omega)) only [go_sem, hmap]
    refine hr _ ?_
    simp only [go_sem, ↓reduceIte, Nat.reduceEqDiff, w1]
  · have hlt := natlt_f (Nat.lt_irrefl l.length)
    have htk : ss.take l.length = ss := by rw [← g1]; exact List.take_length
    simp (disch := ((try simp only [List.length_append, List.length_cons, List.length_nil]); omega)) only [go_sem, ↓reduceIte, Nat.reduceEqDiff, Nat.reduceAdd, beq_self_eq_true, hlt, htk, dj]
theorem r12print_den {F : Nat} {l : List Df} {ss : List (List UInt8)} (h : dlR F l = some ss) (hl : (Lib.join ss [59, 32]).length ≤ 3000000000) (ht : Df.tots l < 1000000) : den E 14 [.slice (dfsV l)] [] = some (.str (Lib.join ss [59, 32]), []) := by
  obtain ⟨g1, g2⟩ := dlR_get h
  have hdl := df_len l
  rw [den_eq prim_14, body_14]
  simp only [go_sem, ↓reduceIte, Nat.reduceEqDiff, Nat.reduceAdd, reduceCtorEq, Tryz.f14]
  refine run_for (fun i => ⟨[(0, .slice (dfsV l)), (3, .str (Lib.join (ss.take i) [59, 32])), (4, .int .i64 i)], [], [], 1⟩) l.length ?_ ?_ ?_
  · simp only [go_sem, ↓reduceIte, Nat.reduceEqDiff, reduceCtorEq, Int.cast_ofNat_Int, List.take_zero, Lib.join_nil]
  · intro i hi hr
    obtain ⟨y, hy⟩ : ∃ y, l[i]? = some y := ⟨l[i], List.getElem?_eq_getElem hi⟩
    have hyt := dftots_mem (List.mem_of_getElem? hy)
    obtain ⟨t, x, h1, h2, hsb⟩ := g2 i y hy
    have d1 := rprint_den F y.ty t (by omega) h1
    have d2 := r12tprint_den F F y.tm x (by omega) h2
    have hg : (dfsV l)[i]? = some (.agg (dfC y)) := by rw [dfsV_get, hy]; rfl
    have hlt := natlt_t hi
    have w1 : IntKind.i64.wrap ((i : Int) + 1) = ((i + 1 : Nat) : Int) := wrapN (i + 1) (by omega)
    have hjs := join_step [59, 32] hsb
    have hjl := join_take_le ss [59, 32] (i + 1)
    obtain ⟨Q, hQ⟩ : ∃ Q, Q = Lib.join (ss.take i) [59, 32] ++ (if decide (0 < i) then [59, 32] else []) := ⟨_, rfl⟩
    rw [← hQ, defT] at hjs
    have hfl := congrArg List.length hjs
    have hQl := congrArg List.length hQ
    simp only [List.length_append, List.length_cons, List.length_nil] at hfl
    have gt0 := natgt0 i
    rw [dfC_eq] at hg
    rw [tyV_eq] at d1
    rw [tmC_eq] at d2
    cases hb0 : decide (0 < i) <;> rw [hb0] at hQ gt0 hQl
    all_goals (
      (try simp only [Bool.false_eq_true, if_false, if_true, List.append_nil] at hQ hQl)
      (try simp only [List.length_append, List.length_cons, List.length_nil] at hQl)
      simp (disch := ((try simp only [List.length_append, List.length_cons, List.length_nil]); omega)) only [go_sem, ↓reduceIte, Nat.reduceEqDiff, Nat.reduceAdd, Nat.reduceLeDiff, Nat.one_ne_zero, reduceCtorEq, le_str, dfsV_len, hlt, natge0, tonat, hg, gt0, ← hQ, d1, d2, List.length_append, List.length_cons, List.length_nil]
      refine hr _ ?_
      simp only [go_sem, ↓reduceIte, Nat.reduceEqDiff, reduceCtorEq, w1, hjs, List.append_assoc, List.cons_append, List.nil_append])
  · have hlt := natlt_f (Nat.lt_irrefl l.length)
    have htk : ss.take l.length = ss := by rw [← g1]; exact List.take_length
    simp (disch := ((try simp only [List.length_append, List.length_cons, List.length_nil]); omega)) only [go_sem, ↓reduceIte, Nat.reduceEqDiff, Nat.reduceAdd, reduceCtorEq, beq_self_eq_true, dfsV_len, hlt, htk]
end Go.Proofs
namespace Go.Proofs
open Go.Av
set_option maxHeartbeats 8000000
set_option maxRecDepth 100000
/-! definitions: what is written is read -/
def WDf (d : Df) : Prop := isW 1 d.name ∧ WT d.ty ∧ WM d.tm
theorem dsR_W : ∀ (f : Nat) (acc : List Df) (r : Rd) (l : List Df) (r' : Rd), (∀ t ∈ r.l, tokW t) → dsR f acc r = some (l, r') → r'.bad = false → (∀ d, d ∈ acc → WDf d) → ∀ d, d ∈ l → WDf d
  | 0, _, _, _, _, _, h, _, _ => by cases h
  | f + 1, acc, r, l, r', hl, h, hg, ha => by
    simp only [dsR] at h
    split at h
    · cases h
    · rename_i t r3 h3
      split at h
      · cases h
      · rename_i x r5 h5
        have l3 := (takeR_suf r3 6 [61]).trans (nameR_suf h3)
        have l5 := (trR_suf _ _ _ _ _ h5).trans l3
        have snoc : r5.bad = false → ∀ d, d ∈ acc ++ [⟨wordR r 1 [], t, x⟩] → WDf d := by
          intro g5 d hd
          rcases List.mem_append.1 hd with hd | hd
          · exact ha d hd
          · rw [List.mem_singleton.1 hd]
            have g4 := takeR_len (trR_good h5 g5)
            have i3 := nameR_W hl h3 g4.2
            exact ⟨i3.2, i3.1, trR_W _ .term _ _ _ (memW hl l3) h5 g5⟩
        split at h
        · rename_i hs
          have k := takesR_len hs
          exact dsR_W f _ _ _ _ (memW hl ((takesR_suf _ _ _).trans l5)) h hg (snoc k.2.2)
        · injection h with h; injection h with h1 h2; subst h1 h2
          exact snoc hg
theorem def_fact {d : Df} (h : WDf d) (hs : d.ty.sz + d.tm.tot ≤ 100000) : ∃ t x k, (∀ F, 3 * (d.ty.sz + d.tm.tot) ≤ F → prR F .pr d.ty = some t ∧ mpR F F d.tm = some x) ∧ (defT d t x).length ≤ 100 * (d.ty.sz + d.tm.tot) + 22 ∧ Lx (defT d t x) k true ∧ k ≠ [] ∧
    ∀ l, l.map kt = k → ∀ rest, ∃ f, ∀ g, f ≤ g → ∃ r3, nameR g ⟨l ++ rest, false⟩ = some (d.ty, r3) ∧ trR g .term (takeR r3 6 [61]) = some (d.tm, ⟨rest, false⟩) ∧ wordR ⟨l ++ rest, false⟩ 1 [] = d.name := by
  obtain ⟨⟨t, kt', t1, t2⟩, _⟩ := ty_fact h.2.1 (by omega)
  obtain ⟨x, kx, x1, x2, x3, x4⟩ := term_fact h.2.2 (by omega)
  obtain ⟨⟨t', bt, t1'⟩, _⟩ := prR_tot h.2.1.GT (by omega)
  obtain ⟨x', bx, x1'⟩ := mpR_tot h.2.2.GM (by omega)
  have et : t' = t := by
    have a := t1 (3 * d.ty.sz) (Nat.le_refl _)
    have b := t1' (3 * d.ty.sz) (Nat.le_refl _)
    rw [a] at b; injection b with b; exact b.symm
  have ex : x' = x := by
    have a := x1 (3 * d.tm.tot) (3 * d.tm.tot) (Nat.le_refl _) (by omega)
    have b := x1' (3 * d.tm.tot) (3 * d.tm.tot) (Nat.le_refl _) (by omega)
    rw [a] at b; injection b with b; exact b.symm
  subst et ex
  have hn := (isW_span h.1).2.1
  refine ⟨t', x', ((1, d.name) :: (6, [58]) :: kt') ++ ((6, [61]) :: kx), fun F hF => ⟨t1 F (by omega), x1 F F (by omega) (by omega)⟩, ?_, ?_, by simp, ?_⟩
  · simp only [defT, List.length_append, List.length_cons, List.length_nil]; omega
  · have := Lx_append (Lx_append (Lx_append (Lx_append (Lx_word h.1) L58 (fun _ => by decide)) t2.lx (fun h => by cases h)) L61 (fun _ => by decide)) x2 (fun h => by cases h)
    simpa [defT] using this
  · intro l hl rest
    obtain ⟨p, q, rfl, hp, hq⟩ := map_app' hl
    obtain ⟨b, q', rfl, b1, b2, hq'⟩ := map_cons' hq
    obtain ⟨f1, hf1⟩ := nameR_read t2.typ hp (rest := b :: (q' ++ rest)) (fT_sign b1 b2 (by decide))
    obtain ⟨f2, hf2⟩ := x3 q' hq' rest
    refine ⟨max f1 f2, fun g hg => ⟨⟨b :: (q' ++ rest), false⟩, ?_⟩⟩
    obtain ⟨e1, e2⟩ := hf1 g (by omega)
    have e3 := hf2 g (by omega)
    have n1 := hitR (t := b) (q := q' ++ rest) (k := 6) (s := [61]) b1 (by simp [b2])
    have el : p ++ b :: q' ++ rest = p ++ b :: (q' ++ rest) := by simp
    rw [el]
    exact ⟨e1, by rw [n1.2.1]; exact e3, e2⟩
def DFact (l : List Df) : Prop := ∃ ss k, (∀ F, 3 * Df.tots l ≤ F → dlR F l = some ss) ∧ (Lib.join ss [59, 32]).length ≤ 200 * Df.tots l ∧ ((l = [] ∧ ss = [] ∧ k = []) ∨ (ss ≠ [] ∧ Lx (Lib.join ss [59, 32]) k true ∧ k ≠ [] ∧
  ∀ toks, toks.map kt = k → ∀ acc, ∃ f, ∀ g, f ≤ g → dsR g acc ⟨toks, false⟩ = some (acc ++ l, ⟨[], false⟩)))
theorem defs_fact : ∀ (l : List Df), (∀ d, d ∈ l → WDf d) → Df.tots l ≤ 100000 → DFact l
  | [], _, _ => ⟨[], [], fun F _ => rfl, by simp [Lib.join_nil], .inl ⟨rfl, rfl, rfl⟩⟩
  | d :: r, hw, hs => by
    have ht : Df.tots (d :: r) = 3 * d.ty.sz + d.tm.tot + 1 + Df.tots r := by simp [Df.tots]
    obtain ⟨t, x, k, h1, h2, h3, h4, h5⟩ := def_fact (hw d (List.mem_cons_self ..)) (by omega)
    obtain ⟨ss, kr, i1, i2, i3⟩ := defs_fact r (fun y hy => hw y (List.mem_cons_of_mem _ hy)) (by omega)
    have hall : ∀ F, 3 * Df.tots (d :: r) ≤ F → dlR F (d :: r) = some (defT d t x :: ss) := by
      intro F hF
      obtain ⟨a1, a2⟩ := h1 F (by omega)
      simp only [dlR, a1, a2, i1 F (by omega)]
    rcases i3 with ⟨rfl, rfl, rfl⟩ | ⟨hne, i3, i4, i5⟩
    · have hj : Lib.join [defT d t x] [59, 32] = defT d t x := by simp [Lib.join, List.intercalate]
      refine ⟨[defT d t x], k, hall, by rw [hj]; have := tm_tot_pos d.tm; have := sz_pos d.ty; omega, .inr ⟨by simp, by rw [hj]; exact h3, h4, ?_⟩⟩
      intro toks htk acc
      obtain ⟨f, hf⟩ := h5 toks htk []
      refine ⟨f + 1, fun g hg => ?_⟩
      obtain ⟨g, rfl⟩ : ∃ g', g = g' + 1 := ⟨g - 1, by omega⟩
      obtain ⟨r3, e1, e2, e3⟩ := hf g (by omega)
      rw [List.append_nil] at e1 e3
      have hr' : seesR ⟨[], false⟩ 6 [59] = false := rfl
      simp only [dsR, e1, e2, hr', Bool.false_eq_true, if_false, e3]
    · obtain ⟨y, ss', rfl⟩ : ∃ x y, ss = x :: y := by cases ss with
        | nil => exact absurd rfl hne
        | cons x y => exact ⟨x, y, rfl⟩
      refine ⟨defT d t x :: y :: ss', k ++ ((6, [59]) :: kr), hall, ?_, .inr ⟨by simp, ?_, by simp, ?_⟩⟩
      · rw [join_cons2]
        simp only [List.length_append, List.length_cons, List.length_nil]
        have := tm_tot_pos d.tm; have := sz_pos d.ty; omega
      · rw [join_cons2]
        have := Lx_append h3 (Lx_append L59 i3 (fun h => by cases h)) (fun _ => by rfl)
        simpa using this
      · intro toks htk acc
        obtain ⟨p, q, rfl, hp, hq⟩ := map_app' htk
        obtain ⟨b, q', rfl, b1, b2, hq'⟩ := map_cons' hq
        obtain ⟨f1, hf1⟩ := h5 p hp (b :: q')
        obtain ⟨f2, hf2⟩ := i5 q' hq' (acc ++ [d])
        refine ⟨max f1 f2 + 1, fun g hg => ?_⟩
        obtain ⟨g, rfl⟩ : ∃ g', g = g' + 1 := ⟨g - 1, by omega⟩
        obtain ⟨r3, e1, e2, e3⟩ := hf1 g (by omega)
        have e4 := hf2 g (by omega)
        have n1 := hitR (t := b) (q := q') (k := 6) (s := [59]) b1 (by simp [b2])
        simp only [dsR, e1, e2, n1.1, n1.2.2.1, if_true, e3]
        rw [show ({ name := d.name, ty := d.ty, tm := d.tm } : Df) = d from rfl, e4]
        simp
theorem defs_again {f : Nat} {s : List UInt8} {p : List Df × Int} (h : defO f s = some p) (h0 : p.2 = 0) : ∃ ss, (∀ F, 3 * Df.tots p.1 ≤ F → dlR F p.1 = some ss) ∧ (Lib.join ss [59, 32]).length ≤ 200 * Df.tots p.1 ∧
    ((∃ g, defO g (Lib.join ss [59, 32]) = some ([], 2)) ∨ ∃ g, defO g (Lib.join ss [59, 32]) = some (p.1, 0)) := by
  have hgood := defO_good h h0
  have hw : ∀ d, d ∈ p.1 → WDf d := by
    unfold defO at h
    split at h
    · rename_i he
      injection h with h; subst h
      intro d hd; cases hd
    · split at h
      · split at h
        · cases h
        · rename_i x r hd
          injection h with h; subst h
          unfold endD at h0 ⊢
          cases hb : r.bad
          · rw [hb] at h0
            split at h0
            · exact absurd h0 (by decide)
            · split at h0
              · exact absurd h0 (by decide)
              · rename_i h3 h4
                rw [if_neg (by simpa using h3), if_neg h4]
                exact dsR_W _ _ _ _ _ (scanO_W s) hd hb (fun d hd => by cases hd)
          · rw [hb] at h0; simp at h0
      · injection h with h; subst h
        intro d hd; cases hd
  obtain ⟨ss, k, h1, h2, h3⟩ := defs_fact p.1 hw (by omega)
  refine ⟨ss, h1, h2, ?_⟩
  rcases h3 with ⟨e1, e2, e3⟩ | ⟨hne, h3, h4, h5⟩
  · right
    refine ⟨0, ?_⟩
    rw [e1, e2, Lib.join_nil]
    rfl
  · rcases scanO_again h3 with h6 | ⟨l, h6, h7⟩
    · left
      refine ⟨0, ?_⟩
      unfold defO
      rw [h6]; rfl
    · right
      obtain ⟨g, hg⟩ := h5 l h7 []
      refine ⟨g, ?_⟩
      have := hg g (Nat.le_refl _)
      rw [List.nil_append] at this
      have hl : decide (0 < l.length) = true := by
        cases l with
        | nil => exact absurd h7.symm h4
        | cons a q => simp
      unfold defO
      rw [h6]
      simp only [this, bne_self_eq_false, Bool.false_eq_true, if_false, hl, if_true]
      unfold endD
      simp only [hgood.2.2, List.length_nil, Nat.lt_irrefl, decide_false, Bool.or_self, Bool.false_eq_true, if_false]
end Go.Proofs
namespace Go.Proofs
open Go.Av
set_option maxHeartbeats 32000000
set_option maxRecDepth 100000
/-! the laws of chapter 12: the examples, and terms -/
def chkX (f : Nat) (s t : List UInt8) : Bool := match tmO f s with
  | some p => if p.2 == 0 then mpR f f p.1 == some t else t == [110, 111, 110, 101]
  | none => false
theorem text_chk {f : Nat} {s t : List UInt8} (h : chkX f s t = true) : den E 40 [.str s] [] = some (.str t, []) := by
  unfold chkX at h
  split at h
  · rename_i p hp
    have h1 := fpterm_den hp
    rw [den_eq prim_40, body_40]
    split at h
    · rename_i h0
      simp only [beq_iff_eq] at h h0
      have k := tmO_good hp h0
      have hb : (p.2 != 0) = false := by rw [h0]; rfl
      have d2 := fprint_den f f p.1 t (by have := k.2.1; omega) h
      simp only [tmC_eq] at h1 d2
      simp only [go_sem, ↓reduceIte, Nat.reduceEqDiff, Nat.reduceAdd, Nat.reduceLeDiff, Nat.reduceLT, reduceCtorEq, Tryz.f40, h1, hb, d2]
    · rename_i h0
      have hb : (p.2 != 0) = true := by simpa [bne] using h0
      have e : t = [110, 111, 110, 101] := by simpa using h
      subst e
      simp only [tmC_eq] at h1
      simp only [go_sem, ↓reduceIte, Nat.reduceEqDiff, Nat.reduceAdd, Nat.reduceLeDiff, Nat.reduceLT, reduceCtorEq, Tryz.f40, h1, hb]
  · cases h
def chkF (f : Nat) (s t : List UInt8) : Bool := match defO f s with
  | some p => p.2 == 0 && (match dlR f p.1 with
    | some ss => Lib.join ss [59, 32] == t && decide (t.length ≤ 1000)
    | none => false)
  | none => false
theorem defs_chk {f : Nat} {s t : List UInt8} (h : chkF f s t = true) : ∃ l, den E 11 [.str s] [] = some (.tup [.slice (dfsV l), .int .i64 0], []) ∧ den E 13 [.slice (dfsV l)] [] = some (.str t, []) := by
  unfold chkF at h
  split at h
  · rename_i p hp
    simp only [Bool.and_eq_true, beq_iff_eq] at h
    obtain ⟨h0, h⟩ := h
    split at h
    · rename_i ss hss
      simp only [Bool.and_eq_true, beq_iff_eq, decide_eq_true_eq] at h
      have k := defO_good hp h0
      have h1 := fparse_den hp
      rw [h0] at h1
      have h2 := fdprint_den hss (by rw [h.1]; omega) (by have := k.2.1; omega)
      rw [h.1] at h2
      exact ⟨p.1, h1, h2⟩
    · cases h
  · cases h
theorem xchk0 : chkF 300 [105, 100, 58, 102, 111, 114, 97, 108, 108, 32, 97, 46, 97, 45, 62, 97, 61, 40, 33, 97, 46, 40, 92, 120, 58, 97, 46, 120, 41, 41] [105, 100, 32, 58, 32, 102, 111, 114, 97, 108, 108, 32, 97, 46, 32, 97, 32, 45, 62, 32, 97, 32, 61, 32, 40, 33, 97, 46, 32, 40, 92, 120, 32, 58, 32, 97, 46, 32, 120, 41, 41] = true := by kernel_rfl
theorem xchk1 : chkX 300 [40, 99, 97, 115, 101, 32, 120, 58, 84, 32, 111, 102, 123, 75, 32, 64, 98, 32, 126, 99, 32, 121, 45, 62, 40, 121, 124, 62, 40, 83, 121, 109, 32, 99, 41, 41, 59, 76, 45, 62, 122, 125, 41] [40, 99, 97, 115, 101, 32, 120, 32, 58, 32, 84, 32, 111, 102, 32, 123, 75, 32, 64, 98, 32, 126, 99, 32, 121, 32, 45, 62, 32, 40, 121, 32, 124, 62, 32, 40, 83, 121, 109, 32, 99, 41, 41, 59, 32, 76, 32, 45, 62, 32, 122, 125, 41] = true := by kernel_rfl
theorem xchk2 : chkX 300 [40, 40, 75, 32, 64, 32, 73, 110, 116, 41, 32, 126, 32, 60, 73, 110, 116, 62, 41] [40, 40, 75, 32, 64, 32, 73, 110, 116, 41, 32, 126, 32, 60, 73, 110, 116, 62, 41] = true := by kernel_rfl
theorem xchk3 : chkX 300 [40, 102, 32, 120, 32, 121, 41] [110, 111, 110, 101] = true := by kernel_rfl
theorem xchk4 : chkX 300 [92, 120, 32, 58, 32, 97, 46, 32, 120] [110, 111, 110, 101] = true := by kernel_rfl
theorem xchk5 : chkX 300 [40, 102, 41] [110, 111, 110, 101] = true := by kernel_rfl
theorem xchk6 : chkX 300 [40, 108, 101, 116, 32, 120, 32, 58, 32, 84, 32, 61, 32, 121, 32, 105, 110, 32, 120, 41] [40, 108, 101, 116, 32, 120, 32, 58, 32, 84, 32, 61, 32, 121, 32, 105, 110, 32, 120, 41] = true := by kernel_rfl
theorem awake12_den : den E 10 [] [] = some (.bool true, []) := by
  obtain ⟨l, h1, h2⟩ := defs_chk xchk0
  have t1 := text_chk xchk1
  have t2 := text_chk xchk2
  have t3 := text_chk xchk3
  have t4 := text_chk xchk4
  have t5 := text_chk xchk5
  have t6 := text_chk xchk6
  dsimp only at h1 h2 t1 t2 t3 t4 t5 t6
  rw [den_eq prim_10, body_10]
  simp only [go_sem, ↓reduceIte, Nat.reduceEqDiff, Nat.reduceAdd, Nat.zero_ne_one, reduceCtorEq, beq_self_eq_true, Tryz.f10, List.cons_append, List.nil_append, h1, h2, t1, t2, t3, t4, t5, t6]
theorem lterms_den (s : List UInt8) : den E 4 [.str s] [] = some (.bool true, []) := by
  rw [den_eq prim_4, body_4]
  have ha := awake12_den
  obtain ⟨p, hp⟩ := tmO_tot s
  have h1 := fpterm_den hp
  have h2 := r12pterm_den hp
  cases h0 : (p.2 != 0)
  · have h00 : p.2 = 0 := by rw [bne_not] at h0; simpa using h0
    have k := tmO_good hp h00
    have kt := k.2.1
    obtain ⟨t, ht, hag⟩ := term_again hp h00
    have hF := ht F0 F0 (by unfold F0; omega) (by unfold F0; omega)
    have d1 := fprint_den F0 F0 p.1 t (by omega) hF
    have d2 := r12tprint_den F0 F0 p.1 t (by omega) hF
    rcases hag with ⟨g, hg⟩ | ⟨g, hg⟩
    · have h3 := fpterm_den hg
      rw [zTmC] at h3
      simp only [tmC_eq] at h1 h2 d1 d2
      simp only [go_sem, ↓reduceIte, Nat.reduceEqDiff, Nat.reduceAdd, Nat.reduceLeDiff, Nat.reduceLT, reduceCtorEq, beq_self_eq_true, Tryz.f4, ha, h1, h2, bne_self_eq_false, h0, d1, h3]
    · have h3 := fpterm_den hg
      simp only [tmC_eq] at h1 h2 h3 d1 d2
      simp only [go_sem, ↓reduceIte, Nat.reduceEqDiff, Nat.reduceAdd, Nat.reduceLeDiff, Nat.reduceLT, reduceCtorEq, beq_self_eq_true, Int.reduceBEq, Tryz.f4, ha, h1, h2, bne_self_eq_false, h0, d1, d2, h3]
  · simp only [tmC_eq] at h1 h2
    simp only [go_sem, ↓reduceIte, Nat.reduceEqDiff, Nat.reduceAdd, Nat.reduceLeDiff, Nat.reduceLT, reduceCtorEq, Tryz.f4, ha, h1, h2, bne_self_eq_false, h0]
end Go.Proofs
namespace Go.Proofs
open Go.Av
set_option maxHeartbeats 32000000
set_option maxRecDepth 100000
theorem lreads_den (s : List UInt8) : den E 3 [.str s] [] = some (.bool true, []) := by
  rw [den_eq prim_3, body_3]
  have ha := awake12_den
  obtain ⟨p, hp⟩ := defO_tot s
  have h1 := fparse_den hp
  have h2 := r12parse_den hp
  cases h0 : (p.2 != 0)
  · have h00 : p.2 = 0 := by rw [bne_not] at h0; simpa using h0
    have k := (defO_good hp h00).2.1
    obtain ⟨ss, hss, hl, hag⟩ := defs_again hp h00
    have hF := hss F0 (by unfold F0; omega)
    have d1 := fdprint_den hF (by omega) (by omega)
    have d2 := r12print_den hF (by omega) (by omega)
    rcases hag with ⟨g, hg⟩ | ⟨g, hg⟩
    · have h3 := fparse_den hg
      have d3 := fdprint_den (F := 0) (l := []) (ss := []) rfl (by simp [Lib.join_nil]) (by simp [Df.tots])
      rw [Lib.join_nil] at d3
      simp only [dfsV_nil] at h3 d3
      simp only [go_sem, ↓reduceIte, Nat.reduceEqDiff, Nat.reduceAdd, reduceCtorEq, beq_self_eq_true, Tryz.f3, ha, h1, h2, bne_self_eq_false, h0, d1, d2, h3, d3]
    · have h3 := fparse_den hg
      simp only [go_sem, ↓reduceIte, Nat.reduceEqDiff, Nat.reduceAdd, reduceCtorEq, beq_self_eq_true, Int.reduceBEq, Tryz.f3, ha, h1, h2, bne_self_eq_false, h0, d1, d2, h3]
  · simp only [go_sem, ↓reduceIte, Nat.reduceEqDiff, Nat.reduceAdd, reduceCtorEq, Tryz.f3, ha, h1, h2, bne_self_eq_false, h0]
end Go.Proofs
