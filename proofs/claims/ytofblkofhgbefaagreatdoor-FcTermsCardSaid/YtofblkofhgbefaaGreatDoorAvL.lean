/- What is left of terms and expressions; the laws without the document. -/
import Derived.Test.YtofblkofhgbefaaGreatDoorAvK
namespace Go.Proofs
open Go.Av
set_option maxHeartbeats 32000000
set_option maxRecDepth 100000
/-! what is left of an expression -/
mutual
def Ex.src : Ex → Ex
  | .mk k s _ _ ks al => if k == 7 then (Ex.srcs ks).headD zEx else .mk k s false zTy (Ex.srcs ks) (Al.srcs al)
def Ex.srcs : List Ex → List Ex
  | [] => []
  | e :: r => Ex.src e :: Ex.srcs r
def Al.src : Al → Al
  | .mk c v e => .mk c v (Ex.src e)
def Al.srcs : List Al → List Al
  | [] => []
  | a :: r => Al.src a :: Al.srcs r
end
end Go.Proofs
namespace Go.Proofs
open Go.Av
set_option maxHeartbeats 32000000
set_option maxRecDepth 100000
/-! the document's -/
/-! what is left of a term -/
def overK (k : Int) : Bool := k == 4 || (k == 6 || (k == 7 || k == 10))
end Go.Proofs
namespace Go.Proofs
open Go.Av
set_option maxHeartbeats 32000000
set_option maxRecDepth 100000
theorem ta_vars {l : List Ta} {a : Ta} (h : a ∈ l) : a.body.tot + 1 ≤ Ta.tots l := by
  induction l with
  | nil => cases h
  | cons b l ih =>
    rcases List.mem_cons.1 h with rfl | h
    · cases a with | mk c x y z e => simp only [Ta.tots, Ta.tot, Ta.body]; omega
    · have := ih h; simp only [Ta.tots]; omega
theorem ta_len (l : List Ta) : l.length ≤ Ta.tots l := by
  induction l with
  | nil => simp
  | cons b l ih => cases b with | mk c x y z e => simp only [Ta.tots, Ta.tot, List.length_cons]; omega
/-! how deep: the program's -/
theorem maxI (a b : Nat) : (if ((b : Int) > a) then (b : Int) else a) = ((max a b : Nat) : Int) := max_if a b
theorem cdepth_den : ∀ (n : Nat) (c : Cx), c.tot ≤ n → c.tot < 1000000 → den E 89 [.agg (cxC c)] [] = some (.tup [.int .i64 c.within, .int .i64 c.tdep], []) := by
  intro n
  induction n with
  | zero => intro c h; have := cx_tot_pos c; omega
  | succ n ih =>
    intro c hn hs
    have ht : c.tot = c.ty.sz + Cx.tots c.kids := by cases c; simp [Cx.tot, Cx.ty, Cx.kids]
    have hl := cx_tots_len c.kids
    have hd := tdepth_den c.ty.sz c.ty (Nat.le_refl _) (by omega)
    have hwd : ∀ m : Nat, Cx.withins (c.kids.take m) ≤ 1000000 := by
      intro m
      have : ∀ l : List Cx, Cx.withins l ≤ Cx.tots l := by
        have key : ∀ k (x : Cx), x.tot ≤ k → x.within ≤ x.tot := by
          intro k
          induction k with
          | zero => intro x h; have := cx_tot_pos x; omega
          | succ k ihk =>
            intro x hx
            cases x with
            | mk a b d t ks =>
              have : ∀ l : List Cx, Cx.tots l ≤ k → Cx.withins l ≤ Cx.tots l := by
                intro l
                induction l with
                | nil => intro _; simp [Cx.withins]
                | cons y l ihl =>
                  intro hl
                  simp only [Cx.tots] at hl
                  have := ihk y (by omega)
                  have := ihl (by omega)
                  simp only [Cx.withins, Cx.tots]; omega
              rw [cx_tot_mk] at hx
              have h1 := this ks (by have := sz_pos t; omega)
              rw [cx_within_eq, cx_tot_mk]
              simp only [cxmk]
              have := sz_pos t
              omega
        intro l
        induction l with
        | nil => simp [Cx.withins]
        | cons y l ihl =>
          have := key y.tot y (Nat.le_refl _)
          simp only [Cx.withins, Cx.tots]; omega
      have h1 := this (c.kids.take m)
      have h2 : Cx.tots (c.kids.take m) ≤ Cx.tots c.kids := by
        have : ∀ (l : List Cx) (m : Nat), Cx.tots (l.take m) ≤ Cx.tots l := by
          intro l
          induction l with
          | nil => intro m; simp
          | cons y l ihl =>
            intro m
            cases m with
            | zero => simp [Cx.tots]
            | succ m => simp only [List.take_succ_cons, Cx.tots]; have := ihl m; omega
        exact this _ m
      omega
    rw [den_eq prim_89, body_89, cxC_eq, cx_within_eq, cx_tdep_eq]
    obtain ⟨d0, hd0⟩ : ∃ d0 : Nat, d0 = (if c.kind == 2 || c.kind == 9 then c.ty.depth else 0) := ⟨_, rfl⟩
    rw [← hd0]
    obtain ⟨fin, hfin⟩ : ∃ fin, fin = some (AVal.tup [.int .i64 ((Cx.withins c.kids + 1 : Nat) : Int), .int .i64 ((max d0 (Cx.tdeps c.kids) : Nat) : Int)], ([] : Heap)) := ⟨_, rfl⟩
    rw [← hfin]
    rw [tyV_eq] at hd
    have e1 : ((Cx.withins c.kids + 1 : Nat) : Int) = ((Cx.withins c.kids + 1 : Nat) : Int) := rfl
    cases k29 : (c.kind == 2 || c.kind == 9)
    · rw [k29] at hd0
      simp only [Bool.or_eq_false_iff] at k29
      simp only [Bool.false_eq_true, if_false] at hd0
      simp only [go_sem, ↓reduceIte, Nat.reduceEqDiff, Nat.reduceAdd, Nat.zero_ne_one, Nat.one_ne_zero, reduceCtorEq, beq_self_eq_true, Tryz.f89, k29.1, k29.2]
      refine run_for (fun i => ⟨[(2, .int .i64 ((Cx.withins (c.kids.take i) : Nat) : Int)), (3, .int .i64 ((max d0 (Cx.tdeps (c.kids.take i)) : Nat) : Int)), (20, .slice (cxsV c.kids)), (21, .int .i64 c.kids.length), (22, .int .i64 i)], [], [], 1⟩) c.kids.length ?_ ?_ ?_
      · simp only [go_sem, ↓reduceIte, Nat.reduceEqDiff, reduceCtorEq, Int.cast_ofNat_Int, cxsV_len, List.take_zero, Cx.withins, Cx.tdeps, Nat.max_zero, hd0]
      · intro i hi hrun
        have hlt := natlt_t hi
        have hx : c.kids[i]? = some c.kids[i] := List.getElem?_eq_getElem hi
        have hg : (cxsV c.kids)[i]? = some (.agg (cxC c.kids[i])) := by rw [cxsV_get, hx]; rfl
        have hm := cx_tots_mem (List.getElem_mem hi)
        have hp := sz_pos c.ty
        have d := ih c.kids[i] (by omega) (by omega)
        have hw := wrapN (i + 1) (by omega)
        have hw' : IntKind.i64.wrap ((i : Int) + 1) = ((i + 1 : Nat) : Int) := hw
        have m1 : (if (((c.kids[i]).within : Int) > ((Cx.withins (c.kids.take i) : Nat) : Int)) then (((c.kids[i]).within : Nat) : Int) else ((Cx.withins (c.kids.take i) : Nat) : Int)) = ((Cx.withins (c.kids.take (i + 1)) : Nat) : Int) := by rw [maxI, take_snoc hx, cx_withins_snoc]
        have m2 : (if (((c.kids[i]).tdep : Int) > ((max d0 (Cx.tdeps (c.kids.take i)) : Nat) : Int)) then (((c.kids[i]).tdep : Nat) : Int) else ((max d0 (Cx.tdeps (c.kids.take i)) : Nat) : Int)) = ((max d0 (Cx.tdeps (c.kids.take (i + 1))) : Nat) : Int) := by rw [maxI, take_snoc hx, cx_tdeps_snoc, Nat.max_assoc]
        simp only [cxC_eq] at hg d
        simp only [go_sem, ↓reduceIte, Nat.reduceEqDiff, Nat.reduceAdd, Nat.reduceLeDiff, Nat.reduceLT, hlt, natge0, tonat, hg, d, m1, m2]
        refine hrun _ ?_
        simp only [go_sem, ↓reduceIte, Nat.reduceEqDiff, hw']
      · have hlt := natlt_f (Nat.lt_irrefl c.kids.length)
        have hw0 := hwd c.kids.length
        rw [List.take_length] at hw0
        have hw := wrapN (Cx.withins c.kids + 1) (by omega)
        have hw' : IntKind.i64.wrap (((Cx.withins c.kids : Nat) : Int) + 1) = ((Cx.withins c.kids + 1 : Nat) : Int) := hw
        rw [hfin]
        simp only [go_sem, ↓reduceIte, Nat.reduceEqDiff, Nat.reduceAdd, beq_self_eq_true, hlt, List.take_length, hw']
    · rw [k29] at hd0
      simp only [if_true] at hd0
      cases k2 : c.kind == 2
      · rw [k2] at k29
        simp only [Bool.false_or] at k29
        simp only [go_sem, ↓reduceIte, Nat.reduceEqDiff, Nat.reduceAdd, Nat.reduceLeDiff, Nat.zero_ne_one, Nat.one_ne_zero, reduceCtorEq, beq_self_eq_true, Tryz.f89, k2, k29, hd]
        refine run_for (fun i => ⟨[(2, .int .i64 ((Cx.withins (c.kids.take i) : Nat) : Int)), (3, .int .i64 ((max d0 (Cx.tdeps (c.kids.take i)) : Nat) : Int)), (20, .slice (cxsV c.kids)), (21, .int .i64 c.kids.length), (22, .int .i64 i)], [], [], 1⟩) c.kids.length ?_ ?_ ?_
        · simp only [go_sem, ↓reduceIte, Nat.reduceEqDiff, reduceCtorEq, Int.cast_ofNat_Int, cxsV_len, List.take_zero, Cx.withins, Cx.tdeps, Nat.max_zero, hd0]
        · intro i hi hrun
          have hlt := natlt_t hi
          have hx : c.kids[i]? = some c.kids[i] := List.getElem?_eq_getElem hi
          have hg : (cxsV c.kids)[i]? = some (.agg (cxC c.kids[i])) := by rw [cxsV_get, hx]; rfl
          have hm := cx_tots_mem (List.getElem_mem hi)
          have hp := sz_pos c.ty
          have d := ih c.kids[i] (by omega) (by omega)
          have hw := wrapN (i + 1) (by omega)
          have hw' : IntKind.i64.wrap ((i : Int) + 1) = ((i + 1 : Nat) : Int) := hw
          have m1 : (if (((c.kids[i]).within : Int) > ((Cx.withins (c.kids.take i) : Nat) : Int)) then (((c.kids[i]).within : Nat) : Int) else ((Cx.withins (c.kids.take i) : Nat) : Int)) = ((Cx.withins (c.kids.take (i + 1)) : Nat) : Int) := by rw [maxI, take_snoc hx, cx_withins_snoc]
          have m2 : (if (((c.kids[i]).tdep : Int) > ((max d0 (Cx.tdeps (c.kids.take i)) : Nat) : Int)) then (((c.kids[i]).tdep : Nat) : Int) else ((max d0 (Cx.tdeps (c.kids.take i)) : Nat) : Int)) = ((max d0 (Cx.tdeps (c.kids.take (i + 1))) : Nat) : Int) := by rw [maxI, take_snoc hx, cx_tdeps_snoc, Nat.max_assoc]
          simp only [cxC_eq] at hg d
          simp only [go_sem, ↓reduceIte, Nat.reduceEqDiff, Nat.reduceAdd, Nat.reduceLeDiff, Nat.reduceLT, hlt, natge0, tonat, hg, d, m1, m2]
          refine hrun _ ?_
          simp only [go_sem, ↓reduceIte, Nat.reduceEqDiff, hw']
        · have hlt := natlt_f (Nat.lt_irrefl c.kids.length)
          have hw0 := hwd c.kids.length
          rw [List.take_length] at hw0
          have hw := wrapN (Cx.withins c.kids + 1) (by omega)
          have hw' : IntKind.i64.wrap (((Cx.withins c.kids : Nat) : Int) + 1) = ((Cx.withins c.kids + 1 : Nat) : Int) := hw
          rw [hfin]
          simp only [go_sem, ↓reduceIte, Nat.reduceEqDiff, Nat.reduceAdd, beq_self_eq_true, hlt, List.take_length, hw']
      · simp only [go_sem, ↓reduceIte, Nat.reduceEqDiff, Nat.reduceAdd, Nat.reduceLeDiff, Nat.zero_ne_one, Nat.one_ne_zero, reduceCtorEq, Tryz.f89, k2, hd]
        refine run_for (fun i => ⟨[(2, .int .i64 ((Cx.withins (c.kids.take i) : Nat) : Int)), (3, .int .i64 ((max d0 (Cx.tdeps (c.kids.take i)) : Nat) : Int)), (20, .slice (cxsV c.kids)), (21, .int .i64 c.kids.length), (22, .int .i64 i)], [], [], 1⟩) c.kids.length ?_ ?_ ?_
        · simp only [go_sem, ↓reduceIte, Nat.reduceEqDiff, reduceCtorEq, Int.cast_ofNat_Int, cxsV_len, List.take_zero, Cx.withins, Cx.tdeps, Nat.max_zero, hd0]
        · intro i hi hrun
          have hlt := natlt_t hi
          have hx : c.kids[i]? = some c.kids[i] := List.getElem?_eq_getElem hi
          have hg : (cxsV c.kids)[i]? = some (.agg (cxC c.kids[i])) := by rw [cxsV_get, hx]; rfl
          have hm := cx_tots_mem (List.getElem_mem hi)
          have hp := sz_pos c.ty
          have d := ih c.kids[i] (by omega) (by omega)
          have hw := wrapN (i + 1) (by omega)
          have hw' : IntKind.i64.wrap ((i : Int) + 1) = ((i + 1 : Nat) : Int) := hw
          have m1 : (if (((c.kids[i]).within : Int) > ((Cx.withins (c.kids.take i) : Nat) : Int)) then (((c.kids[i]).within : Nat) : Int) else ((Cx.withins (c.kids.take i) : Nat) : Int)) = ((Cx.withins (c.kids.take (i + 1)) : Nat) : Int) := by rw [maxI, take_snoc hx, cx_withins_snoc]
          have m2 : (if (((c.kids[i]).tdep : Int) > ((max d0 (Cx.tdeps (c.kids.take i)) : Nat) : Int)) then (((c.kids[i]).tdep : Nat) : Int) else ((max d0 (Cx.tdeps (c.kids.take i)) : Nat) : Int)) = ((max d0 (Cx.tdeps (c.kids.take (i + 1))) : Nat) : Int) := by rw [maxI, take_snoc hx, cx_tdeps_snoc, Nat.max_assoc]
          simp only [cxC_eq] at hg d
          simp only [go_sem, ↓reduceIte, Nat.reduceEqDiff, Nat.reduceAdd, Nat.reduceLeDiff, Nat.reduceLT, hlt, natge0, tonat, hg, d, m1, m2]
          refine hrun _ ?_
          simp only [go_sem, ↓reduceIte, Nat.reduceEqDiff, hw']
        · have hlt := natlt_f (Nat.lt_irrefl c.kids.length)
          have hw0 := hwd c.kids.length
          rw [List.take_length] at hw0
          have hw := wrapN (Cx.withins c.kids + 1) (by omega)
          have hw' : IntKind.i64.wrap (((Cx.withins c.kids : Nat) : Int) + 1) = ((Cx.withins c.kids + 1 : Nat) : Int) := hw
          rw [hfin]
          simp only [go_sem, ↓reduceIte, Nat.reduceEqDiff, Nat.reduceAdd, beq_self_eq_true, hlt, List.take_length, hw']
end Go.Proofs
namespace Go.Proofs
open Go.Av
set_option maxHeartbeats 32000000
set_option maxRecDepth 100000
/-! is a term too deep? the program's -/
theorem tm_tots_mem {l : List Tm} {x : Tm} (h : x ∈ l) : x.tot ≤ Tm.tots l := by
  induction l with
  | nil => cases h
  | cons y l ih =>
    simp only [Tm.tots]
    rcases List.mem_cons.1 h with rfl | h
    · omega
    · have := ih h; omega
theorem tm_tots_len (l : List Tm) : l.length ≤ Tm.tots l := by
  induction l with
  | nil => simp
  | cons y l ih => simp only [Tm.tots, List.length_cons]; have := tm_tot_pos y; omega
theorem tm_tot_eq (e : Tm) : e.tot = e.ty.sz + e.co.tot + Tm.tots e.kids + Ta.tots e.alts := by cases e; simp [Tm.tot, Tm.ty, Tm.co, Tm.kids, Tm.alts]
theorem fdeep_den : ∀ (n : Nat) (e : Tm) (a : Nat), e.tot ≤ n → e.tot < 1000000 → a ≤ 1000000 → den E 47 [.agg (tmC e), .int .i64 a] [] = some (.bool (e.deep a), []) := by
  intro n
  induction n with
  | zero => intro e a h; have := tm_tot_pos e; omega
  | succ n ih =>
    intro e a hn hs ha
    have ht := tm_tot_eq e
    have hl1 := tm_tots_len e.kids
    have hl2 := ta_len e.alts
    have hp1 := sz_pos e.ty
    have hp2 := cx_tot_pos e.co
    have c1 := cdepth_den _ e.co (Nat.le_refl _) (by omega)
    have c2 := tdepth_den _ e.ty (Nat.le_refl _) (by omega)
    rw [cxC_eq] at c1
    rw [tyV_eq] at c2
    rw [den_eq prim_47, body_47, tm_deep_eq, tm_deeps_any, ta_deeps_any]
    rw [tmC_eq]
    have g100 : decide ((a : Int) ≥ 100) = decide (100 ≤ a) := by simp; omega
    cases q0 : decide (100 ≤ a)
    · have h99 : ¬ 100 ≤ a := by simpa using q0
      cases q1 : decide (e.co.within > 50)
      · cases q2 : decide (e.co.tdep > 50)
        · cases q3 : decide (e.ty.depth > 50)
          · obtain ⟨fin, hfin⟩ : ∃ fin, fin = some (AVal.bool (e.kids.any (Tm.deep (a + 1)) || e.alts.any fun x => x.body.deep (a + 1)), ([] : Heap)) := ⟨_, rfl⟩
            simp only [Bool.false_or]
            rw [← hfin]
            have w0 : IntKind.i64.wrap ((a : Int) + 1) = ((a + 1 : Nat) : Int) := wrapN (a + 1) (by omega)
            simp only [go_sem, ↓reduceIte, Nat.reduceEqDiff, Nat.reduceAdd, Nat.reduceLeDiff, Nat.zero_ne_one, Nat.one_ne_zero, reduceCtorEq, beq_self_eq_true, Tryz.f47, c1, c2, g100, natDeep, q0, q1, q2, q3]
            refine run_ind (fun i : Nat => i ≤ e.kids.length ∧ (e.kids.take i).any (Tm.deep (a + 1)) = false) (fun i => ⟨[(1, .int .i64 a), (2, .ptr (.loc 2) 0), (34, .slice (tmsV e.kids)), (35, .int .i64 e.kids.length), (36, .int .i64 i)], [], [(2, tmC e)], 1⟩) (fun _ => fin) (fun i => e.kids.length - i) 0 ⟨Nat.zero_le _, by simp⟩ ?_ ?_
            · simp only [go_sem, ↓reduceIte, Nat.reduceEqDiff, Nat.zero_ne_one, reduceCtorEq, Int.cast_ofNat_Int, tmC_eq, tmsV_len]
            · rintro i ⟨hi, h0⟩ hrun
              by_cases hc : i < e.kids.length
              · have hlt := natlt_t hc
                have hx : e.kids[i]? = some e.kids[i] := List.getElem?_eq_getElem hc
                have hg : (tmsV e.kids)[i]? = some (.agg (tmC e.kids[i])) := by rw [tmsV_get, hx]; rfl
                have hm := tm_tots_mem (List.getElem_mem hc)
                have d := ih e.kids[i] (a + 1) (by omega) (by omega) (by omega)
                obtain ⟨ya, yb⟩ := any_take hx h0
                have w1 : IntKind.i64.wrap ((i : Int) + 1) = ((i + 1 : Nat) : Int) := wrapN (i + 1) (by omega)
                simp only [tmC_eq] at hg d
                cases hd : e.kids[i].deep (a + 1)
                · rw [hd] at d
                  simp only [go_sem, ↓reduceIte, Nat.reduceEqDiff, Nat.reduceAdd, Nat.reduceLeDiff, Nat.reduceLT, tmC_eq, hlt, natge0, tonat, hg, w0, d]
                  refine hrun (i + 1) _ ⟨hc, yb hd⟩ (by omega) ?_
                  simp only [go_sem, ↓reduceIte, Nat.reduceEqDiff, tmC_eq, w1]
                · rw [hd] at d
                  rw [hfin, ya hd]
                  simp only [go_sem, ↓reduceIte, Nat.reduceEqDiff, Nat.reduceAdd, Nat.reduceLeDiff, Nat.reduceLT, tmC_eq, hlt, natge0, tonat, hg, w0, d, Bool.true_or]
              · have hlt := natlt_f hc
                have hik : i = e.kids.length := by omega
                rw [hik, List.take_length] at h0
                rw [h0, Bool.false_or] at hfin
                simp only [go_sem, ↓reduceIte, Nat.reduceEqDiff, Nat.reduceAdd, Nat.one_ne_zero, beq_self_eq_true, tmC_eq, hlt]
                refine run_ind (fun i : Nat => i ≤ e.alts.length ∧ (e.alts.take i).any (fun x => x.body.deep (a + 1)) = false) (fun i => ⟨[(1, .int .i64 a), (46, .slice (tasV e.alts)), (47, .int .i64 e.alts.length), (48, .int .i64 i)], [], [], 1⟩) (fun _ => fin) (fun i => e.alts.length - i) 0 ⟨Nat.zero_le _, by simp⟩ ?_ ?_
                · simp only [go_sem, ↓reduceIte, Nat.reduceEqDiff, Int.cast_ofNat_Int, tasV_len]
                · rintro j ⟨hj, g0⟩ hrun2
                  by_cases hc2 : j < e.alts.length
                  · have hlt2 := natlt_t hc2
                    have hx2 : e.alts[j]? = some e.alts[j] := List.getElem?_eq_getElem hc2
                    have hg2 : (tasV e.alts)[j]? = some (taV e.alts[j]) := by rw [tasV_get, hx2]; rfl
                    have hm2 := ta_vars (List.getElem_mem hc2)
                    have d2 := ih e.alts[j].body (a + 1) (by omega) (by omega) (by omega)
                    obtain ⟨ya, yb⟩ := any_take hx2 g0
                    have w1 : IntKind.i64.wrap ((j : Int) + 1) = ((j + 1 : Nat) : Int) := wrapN (j + 1) (by omega)
                    simp only [taV_eq, tmC_eq] at hg2 d2
                    cases hd2 : e.alts[j].body.deep (a + 1)
                    · rw [hd2] at d2
                      simp only [go_sem, ↓reduceIte, Nat.reduceEqDiff, Nat.reduceAdd, Nat.reduceLeDiff, Nat.reduceLT, reduceCtorEq, hlt2, natge0, tonat, hg2, w0, d2]
                      refine hrun2 (j + 1) _ ⟨hc2, yb hd2⟩ (by omega) ?_
                      simp only [go_sem, ↓reduceIte, Nat.reduceEqDiff, w1]
                    · rw [hd2] at d2
                      rw [hfin, ya hd2]
                      simp only [go_sem, ↓reduceIte, Nat.reduceEqDiff, Nat.reduceAdd, Nat.reduceLeDiff, Nat.reduceLT, reduceCtorEq, hlt2, natge0, tonat, hg2, w0, d2]
                  · have hlt2 := natlt_f hc2
                    have hik2 : j = e.alts.length := by omega
                    rw [hik2, List.take_length] at g0
                    rw [hfin, g0]
                    simp only [go_sem, ↓reduceIte, Nat.reduceEqDiff, Nat.reduceAdd, beq_self_eq_true, hlt2]
          · simp only [go_sem, ↓reduceIte, Nat.reduceEqDiff, Nat.reduceAdd, Nat.reduceLeDiff, Nat.zero_ne_one, reduceCtorEq, beq_self_eq_true, Tryz.f47, c1, c2, g100, natDeep, q0, q1, q2, q3, Bool.true_or, Bool.or_true]
        · simp only [go_sem, ↓reduceIte, Nat.reduceEqDiff, Nat.reduceAdd, Nat.reduceLeDiff, Nat.zero_ne_one, reduceCtorEq, beq_self_eq_true, Tryz.f47, c1, g100, natDeep, q0, q1, q2, Bool.true_or, Bool.or_true]
      · simp only [go_sem, ↓reduceIte, Nat.reduceEqDiff, Nat.reduceAdd, Nat.reduceLeDiff, Nat.zero_ne_one, reduceCtorEq, beq_self_eq_true, Tryz.f47, c1, g100, natDeep, q0, q1, Bool.true_or, Bool.or_true]
    · simp only [go_sem, ↓reduceIte, Nat.reduceEqDiff, Nat.reduceAdd, Nat.reduceLeDiff, Nat.zero_ne_one, reduceCtorEq, Tryz.f47, c1, g100, q0, Bool.true_or]
/-- what the readers of terms hand back -/
def endM (x : Tm) (r : Rd) : Tm × Int := if r.bad || decide (0 < r.l.length) then (zTm, 120) else if x.deep 0 then (zTm, 3) else (x, 0)
def tmO (f : Nat) (s : List UInt8) : Option (Tm × Int) := if (scanO s).2 != 0 then some (zTm, (scanO s).2) else match trR f .term ⟨(scanO s).1, false⟩ with
  | none => none
  | some (x, r) => some (endM x r)
theorem tmRead_ok {f : Nat} {s : List UInt8} {x : Tm} {r : Rd} (h : trR f .term ⟨(scanO s).1, false⟩ = some (x, r)) (hg : r.bad = false) : GM x ∧ x.tot ≤ 12000 := by
  obtain ⟨h1, h2⟩ := scanO_F s
  have := trR_ok _ _ _ _ _ h2 h hg
  exact ⟨this.1, by have := this.2; simp only at this; omega⟩
theorem tmO_tot (s : List UInt8) : ∃ p, tmO F0 s = some p := by
  obtain ⟨h1, h2⟩ := scanO_F s
  unfold tmO
  split
  · exact ⟨_, rfl⟩
  · obtain ⟨⟨x, r⟩, h3⟩ := trR_tot F0 .term ⟨(scanO s).1, false⟩ h2 (needM_le (by unfold F0; omega) fun _ => by unfold F0; simp only [rankM]; omega)
    rw [h3]; exact ⟨_, rfl⟩
theorem tmO_good {f : Nat} {s : List UInt8} {p : Tm × Int} (h : tmO f s = some p) (h0 : p.2 = 0) : GM p.1 ∧ p.1.tot ≤ 12000 ∧ p.1.deep 0 = false := by
  unfold tmO at h
  split at h
  · rename_i he
    injection h with h; subst h
    simp only at h0
    rw [h0] at he
    exact absurd he (by decide)
  · split at h
    · cases h
    · rename_i x r hd
      injection h with h; subst h
      unfold endM at h0 ⊢
      cases hb : r.bad
      · have k := tmRead_ok hd hb
        rw [hb] at h0
        split at h0
        · exact absurd h0 (by decide)
        · split at h0
          · exact absurd h0 (by decide)
          · rename_i h3 h4
            rw [if_neg (by simpa using h3), if_neg h4]
            exact ⟨k.1, k.2, by simpa using h4⟩
      · rw [hb] at h0; simp at h0
theorem fpterm_den {f : Nat} {s : List UInt8} {p : Tm × Int} (h : tmO f s = some p) : den E 15 [.str s] [] = some (.tup [.agg (tmC p.1), .int .i64 p.2], []) := by
  rw [den_eq prim_15, body_15]
  obtain ⟨hlen, hok⟩ := scanO_F s
  have hgood : ∀ x r, trR f .term ⟨(scanO s).1, false⟩ = some (x, r) → r.bad = false → x.tot < 1000000 := fun x r h hg => by have := (tmRead_ok h hg).2; omega
  obtain ⟨pos, hT⟩ := scanO_T s
  have hsc := scanAll_den s
  rw [hT] at hsc
  unfold tmO at h
  generalize (scanO s).1 = l at *
  generalize (scanO s).2 = e at *
  cases he : e == 0
  · have he' : (e != 0) = true := by rw [bne_not, he]; rfl
    rw [he', if_pos rfl] at h
    injection h with h; subst h
    simp only [go_sem, ↓reduceIte, Nat.reduceEqDiff, Nat.reduceAdd, Nat.reduceLeDiff, Nat.reduceLT, reduceCtorEq, Tryz.f15, hsc, he', zTmC]
  · have he' : (e != 0) = false := by rw [bne_not, he]; rfl
    rw [he'] at h
    simp only [Bool.false_eq_true, if_false] at h
    split at h
    · cases h
    · rename_i x r hx
      injection h with h; subst h
      have d1 := trR_den f .term _ _ hok (by simp only; omega) hx
      simp only [MDenF, rdV, tmC_eq] at d1
      unfold endM
      cases hb : r.bad
      · rw [hb] at d1
        have hgt : decide (((toksV r.l).length : Int) > 0) = decide (0 < r.l.length) := by rw [toksV_len]; simp
        cases hn : decide (0 < r.l.length)
        · have ht := hgood x r hx hb
          have e2 := fdeep_den _ x 0 (Nat.le_refl _) ht (by omega)
          simp only [tmC_eq, Int.natCast_zero] at e2
          cases q1 : x.deep 0
          · rw [q1] at e2
            simp only [go_sem, ↓reduceIte, Nat.reduceEqDiff, Nat.reduceAdd, Nat.reduceLeDiff, Nat.one_ne_zero, Nat.reduceLT, reduceCtorEq, beq_self_eq_true, Tryz.f15, hsc, he', d1, hgt, hn, e2, tmC_eq, Bool.or_false]
          · rw [q1] at e2
            simp only [go_sem, ↓reduceIte, Nat.reduceEqDiff, Nat.reduceAdd, Nat.reduceLeDiff, Nat.one_ne_zero, Nat.reduceLT, reduceCtorEq, beq_self_eq_true, Tryz.f15, hsc, he', d1, hgt, hn, e2, zTmC, Bool.or_false]
        · simp only [go_sem, ↓reduceIte, Nat.reduceEqDiff, Nat.reduceAdd, Nat.reduceLeDiff, Nat.one_ne_zero, Nat.reduceLT, reduceCtorEq, beq_self_eq_true, Tryz.f15, hsc, he', d1, hgt, hn, zTmC, Bool.false_or]
      · rw [hb] at d1
        simp only [go_sem, ↓reduceIte, Nat.reduceEqDiff, Nat.reduceAdd, Nat.reduceLeDiff, Nat.one_ne_zero, Nat.reduceLT, reduceCtorEq, beq_self_eq_true, Tryz.f15, hsc, he', d1, zTmC, Bool.true_or]
/-! the laws of chapter 14 -/
end Go.Proofs
namespace Go.Proofs
open Go.Av
set_option maxHeartbeats 32000000
set_option maxRecDepth 100000
/-! how many terms; whether none is of types or proofs alone -/
mutual
def Tm.plain : Tm → Bool
  | .mk k _ _ _ ks al => !overK k && (Tm.plains ks && Ta.plains al)
def Tm.plains : List Tm → Bool
  | [] => true
  | e :: r => Tm.plain e && Tm.plains r
def Ta.plain : Ta → Bool
  | .mk _ _ _ _ e => Tm.plain e
def Ta.plains : List Ta → Bool
  | [] => true
  | a :: r => Ta.plain a && Ta.plains r
end
/-! smaller, and as large if it is plain -/
end Go.Proofs
