/- The law comes out true for any text. -/
import Derived.Test.YtofblkofhgbefaaGreatDoorAvO
import Derived.Test.YtofblkofhgbefaaGreatDoorAvL
namespace Go.Proofs
open Go.Av
set_option maxHeartbeats 32000000
set_option maxRecDepth 100000
/-! what is left of a term: the document's -/
def kaL : List (Int × Int) := [(1, 1), (2, 2), (3, 3), (5, 4), (8, 5), (9, 6)]
def kindsV : List AVal := kaL.map fun p => .agg [.int .i64 p.1, .int .i64 p.2]
def kAt (k : Int) : Nat → Int
  | 0 => 0
  | i + 1 => if (kaL.getD i (0, 0)).1 == k then (kaL.getD i (0, 0)).2 else kAt k i
theorem kindsV_get (i : Nat) (h : i < 6) : kindsV[i]? = some (.agg [.int .i64 (kaL.getD i (0, 0)).1, .int .i64 (kaL.getD i (0, 0)).2]) := by
  rcases i with _ | _ | _ | _ | _ | _ | i
  · rfl
  · rfl
  · rfl
  · rfl
  · rfl
  · rfl
  · omega
theorem kAt_end {k : Int} (hk : k = 1 ∨ k = 2 ∨ k = 3 ∨ k = 5 ∨ k = 8 ∨ k = 9) : kAt k 6 = kindE k := by
  rcases hk with rfl | rfl | rfl | rfl | rfl | rfl <;> rfl
theorem r14_step (e : Tm) (hk0 : e.kind = 1 ∨ e.kind = 2 ∨ e.kind = 3 ∨ e.kind = 5 ∨ e.kind = 8 ∨ e.kind = 9) (hs1 : e.kids.length < 1000000) (hs2 : e.alts.length < 1000000)
    (hk : ∀ x ∈ e.kids, den E 21 [.agg (tmC x)] [] = some (.agg (exC x.era), [])) (ha : ∀ a ∈ e.alts, den E 21 [.agg (tmC a.body)] [] = some (.agg (exC a.body.era), [])) :
    den E 21 [.agg (tmC e)] [] = some (.agg (exC e.era), []) := by
  have ho : overK e.kind = false := by rcases hk0 with h | h | h | h | h | h <;> rw [h] <;> rfl
  have hend := kAt_end hk0
  have k4 : (e.kind == 4) = false := by rcases hk0 with h | h | h | h | h | h <;> rw [h] <;> rfl
  have k6 : (e.kind == 6) = false := by rcases hk0 with h | h | h | h | h | h <;> rw [h] <;> rfl
  have k7 : (e.kind == 7) = false := by rcases hk0 with h | h | h | h | h | h <;> rw [h] <;> rfl
  have k10 : (e.kind == 10) = false := by rcases hk0 with h | h | h | h | h | h <;> rw [h] <;> rfl
  rw [den_eq prim_21, body_21, era_eq e ho]
  obtain ⟨fin, hfin⟩ : ∃ fin, fin = some (AVal.agg (exC (.mk (kindE e.kind) e.name false zTy (e.kids.map Tm.era) (e.alts.map Ta.era))), ([] : Heap)) := ⟨_, rfl⟩
  rw [← hfin]
  rw [tmC_eq]
  simp only [go_sem, ↓reduceIte, Nat.reduceEqDiff, Nat.reduceAdd, Nat.reduceMul, Nat.reduceLeDiff, Nat.zero_ne_one, Nat.one_ne_zero, Nat.reduceLT, reduceCtorEq, beq_self_eq_true, Tryz.f21, k4, k6, k7, k10]
  refine run_for (fun i => ⟨[(1, .ptr (.loc 1) 0), (2, .ptr (.loc 2) 0), (3, .ptr (.loc 3) 0), (4, .own 125 0 kindsV), (5, .int .i64 i)], [], [(1, tmC e), (2, roB 0 [] [] []), (3, roB (kAt e.kind i) e.name [] [])], 1⟩) 6 ?_ ?_ ?_
  · simp only [go_sem, ↓reduceIte, Nat.reduceEqDiff, Nat.zero_ne_one, reduceCtorEq, Int.cast_ofNat_Int, tmC_eq, roB, kAt, kindsV, kaL, List.map_cons, List.map_nil]
  · intro i hi hrun
    have hlt : decide ((i : Int) < 6) = true := by simp; omega
    have hg := kindsV_get i hi
    have hl : kindsV.length = 6 := rfl
    have hw : IntKind.i64.wrap ((i : Int) + 1) = ((i + 1 : Nat) : Int) := wrapN (i + 1) (by omega)
    cases hc : (kaL.getD i (0, 0)).1 == e.kind
    · have hn : kAt e.kind (i + 1) = kAt e.kind i := by simp only [kAt, hc, Bool.false_eq_true, if_false]
      simp only [go_sem, ↓reduceIte, Nat.reduceEqDiff, Nat.reduceAdd, Nat.reduceMul, Nat.one_ne_zero, Int.reduceToNat, Int.reduceLE, Int.reduceLT, ne_eq, not_false_eq_true, Int.cast_ofNat_Int, tmC_eq, roB, hl, hlt, natge0, tonat, hg, hc]
      refine hrun _ ?_
      simp only [go_sem, ↓reduceIte, Nat.reduceEqDiff, tmC_eq, roB, hw, hn]
    · have hn : kAt e.kind (i + 1) = (kaL.getD i (0, 0)).2 := by simp only [kAt, hc, if_true]
      simp only [go_sem, ↓reduceIte, Nat.reduceEqDiff, Nat.reduceAdd, Nat.reduceMul, Nat.reduceLeDiff, Nat.one_ne_zero, Nat.reduceLT, Int.reduceToNat, Int.reduceLE, Int.reduceLT, ne_eq, not_false_eq_true, Int.cast_ofNat_Int, tmC_eq, roB, hl, hlt, natge0, tonat, hg, hc]
      refine hrun _ ?_
      simp only [go_sem, ↓reduceIte, Nat.reduceEqDiff, tmC_eq, roB, hw, hn]
  · have hlt : decide ((6 : Int) < 6) = false := rfl
    have hl : kindsV.length = 6 := rfl
    rw [hend]
    simp only [go_sem, ↓reduceIte, Nat.reduceEqDiff, Nat.reduceAdd, beq_self_eq_true, decide_false, Int.reduceLT, Int.cast_ofNat_Int, tmC_eq, roB, hl]
    refine run_for (fun i => ⟨[(1, .ptr (.loc 1) 0), (2, .ptr (.loc 2) 0), (3, .ptr (.loc 3) 0), (6, .int .i64 i)], [], [(1, tmC e), (2, roB 0 [] [] []), (3, roB (kindE e.kind) e.name (exsV ((e.kids.take i).map Tm.era)) [])], 1⟩) e.kids.length ?_ ?_ ?_
    · simp only [go_sem, ↓reduceIte, Nat.reduceEqDiff, Int.cast_ofNat_Int, tmC_eq, roB, List.take_zero, List.map_nil, exsV_nil]
    · intro i hi hrun
      have hlt := natlt_t hi
      have hx : e.kids[i]? = some e.kids[i] := List.getElem?_eq_getElem hi
      have hg : (tmsV e.kids)[i]? = some (.agg (tmC e.kids[i])) := by rw [tmsV_get, hx]; rfl
      have d := hk e.kids[i] (List.getElem_mem hi)
      have hw : IntKind.i64.wrap ((i : Int) + 1) = ((i + 1 : Nat) : Int) := wrapN (i + 1) (by omega)
      have hap : (exsV ((e.kids.take i).map Tm.era)).length + 1 ≤ appMax := by rw [exsV_len, List.length_map, List.length_take]; unfold appMax; omega
      have hsn : exsV ((e.kids.take i).map Tm.era) ++ [.agg (exC e.kids[i].era)] = exsV ((e.kids.take (i + 1)).map Tm.era) := by
        rw [take_snoc hx, List.map_append, exsV_append]; simp [exsV]
      simp only [exC_eq, tmC_eq] at hg d hsn
      simp only [go_sem, ↓reduceIte, Nat.reduceEqDiff, Nat.reduceAdd, Nat.reduceMul, Nat.reduceLeDiff, Nat.one_ne_zero, Nat.reduceLT, decide_true, tmC_eq, roB, tmsV_len, hlt, natge0, tonat, hg, d, hap, hsn]
      refine hrun _ ?_
      simp only [go_sem, ↓reduceIte, Nat.reduceEqDiff, tmC_eq, roB, hw]
    · have hlt := natlt_f (Nat.lt_irrefl e.kids.length)
      simp only [go_sem, ↓reduceIte, Nat.reduceEqDiff, Nat.reduceAdd, Nat.one_ne_zero, beq_self_eq_true, tmC_eq, roB, tmsV_len, hlt, List.take_length]
      refine run_for (fun i => ⟨[(1, .ptr (.loc 1) 0), (2, .ptr (.loc 2) 0), (3, .ptr (.loc 3) 0), (7, .int .i64 i)], [], [(1, tmC e), (2, roB 0 [] [] []), (3, roB (kindE e.kind) e.name (exsV (e.kids.map Tm.era)) (alsV ((e.alts.take i).map Ta.era)))], 1⟩) e.alts.length ?_ ?_ ?_
      · simp only [go_sem, ↓reduceIte, Nat.reduceEqDiff, Int.cast_ofNat_Int, tmC_eq, roB, List.take_zero, List.map_nil, alsV_nil]
      · intro i hi hrun
        have hlt := natlt_t hi
        have hx : e.alts[i]? = some e.alts[i] := List.getElem?_eq_getElem hi
        have hg : (tasV e.alts)[i]? = some (taV e.alts[i]) := by rw [tasV_get, hx]; rfl
        have d := ha e.alts[i] (List.getElem_mem hi)
        have hw : IntKind.i64.wrap ((i : Int) + 1) = ((i + 1 : Nat) : Int) := wrapN (i + 1) (by omega)
        have hap : (alsV ((e.alts.take i).map Ta.era)).length + 1 ≤ appMax := by rw [alsV_len, List.length_map, List.length_take]; unfold appMax; omega
        have hsn : alsV ((e.alts.take i).map Ta.era) ++ [alV (Ta.era e.alts[i])] = alsV ((e.alts.take (i + 1)).map Ta.era) := by
          rw [take_snoc hx, List.map_append, als_snoc]; rfl
        rw [taera_eq] at hsn
        simp only [taV_eq, tmC_eq, alV_eq, exC_eq, Al.con, Al.vars, Al.body] at hg d hsn
        simp only [go_sem, ↓reduceIte, Nat.reduceEqDiff, Nat.reduceAdd, Nat.reduceMul, Nat.reduceLeDiff, Nat.one_ne_zero, Nat.reduceLT, reduceCtorEq, decide_true, tmC_eq, roB, tasV_len, hlt, natge0, tonat, hg, d, hap, hsn]
        refine hrun _ ?_
        simp only [go_sem, ↓reduceIte, Nat.reduceEqDiff, tmC_eq, roB, hw]
      · have hlt := natlt_f (Nat.lt_irrefl e.alts.length)
        rw [hfin]
        simp only [go_sem, ↓reduceIte, Nat.reduceEqDiff, Nat.reduceAdd, Nat.reduceLeDiff, Nat.one_ne_zero, Nat.reduceLT, beq_self_eq_true, tmC_eq, roB, tasV_len, hlt, List.take_length, exmk, exC_eq, exmk, tysV_nil, zTy_k, zTy_s, zTy_n, zTy_a]
theorem r14_over (k : Int) (s : List UInt8) (t : Ty) (c : Cx) (x : Tm) (hk : k = 4 ∨ k = 6 ∨ k = 7 ∨ k = 10) (d : den E 21 [.agg (tmC x)] [] = some (.agg (exC x.era), [])) :
    den E 21 [.agg (tmC (.mk k s t c [x] []))] [] = some (.agg (exC (Tm.mk k s t c [x] []).era), []) := by
  rw [era_over k s t c x (by rcases hk with rfl | rfl | rfl | rfl <;> rfl)]
  rw [den_eq prim_21, body_21, tmC_mk, tmsV_cons, tmsV_nil]
  simp only [exC_eq, tmC_eq] at d ⊢
  rcases hk with rfl | rfl | rfl | rfl <;> simp only [go_sem, ↓reduceIte, Nat.reduceEqDiff, Nat.reduceAdd, Nat.reduceLeDiff, Nat.zero_ne_one, Nat.one_ne_zero, Nat.reduceLT, reduceCtorEq, beq_self_eq_true, Int.reduceBEq, Tryz.f21, d, Int.le_refl, Int.toNat_zero]
theorem r14_den {e : Tm} (h : GM e) : e.tot < 1000000 → den E 21 [.agg (tmC e)] [] = some (.agg (exC e.era), []) := by
  induction h with
  | nam k s hk h1 =>
    intro hs
    exact r14_step _ (by rcases hk with rfl | rfl <;> simp [tmk]) (by simp [tmk]) (by simp [tmk]) (by simp [tmk]) (by simp [tmk])
  | lam s t x h1 hT hx ih =>
    intro hs
    rw [tm_tot_mk, tm_tots_one] at hs
    exact r14_step _ (by simp [tmk]) (by simp [tmk]) (by simp [tmk]) (by intro y hy; simp only [tmk, List.mem_singleton] at hy; subst hy; exact ih (by omega)) (by simp [tmk])
  | tlam s x h1 hx ih =>
    intro hs
    rw [tm_tot_mk, tm_tots_one] at hs
    exact r14_over 4 _ _ _ _ (by decide) (ih (by omega))
  | app x y hx hy ihx ihy =>
    intro hs
    rw [tm_tot_mk, tm_tots_two] at hs
    refine r14_step _ (by simp [tmk]) (by simp [tmk]) (by simp [tmk]) ?_ (by simp [tmk])
    intro z hz
    simp only [tmk, List.mem_cons, List.not_mem_nil, or_false] at hz
    rcases hz with rfl | rfl
    · exact ihx (by omega)
    · exact ihy (by omega)
  | tapp t x hT hx ih =>
    intro hs
    rw [tm_tot_mk, tm_tots_one] at hs
    exact r14_over 6 _ _ _ _ (by decide) (ih (by omega))
  | capp c x hC hx ih =>
    intro hs
    rw [tm_tot_mk, tm_tots_one] at hs
    exact r14_over 7 _ _ _ _ (by decide) (ih (by omega))
  | lett s t x y h1 hT hx hy ihx ihy =>
    intro hs
    rw [tm_tot_mk, tm_tots_two] at hs
    refine r14_step _ (by simp [tmk]) (by simp [tmk]) (by simp [tmk]) ?_ (by simp [tmk])
    intro z hz
    simp only [tmk, List.mem_cons, List.not_mem_nil, or_false] at hz
    rcases hz with rfl | rfl
    · exact ihx (by omega)
    · exact ihy (by omega)
  | cas t x al hT hx hb hn ihx ihb =>
    intro hs
    rw [tm_tot_mk, tm_tots_one] at hs
    have := ta_len al
    refine r14_step _ (by simp [tmk]) (by simp [tmk]) (by simp only [tmk]; omega) ?_ ?_
    · intro z hz
      simp only [tmk, List.mem_singleton] at hz
      subst hz
      exact ihx (by omega)
    · intro a ha
      simp only [tmk] at ha
      have := ta_vars ha
      exact ihb a ha (by omega)
  | cast c x hC hx ih =>
    intro hs
    rw [tm_tot_mk, tm_tots_one] at hs
    exact r14_over 10 _ _ _ _ (by decide) (ih (by omega))
theorem letrm_den (s : List UInt8) : den E 5 [.str s] [] = some (.bool true, []) := by
  rw [den_eq prim_5, body_5]
  have ha := awake_den
  obtain ⟨p, hp⟩ := tmO_tot s
  have h1 := fpterm_den hp
  have h2 := r12pterm_den hp
  cases h0 : (p.2 != 0)
  · have h00 : p.2 = 0 := by rw [bne_not] at h0; simpa using h0
    have k := tmO_good hp h00
    have kt := k.2.1
    have g := era_GX k.1
    have gt := g.2
    have d1 := etrm_den k.1 (by omega)
    have d2 := r14_den k.1 (by omega)
    obtain ⟨t, ht⟩ := xprint_any g.1 (by omega)
    have hF := ht F0 F0 (by unfold F0; omega) (by unfold F0; omega)
    have d4 := xprint_den F0 F0 p.1.era t (by omega) hF
    have d5 := rxprint_den F0 F0 p.1.era t (by omega) hF
    have s1 := exsize_den _ p.1.era (Nat.le_refl _) (by omega)
    have s3 := rsize_den _ p.1.era (Nat.le_refl _) (by omega)
    simp only [exC_eq, tmC_eq] at h1 h2 d1 d2 d4 d5 s1 s3
    simp only [go_sem, ↓reduceIte, Nat.reduceEqDiff, Nat.reduceAdd, Nat.reduceLeDiff, Nat.reduceLT, reduceCtorEq, beq_self_eq_true, Tryz.f5, ha, h1, h2, h0, d1, d2, d4, d5, s1, s3]
  · simp only [tmC_eq] at h1 h2
    simp only [go_sem, ↓reduceIte, Nat.reduceEqDiff, Nat.reduceAdd, Nat.reduceLeDiff, Nat.reduceLT, reduceCtorEq, Tryz.f5, ha, h1, h2, h0]
end Go.Proofs
