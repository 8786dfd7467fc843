/- What the program tells of names: free, constructors, bound, declared, and whether all names are as they may be. -/
import Derived.Test.YteidnocfcilajaaGreatDoorAvJ
import Derived.Test.YteidnocfcilajaaGreatDoorAvI
namespace Go.Proofs
open Go.Av
set_option maxHeartbeats 16000000
set_option maxRecDepth 100000
theorem walkF_den : ∀ (n : Nat) (e : Ex), e.tot ≤ n → SX e → ∀ (b : List (List UInt8)) (acc : List (List UInt8)), (acc).length + e.tot < 1000000 → den E 74 [.agg (exC e), .pmap (entsV b), .func 75 [] [.ptr (.par 0) 0], .func 77 [] []] [[.own 9 0 ((acc).map .str), metN 0 (acc)]] = some (.tup [], [[.own 9 0 ((walkE withS faF fbF e b acc).map .str), metN 0 (walkE withS faF fbF e b acc)]]) := by
  intro n
  induction n with
  | zero => intro e he; exfalso; have := tot_eq e; have := ty_pos e; omega
  | succ n ih =>
  intro e he hs b acc hm
  have ht := tot_eq e
  have hp := ty_pos e
  have d0 := faF_den e b acc (by omega)
  obtain ⟨a0, ha0⟩ : ∃ a0, a0 = faF e b acc := ⟨_, rfl⟩
  have m0 : (a0).length ≤ (acc).length + 1 := ha0 ▸ faF_le e b acc
  rw [exC_eq] at d0
  rw [den_eq prim_74, body_74, exC_eq, walkE_eq, ← ha0]
  rw [← ha0] at d0
  cases h3 : e.kind == 3
  · cases h5 : e.kind == 5
    · simp only [Bool.false_eq_true, if_false]
      simp only [go_sem, ↓reduceIte, Nat.reduceEqDiff, Nat.reduceAdd, Nat.reduceLeDiff, Nat.zero_ne_one, Nat.one_ne_zero, Nat.reduceLT, reduceCtorEq, beq_self_eq_true, Tryz.f74, d0, h3, h5, ↓callF_func, ↓met_in, ↓met_out, cellIn, cellOut, ↓met_names, exsV_len]
      refine run_ind (fun i : Nat => i ≤ e.kids.length) (fun i => ⟨[(1, .pmap (entsV b)), (2, .func 75 [] [.ptr (.par 0) 0]), (3, .func 77 [] []), (4, .ptr (.loc 4) 0), (55, .slice (exsV e.kids)), (56, .int .i64 e.kids.length), (57, .int .i64 i)], [[.own 9 0 ((walkKs withS faF fbF (e.kids.take i) b a0).map .str), metN 0 (walkKs withS faF fbF (e.kids.take i) b a0)]], [(4, [.int .i64 e.kind, .str e.name, .bool e.told, .int .i64 e.ty.kind, .str e.ty.name, .int .i64 e.ty.n, .slice (tysV e.ty.args), .slice (exsV e.kids), .slice (alsV e.alts)])], 1⟩)
        (fun _ => some (.tup [], [[.own 9 0 ((walkAs withS faF fbF e.alts b (walkKs withS faF fbF e.kids b a0)).map .str), metN 0 (walkAs withS faF fbF e.alts b (walkKs withS faF fbF e.kids b a0))]])) (fun i => e.kids.length - i) 0 (Nat.zero_le _) ?_ ?_
      · simp only [go_sem, ↓reduceIte, Nat.reduceEqDiff, Nat.zero_ne_one, reduceCtorEq, Int.cast_ofNat_Int, List.take_zero, walkKs_nil, ↓met_stampH, ↓met_names]
      · intro i hi h
        by_cases hlt : i < e.kids.length
        · obtain ⟨x, hx⟩ := getS hlt
          have w1 : IntKind.i64.wrap ((i : Int) + 1) = ((i + 1 : Nat) : Int) := wrapN (i + 1) (by have := kids_len e; omega)
          have hts := take_next hx
          have hg := tots_get hx
          have hle : (walkKs withS faF fbF (e.kids.take i) b a0).length ≤ (a0).length + Ex.tots (e.kids.take i) := walkKs_le (ext := withS) (fa := faF) (fb := fbF) List.length faF_le fbF_le (e.kids.take i) b a0
          have d := ih x (by have := kids_tot (List.mem_of_getElem? hx); omega) (hs.kid (List.mem_of_getElem? hx)) b (walkKs withS faF fbF (e.kids.take i) b a0) (by omega)
          rw [← walkKs_snoc, ← hts] at d
          rw [exC_eq] at d
          generalize walkKs withS faF fbF (e.kids.take i) b a0 = a1 at *
          simp only [go_sem, ↓reduceIte, Nat.reduceEqDiff, Nat.reduceAdd, Nat.reduceLeDiff, Nat.reduceLT, beq_self_eq_true, natlt, decide_eq_true hlt, natge0, tonat, exsV_get, hx, exC_eq, d, ↓callF_func, ↓met_in, ↓met_out, cellIn, cellOut, ↓met_names]
          refine h (i + 1) _ (by omega) (by omega) ?_
          simp only [go_sem, ↓reduceIte, Nat.reduceEqDiff, w1, ↓met_stampH, ↓met_names]
        · have hie : i = e.kids.length := by omega
          subst hie
          rw [List.take_length]
          have hle : (walkKs withS faF fbF e.kids b a0).length ≤ (a0).length + Ex.tots e.kids := walkKs_le (ext := withS) (fa := faF) (fb := fbF) List.length faF_le fbF_le e.kids b a0
          generalize walkKs withS faF fbF e.kids b a0 = a1 at *
          clear h d0
          simp only [go_sem, ↓reduceIte, Nat.reduceEqDiff, Nat.reduceAdd, Nat.one_ne_zero, Nat.reduceLT, beq_self_eq_true, decide_false, natlt, Nat.lt_irrefl, alsV_len]
          refine run_ind (fun i : Nat => i ≤ e.alts.length) (fun i => ⟨[(1, .pmap (entsV b)), (2, .func 75 [] [.ptr (.par 0) 0]), (3, .func 77 [] []), (68, .slice (alsV e.alts)), (69, .int .i64 e.alts.length), (70, .int .i64 i)], [[.own 9 0 ((walkAs withS faF fbF (e.alts.take i) b a1).map .str), metN 0 (walkAs withS faF fbF (e.alts.take i) b a1)]], [], 1⟩)
            (fun _ => some (.tup [], [[.own 9 0 ((walkAs withS faF fbF e.alts b a1).map .str), metN 0 (walkAs withS faF fbF e.alts b a1)]])) (fun i => e.alts.length - i) 0 (Nat.zero_le _) ?_ ?_
          · simp only [go_sem, ↓reduceIte, Nat.reduceEqDiff, Int.cast_ofNat_Int, List.take_zero, walkAs_nil, ↓met_stampH, ↓met_names]
          · intro i hi h
            by_cases hlt : i < e.alts.length
            · obtain ⟨x, hx⟩ := getS hlt
              have w1 : IntKind.i64.wrap ((i : Int) + 1) = ((i + 1 : Nat) : Int) := wrapN (i + 1) (by have := altsLen e; omega)
              have hts := take_next hx
              have hg := altots_get hx
              rw [altot_eq] at hg
              have hle2 : (walkAs withS faF fbF (e.alts.take i) b a1).length ≤ (a1).length + Al.tots (e.alts.take i) := walkAs_le (ext := withS) (fa := faF) (fb := fbF) List.length faF_le fbF_le (e.alts.take i) b a1
              have hb : (fbF x (walkAs withS faF fbF (e.alts.take i) b a1)).length ≤ (walkAs withS faF fbF (e.alts.take i) b a1).length + x.vars.length + 1 := fbF_le x (walkAs withS faF fbF (e.alts.take i) b a1)
              have db := fbF_den x (walkAs withS faF fbF (e.alts.take i) b a1) (by omega)
              have dw := with_den b x.vars (by omega)
              have d := ih x.body (by have := alts_tot (List.mem_of_getElem? hx); omega) (hs.alt (List.mem_of_getElem? hx)) (withS b x.vars) (fbF x (walkAs withS faF fbF (e.alts.take i) b a1)) (by omega)
              have e2 := walkAs_snoc (ext := withS) (fa := faF) (fb := fbF) (e.alts.take i) x b a1
              rw [walkA_eq, ← hts] at e2
              rw [← e2] at d
              clear e2
              rw [exC_eq] at d
              rw [alV_eq, exC_eq] at db
              skip
              rw [show fbF x (walkAs withS faF fbF (e.alts.take i) b a1) = walkAs withS faF fbF (e.alts.take i) b a1 from rfl] at d
              generalize walkAs withS faF fbF (e.alts.take i) b a1 = a2 at *
              simp only [go_sem, ↓reduceIte, Nat.reduceEqDiff, Nat.reduceAdd, Nat.reduceLeDiff, Nat.one_ne_zero, Nat.reduceLT, reduceCtorEq, beq_self_eq_true, natlt, decide_eq_true hlt, natge0, tonat, alsV_get, hx, alV_eq, exC_eq, db, dw, d, ↓callF_func, ↓met_in, ↓met_out, cellIn, cellOut, ↓met_names]
              refine h (i + 1) _ (by omega) (by omega) ?_
              simp only [go_sem, ↓reduceIte, Nat.reduceEqDiff, w1, ↓met_stampH, ↓met_names]
            · have hie : i = e.alts.length := by omega
              subst hie
              rw [List.take_length]
              simp only [go_sem, ↓reduceIte, Nat.reduceEqDiff, Nat.reduceAdd, beq_self_eq_true, decide_false, natlt, Nat.lt_irrefl, ↓met_stampH, ↓met_names]
    · obtain ⟨x, y, hk⟩ := hs.lett h5
      have hx := kids_tot (e := e) (x := x) (by rw [hk]; simp)
      have hy := kids_tot (e := e) (x := y) (by rw [hk]; simp)
      have hxy : x.tot + y.tot + 1 ≤ e.tot := by rw [ht, hk, tots_cons, tots_cons]; omega
      have hl : (walkE withS faF fbF x b a0).length ≤ (a0).length + x.tot := walk_le (ext := withS) (fa := faF) (fb := fbF) List.length faF_le fbF_le _ x (Nat.le_refl _) b a0
      have d1 := ih x (by omega) (hs.kid (by rw [hk]; simp)) b a0 (by omega)
      have d2 := ih y (by omega) (hs.kid (by rw [hk]; simp)) (withS b [e.name]) (walkE withS faF fbF x b a0) (by omega)
      have dw := with_den b [e.name] (by simp)
      simp only [List.map_cons, List.map_nil] at dw
      rw [exC_eq] at d1 d2
      rw [hk, exsV_cons, exsV_cons, exsV_nil, exC_eq, exC_eq] at d0
      simp only [Bool.false_eq_true, if_false, if_true]
      rw [hk, walkLet_cons, walkKs_cons, walkKs_nil]
      generalize walkE withS faF fbF x b a0 = a1 at *
      simp only [go_sem, ↓reduceIte, Nat.reduceEqDiff, Nat.reduceAdd, Nat.reduceMul, Nat.reduceLeDiff, Nat.zero_ne_one, Nat.one_ne_zero, Nat.reduceLT, reduceCtorEq, beq_self_eq_true, Tryz.f74, d0, h3, h5, d1, d2, dw, exsV_cons, exsV_nil, exC_eq, Int.le_refl, Int.toNat_zero, Int.toNat_one, Int.zero_le_ofNat, ↓callF_func, ↓met_in, ↓met_out, cellIn, cellOut, ↓met_stampH, ↓met_names]
  · obtain ⟨x, hk⟩ := hs.lam h3
    have hx := kids_tot (e := e) (x := x) (by rw [hk]; simp)
    have d := ih x (by omega) (hs.kid (by rw [hk]; simp)) (withS b [e.name]) a0 (by omega)
    have dw := with_den b [e.name] (by simp)
    simp only [List.map_cons, List.map_nil] at dw
    rw [exC_eq] at d
    rw [hk, exsV_cons, exsV_nil, exC_eq] at d0
    simp only [if_true]
    rw [hk, walkKs_cons, walkKs_nil]
    simp only [go_sem, ↓reduceIte, Nat.reduceEqDiff, Nat.reduceAdd, Nat.reduceMul, Nat.reduceLeDiff, Nat.zero_ne_one, Nat.one_ne_zero, Nat.reduceLT, reduceCtorEq, beq_self_eq_true, Tryz.f74, d0, h3, d, dw, exsV_cons, exsV_nil, exC_eq, Int.le_refl, Int.toNat_zero, ↓callF_func, ↓met_in, ↓met_out, cellIn, cellOut, ↓met_stampH, ↓met_names]
end Go.Proofs
namespace Go.Proofs
open Go.Av
set_option maxHeartbeats 16000000
set_option maxRecDepth 100000
theorem walkC_den : ∀ (n : Nat) (e : Ex), e.tot ≤ n → SX e → ∀ (b : List (List UInt8)) (acc : List (List UInt8)), (acc).length + e.tot < 1000000 → den E 74 [.agg (exC e), .pmap (entsV b), .func 79 [] [.ptr (.par 0) 0], .func 80 [] [.ptr (.par 0) 0]] [[.own 9 0 ((acc).map .str), metN 0 (acc)]] = some (.tup [], [[.own 9 0 ((walkE withS faC fbC e b acc).map .str), metN 0 (walkE withS faC fbC e b acc)]]) := by
  intro n
  induction n with
  | zero => intro e he; exfalso; have := tot_eq e; have := ty_pos e; omega
  | succ n ih =>
  intro e he hs b acc hm
  have ht := tot_eq e
  have hp := ty_pos e
  have d0 := faC_den e b acc (by omega)
  obtain ⟨a0, ha0⟩ : ∃ a0, a0 = faC e b acc := ⟨_, rfl⟩
  have m0 : (a0).length ≤ (acc).length + 1 := ha0 ▸ faC_le e b acc
  rw [exC_eq] at d0
  rw [den_eq prim_74, body_74, exC_eq, walkE_eq, ← ha0]
  rw [← ha0] at d0
  cases h3 : e.kind == 3
  · cases h5 : e.kind == 5
    · simp only [Bool.false_eq_true, if_false]
      simp only [go_sem, ↓reduceIte, Nat.reduceEqDiff, Nat.reduceAdd, Nat.reduceLeDiff, Nat.zero_ne_one, Nat.one_ne_zero, Nat.reduceLT, reduceCtorEq, beq_self_eq_true, Tryz.f74, d0, h3, h5, ↓callF_func, ↓met_in, ↓met_out, cellIn, cellOut, ↓met_names, exsV_len]
      refine run_ind (fun i : Nat => i ≤ e.kids.length) (fun i => ⟨[(1, .pmap (entsV b)), (2, .func 79 [] [.ptr (.par 0) 0]), (3, .func 80 [] [.ptr (.par 0) 0]), (4, .ptr (.loc 4) 0), (55, .slice (exsV e.kids)), (56, .int .i64 e.kids.length), (57, .int .i64 i)], [[.own 9 0 ((walkKs withS faC fbC (e.kids.take i) b a0).map .str), metN 0 (walkKs withS faC fbC (e.kids.take i) b a0)]], [(4, [.int .i64 e.kind, .str e.name, .bool e.told, .int .i64 e.ty.kind, .str e.ty.name, .int .i64 e.ty.n, .slice (tysV e.ty.args), .slice (exsV e.kids), .slice (alsV e.alts)])], 1⟩)
        (fun _ => some (.tup [], [[.own 9 0 ((walkAs withS faC fbC e.alts b (walkKs withS faC fbC e.kids b a0)).map .str), metN 0 (walkAs withS faC fbC e.alts b (walkKs withS faC fbC e.kids b a0))]])) (fun i => e.kids.length - i) 0 (Nat.zero_le _) ?_ ?_
      · simp only [go_sem, ↓reduceIte, Nat.reduceEqDiff, Nat.zero_ne_one, reduceCtorEq, Int.cast_ofNat_Int, List.take_zero, walkKs_nil, ↓met_stampH, ↓met_names]
      · intro i hi h
        by_cases hlt : i < e.kids.length
        · obtain ⟨x, hx⟩ := getS hlt
          have w1 : IntKind.i64.wrap ((i : Int) + 1) = ((i + 1 : Nat) : Int) := wrapN (i + 1) (by have := kids_len e; omega)
          have hts := take_next hx
          have hg := tots_get hx
          have hle : (walkKs withS faC fbC (e.kids.take i) b a0).length ≤ (a0).length + Ex.tots (e.kids.take i) := walkKs_le (ext := withS) (fa := faC) (fb := fbC) List.length faC_le fbC_le (e.kids.take i) b a0
          have d := ih x (by have := kids_tot (List.mem_of_getElem? hx); omega) (hs.kid (List.mem_of_getElem? hx)) b (walkKs withS faC fbC (e.kids.take i) b a0) (by omega)
          rw [← walkKs_snoc, ← hts] at d
          rw [exC_eq] at d
          generalize walkKs withS faC fbC (e.kids.take i) b a0 = a1 at *
          simp only [go_sem, ↓reduceIte, Nat.reduceEqDiff, Nat.reduceAdd, Nat.reduceLeDiff, Nat.reduceLT, beq_self_eq_true, natlt, decide_eq_true hlt, natge0, tonat, exsV_get, hx, exC_eq, d, ↓callF_func, ↓met_in, ↓met_out, cellIn, cellOut, ↓met_names]
          refine h (i + 1) _ (by omega) (by omega) ?_
          simp only [go_sem, ↓reduceIte, Nat.reduceEqDiff, w1, ↓met_stampH, ↓met_names]
        · have hie : i = e.kids.length := by omega
          subst hie
          rw [List.take_length]
          have hle : (walkKs withS faC fbC e.kids b a0).length ≤ (a0).length + Ex.tots e.kids := walkKs_le (ext := withS) (fa := faC) (fb := fbC) List.length faC_le fbC_le e.kids b a0
          generalize walkKs withS faC fbC e.kids b a0 = a1 at *
          clear h d0
          simp only [go_sem, ↓reduceIte, Nat.reduceEqDiff, Nat.reduceAdd, Nat.one_ne_zero, Nat.reduceLT, beq_self_eq_true, decide_false, natlt, Nat.lt_irrefl, alsV_len]
          refine run_ind (fun i : Nat => i ≤ e.alts.length) (fun i => ⟨[(1, .pmap (entsV b)), (2, .func 79 [] [.ptr (.par 0) 0]), (3, .func 80 [] [.ptr (.par 0) 0]), (68, .slice (alsV e.alts)), (69, .int .i64 e.alts.length), (70, .int .i64 i)], [[.own 9 0 ((walkAs withS faC fbC (e.alts.take i) b a1).map .str), metN 0 (walkAs withS faC fbC (e.alts.take i) b a1)]], [], 1⟩)
            (fun _ => some (.tup [], [[.own 9 0 ((walkAs withS faC fbC e.alts b a1).map .str), metN 0 (walkAs withS faC fbC e.alts b a1)]])) (fun i => e.alts.length - i) 0 (Nat.zero_le _) ?_ ?_
          · simp only [go_sem, ↓reduceIte, Nat.reduceEqDiff, Int.cast_ofNat_Int, List.take_zero, walkAs_nil, ↓met_stampH, ↓met_names]
          · intro i hi h
            by_cases hlt : i < e.alts.length
            · obtain ⟨x, hx⟩ := getS hlt
              have w1 : IntKind.i64.wrap ((i : Int) + 1) = ((i + 1 : Nat) : Int) := wrapN (i + 1) (by have := altsLen e; omega)
              have hts := take_next hx
              have hg := altots_get hx
              rw [altot_eq] at hg
              have hle2 : (walkAs withS faC fbC (e.alts.take i) b a1).length ≤ (a1).length + Al.tots (e.alts.take i) := walkAs_le (ext := withS) (fa := faC) (fb := fbC) List.length faC_le fbC_le (e.alts.take i) b a1
              have hb : (fbC x (walkAs withS faC fbC (e.alts.take i) b a1)).length ≤ (walkAs withS faC fbC (e.alts.take i) b a1).length + x.vars.length + 1 := fbC_le x (walkAs withS faC fbC (e.alts.take i) b a1)
              have db := fbC_den x (walkAs withS faC fbC (e.alts.take i) b a1) (by omega)
              have dw := with_den b x.vars (by omega)
              have d := ih x.body (by have := alts_tot (List.mem_of_getElem? hx); omega) (hs.alt (List.mem_of_getElem? hx)) (withS b x.vars) (fbC x (walkAs withS faC fbC (e.alts.take i) b a1)) (by omega)
              have e2 := walkAs_snoc (ext := withS) (fa := faC) (fb := fbC) (e.alts.take i) x b a1
              rw [walkA_eq, ← hts] at e2
              rw [← e2] at d
              clear e2
              rw [exC_eq] at d
              rw [alV_eq, exC_eq] at db
              skip
              generalize fbC x (walkAs withS faC fbC (e.alts.take i) b a1) = a3 at *
              generalize walkAs withS faC fbC (e.alts.take i) b a1 = a2 at *
              simp only [go_sem, ↓reduceIte, Nat.reduceEqDiff, Nat.reduceAdd, Nat.reduceLeDiff, Nat.one_ne_zero, Nat.reduceLT, reduceCtorEq, beq_self_eq_true, natlt, decide_eq_true hlt, natge0, tonat, alsV_get, hx, alV_eq, exC_eq, db, dw, d, ↓callF_func, ↓met_in, ↓met_out, cellIn, cellOut, ↓met_names]
              refine h (i + 1) _ (by omega) (by omega) ?_
              simp only [go_sem, ↓reduceIte, Nat.reduceEqDiff, w1, ↓met_stampH, ↓met_names]
            · have hie : i = e.alts.length := by omega
              subst hie
              rw [List.take_length]
              simp only [go_sem, ↓reduceIte, Nat.reduceEqDiff, Nat.reduceAdd, beq_self_eq_true, decide_false, natlt, Nat.lt_irrefl, ↓met_stampH, ↓met_names]
    · obtain ⟨x, y, hk⟩ := hs.lett h5
      have hx := kids_tot (e := e) (x := x) (by rw [hk]; simp)
      have hy := kids_tot (e := e) (x := y) (by rw [hk]; simp)
      have hxy : x.tot + y.tot + 1 ≤ e.tot := by rw [ht, hk, tots_cons, tots_cons]; omega
      have hl : (walkE withS faC fbC x b a0).length ≤ (a0).length + x.tot := walk_le (ext := withS) (fa := faC) (fb := fbC) List.length faC_le fbC_le _ x (Nat.le_refl _) b a0
      have d1 := ih x (by omega) (hs.kid (by rw [hk]; simp)) b a0 (by omega)
      have d2 := ih y (by omega) (hs.kid (by rw [hk]; simp)) (withS b [e.name]) (walkE withS faC fbC x b a0) (by omega)
      have dw := with_den b [e.name] (by simp)
      simp only [List.map_cons, List.map_nil] at dw
      rw [exC_eq] at d1 d2
      rw [hk, exsV_cons, exsV_cons, exsV_nil, exC_eq, exC_eq] at d0
      simp only [Bool.false_eq_true, if_false, if_true]
      rw [hk, walkLet_cons, walkKs_cons, walkKs_nil]
      generalize walkE withS faC fbC x b a0 = a1 at *
      simp only [go_sem, ↓reduceIte, Nat.reduceEqDiff, Nat.reduceAdd, Nat.reduceMul, Nat.reduceLeDiff, Nat.zero_ne_one, Nat.one_ne_zero, Nat.reduceLT, reduceCtorEq, beq_self_eq_true, Tryz.f74, d0, h3, h5, d1, d2, dw, exsV_cons, exsV_nil, exC_eq, Int.le_refl, Int.toNat_zero, Int.toNat_one, Int.zero_le_ofNat, ↓callF_func, ↓met_in, ↓met_out, cellIn, cellOut, ↓met_stampH, ↓met_names]
  · obtain ⟨x, hk⟩ := hs.lam h3
    have hx := kids_tot (e := e) (x := x) (by rw [hk]; simp)
    have d := ih x (by omega) (hs.kid (by rw [hk]; simp)) (withS b [e.name]) a0 (by omega)
    have dw := with_den b [e.name] (by simp)
    simp only [List.map_cons, List.map_nil] at dw
    rw [exC_eq] at d
    rw [hk, exsV_cons, exsV_nil, exC_eq] at d0
    simp only [if_true]
    rw [hk, walkKs_cons, walkKs_nil]
    simp only [go_sem, ↓reduceIte, Nat.reduceEqDiff, Nat.reduceAdd, Nat.reduceMul, Nat.reduceLeDiff, Nat.zero_ne_one, Nat.one_ne_zero, Nat.reduceLT, reduceCtorEq, beq_self_eq_true, Tryz.f74, d0, h3, d, dw, exsV_cons, exsV_nil, exC_eq, Int.le_refl, Int.toNat_zero, ↓callF_func, ↓met_in, ↓met_out, cellIn, cellOut, ↓met_stampH, ↓met_names]
end Go.Proofs
namespace Go.Proofs
open Go.Av
set_option maxHeartbeats 16000000
set_option maxRecDepth 100000
theorem walkB_den : ∀ (n : Nat) (e : Ex), e.tot ≤ n → SX e → ∀ (b : List (List UInt8)) (acc : List (List UInt8)), (acc).length + e.tot < 1000000 → den E 74 [.agg (exC e), .pmap (entsV b), .func 82 [] [.ptr (.par 0) 0], .func 83 [] [.ptr (.par 0) 0]] [[.own 9 0 ((acc).map .str), metN 0 (acc)]] = some (.tup [], [[.own 9 0 ((walkE withS faB fbB e b acc).map .str), metN 0 (walkE withS faB fbB e b acc)]]) := by
  intro n
  induction n with
  | zero => intro e he; exfalso; have := tot_eq e; have := ty_pos e; omega
  | succ n ih =>
  intro e he hs b acc hm
  have ht := tot_eq e
  have hp := ty_pos e
  have d0 := faB_den e b acc (by omega)
  obtain ⟨a0, ha0⟩ : ∃ a0, a0 = faB e b acc := ⟨_, rfl⟩
  have m0 : (a0).length ≤ (acc).length + 1 := ha0 ▸ faB_le e b acc
  rw [exC_eq] at d0
  rw [den_eq prim_74, body_74, exC_eq, walkE_eq, ← ha0]
  rw [← ha0] at d0
  cases h3 : e.kind == 3
  · cases h5 : e.kind == 5
    · simp only [Bool.false_eq_true, if_false]
      simp only [go_sem, ↓reduceIte, Nat.reduceEqDiff, Nat.reduceAdd, Nat.reduceLeDiff, Nat.zero_ne_one, Nat.one_ne_zero, Nat.reduceLT, reduceCtorEq, beq_self_eq_true, Tryz.f74, d0, h3, h5, ↓callF_func, ↓met_in, ↓met_out, cellIn, cellOut, ↓met_names, exsV_len]
      refine run_ind (fun i : Nat => i ≤ e.kids.length) (fun i => ⟨[(1, .pmap (entsV b)), (2, .func 82 [] [.ptr (.par 0) 0]), (3, .func 83 [] [.ptr (.par 0) 0]), (4, .ptr (.loc 4) 0), (55, .slice (exsV e.kids)), (56, .int .i64 e.kids.length), (57, .int .i64 i)], [[.own 9 0 ((walkKs withS faB fbB (e.kids.take i) b a0).map .str), metN 0 (walkKs withS faB fbB (e.kids.take i) b a0)]], [(4, [.int .i64 e.kind, .str e.name, .bool e.told, .int .i64 e.ty.kind, .str e.ty.name, .int .i64 e.ty.n, .slice (tysV e.ty.args), .slice (exsV e.kids), .slice (alsV e.alts)])], 1⟩)
        (fun _ => some (.tup [], [[.own 9 0 ((walkAs withS faB fbB e.alts b (walkKs withS faB fbB e.kids b a0)).map .str), metN 0 (walkAs withS faB fbB e.alts b (walkKs withS faB fbB e.kids b a0))]])) (fun i => e.kids.length - i) 0 (Nat.zero_le _) ?_ ?_
      · simp only [go_sem, ↓reduceIte, Nat.reduceEqDiff, Nat.zero_ne_one, reduceCtorEq, Int.cast_ofNat_Int, List.take_zero, walkKs_nil, ↓met_stampH, ↓met_names]
      · intro i hi h
        by_cases hlt : i < e.kids.length
        · obtain ⟨x, hx⟩ := getS hlt
          have w1 : IntKind.i64.wrap ((i : Int) + 1) = ((i + 1 : Nat) : Int) := wrapN (i + 1) (by have := kids_len e; omega)
          have hts := take_next hx
          have hg := tots_get hx
          have hle : (walkKs withS faB fbB (e.kids.take i) b a0).length ≤ (a0).length + Ex.tots (e.kids.take i) := walkKs_le (ext := withS) (fa := faB) (fb := fbB) List.length faB_le fbB_le (e.kids.take i) b a0
          have d := ih x (by have := kids_tot (List.mem_of_getElem? hx); omega) (hs.kid (List.mem_of_getElem? hx)) b (walkKs withS faB fbB (e.kids.take i) b a0) (by omega)
          rw [← walkKs_snoc, ← hts] at d
          rw [exC_eq] at d
          generalize walkKs withS faB fbB (e.kids.take i) b a0 = a1 at *
          simp only [go_sem, ↓reduceIte, Nat.reduceEqDiff, Nat.reduceAdd, Nat.reduceLeDiff, Nat.reduceLT, beq_self_eq_true, natlt, decide_eq_true hlt, natge0, tonat, exsV_get, hx, exC_eq, d, ↓callF_func, ↓met_in, ↓met_out, cellIn, cellOut, ↓met_names]
          refine h (i + 1) _ (by omega) (by omega) ?_
          simp only [go_sem, ↓reduceIte, Nat.reduceEqDiff, w1, ↓met_stampH, ↓met_names]
        · have hie : i = e.kids.length := by omega
          subst hie
          rw [List.take_length]
          have hle : (walkKs withS faB fbB e.kids b a0).length ≤ (a0).length + Ex.tots e.kids := walkKs_le (ext := withS) (fa := faB) (fb := fbB) List.length faB_le fbB_le e.kids b a0
          generalize walkKs withS faB fbB e.kids b a0 = a1 at *
          clear h d0
          simp only [go_sem, ↓reduceIte, Nat.reduceEqDiff, Nat.reduceAdd, Nat.one_ne_zero, Nat.reduceLT, beq_self_eq_true, decide_false, natlt, Nat.lt_irrefl, alsV_len]
          refine run_ind (fun i : Nat => i ≤ e.alts.length) (fun i => ⟨[(1, .pmap (entsV b)), (2, .func 82 [] [.ptr (.par 0) 0]), (3, .func 83 [] [.ptr (.par 0) 0]), (68, .slice (alsV e.alts)), (69, .int .i64 e.alts.length), (70, .int .i64 i)], [[.own 9 0 ((walkAs withS faB fbB (e.alts.take i) b a1).map .str), metN 0 (walkAs withS faB fbB (e.alts.take i) b a1)]], [], 1⟩)
            (fun _ => some (.tup [], [[.own 9 0 ((walkAs withS faB fbB e.alts b a1).map .str), metN 0 (walkAs withS faB fbB e.alts b a1)]])) (fun i => e.alts.length - i) 0 (Nat.zero_le _) ?_ ?_
          · simp only [go_sem, ↓reduceIte, Nat.reduceEqDiff, Int.cast_ofNat_Int, List.take_zero, walkAs_nil, ↓met_stampH, ↓met_names]
          · intro i hi h
            by_cases hlt : i < e.alts.length
            · obtain ⟨x, hx⟩ := getS hlt
              have w1 : IntKind.i64.wrap ((i : Int) + 1) = ((i + 1 : Nat) : Int) := wrapN (i + 1) (by have := altsLen e; omega)
              have hts := take_next hx
              have hg := altots_get hx
              rw [altot_eq] at hg
              have hle2 : (walkAs withS faB fbB (e.alts.take i) b a1).length ≤ (a1).length + Al.tots (e.alts.take i) := walkAs_le (ext := withS) (fa := faB) (fb := fbB) List.length faB_le fbB_le (e.alts.take i) b a1
              have hb : (fbB x (walkAs withS faB fbB (e.alts.take i) b a1)).length ≤ (walkAs withS faB fbB (e.alts.take i) b a1).length + x.vars.length + 1 := fbB_le x (walkAs withS faB fbB (e.alts.take i) b a1)
              have db := fbB_den x (walkAs withS faB fbB (e.alts.take i) b a1) (by omega)
              have dw := with_den b x.vars (by omega)
              have d := ih x.body (by have := alts_tot (List.mem_of_getElem? hx); omega) (hs.alt (List.mem_of_getElem? hx)) (withS b x.vars) (fbB x (walkAs withS faB fbB (e.alts.take i) b a1)) (by omega)
              have e2 := walkAs_snoc (ext := withS) (fa := faB) (fb := fbB) (e.alts.take i) x b a1
              rw [walkA_eq, ← hts] at e2
              rw [← e2] at d
              clear e2
              rw [exC_eq] at d
              rw [alV_eq, exC_eq] at db
              skip
              generalize fbB x (walkAs withS faB fbB (e.alts.take i) b a1) = a3 at *
              generalize walkAs withS faB fbB (e.alts.take i) b a1 = a2 at *
              simp only [go_sem, ↓reduceIte, Nat.reduceEqDiff, Nat.reduceAdd, Nat.reduceLeDiff, Nat.one_ne_zero, Nat.reduceLT, reduceCtorEq, beq_self_eq_true, natlt, decide_eq_true hlt, natge0, tonat, alsV_get, hx, alV_eq, exC_eq, db, dw, d, ↓callF_func, ↓met_in, ↓met_out, cellIn, cellOut, ↓met_names]
              refine h (i + 1) _ (by omega) (by omega) ?_
              simp only [go_sem, ↓reduceIte, Nat.reduceEqDiff, w1, ↓met_stampH, ↓met_names]
            · have hie : i = e.alts.length := by omega
              subst hie
              rw [List.take_length]
              simp only [go_sem, ↓reduceIte, Nat.reduceEqDiff, Nat.reduceAdd, beq_self_eq_true, decide_false, natlt, Nat.lt_irrefl, ↓met_stampH, ↓met_names]
    · obtain ⟨x, y, hk⟩ := hs.lett h5
      have hx := kids_tot (e := e) (x := x) (by rw [hk]; simp)
      have hy := kids_tot (e := e) (x := y) (by rw [hk]; simp)
      have hxy : x.tot + y.tot + 1 ≤ e.tot := by rw [ht, hk, tots_cons, tots_cons]; omega
      have hl : (walkE withS faB fbB x b a0).length ≤ (a0).length + x.tot := walk_le (ext := withS) (fa := faB) (fb := fbB) List.length faB_le fbB_le _ x (Nat.le_refl _) b a0
      have d1 := ih x (by omega) (hs.kid (by rw [hk]; simp)) b a0 (by omega)
      have d2 := ih y (by omega) (hs.kid (by rw [hk]; simp)) (withS b [e.name]) (walkE withS faB fbB x b a0) (by omega)
      have dw := with_den b [e.name] (by simp)
      simp only [List.map_cons, List.map_nil] at dw
      rw [exC_eq] at d1 d2
      rw [hk, exsV_cons, exsV_cons, exsV_nil, exC_eq, exC_eq] at d0
      simp only [Bool.false_eq_true, if_false, if_true]
      rw [hk, walkLet_cons, walkKs_cons, walkKs_nil]
      generalize walkE withS faB fbB x b a0 = a1 at *
      simp only [go_sem, ↓reduceIte, Nat.reduceEqDiff, Nat.reduceAdd, Nat.reduceMul, Nat.reduceLeDiff, Nat.zero_ne_one, Nat.one_ne_zero, Nat.reduceLT, reduceCtorEq, beq_self_eq_true, Tryz.f74, d0, h3, h5, d1, d2, dw, exsV_cons, exsV_nil, exC_eq, Int.le_refl, Int.toNat_zero, Int.toNat_one, Int.zero_le_ofNat, ↓callF_func, ↓met_in, ↓met_out, cellIn, cellOut, ↓met_stampH, ↓met_names]
  · obtain ⟨x, hk⟩ := hs.lam h3
    have hx := kids_tot (e := e) (x := x) (by rw [hk]; simp)
    have d := ih x (by omega) (hs.kid (by rw [hk]; simp)) (withS b [e.name]) a0 (by omega)
    have dw := with_den b [e.name] (by simp)
    simp only [List.map_cons, List.map_nil] at dw
    rw [exC_eq] at d
    rw [hk, exsV_cons, exsV_nil, exC_eq] at d0
    simp only [if_true]
    rw [hk, walkKs_cons, walkKs_nil]
    simp only [go_sem, ↓reduceIte, Nat.reduceEqDiff, Nat.reduceAdd, Nat.reduceMul, Nat.reduceLeDiff, Nat.zero_ne_one, Nat.one_ne_zero, Nat.reduceLT, reduceCtorEq, beq_self_eq_true, Tryz.f74, d0, h3, d, dw, exsV_cons, exsV_nil, exC_eq, Int.le_refl, Int.toNat_zero, ↓callF_func, ↓met_in, ↓met_out, cellIn, cellOut, ↓met_stampH, ↓met_names]
end Go.Proofs
namespace Go.Proofs
open Go.Av
set_option maxHeartbeats 16000000
set_option maxRecDepth 100000
theorem walkT_den : ∀ (n : Nat) (e : Ex), e.tot ≤ n → SX e → ∀ (b : List (List UInt8)) (acc : Bool × List UInt8), 0 + e.tot < 1000000 → den E 74 [.agg (exC e), .pmap (entsV b), .func 136 [] [], .func 137 [] [.ptr (.par 0) 0, .ptr (.par 1) 0]] [[.bool (acc).1], [.str (acc).2]] = some (.tup [], [[.bool (walkE withS faT fbT e b acc).1], [.str (walkE withS faT fbT e b acc).2]]) := by
  intro n
  induction n with
  | zero => intro e he; exfalso; have := tot_eq e; have := ty_pos e; omega
  | succ n ih =>
  intro e he hs b acc hm
  have ht := tot_eq e
  have hp := ty_pos e
  have d0 := faT_den e b acc (by omega)
  obtain ⟨a0, ha0⟩ : ∃ a0, a0 = faT e b acc := ⟨_, rfl⟩
  have m0 : 0 ≤ 0 + 1 := Nat.zero_le _
  rw [exC_eq] at d0
  rw [den_eq prim_74, body_74, exC_eq, walkE_eq, ← ha0]
  have ha1 : a0 = acc := ha0
  subst ha1
  cases h3 : e.kind == 3
  · cases h5 : e.kind == 5
    · simp only [Bool.false_eq_true, if_false]
      simp only [go_sem, ↓reduceIte, Nat.reduceEqDiff, Nat.reduceAdd, Nat.reduceLeDiff, Nat.zero_ne_one, Nat.one_ne_zero, Nat.reduceLT, reduceCtorEq, Tryz.f74, d0, h3, h5, exsV_len]
      refine run_ind (fun i : Nat => i ≤ e.kids.length) (fun i => ⟨[(1, .pmap (entsV b)), (2, .func 136 [] []), (3, .func 137 [] [.ptr (.par 0) 0, .ptr (.par 1) 0]), (4, .ptr (.loc 4) 0), (55, .slice (exsV e.kids)), (56, .int .i64 e.kids.length), (57, .int .i64 i)], [[.bool (walkKs withS faT fbT (e.kids.take i) b a0).1], [.str (walkKs withS faT fbT (e.kids.take i) b a0).2]], [(4, [.int .i64 e.kind, .str e.name, .bool e.told, .int .i64 e.ty.kind, .str e.ty.name, .int .i64 e.ty.n, .slice (tysV e.ty.args), .slice (exsV e.kids), .slice (alsV e.alts)])], 1⟩)
        (fun _ => some (.tup [], [[.bool (walkAs withS faT fbT e.alts b (walkKs withS faT fbT e.kids b a0)).1], [.str (walkAs withS faT fbT e.alts b (walkKs withS faT fbT e.kids b a0)).2]])) (fun i => e.kids.length - i) 0 (Nat.zero_le _) ?_ ?_
      · simp only [go_sem, ↓reduceIte, Nat.reduceEqDiff, Nat.zero_ne_one, reduceCtorEq, Int.cast_ofNat_Int, List.take_zero, walkKs_nil]
      · intro i hi h
        by_cases hlt : i < e.kids.length
        · obtain ⟨x, hx⟩ := getS hlt
          have w1 : IntKind.i64.wrap ((i : Int) + 1) = ((i + 1 : Nat) : Int) := wrapN (i + 1) (by have := kids_len e; omega)
          have hts := take_next hx
          have hg := tots_get hx
          have hle : 0 ≤ 0 + Ex.tots (e.kids.take i) := walkKs_le (ext := withS) (fa := faT) (fb := fbT) (fun _ : Bool × List UInt8 => 0) faT_le fbT_le (e.kids.take i) b a0
          have d := ih x (by have := kids_tot (List.mem_of_getElem? hx); omega) (hs.kid (List.mem_of_getElem? hx)) b (walkKs withS faT fbT (e.kids.take i) b a0) (by omega)
          rw [← walkKs_snoc, ← hts] at d
          rw [exC_eq] at d
          generalize walkKs withS faT fbT (e.kids.take i) b a0 = a1 at *
          simp only [go_sem, ↓reduceIte, Nat.reduceEqDiff, Nat.reduceAdd, Nat.reduceLeDiff, Nat.reduceLT, Nat.reduceBEq, beq_self_eq_true, natlt, decide_eq_true hlt, natge0, tonat, exsV_get, hx, exC_eq, d]
          refine h (i + 1) _ (by omega) (by omega) ?_
          simp only [go_sem, ↓reduceIte, Nat.reduceEqDiff, w1]
        · have hie : i = e.kids.length := by omega
          subst hie
          rw [List.take_length]
          have hle : 0 ≤ 0 + Ex.tots e.kids := walkKs_le (ext := withS) (fa := faT) (fb := fbT) (fun _ : Bool × List UInt8 => 0) faT_le fbT_le e.kids b a0
          generalize walkKs withS faT fbT e.kids b a0 = a1 at *
          clear h d0
          simp only [go_sem, ↓reduceIte, Nat.reduceEqDiff, Nat.reduceAdd, Nat.one_ne_zero, Nat.reduceLT, beq_self_eq_true, decide_false, natlt, Nat.lt_irrefl, alsV_len]
          refine run_ind (fun i : Nat => i ≤ e.alts.length) (fun i => ⟨[(1, .pmap (entsV b)), (2, .func 136 [] []), (3, .func 137 [] [.ptr (.par 0) 0, .ptr (.par 1) 0]), (68, .slice (alsV e.alts)), (69, .int .i64 e.alts.length), (70, .int .i64 i)], [[.bool (walkAs withS faT fbT (e.alts.take i) b a1).1], [.str (walkAs withS faT fbT (e.alts.take i) b a1).2]], [], 1⟩)
            (fun _ => some (.tup [], [[.bool (walkAs withS faT fbT e.alts b a1).1], [.str (walkAs withS faT fbT e.alts b a1).2]])) (fun i => e.alts.length - i) 0 (Nat.zero_le _) ?_ ?_
          · simp only [go_sem, ↓reduceIte, Nat.reduceEqDiff, Int.cast_ofNat_Int, List.take_zero, walkAs_nil]
          · intro i hi h
            by_cases hlt : i < e.alts.length
            · obtain ⟨x, hx⟩ := getS hlt
              have w1 : IntKind.i64.wrap ((i : Int) + 1) = ((i + 1 : Nat) : Int) := wrapN (i + 1) (by have := altsLen e; omega)
              have hts := take_next hx
              have hg := altots_get hx
              rw [altot_eq] at hg
              have hle2 : 0 ≤ 0 + Al.tots (e.alts.take i) := walkAs_le (ext := withS) (fa := faT) (fb := fbT) (fun _ : Bool × List UInt8 => 0) faT_le fbT_le (e.alts.take i) b a1
              have hb : 0 ≤ 0 + x.vars.length + 1 := fbT_le x (walkAs withS faT fbT (e.alts.take i) b a1)
              have db := fbT_den x (walkAs withS faT fbT (e.alts.take i) b a1) (by omega)
              have dw := with_den b x.vars (by omega)
              have d := ih x.body (by have := alts_tot (List.mem_of_getElem? hx); omega) (hs.alt (List.mem_of_getElem? hx)) (withS b x.vars) (fbT x (walkAs withS faT fbT (e.alts.take i) b a1)) (by omega)
              have e2 := walkAs_snoc (ext := withS) (fa := faT) (fb := fbT) (e.alts.take i) x b a1
              rw [walkA_eq, ← hts] at e2
              rw [← e2] at d
              clear e2
              rw [exC_eq] at d
              rw [alV_eq, exC_eq] at db
              skip
              generalize fbT x (walkAs withS faT fbT (e.alts.take i) b a1) = a3 at *
              generalize walkAs withS faT fbT (e.alts.take i) b a1 = a2 at *
              simp only [go_sem, ↓reduceIte, Nat.reduceEqDiff, Nat.reduceAdd, Nat.reduceLeDiff, Nat.one_ne_zero, Nat.reduceLT, Nat.reduceBEq, reduceCtorEq, beq_self_eq_true, natlt, decide_eq_true hlt, natge0, tonat, alsV_get, hx, alV_eq, exC_eq, db, dw, d]
              refine h (i + 1) _ (by omega) (by omega) ?_
              simp only [go_sem, ↓reduceIte, Nat.reduceEqDiff, w1]
            · have hie : i = e.alts.length := by omega
              subst hie
              rw [List.take_length]
              simp only [go_sem, ↓reduceIte, Nat.reduceEqDiff, Nat.reduceAdd, beq_self_eq_true, decide_false, natlt, Nat.lt_irrefl]
    · obtain ⟨x, y, hk⟩ := hs.lett h5
      have hx := kids_tot (e := e) (x := x) (by rw [hk]; simp)
      have hy := kids_tot (e := e) (x := y) (by rw [hk]; simp)
      have hxy : x.tot + y.tot + 1 ≤ e.tot := by rw [ht, hk, tots_cons, tots_cons]; omega
      have hl : 0 ≤ 0 + x.tot := walk_le (ext := withS) (fa := faT) (fb := fbT) (fun _ : Bool × List UInt8 => 0) faT_le fbT_le _ x (Nat.le_refl _) b a0
      have d1 := ih x (by omega) (hs.kid (by rw [hk]; simp)) b a0 (by omega)
      have d2 := ih y (by omega) (hs.kid (by rw [hk]; simp)) (withS b [e.name]) (walkE withS faT fbT x b a0) (by omega)
      have dw := with_den b [e.name] (by simp)
      simp only [List.map_cons, List.map_nil] at dw
      rw [exC_eq] at d1 d2
      rw [hk, exsV_cons, exsV_cons, exsV_nil, exC_eq, exC_eq] at d0
      simp only [Bool.false_eq_true, if_false, if_true]
      rw [hk, walkLet_cons, walkKs_cons, walkKs_nil]
      generalize walkE withS faT fbT x b a0 = a1 at *
      simp only [go_sem, ↓reduceIte, Nat.reduceEqDiff, Nat.reduceAdd, Nat.reduceMul, Nat.reduceLeDiff, Nat.zero_ne_one, Nat.one_ne_zero, Nat.reduceLT, Nat.reduceBEq, reduceCtorEq, beq_self_eq_true, Tryz.f74, d0, h3, h5, d1, d2, dw, exsV_cons, exsV_nil, exC_eq, Int.le_refl, Int.toNat_zero, Int.toNat_one, Int.zero_le_ofNat]
  · obtain ⟨x, hk⟩ := hs.lam h3
    have hx := kids_tot (e := e) (x := x) (by rw [hk]; simp)
    have d := ih x (by omega) (hs.kid (by rw [hk]; simp)) (withS b [e.name]) a0 (by omega)
    have dw := with_den b [e.name] (by simp)
    simp only [List.map_cons, List.map_nil] at dw
    rw [exC_eq] at d
    rw [hk, exsV_cons, exsV_nil, exC_eq] at d0
    simp only [if_true]
    rw [hk, walkKs_cons, walkKs_nil]
    simp only [go_sem, ↓reduceIte, Nat.reduceEqDiff, Nat.reduceAdd, Nat.reduceMul, Nat.reduceLeDiff, Nat.zero_ne_one, Nat.one_ne_zero, Nat.reduceLT, Nat.reduceBEq, reduceCtorEq, beq_self_eq_true, Tryz.f74, d0, h3, d, dw, exsV_cons, exsV_nil, exC_eq, Int.le_refl, Int.toNat_zero]
end Go.Proofs
namespace Go.Proofs
open Go.Av
set_option maxHeartbeats 16000000
set_option maxRecDepth 100000
/-! what stands free, the constructors, and what is bound -/
def freeS (e : Ex) : List (List UInt8) := walkE withS faF fbF e [] []
def consS (e : Ex) : List (List UInt8) := walkE withS faC fbC e [] []
def boundS (e : Ex) : List (List UInt8) := walkE withS faB fbB e [] []
theorem free_le (e : Ex) : (freeS e).length ≤ e.tot := by
  have := walk_le (ext := withS) List.length faF_le fbF_le _ e (Nat.le_refl _) [] []
  unfold freeS; simpa using this
theorem cons_le (e : Ex) : (consS e).length ≤ e.tot := by
  have := walk_le (ext := withS) List.length faC_le fbC_le _ e (Nat.le_refl _) [] []
  unfold consS; simpa using this
theorem bound_le (e : Ex) : (boundS e).length ≤ e.tot := by
  have := walk_le (ext := withS) List.length faB_le fbB_le _ e (Nat.le_refl _) [] []
  unfold boundS; simpa using this
theorem free_den (e : Ex) (hs : SX e) (ht : e.tot < 1000000) : den E 30 [.agg (exC e)] [] = some (.slice ((freeS e).map .str), []) := by
  have d := walkF_den _ e (Nat.le_refl _) hs [] [] (by simpa using ht)
  rw [den_eq prim_30, body_30]
  rw [exC_eq] at d ⊢
  rw [show entsV [] = [] from rfl] at d
  simp only [List.map_nil, met_nil] at d
  unfold freeS
  generalize walkE withS faF fbF e [] [] = r at *
  simp only [go_sem, ↓reduceIte, Nat.reduceEqDiff, Nat.reduceAdd, Nat.reduceLeDiff, Nat.zero_ne_one, Nat.one_ne_zero, Nat.reduceLT, reduceCtorEq, beq_self_eq_true, Tryz.f30, d, ↓callF_func, ↓met_out, cellIn, cellOut]
theorem cons_den (e : Ex) (hs : SX e) (ht : e.tot < 1000000) : den E 32 [.agg (exC e)] [] = some (.slice ((consS e).map .str), []) := by
  have d := walkC_den _ e (Nat.le_refl _) hs [] [] (by simpa using ht)
  rw [den_eq prim_32, body_32]
  rw [exC_eq] at d ⊢
  rw [show entsV [] = [] from rfl] at d
  simp only [List.map_nil, met_nil] at d
  unfold consS
  generalize walkE withS faC fbC e [] [] = r at *
  simp only [go_sem, ↓reduceIte, Nat.reduceEqDiff, Nat.reduceAdd, Nat.reduceLeDiff, Nat.zero_ne_one, Nat.one_ne_zero, Nat.reduceLT, reduceCtorEq, beq_self_eq_true, Tryz.f32, d, ↓callF_func, ↓met_out, cellIn, cellOut]
theorem bound_den (e : Ex) (hs : SX e) (ht : e.tot < 1000000) : den E 34 [.agg (exC e)] [] = some (.slice ((boundS e).map .str), []) := by
  have d := walkB_den _ e (Nat.le_refl _) hs [] [] (by simpa using ht)
  rw [den_eq prim_34, body_34]
  rw [exC_eq] at d ⊢
  rw [show entsV [] = [] from rfl] at d
  simp only [List.map_nil, met_nil] at d
  unfold boundS
  generalize walkE withS faB fbB e [] [] = r at *
  simp only [go_sem, ↓reduceIte, Nat.reduceEqDiff, Nat.reduceAdd, Nat.reduceLeDiff, Nat.zero_ne_one, Nat.one_ne_zero, Nat.reduceLT, reduceCtorEq, beq_self_eq_true, Tryz.f34, d, ↓callF_func, ↓met_out, cellIn, cellOut]
/-! what is declared -/
structure Tab where
  data : List (List UInt8)
  cons : List (List UInt8)
  sigs : List (List UInt8)
  binds : List (List UInt8)
def Tab.len (T : Tab) : Nat := T.data.length + T.cons.length + T.sigs.length + T.binds.length
def tabH (T : Tab) : List AVal := [.own 9 0 (T.data.map .str), .own 9 0 (T.cons.map .str), .own 9 0 (T.sigs.map .str), .own 9 0 (T.binds.map .str)]
def restS (T : Tab) (e : Ex) : List UInt8 × Int :=
  if (walkE withS faT fbT e [] (false, [])).1 then ((walkE withS faT fbT e [] (false, [])).2, 90)
  else if (outS (freeS e) T.binds).2 then ((outS (freeS e) T.binds).1, 91)
  else if (outS (consS e) T.cons).2 then ((outS (consS e) T.cons).1, 91)
  else ([], 0)
def bindR (T : Tab) (e : Ex) : List (List UInt8) → List UInt8 × Int
  | [] => restS T e
  | x :: r => if T.binds.contains x then (x, 90) else bindR T e r
def bindS (T : Tab) (e : Ex) : List UInt8 × Int := bindR T e (boundS e)
def seV (p : List UInt8 × Int) : AVal := .tup [.str p.1, .int .i64 p.2]
theorem binding_den (T : Tab) (e : Ex) (hs : SX e) (ht : e.tot < 1000000) (hT : T.len < 1000000) : den E 87 [.ptr (.par 0) 0, .agg (exC e)] [tabH T] = some (seV (bindS T e), [tabH T]) := by
  unfold Tab.len at hT
  have d1 := bound_den e hs ht
  have d2 := walkT_den _ e (Nat.le_refl _) hs [] (false, []) (by simpa using ht)
  have d3 := free_den e hs ht
  have d4 := cons_den e hs ht
  have hb := bound_le e
  have d5 := outside_den (freeS e) T.binds (by have := free_le e; omega) (by omega)
  have d6 := outside_den (consS e) T.cons (by have := cons_le e; omega) (by omega)
  rw [den_eq prim_87, body_87]
  rw [exC_eq] at d1 d2 d3 d4 ⊢
  rw [show entsV [] = [] from rfl] at d2
  unfold tabH bindS
  simp only [twV] at d5 d6
  simp only [go_sem, ↓reduceIte, Nat.reduceEqDiff, Nat.reduceAdd, Nat.reduceLeDiff, Nat.zero_ne_one, Nat.reduceLT, reduceCtorEq, Tryz.f87, d1, List.length_map]
  refine run_ind (fun i : Nat => i ≤ (boundS e).length) (fun i => ⟨[(0, .ptr (.par 0) 0), (3, .ptr (.loc 3) 0), (15, .slice ((boundS e).map .str)), (16, .int .i64 (boundS e).length), (17, .int .i64 i)], [[.own 9 0 (T.data.map .str), .own 9 0 (T.cons.map .str), .own 9 0 (T.sigs.map .str), .own 9 0 (T.binds.map .str)]], [(3, [.int .i64 e.kind, .str e.name, .bool e.told, .int .i64 e.ty.kind, .str e.ty.name, .int .i64 e.ty.n, .slice (tysV e.ty.args), .slice (exsV e.kids), .slice (alsV e.alts)])], 1⟩)
    (fun i => some (seV (bindR T e ((boundS e).drop i)), [[.own 9 0 (T.data.map .str), .own 9 0 (T.cons.map .str), .own 9 0 (T.sigs.map .str), .own 9 0 (T.binds.map .str)]])) (fun i => (boundS e).length - i) 0 (Nat.zero_le _) ?_ ?_
  · simp only [go_sem, ↓reduceIte, Nat.reduceEqDiff, reduceCtorEq, Int.cast_ofNat_Int]
  · intro i hi h
    by_cases hlt : i < (boundS e).length
    · obtain ⟨x, hx⟩ := getS hlt
      rw [dropGet hx]
      have w1 : IntKind.i64.wrap ((i : Int) + 1) = ((i + 1 : Nat) : Int) := wrapN (i + 1) (by omega)
      have d := contains_den T.binds x (by omega)
      cases hq : T.binds.contains x
      · rw [hq] at d
        simp only [go_sem, ↓reduceIte, Nat.reduceEqDiff, Nat.reduceAdd, Nat.one_ne_zero, Nat.reduceLT, reduceCtorEq, natlt, decide_eq_true hlt, natge0, tonat, strsGet, hx, d, hq, bindR]
        refine h (i + 1) _ (by omega) (by omega) ?_
        simp only [go_sem, ↓reduceIte, Nat.reduceEqDiff, reduceCtorEq, w1]
      · rw [hq] at d
        simp only [go_sem, ↓reduceIte, Nat.reduceEqDiff, Nat.reduceAdd, Nat.one_ne_zero, Nat.reduceLT, reduceCtorEq, natlt, decide_eq_true hlt, natge0, tonat, strsGet, hx, d, hq, bindR, seV]
    · have hie : i = (boundS e).length := by omega
      subst hie
      rw [List.drop_length]
      unfold bindR restS seV
      generalize walkE withS faT fbT e [] (false, []) = t at *
      generalize outS (freeS e) T.binds = p at *
      generalize outS (consS e) T.cons = q at *
      cases h1 : t.1
      · rw [h1] at d2
        cases h2 : p.2
        · rw [h2] at d5
          cases h3 : q.2
          · rw [h3] at d6
            simp only [go_sem, ↓reduceIte, Nat.reduceEqDiff, Nat.reduceAdd, Nat.reduceLeDiff, Nat.one_ne_zero, Nat.reduceLT, Nat.reduceBEq, reduceCtorEq, beq_self_eq_true, decide_false, natlt, Nat.lt_irrefl, d2, d3, d4, d5, d6]
          · rw [h3] at d6
            simp only [go_sem, ↓reduceIte, Nat.reduceEqDiff, Nat.reduceAdd, Nat.reduceLeDiff, Nat.one_ne_zero, Nat.reduceLT, Nat.reduceBEq, reduceCtorEq, beq_self_eq_true, decide_false, natlt, Nat.lt_irrefl, d2, d3, d4, d5, d6]
        · rw [h2] at d5
          simp only [go_sem, ↓reduceIte, Nat.reduceEqDiff, Nat.reduceAdd, Nat.reduceLeDiff, Nat.one_ne_zero, Nat.reduceLT, Nat.reduceBEq, reduceCtorEq, beq_self_eq_true, decide_false, natlt, Nat.lt_irrefl, d2, d3, d5]
      · rw [h1] at d2
        simp only [go_sem, ↓reduceIte, Nat.reduceEqDiff, Nat.reduceAdd, Nat.reduceLeDiff, Nat.reduceLT, Nat.reduceBEq, reduceCtorEq, beq_self_eq_true, decide_false, natlt, Nat.lt_irrefl, d2]
end Go.Proofs
namespace Go.Proofs
open Go.Av
set_option maxHeartbeats 16000000
set_option maxRecDepth 100000
/-! declaring -/
def anyW : List UInt8 := [65, 110, 121]
def declS (T : Tab) (d : De) : (List UInt8 × Bool) × Tab :=
  if d.kind == 2 then (twR [d.name] T.sigs [d.name] 0, { T with sigs := T.sigs ++ [d.name] })
  else if d.kind == 3 then (twR [d.name] T.binds [d.name] 0, { T with binds := T.binds ++ [d.name] })
  else if (twR [d.name] (T.data ++ [anyW]) [d.name] 0).2 then (twR [d.name] (T.data ++ [anyW]) [d.name] 0, T)
  else if (twR d.vars [] d.vars 0).2 then (twR d.vars [] d.vars 0, { T with data := T.data ++ [d.name] })
  else (twR (d.cons.map Co.name) T.cons (d.cons.map Co.name) 0, { T with data := T.data ++ [d.name], cons := T.cons ++ d.cons.map Co.name })
theorem decl_le (T : Tab) (d : De) : (declS T d).2.len ≤ T.len + 1 + d.cons.length := by
  unfold declS
  split
  · simp [Tab.len]; omega
  · split
    · simp [Tab.len]; omega
    · split
      · simp; omega
      · split
        · simp [Tab.len]; omega
        · simp [Tab.len]; omega
theorem coGet (l : List Co) (i : Nat) : (l.map coV)[i]? = (l[i]?).map coV := by simp
theorem nameGet {l : List Co} {i : Nat} {x : Co} (h : l[i]? = some x) : (l.map Co.name).take (i + 1) = (l.map Co.name).take i ++ [x.name] := take_next (by simp [h])
theorem declares_den (T : Tab) (d : De) (hd : d.tot < 1000000) (hT : T.len < 900000) : den E 85 [.ptr (.par 0) 0, .agg (deC d)] [tabH T] = some (twV (declS T d).1, [tabH (declS T d).2]) := by
  unfold Tab.len at hT
  unfold De.tot at hd
  have e1 := twice_den [d.name] T.sigs (by simp) (by omega)
  have e2 := twice_den [d.name] T.binds (by simp) (by omega)
  have e3 := twice_den [d.name] (T.data ++ [anyW]) (by simp) (by simp; omega)
  have e4 := twice_den d.vars [] (by omega) (by simp)
  have a1 : T.sigs.length + 1 ≤ appMax := by unfold appMax; omega
  have a2 : T.binds.length + 1 ≤ appMax := by unfold appMax; omega
  have a3 : T.data.length + 1 ≤ appMax := by unfold appMax; omega
  rw [den_eq prim_85, body_85]
  unfold declS tabH twV
  simp only [List.map_cons, List.map_nil, List.map_append, twV, anyW] at e1 e2 e3 e4
  simp only [anyW]
  cases k2 : d.kind == 2
  · cases k3 : d.kind == 3
    · simp only [Bool.false_eq_true, if_false]
      rcases Bool.eq_false_or_eq_true (twR [d.name] (T.data ++ [[65, 110, 121]]) [d.name] 0).2 with h3 | h3
      rotate_left
      · rw [h3] at e3
        simp only [h3, Bool.false_eq_true, if_false]
        rcases Bool.eq_false_or_eq_true (twR d.vars [] d.vars 0).2 with h4 | h4
        rotate_left
        · rw [h4] at e4
          simp only [h4, Bool.false_eq_true, if_false]
          have e5 := twice_den (d.cons.map Co.name) T.cons (by rw [List.length_map]; omega) (by omega)
          have a4 : T.cons.length + (d.cons.map Co.name).length ≤ appMax := by rw [List.length_map]; unfold appMax; omega
          simp only [twV] at e5
          simp only [go_sem, ↓reduceIte, Nat.reduceEqDiff, Nat.reduceAdd, Nat.reduceMul, Nat.reduceLeDiff, Nat.zero_ne_one, Nat.one_ne_zero, Nat.reduceLT, reduceCtorEq, decide_true, Tryz.f85, deC, k2, k3, e3, e4, a3, List.length_map, List.map_append]
          refine run_ind (fun i : Nat => i ≤ d.cons.length) (fun i => ⟨[(0, .ptr (.par 0) 0), (15, .own 9 0 (((d.cons.map Co.name).take i).map .str)), (108, .slice (d.cons.map coV)), (109, .int .i64 d.cons.length), (110, .int .i64 i)], [[.own 9 0 (T.data.map .str ++ [.str d.name]), .own 9 0 (T.cons.map .str), .own 9 0 (T.sigs.map .str), .own 9 0 (T.binds.map .str)]], [], 1⟩)
            (fun _ => some (.tup [.str (twR (d.cons.map Co.name) T.cons (d.cons.map Co.name) 0).1, .bool (twR (d.cons.map Co.name) T.cons (d.cons.map Co.name) 0).2], [[.own 9 0 (T.data.map .str ++ [.str d.name]), .own 9 0 (T.cons.map .str ++ (d.cons.map Co.name).map .str), .own 9 0 (T.sigs.map .str), .own 9 0 (T.binds.map .str)]])) (fun i => d.cons.length - i) 0 (Nat.zero_le _) ?_ ?_
          · simp only [go_sem, ↓reduceIte, Nat.reduceEqDiff, reduceCtorEq, Int.cast_ofNat_Int, List.take_zero]
          · intro i hi h
            by_cases hlt : i < d.cons.length
            · obtain ⟨x, hx⟩ := getS hlt
              have w1 : IntKind.i64.wrap ((i : Int) + 1) = ((i + 1 : Nat) : Int) := wrapN (i + 1) (by omega)
              have hts := nameGet hx
              have a5 : ((d.cons.map Co.name).take i).length + 1 ≤ appMax := by rw [List.length_take, List.length_map]; unfold appMax; omega
              generalize (d.cons.map Co.name).take i = ns at *
              simp only [go_sem, ↓reduceIte, Nat.reduceEqDiff, Nat.reduceAdd, Nat.reduceMul, Nat.reduceLeDiff, Nat.one_ne_zero, Nat.reduceLT, reduceCtorEq, decide_true, natlt, decide_eq_true hlt, natge0, tonat, coGet, hx, coV, List.length_map, a5]
              refine h (i + 1) _ (by omega) (by omega) ?_
              simp only [go_sem, ↓reduceIte, Nat.reduceEqDiff, reduceCtorEq, w1, hts, List.map_append]
            · have hie : i = d.cons.length := by omega
              subst hie
              rw [show (d.cons.map Co.name).take d.cons.length = d.cons.map Co.name from List.take_of_length_le (by simp)]
              have e0 : ∀ l : List (List UInt8), (l.map AVal.str).head? = none ∨ ∃ a, (l.map AVal.str).head? = some (.str a) := fun l => by cases l <;> simp
              generalize d.cons.map Co.name = ns at *
              generalize twR ns T.cons ns 0 = p5 at *
              rcases e0 ns with e0 | ⟨z, e0⟩
              · simp only [go_sem, ↓reduceIte, Nat.reduceEqDiff, Nat.reduceAdd, Nat.reduceLeDiff, Nat.one_ne_zero, Nat.reduceLT, reduceCtorEq, beq_self_eq_true, decide_true, decide_false, natlt, Nat.lt_irrefl, e5, List.length_map, a4, e0]
              · simp only [go_sem, ↓reduceIte, Nat.reduceEqDiff, Nat.reduceAdd, Nat.reduceLeDiff, Nat.one_ne_zero, Nat.reduceLT, reduceCtorEq, beq_self_eq_true, decide_true, decide_false, natlt, Nat.lt_irrefl, e5, List.length_map, a4, e0]
        · rw [h4] at e4
          simp only [h4, if_true]
          simp only [go_sem, ↓reduceIte, Nat.reduceEqDiff, Nat.reduceAdd, Nat.reduceMul, Nat.reduceLeDiff, Nat.zero_ne_one, Nat.one_ne_zero, Nat.reduceLT, reduceCtorEq, decide_true, Tryz.f85, deC, k2, k3, e3, e4, a3, List.length_map, List.map_append]
      · rw [h3] at e3
        simp only [h3, if_true]
        simp only [go_sem, ↓reduceIte, Nat.reduceEqDiff, Nat.reduceAdd, Nat.reduceMul, Nat.reduceLeDiff, Nat.zero_ne_one, Nat.one_ne_zero, Nat.reduceLT, reduceCtorEq, decide_true, Tryz.f85, deC, k2, k3, e3, a3, List.length_map]
    · simp only [Bool.false_eq_true, if_false, if_true]
      generalize twR [d.name] T.binds [d.name] 0 = p2 at *
      simp only [go_sem, ↓reduceIte, Nat.reduceEqDiff, Nat.reduceAdd, Nat.reduceMul, Nat.reduceLeDiff, Nat.zero_ne_one, Nat.one_ne_zero, Nat.reduceLT, reduceCtorEq, decide_true, Tryz.f85, deC, k2, k3, e2, a2, List.length_map, List.map_append]
  · simp only [if_true]
    generalize twR [d.name] T.sigs [d.name] 0 = p1 at *
    simp only [go_sem, ↓reduceIte, Nat.reduceEqDiff, Nat.reduceAdd, Nat.reduceMul, Nat.reduceLeDiff, Nat.zero_ne_one, Nat.one_ne_zero, Nat.reduceLT, reduceCtorEq, decide_true, Tryz.f85, deC, k2, e1, a1, List.length_map, List.map_append]
end Go.Proofs
namespace Go.Proofs
open Go.Av
set_option maxHeartbeats 16000000
set_option maxRecDepth 100000
/-! whether all names are as they may be -/
def declAll : Tab → List De → Except (List UInt8) Tab
  | T, [] => .ok T
  | T, d :: r => if (declS T d).1.2 then .error (declS T d).1.1 else declAll (declS T d).2 r
def bindAll (T : Tab) : List De → List UInt8 × Int
  | [] => ([], 0)
  | d :: r => if d.kind != 3 then bindAll T r else if (bindS T d.val).2 != 0 then bindS T d.val else bindAll T r
def chkR (T : Tab) (l0 l : List De) : List UInt8 × Int := match declAll T l with
  | .error n => (n, 90)
  | .ok T => if (outS T.sigs T.binds).2 then ((outS T.sigs T.binds).1, 92) else bindAll T l0
def chkS (l : List De) : List UInt8 × Int := chkR ⟨[], [], [], []⟩ l l
theorem chkR_cons (T : Tab) (l0 : List De) (d : De) (r : List De) : chkR T l0 (d :: r) = if (declS T d).1.2 then ((declS T d).1.1, 90) else chkR (declS T d).2 l0 r := by
  unfold chkR
  rw [declAll]
  rcases Bool.eq_false_or_eq_true (declS T d).1.2 with h | h
  · simp only [h, if_true]
  · simp only [h, Bool.false_eq_true, if_false]
theorem deGet (l : List De) (i : Nat) : (l.map deV)[i]? = (l[i]?).map deV := by simp
theorem check_den (l : List De) (hg : ∀ d ∈ l, d.kind = 3 → SX d.val) (hsum : De.sum l < 400000) : den E 36 [.slice (l.map deV)] [] = some (seV (chkS l), []) := by
  have hlen := desum_len l
  rw [den_eq prim_36, body_36]
  unfold chkS
  simp only [go_sem, ↓reduceIte, Nat.reduceEqDiff, Nat.reduceAdd, reduceCtorEq, Tryz.f36, List.length_map]
  refine run_ind (fun x : Nat × Tab => x.1 ≤ l.length ∧ x.2.len + De.sum (l.drop x.1) ≤ De.sum l) (fun x => ⟨[(0, .slice (l.map deV)), (4, .ptr (.loc 4) 0), (15, .slice (l.map deV)), (16, .int .i64 l.length), (17, .int .i64 x.1)], [], [(4, [.own 9 0 (x.2.data.map .str), .own 9 0 (x.2.cons.map .str), .own 9 0 (x.2.sigs.map .str), .own 9 0 (x.2.binds.map .str)])], 1⟩)
    (fun x => some (seV (chkR x.2 l (l.drop x.1)), [])) (fun x => l.length - x.1) (0, ⟨[], [], [], []⟩) ⟨Nat.zero_le _, by simp [Tab.len]⟩ ?_ ?_
  · simp only [go_sem, ↓reduceIte, Nat.reduceEqDiff, reduceCtorEq, Int.cast_ofNat_Int]
  · rintro ⟨i, T⟩ ⟨hi, hT⟩ h
    simp only at hi hT h ⊢
    by_cases hlt : i < l.length
    · obtain ⟨d, hx⟩ := getS hlt
      have hm := desum_mem (List.mem_of_getElem? hx)
      rw [dropGet hx, desum_cons] at hT
      have w1 : IntKind.i64.wrap ((i : Int) + 1) = ((i + 1 : Nat) : Int) := wrapN (i + 1) (by omega)
      have dd := declares_den T d (by omega) (by omega)
      have hle := decl_le T d
      have hdt : 1 + d.cons.length ≤ d.tot := by unfold De.tot; have := tot_eq d.val; have := ty_pos d.val; omega
      rw [dropGet hx, chkR_cons]
      unfold tabH deC twV at dd
      generalize declS T d = p at *
      obtain ⟨⟨pn, pb⟩, T'⟩ := p
      simp only at dd hle ⊢
      cases pb
      · simp only [go_sem, ↓reduceIte, Nat.reduceEqDiff, Nat.reduceAdd, Nat.reduceLeDiff, Nat.reduceLT, reduceCtorEq, beq_self_eq_true, natlt, decide_eq_true hlt, natge0, tonat, deGet, hx, deV, deC, dd]
        refine h (i + 1, T') _ ⟨by omega, ?_⟩ (by simp only; omega) ?_
        · simp only; omega
        · simp only [go_sem, ↓reduceIte, Nat.reduceEqDiff, reduceCtorEq, w1]
      · simp only [go_sem, ↓reduceIte, Nat.reduceEqDiff, Nat.reduceAdd, Nat.reduceLeDiff, Nat.reduceLT, reduceCtorEq, beq_self_eq_true, natlt, decide_eq_true hlt, natge0, tonat, deGet, hx, deV, deC, dd, seV]
    · have hie : i = l.length := by omega
      subst hie
      have hT' : T.len < 900000 := by omega
      clear h
      rw [List.drop_length]
      unfold chkR declAll
      simp only
      have dout := outside_den T.sigs T.binds (by unfold Tab.len at hT'; omega) (by unfold Tab.len at hT'; omega)
      unfold twV at dout
      generalize outS T.sigs T.binds = p at *
      obtain ⟨pn, pb⟩ := p
      cases pb
      · simp only [Bool.false_eq_true, if_false]
        simp only [go_sem, ↓reduceIte, Nat.reduceEqDiff, Nat.reduceAdd, Nat.one_ne_zero, Nat.reduceLT, reduceCtorEq, beq_self_eq_true, decide_false, natlt, Nat.lt_irrefl, dout, List.length_map]
        refine run_ind (fun j : Nat => j ≤ l.length) (fun j => ⟨[(4, .ptr (.loc 4) 0), (39, .slice (l.map deV)), (40, .int .i64 l.length), (41, .int .i64 j)], [], [(4, [.own 9 0 (T.data.map .str), .own 9 0 (T.cons.map .str), .own 9 0 (T.sigs.map .str), .own 9 0 (T.binds.map .str)])], 1⟩)
          (fun j => some (seV (bindAll T (l.drop j)), [])) (fun j => l.length - j) 0 (Nat.zero_le _) ?_ ?_
        · simp only [go_sem, ↓reduceIte, Nat.reduceEqDiff, reduceCtorEq, Int.cast_ofNat_Int]
        · intro j hj h
          by_cases hlt : j < l.length
          · obtain ⟨d, hx⟩ := getS hlt
            have hm := desum_mem (List.mem_of_getElem? hx)
            have w1 : IntKind.i64.wrap ((j : Int) + 1) = ((j + 1 : Nat) : Int) := wrapN (j + 1) (by omega)
            rw [dropGet hx]
            unfold bindAll
            cases hk : d.kind != 3
            · have hk3 : d.kind = 3 := by simpa using hk
              have db := binding_den T d.val (hg d (List.mem_of_getElem? hx) hk3) (by unfold De.tot at hm; omega) (by omega)
              unfold tabH at db
              rw [exC_eq] at db
              unfold seV at db
              simp only [Bool.false_eq_true, if_false]
              generalize bindS T d.val = q at *
              obtain ⟨qn, qe⟩ := q
              simp only at db ⊢
              cases hq : qe != 0
              · simp only [Bool.false_eq_true, if_false]
                simp only [go_sem, ↓reduceIte, Nat.reduceEqDiff, Nat.reduceAdd, Nat.reduceLeDiff, Nat.one_ne_zero, Nat.reduceLT, reduceCtorEq, beq_self_eq_true, natlt, decide_eq_true hlt, natge0, tonat, deGet, hx, deV, deC, hk, db, hq]
                refine h (j + 1) _ (by omega) (by omega) ?_
                simp only [go_sem, ↓reduceIte, Nat.reduceEqDiff, w1]
              · simp only [if_true]
                simp only [go_sem, ↓reduceIte, Nat.reduceEqDiff, Nat.reduceAdd, Nat.reduceLeDiff, Nat.one_ne_zero, Nat.reduceLT, reduceCtorEq, beq_self_eq_true, natlt, decide_eq_true hlt, natge0, tonat, deGet, hx, deV, deC, hk, db, hq, seV]
            · simp only [if_true]
              simp only [go_sem, ↓reduceIte, Nat.reduceEqDiff, Nat.reduceAdd, Nat.reduceLeDiff, Nat.one_ne_zero, Nat.reduceLT, beq_self_eq_true, natlt, decide_eq_true hlt, natge0, tonat, deGet, hx, deV, deC, hk]
              refine h (j + 1) _ (by omega) (by omega) ?_
              simp only [go_sem, ↓reduceIte, Nat.reduceEqDiff, w1]
          · have hje : j = l.length := by omega
            subst hje
            rw [List.drop_length]
            simp only [go_sem, ↓reduceIte, Nat.reduceEqDiff, Nat.reduceAdd, beq_self_eq_true, decide_false, natlt, Nat.lt_irrefl, bindAll, seV]
      · simp only [if_true]
        simp only [go_sem, ↓reduceIte, Nat.reduceEqDiff, Nat.reduceAdd, Nat.one_ne_zero, Nat.reduceLT, reduceCtorEq, beq_self_eq_true, decide_false, natlt, Nat.lt_irrefl, dout, seV]
end Go.Proofs
