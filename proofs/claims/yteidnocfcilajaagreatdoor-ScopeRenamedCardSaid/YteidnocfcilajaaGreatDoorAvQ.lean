/- The document checks a program as the program does. -/
import Derived.Test.YteidnocfcilajaaGreatDoorAvP
namespace Go.Proofs
open Go.Av
set_option maxHeartbeats 16000000
set_option maxRecDepth 100000
/-! the document: what stands twice -/
theorem repeated_den (l : List (List UInt8)) (hl : l.length < 1000000) : den E 138 [.slice (l.map .str)] [] = some (.str (twR l [] l 0).1, []) := by
  rw [den_eq prim_138, body_138]
  simp only [go_sem, ↓reduceIte, Nat.reduceEqDiff, Nat.reduceAdd, reduceCtorEq, Tryz.f138]
  refine run_ind (fun i : Nat => i ≤ l.length) (fun i => ⟨[(0, .slice (l.map .str)), (3, .int .i64 i)], [], [], 1⟩) (fun i => some (.str (twR l [] (l.drop i) i).1, [])) (fun i => l.length - i) 0 (Nat.zero_le _) ?_ ?_
  · simp only [go_sem, ↓reduceIte, Nat.reduceEqDiff, reduceCtorEq, Int.cast_ofNat_Int]
  · intro i hi h
    by_cases hlt : i < l.length
    · obtain ⟨x, hx⟩ := getS hlt
      rw [dropGet hx]
      have w1 : IntKind.i64.wrap ((i : Int) + 1) = ((i + 1 : Nat) : Int) := wrapN (i + 1) (by omega)
      have e0 : (l.map AVal.str).head? = some (.str (l.headD [])) := by
        cases l with
        | nil => simp at hlt
        | cons a r => rfl
      have d1 := has_den (l.take i) x (by rw [List.length_take]; omega)
      rw [List.map_take] at d1
      cases hq : (l.take i).contains x
      · rw [hq] at d1
        simp only [go_sem, ↓reduceIte, Nat.reduceEqDiff, Nat.reduceAdd, Nat.reduceLT, reduceCtorEq, decide_true, List.length_map, natlt, decide_eq_true hlt, natge0, tonat, strsGet, hx, Nat.zero_le, Nat.le_of_lt hlt, e0, d1, hq, twR, List.contains_nil]
        refine h (i + 1) _ (by omega) (by omega) ?_
        simp only [go_sem, ↓reduceIte, reduceCtorEq, w1]
      · rw [hq] at d1
        simp only [go_sem, ↓reduceIte, Nat.reduceEqDiff, Nat.reduceAdd, Nat.reduceLT, reduceCtorEq, decide_true, List.length_map, natlt, decide_eq_true hlt, natge0, tonat, strsGet, hx, Nat.zero_le, Nat.le_of_lt hlt, e0, d1, hq, twR]
    · have hie : i = l.length := by omega
      subst hie
      rw [List.drop_length]
      simp only [go_sem, ↓reduceIte, Nat.reduceEqDiff, Nat.reduceAdd, reduceCtorEq, beq_self_eq_true, decide_false, List.length_map, natlt, Nat.lt_irrefl, twR]
def faS (_ : Ex) (_ : List (List UInt8)) (acc : List UInt8) : List UInt8 := acc
def fbS (a : Al) (acc : List UInt8) : List UInt8 := if acc == [] then (twR a.vars [] a.vars 0).1 else acc
theorem walkS_stay {acc : List UInt8} (ha : (acc == []) = false) : ∀ (n : Nat) (e : Ex), e.tot ≤ n → ∀ b, walkE (· ++ ·) faS fbS e b acc = acc := by
  intro n
  induction n with
  | zero => intro e he; exfalso; have := tot_eq e; have := ty_pos e; omega
  | succ n ih =>
    have hfb : ∀ a : Al, fbS a acc = acc := fun a => by unfold fbS; rw [ha]; rfl
    have hks : ∀ (l : List Ex) b, Ex.tots l ≤ n → walkKs (· ++ ·) faS fbS l b acc = acc := by
      intro l
      induction l with
      | nil => intro b _; rw [walkKs_nil]
      | cons e r ihr =>
        intro b hl
        rw [tots_cons] at hl
        rw [walkKs_cons, ih e (by omega)]
        exact ihr b (by omega)
    have hal : ∀ (l : List Al) b, Al.tots l ≤ n → walkAs (· ++ ·) faS fbS l b acc = acc := by
      intro l
      induction l with
      | nil => intro b _; rw [walkAs_nil]
      | cons e r ihr =>
        intro b hl
        rw [altots_cons, altot_eq] at hl
        rw [walkAs_cons, walkA_eq, hfb, ih e.body (by omega)]
        exact ihr b (by omega)
    intro e he b
    have ht := tot_eq e
    have hp := ty_pos e
    rw [walkE_eq, show faS e b acc = acc from rfl]
    split
    · exact hks e.kids _ (by omega)
    · split
      · cases hk : e.kids with
        | nil => rw [walkLet_nil]
        | cons x r =>
          rw [hk, tots_cons] at ht
          rw [walkLet_cons, ih x (by omega)]
          exact hks r _ (by omega)
      · rw [hks e.kids _ (by omega)]
        exact hal e.alts _ (by omega)
theorem kidsS_stay {acc : List UInt8} (ha : (acc == []) = false) (e : Ex) (b : List (List UInt8)) : ∀ (l : List Ex) (i : Nat), kidsF faS fbS e b l i acc = acc
  | [], _ => rfl
  | x :: r, i => by
    unfold kidsF
    rw [walkS_stay ha _ x (Nat.le_refl _)]
    exact kidsS_stay ha e b r (i + 1)
theorem altsS_stay {acc : List UInt8} (ha : (acc == []) = false) (b : List (List UInt8)) : ∀ (l : List Al), walkAs (· ++ ·) faS fbS l b acc = acc
  | [] => by rw [walkAs_nil]
  | x :: r => by
    rw [walkAs_cons, walkA_eq, show fbS x acc = acc from by unfold fbS; rw [ha]; rfl, walkS_stay ha _ x.body (Nat.le_refl _)]
    exact altsS_stay ha b r
theorem again_den : ∀ (n : Nat) (e : Ex), e.tot ≤ n → SX e → e.tot < 500000 → ∀ b, den E 89 [.agg (exC e)] [] = some (.str (walkE (· ++ ·) faS fbS e b []), []) := by
  intro n
  induction n with
  | zero => intro e he; exfalso; have := tot_eq e; have := ty_pos e; omega
  | succ n ih =>
  intro e he hs hm b
  have ht := tot_eq e
  have hp := ty_pos e
  rw [den_eq prim_89, body_89, exC_eq, walk_flat hs, show faS e b [] = [] from rfl]
  simp only [go_sem, ↓reduceIte, Nat.reduceEqDiff, Nat.reduceAdd, Nat.zero_ne_one, reduceCtorEq, Tryz.f89]
  refine run_ind (fun i : Nat => i ≤ e.kids.length)
    (fun i => ⟨[(1, .ptr (.loc 1) 0), (3, .int .i64 i)], [], [(1, [.int .i64 e.kind, .str e.name, .bool e.told, .int .i64 e.ty.kind, .str e.ty.name, .int .i64 e.ty.n, .slice (tysV e.ty.args), .slice (exsV e.kids), .slice (alsV e.alts)])], 1⟩)
    (fun i => some (.str (walkAs (· ++ ·) faS fbS e.alts b (kidsF faS fbS e b (e.kids.drop i) i [])), [])) (fun i => e.kids.length - i) 0 (Nat.zero_le _) ?_ ?_
  · simp only [go_sem, ↓reduceIte, Nat.reduceEqDiff, Nat.zero_ne_one, reduceCtorEq, Int.cast_ofNat_Int]
  · intro i hi h
    by_cases hlt : i < e.kids.length
    · obtain ⟨x, hx⟩ := getS hlt
      have hkx := kids_tot (List.mem_of_getElem? hx)
      have w1 : IntKind.i64.wrap ((i : Int) + 1) = ((i + 1 : Nat) : Int) := wrapN (i + 1) (by have := kids_len e; omega)
      have d := ih x (by omega) (hs.kid (List.mem_of_getElem? hx)) (by omega) (bAt e b i)
      rw [exC_eq] at d
      rw [dropGet hx]
      unfold kidsF
      cases hq : walkE (· ++ ·) faS fbS x (bAt e b i) [] == []
      · rw [kidsS_stay hq, altsS_stay hq]
        generalize walkE (· ++ ·) faS fbS x (bAt e b i) [] = r at *
        simp only [go_sem, ↓reduceIte, Nat.reduceEqDiff, Nat.reduceAdd, Nat.reduceLeDiff, Nat.one_ne_zero, Nat.reduceLT, natlt, decide_eq_true hlt, natge0, tonat, exsV_len, exsV_get, hx, exC_eq, d, hq]
      · have hq0 : walkE (· ++ ·) faS fbS x (bAt e b i) [] = [] := by simpa using hq
        rw [hq0] at d ⊢
        simp only [go_sem, ↓reduceIte, Nat.reduceEqDiff, Nat.reduceAdd, Nat.reduceLeDiff, Nat.one_ne_zero, Nat.reduceLT, beq_self_eq_true, natlt, decide_eq_true hlt, natge0, tonat, exsV_len, exsV_get, hx, exC_eq, d]
        refine h (i + 1) _ (by omega) (by omega) ?_
        simp only [go_sem, ↓reduceIte, Nat.reduceEqDiff, w1]
    · have hie : i = e.kids.length := by omega
      subst hie
      clear h
      rw [List.drop_length]
      unfold kidsF
      simp only [go_sem, ↓reduceIte, Nat.reduceEqDiff, Nat.reduceAdd, Nat.one_ne_zero, Nat.reduceLT, beq_self_eq_true, decide_false, natlt, Nat.lt_irrefl, exsV_len]
      refine run_ind (fun i : Nat => i ≤ e.alts.length)
        (fun i => ⟨[(1, .ptr (.loc 1) 0), (5, .int .i64 i)], [], [(1, [.int .i64 e.kind, .str e.name, .bool e.told, .int .i64 e.ty.kind, .str e.ty.name, .int .i64 e.ty.n, .slice (tysV e.ty.args), .slice (exsV e.kids), .slice (alsV e.alts)])], 1⟩)
        (fun i => some (.str (walkAs (· ++ ·) faS fbS (e.alts.drop i) b []), [])) (fun i => e.alts.length - i) 0 (Nat.zero_le _) ?_ ?_
      · simp only [go_sem, ↓reduceIte, Nat.reduceEqDiff, Int.cast_ofNat_Int]
      · intro i hi h
        by_cases hlt : i < e.alts.length
        · obtain ⟨x, hx⟩ := getS hlt
          have hax := alts_tot (List.mem_of_getElem? hx)
          have w1 : IntKind.i64.wrap ((i : Int) + 1) = ((i + 1 : Nat) : Int) := wrapN (i + 1) (by have := altsLen e; omega)
          rw [dropGet hx, walkAs_cons, walkA_eq, show fbS x [] = (twR x.vars [] x.vars 0).1 from rfl]
          have d1 := repeated_den x.vars (by omega)
          have d := ih x.body (by omega) (hs.alt (List.mem_of_getElem? hx)) (by omega) (b ++ x.vars)
          rw [exC_eq] at d
          cases hq : (twR x.vars [] x.vars 0).1 == []
          · rw [walkS_stay hq _ _ (Nat.le_refl _), altsS_stay hq]
            generalize (twR x.vars [] x.vars 0).1 = r at *
            simp only [go_sem, ↓reduceIte, Nat.reduceEqDiff, Nat.reduceAdd, Nat.one_ne_zero, Nat.reduceLT, natlt, decide_eq_true hlt, natge0, tonat, alsV_len, alsV_get, hx, alV_eq, exC_eq, d1, hq]
          · have hq0 : (twR x.vars [] x.vars 0).1 = [] := by simpa using hq
            rw [hq0] at d1 ⊢
            cases hq2 : walkE (· ++ ·) faS fbS x.body (b ++ x.vars) [] == []
            · rw [altsS_stay hq2]
              generalize walkE (· ++ ·) faS fbS x.body (b ++ x.vars) [] = r at *
              simp only [go_sem, ↓reduceIte, Nat.reduceEqDiff, Nat.reduceAdd, Nat.reduceLeDiff, Nat.one_ne_zero, Nat.reduceLT, reduceCtorEq, beq_self_eq_true, natlt, decide_eq_true hlt, natge0, tonat, alsV_len, alsV_get, hx, alV_eq, exC_eq, d1, d, hq2]
            · have hq3 : walkE (· ++ ·) faS fbS x.body (b ++ x.vars) [] = [] := by simpa using hq2
              rw [hq3] at d ⊢
              simp only [go_sem, ↓reduceIte, Nat.reduceEqDiff, Nat.reduceAdd, Nat.reduceLeDiff, Nat.one_ne_zero, Nat.reduceLT, reduceCtorEq, beq_self_eq_true, natlt, decide_eq_true hlt, natge0, tonat, alsV_len, alsV_get, hx, alV_eq, exC_eq, d1, d]
              refine h (i + 1) _ (by omega) (by omega) ?_
              simp only [go_sem, ↓reduceIte, Nat.reduceEqDiff, w1]
        · have hie : i = e.alts.length := by omega
          subst hie
          rw [List.drop_length, walkAs_nil]
          simp only [go_sem, ↓reduceIte, Nat.reduceEqDiff, Nat.reduceAdd, Nat.one_ne_zero, Nat.reduceLT, beq_self_eq_true, decide_false, natlt, Nat.lt_irrefl, alsV_len]
theorem tw_ne {vs : List (List UInt8)} (h : ∀ v ∈ vs, v ≠ []) (o all : List (List UInt8)) (i : Nat) : (twR all o vs i).2 = !((twR all o vs i).1 == []) := by
  cases hc : (twR all o vs i).2
  · rw [tw_none _ _ _ _ hc]; rfl
  · have := h _ (tw_mem _ _ _ _ hc)
    rw [dec_true _ this]; rfl
/-- the program's answer, and the document's -/
theorem again_rel {e : Ex} (hn : NX e) : (walkE withS faT fbT e [] (false, [])).2 = walkE (· ++ ·) faS fbS e [] [] ∧ (walkE withS faT fbT e [] (false, [])).1 = !(walkE (· ++ ·) faS fbS e [] [] == []) := by
  refine walk_rel (fun (p : Bool × List UInt8) (s : List UInt8) => p.2 = s ∧ p.1 = !(s == [])) (fun _ _ _ _ _ _ h => h) (fun x p s hx h => ?_) _ e (Nat.le_refl _) hn [] [] _ _ ⟨rfl, rfl⟩
  obtain ⟨h1, h2⟩ := h
  unfold fbT fbS
  have ht := tw_ne hx.2 [] x.vars 0
  cases hs : s == []
  · rw [hs] at h2
    rw [h2]
    simp only [Bool.not_false, Bool.not_true, Bool.and_false, Bool.false_eq_true, if_false]
    exact ⟨h1, by rw [h2, hs]⟩
  · rw [hs] at h2
    rw [h2]
    simp only [Bool.not_true, Bool.not_false, Bool.and_true, if_true]
    have hs0 : s = [] := by simpa using hs
    subst hs0
    rcases Bool.eq_false_or_eq_true (twR x.vars [] x.vars 0).2 with hc | hc
    · rw [hc] at ht
      simp only [hc, if_true]
      exact ⟨trivial, ht⟩
    · rw [hc] at ht
      simp only [hc, Bool.false_eq_true, if_false]
      have := tw_none _ _ _ _ hc
      rw [this]
      exact ⟨h1, by rw [h2]; rfl⟩
end Go.Proofs
namespace Go.Proofs
open Go.Av
set_option maxHeartbeats 16000000
set_option maxRecDepth 100000
/-! the document: declaring -/
def conD : List (List UInt8) → List (List UInt8) → List UInt8 × List (List UInt8)
  | cs, [] => ([], cs)
  | cs, x :: r => if cs.contains x then (x, cs) else conD (cs ++ [x]) r
def declD (T : Tab) (d : De) : List UInt8 × Tab :=
  if d.kind == 2 then ((if T.sigs.contains d.name then d.name else []), { T with sigs := T.sigs ++ [d.name] })
  else if d.kind == 3 then ((if T.binds.contains d.name then d.name else []), { T with binds := T.binds ++ [d.name] })
  else if T.data.contains d.name || d.name == anyW then (d.name, T)
  else if !((twR d.vars [] d.vars 0).1 == []) then ((twR d.vars [] d.vars 0).1, { T with data := T.data ++ [d.name] })
  else ((conD T.cons (d.cons.map Co.name)).1, { T with data := T.data ++ [d.name], cons := (conD T.cons (d.cons.map Co.name)).2 })
theorem declare_den (T : Tab) (d : De) (hd : d.tot < 400000) (hT : T.len < 400000) : den E 88 [.ptr (.par 0) 0, .agg (deC d)] [tabH T] = some (.str (declD T d).1, [tabH (declD T d).2]) := by
  unfold Tab.len at hT
  unfold De.tot at hd
  have e1 := has_den T.sigs d.name (by omega)
  have e2 := has_den T.binds d.name (by omega)
  have e3 := has_den T.data d.name (by omega)
  have e4 := repeated_den d.vars (by omega)
  have a1 : T.sigs.length + 1 ≤ appMax := by unfold appMax; omega
  have a2 : T.binds.length + 1 ≤ appMax := by unfold appMax; omega
  have a3 : T.data.length + 1 ≤ appMax := by unfold appMax; omega
  rw [den_eq prim_88, body_88]
  unfold declD tabH
  cases k2 : d.kind == 2
  · cases k3 : d.kind == 3
    · simp only [Bool.false_eq_true, if_false]
      rcases Bool.eq_false_or_eq_true (T.data.contains d.name) with h3 | h3
      · rw [h3] at e3
        simp only [h3, Bool.true_or, if_true]
        simp only [go_sem, ↓reduceIte, Nat.reduceEqDiff, Nat.reduceAdd, Nat.zero_ne_one, Nat.one_ne_zero, Nat.reduceLT, reduceCtorEq, Tryz.f88, deC, k2, k3, e3]
      · rw [h3] at e3
        rcases Bool.eq_false_or_eq_true (d.name == anyW) with h4 | h4
        · simp only [h3, h4, Bool.false_or, if_true]
          unfold anyW at h4
          simp only [go_sem, ↓reduceIte, Nat.reduceEqDiff, Nat.reduceAdd, Nat.zero_ne_one, Nat.one_ne_zero, Nat.reduceLT, reduceCtorEq, beq_self_eq_true, Tryz.f88, deC, k2, k3, e3, h4]
        · simp only [h3, h4, Bool.or_self, Bool.false_eq_true, if_false]
          unfold anyW at h4
          rcases Bool.eq_false_or_eq_true ((twR d.vars [] d.vars 0).1 == []) with h5 | h5
          · have h50 : (twR d.vars [] d.vars 0).1 = [] := by simpa using h5
            simp only [h5, Bool.not_true, Bool.false_eq_true, if_false]
            rw [h50] at e4
            simp only [go_sem, ↓reduceIte, Nat.reduceEqDiff, Nat.reduceAdd, Nat.reduceMul, Nat.reduceLeDiff, Nat.zero_ne_one, Nat.one_ne_zero, Nat.reduceLT, reduceCtorEq, beq_self_eq_true, decide_true, Tryz.f88, deC, k2, k3, e3, h4, e4, a3, List.length_map]
            refine run_ind (fun x : Nat × List (List UInt8) => x.1 ≤ d.cons.length ∧ x.2.length ≤ T.cons.length + x.1)
              (fun x => ⟨[(0, .ptr (.par 0) 0), (3, .ptr (.loc 3) 0), (9, .int .i64 x.1)], [[.own 9 0 (T.data.map .str ++ [.str d.name]), .own 9 0 (x.2.map .str), .own 9 0 (T.sigs.map .str), .own 9 0 (T.binds.map .str)]], [(3, deC d)], 1⟩)
              (fun x => some (.str (conD x.2 ((d.cons.map Co.name).drop x.1)).1, [[.own 9 0 ((T.data ++ [d.name]).map .str), .own 9 0 ((conD x.2 ((d.cons.map Co.name).drop x.1)).2.map .str), .own 9 0 (T.sigs.map .str), .own 9 0 (T.binds.map .str)]])) (fun x => d.cons.length - x.1) (0, T.cons) ⟨Nat.zero_le _, Nat.le_refl _⟩ ?_ ?_
            · simp only [go_sem, ↓reduceIte, Nat.reduceEqDiff, reduceCtorEq, Int.cast_ofNat_Int, deC]
            · rintro ⟨i, cs⟩ ⟨hi, hcs⟩ h
              simp only at hi hcs h ⊢
              by_cases hlt : i < d.cons.length
              · obtain ⟨x, hx⟩ := getS hlt
                have w1 : IntKind.i64.wrap ((i : Int) + 1) = ((i + 1 : Nat) : Int) := wrapN (i + 1) (by omega)
                have hx2 : (d.cons.map Co.name)[i]? = some x.name := by simp [hx]
                rw [dropGet hx2]
                have d1 := has_den cs x.name (by omega)
                have a5 : cs.length + 1 ≤ appMax := by unfold appMax; omega
                unfold conD
                cases hq : cs.contains x.name
                · rw [hq] at d1
                  simp only [Bool.false_eq_true, if_false]
                  simp only [go_sem, ↓reduceIte, Nat.reduceEqDiff, Nat.reduceAdd, Nat.reduceMul, Nat.reduceLeDiff, Nat.one_ne_zero, Nat.reduceLT, reduceCtorEq, decide_true, deC, natlt, decide_eq_true hlt, natge0, tonat, coGet, hx, coV, List.length_map, d1, a5]
                  refine h (i + 1, cs ++ [x.name]) _ ⟨by omega, by rw [List.length_append, List.length_singleton]; simp only; omega⟩ (by simp only; omega) ?_
                  simp only [go_sem, ↓reduceIte, Nat.reduceEqDiff, reduceCtorEq, deC, w1, List.map_append]
                · rw [hq] at d1
                  simp only [if_true]
                  simp only [go_sem, ↓reduceIte, Nat.reduceEqDiff, Nat.reduceAdd, Nat.one_ne_zero, Nat.reduceLT, reduceCtorEq, deC, natlt, decide_eq_true hlt, natge0, tonat, coGet, hx, coV, List.length_map, d1, List.map_append]
              · have hie : i = d.cons.length := by omega
                subst hie
                rw [show (d.cons.map Co.name).drop d.cons.length = [] from List.drop_of_length_le (by simp)]
                unfold conD
                simp only [go_sem, ↓reduceIte, Nat.reduceEqDiff, Nat.reduceAdd, Nat.one_ne_zero, Nat.reduceLT, reduceCtorEq, beq_self_eq_true, decide_false, deC, natlt, Nat.lt_irrefl, List.length_map, List.map_append]
          · simp only [h5, Bool.not_false, if_true]
            generalize (twR d.vars [] d.vars 0).1 = r at *
            simp only [go_sem, ↓reduceIte, Nat.reduceEqDiff, Nat.reduceAdd, Nat.reduceMul, Nat.reduceLeDiff, Nat.zero_ne_one, Nat.one_ne_zero, Nat.reduceLT, reduceCtorEq, beq_self_eq_true, decide_true, Tryz.f88, deC, k2, k3, e3, h4, e4, h5, a3, List.length_map, List.map_append]
    · simp only [Bool.false_eq_true, if_false, if_true]
      rcases Bool.eq_false_or_eq_true (T.binds.contains d.name) with h3 | h3
      · rw [h3] at e2
        simp only [h3, if_true]
        simp only [go_sem, ↓reduceIte, Nat.reduceEqDiff, Nat.reduceAdd, Nat.reduceMul, Nat.reduceLeDiff, Nat.zero_ne_one, Nat.one_ne_zero, Nat.reduceLT, reduceCtorEq, decide_true, Tryz.f88, deC, k2, k3, e2, a2, List.length_map, List.map_append]
      · rw [h3] at e2
        simp only [h3, Bool.false_eq_true, if_false]
        simp only [go_sem, ↓reduceIte, Nat.reduceEqDiff, Nat.reduceAdd, Nat.reduceMul, Nat.reduceLeDiff, Nat.zero_ne_one, Nat.one_ne_zero, Nat.reduceLT, reduceCtorEq, decide_true, Tryz.f88, deC, k2, k3, e2, a2, List.length_map, List.map_append]
  · simp only [if_true]
    rcases Bool.eq_false_or_eq_true (T.sigs.contains d.name) with h3 | h3
    · rw [h3] at e1
      simp only [h3, if_true]
      simp only [go_sem, ↓reduceIte, Nat.reduceEqDiff, Nat.reduceAdd, Nat.reduceMul, Nat.reduceLeDiff, Nat.zero_ne_one, Nat.one_ne_zero, Nat.reduceLT, reduceCtorEq, decide_true, Tryz.f88, deC, k2, e1, a1, List.length_map, List.map_append]
    · rw [h3] at e1
      simp only [h3, Bool.false_eq_true, if_false]
      simp only [go_sem, ↓reduceIte, Nat.reduceEqDiff, Nat.reduceAdd, Nat.reduceMul, Nat.reduceLeDiff, Nat.zero_ne_one, Nat.one_ne_zero, Nat.reduceLT, reduceCtorEq, decide_true, Tryz.f88, deC, k2, e1, a1, List.length_map, List.map_append]
/-- one by one, or all at once -/
theorem con_eq (cs ns : List (List UInt8)) : ∀ (l : List (List UInt8)) (i : Nat), ns.drop i = l → (conD (cs ++ ns.take i) l).1 = (twR ns cs l i).1 ∧ ((twR ns cs l i).2 = false → (conD (cs ++ ns.take i) l).2 = cs ++ ns)
  | [], i, h => ⟨rfl, fun _ => by
    have : ns.length ≤ i := by
      have := congrArg List.length h
      rw [List.length_drop, List.length_nil] at this; omega
    rw [List.take_of_length_le this]; rfl⟩
  | x :: r, i, h => by
    have hlt : i < ns.length := by
      have := congrArg List.length h
      rw [List.length_drop, List.length_cons] at this; omega
    have hx : ns[i]? = some x := by
      have := congrArg List.head? h
      rw [List.head?_drop] at this; simpa using this
    have hr : ns.drop (i + 1) = r := by
      have := dropGet hx
      rw [h] at this
      injection this with _ this
      exact this.symm
    have ih := con_eq cs ns r (i + 1) hr
    unfold conD twR
    have hc : (cs ++ ns.take i).contains x = ((ns.take i).contains x || cs.contains x) := by
      apply bool_ext
      simp only [List.contains_eq_mem, decide_eq_true_eq, List.mem_append, Bool.or_eq_true]
      constructor
      · rintro (h | h)
        · exact .inr h
        · exact .inl h
      · rintro (h | h)
        · exact .inr h
        · exact .inl h
    rw [hc]
    split
    · exact ⟨rfl, fun h => by cases h⟩
    · rw [take_next hx, ← List.append_assoc] at ih
      exact ih
theorem decl_eq {T : Tab} {d : De} (hd : ND d) : (declD T d).1 = (declS T d).1.1 ∧ ((declS T d).1.1 == []) = !(declS T d).1.2 ∧ ((declS T d).1.2 = false → (declD T d).2 = (declS T d).2) := by
  have hn := dec_true _ hd.name
  unfold declD declS
  cases k2 : d.kind == 2
  · cases k3 : d.kind == 3
    · simp only [Bool.false_eq_true, if_false]
      have hc : (T.data ++ [anyW]).contains d.name = (T.data.contains d.name || d.name == anyW) := by
        apply bool_ext
        simp only [List.contains_eq_mem, decide_eq_true_eq, List.mem_append, Bool.or_eq_true, List.mem_singleton, beq_iff_eq]
      rw [tw_one, hc]
      rcases Bool.eq_false_or_eq_true (T.data.contains d.name || d.name == anyW) with h | h
      · simp only [h, if_true]
        exact ⟨trivial, by rw [hn]; rfl, fun h => by cases h⟩
      · simp only [h, Bool.false_eq_true, if_false]
        have ht := tw_ne hd.vars [] d.vars 0
        rcases Bool.eq_false_or_eq_true (twR d.vars [] d.vars 0).2 with h5 | h5
        · rw [h5] at ht
          have h6 : ((twR d.vars [] d.vars 0).1 == []) = false := by simpa using ht.symm
          simp only [h5, h6, if_true, Bool.not_false]
          exact ⟨trivial, rfl, fun h => by cases h⟩
        · rw [h5] at ht
          have h6 : ((twR d.vars [] d.vars 0).1 == []) = true := by simpa using ht.symm
          simp only [h5, h6, Bool.not_true, Bool.false_eq_true, if_false]
          have hc := con_eq T.cons (d.cons.map Co.name) _ 0 rfl
          rw [List.take_zero, List.append_nil, List.drop_zero] at hc
          have ht2 := tw_ne (vs := d.cons.map Co.name) (fun v hv => by
            obtain ⟨c, hc, rfl⟩ := List.mem_map.1 hv
            exact hd.cons c hc) T.cons (d.cons.map Co.name) 0
          refine ⟨hc.1, ?_, fun h => ?_⟩
          · rw [ht2, Bool.not_not]
          · rw [hc.2 h]
    · simp only [Bool.false_eq_true, if_false, if_true]
      rw [tw_one]
      rcases Bool.eq_false_or_eq_true (T.binds.contains d.name) with h | h
      · simp only [h, if_true]
        exact ⟨trivial, by rw [hn]; rfl, fun _ => trivial⟩
      · simp only [h, Bool.false_eq_true, if_false]
        exact ⟨trivial, rfl, fun _ => trivial⟩
  · simp only [if_true]
    rw [tw_one]
    rcases Bool.eq_false_or_eq_true (T.sigs.contains d.name) with h | h
    · simp only [h, if_true]
      exact ⟨trivial, by rw [hn]; rfl, fun _ => trivial⟩
    · simp only [h, Bool.false_eq_true, if_false]
      exact ⟨trivial, rfl, fun _ => trivial⟩
end Go.Proofs
namespace Go.Proofs
open Go.Av
set_option maxHeartbeats 16000000
set_option maxRecDepth 100000
/-! the document: whether all names are as they may be -/
theorem outS_cons (x : List UInt8) (r o : List (List UInt8)) : outS (x :: r) o = if o.contains x then outS r o else (x, true) := by
  unfold outS
  rw [List.find?_cons]
  cases o.contains x <;> rfl
theorem outS_nil (o : List (List UInt8)) : outS [] o = ([], false) := rfl
def afterR (T : Tab) (r : List De) (p : List UInt8 × Int) : List UInt8 × Int := if p.2 != 0 then p else bindAll T r
theorem bindAll_cons (T : Tab) (d : De) (r : List De) : bindAll T (d :: r) = if d.kind != 3 then bindAll T r else afterR T r (bindR T d.val (boundS d.val)) := by
  conv => lhs; unfold bindAll
  rfl
theorem rcheck_den (l : List De) (hg : ∀ d ∈ l, d.kind = 3 → SX d.val) (hn : ∀ d ∈ l, ND d) (hsum : De.sum l < 300000) : den E 37 [.slice (l.map deV)] [] = some (seV (chkS l), []) := by
  have hlen := desum_len l
  rw [den_eq prim_37, body_37]
  unfold chkS
  simp only [go_sem, ↓reduceIte, Nat.reduceEqDiff, Nat.reduceAdd, reduceCtorEq, Tryz.f37]
  refine run_ind (fun x : Nat × Tab => x.1 ≤ l.length ∧ x.2.len + De.sum (l.drop x.1) ≤ De.sum l) (fun x => ⟨[(0, .slice (l.map deV)), (4, .ptr (.loc 21) 0), (5, .int .i64 x.1)], [], [(21, [.own 9 0 (x.2.data.map .str), .own 9 0 (x.2.cons.map .str), .own 9 0 (x.2.sigs.map .str), .own 9 0 (x.2.binds.map .str)])], 1⟩)
    (fun x => some (seV (chkR x.2 l (l.drop x.1)), [])) (fun x => l.length - x.1) (0, ⟨[], [], [], []⟩) ⟨Nat.zero_le _, by simp [Tab.len]⟩ ?_ ?_
  · simp only [go_sem, ↓reduceIte, Nat.reduceEqDiff, reduceCtorEq, Int.cast_ofNat_Int, List.map_nil]
  · rintro ⟨i, T⟩ ⟨hi, hT⟩ h
    simp only at hi hT h ⊢
    by_cases hlt : i < l.length
    · obtain ⟨d, hx⟩ := getS hlt
      have hmem := List.mem_of_getElem? hx
      have hm := desum_mem hmem
      rw [dropGet hx, desum_cons] at hT
      have w1 : IntKind.i64.wrap ((i : Int) + 1) = ((i + 1 : Nat) : Int) := wrapN (i + 1) (by omega)
      have dd := declare_den T d (by omega) (by omega)
      have hle := decl_le T d
      have hdt : 1 + d.cons.length ≤ d.tot := by unfold De.tot; have := tot_eq d.val; have := ty_pos d.val; omega
      obtain ⟨q1, q2, q3⟩ := decl_eq (T := T) (hn d hmem)
      rw [dropGet hx, chkR_cons]
      unfold tabH deC at dd
      rw [q1] at dd
      generalize declS T d = p at *
      obtain ⟨⟨pn, pb⟩, T'⟩ := p
      simp only at dd hle q2 q3 ⊢
      cases pb
      · rw [q3 rfl] at dd
        have hpn : pn = [] := by simpa using q2
        subst hpn
        simp only [go_sem, ↓reduceIte, Nat.reduceEqDiff, Nat.reduceAdd, Nat.reduceLeDiff, reduceCtorEq, beq_self_eq_true, List.length_map, natlt, decide_eq_true hlt, natge0, tonat, deGet, hx, deV, deC, dd]
        refine h (i + 1, T') _ ⟨by omega, ?_⟩ (by simp only; omega) ?_
        · simp only; omega
        · simp only [go_sem, ↓reduceIte, Nat.reduceEqDiff, reduceCtorEq, w1]
      · have hpn : (pn == []) = false := q2
        simp only [go_sem, ↓reduceIte, Nat.reduceEqDiff, Nat.reduceAdd, Nat.reduceLeDiff, reduceCtorEq, beq_self_eq_true, List.length_map, natlt, decide_eq_true hlt, natge0, tonat, deGet, hx, deV, deC, dd, hpn, seV]
    · have hie : i = l.length := by omega
      subst hie
      have hT' : T.len < 400000 := by omega
      have hTb : T.sigs.length < 400000 ∧ T.binds.length < 400000 ∧ T.cons.length < 400000 := by unfold Tab.len at hT'; omega
      obtain ⟨t1, t2, t3⟩ := hTb
      clear h
      rw [List.drop_length]
      have hchk : chkR T l [] = if (outS T.sigs T.binds).2 then ((outS T.sigs T.binds).1, 92) else bindAll T l := rfl
      rw [hchk]
      simp only [go_sem, ↓reduceIte, Nat.reduceEqDiff, Nat.reduceAdd, reduceCtorEq, beq_self_eq_true, decide_false, List.length_map, natlt, Nat.lt_irrefl]
      refine run_ind (fun j : Nat => j ≤ T.sigs.length) (fun j => ⟨[(0, .slice (l.map deV)), (4, .ptr (.loc 21) 0), (7, .int .i64 j)], [], [(21, [.own 9 0 (T.data.map .str), .own 9 0 (T.cons.map .str), .own 9 0 (T.sigs.map .str), .own 9 0 (T.binds.map .str)])], 1⟩)
        (fun j => some (seV (if (outS (T.sigs.drop j) T.binds).2 then ((outS (T.sigs.drop j) T.binds).1, 92) else bindAll T l), [])) (fun j => T.sigs.length - j) 0 (Nat.zero_le _) ?_ ?_
      · simp only [go_sem, ↓reduceIte, Nat.reduceEqDiff, reduceCtorEq, Int.cast_ofNat_Int]
      · intro j hj h
        by_cases hlt : j < T.sigs.length
        · obtain ⟨x, hx⟩ := getS hlt
          have w1 : IntKind.i64.wrap ((j : Int) + 1) = ((j + 1 : Nat) : Int) := wrapN (j + 1) (by omega)
          have d := has_den T.binds x (by omega)
          rw [dropGet hx, outS_cons]
          rcases Bool.eq_false_or_eq_true (T.binds.contains x) with hq | hq
          · rw [hq] at d
            simp only [hq, if_true]
            simp only [go_sem, ↓reduceIte, Nat.reduceEqDiff, Nat.reduceAdd, Nat.one_ne_zero, Nat.reduceLT, reduceCtorEq, List.length_map, natlt, decide_eq_true hlt, natge0, tonat, strsGet, hx, d]
            refine h (j + 1) _ (by omega) (by omega) ?_
            simp only [go_sem, ↓reduceIte, Nat.reduceEqDiff, reduceCtorEq, w1]
          · rw [hq] at d
            simp only [hq, Bool.false_eq_true, if_false, if_true]
            simp only [go_sem, ↓reduceIte, Nat.reduceEqDiff, Nat.reduceAdd, Nat.one_ne_zero, Nat.reduceLT, reduceCtorEq, List.length_map, natlt, decide_eq_true hlt, natge0, tonat, strsGet, hx, d, seV]
        · have hje : j = T.sigs.length := by omega
          subst hje
          clear h
          rw [List.drop_length, outS_nil]
          simp only [Bool.false_eq_true, if_false]
          simp only [go_sem, ↓reduceIte, Nat.reduceEqDiff, Nat.reduceAdd, Nat.one_ne_zero, Nat.reduceLT, reduceCtorEq, beq_self_eq_true, decide_false, List.length_map, natlt, Nat.lt_irrefl]
          refine run_ind (fun i : Nat => i ≤ l.length) (fun i => ⟨[(0, .slice (l.map deV)), (4, .ptr (.loc 21) 0), (9, .int .i64 i)], [], [(21, [.own 9 0 (T.data.map .str), .own 9 0 (T.cons.map .str), .own 9 0 (T.sigs.map .str), .own 9 0 (T.binds.map .str)])], 1⟩)
            (fun i => some (seV (bindAll T (l.drop i)), [])) (fun i => l.length - i) 0 (Nat.zero_le _) ?_ ?_
          · simp only [go_sem, ↓reduceIte, Nat.reduceEqDiff, reduceCtorEq, Int.cast_ofNat_Int]
          · intro i hi h
            by_cases hlt : i < l.length
            · obtain ⟨d, hx⟩ := getS hlt
              have hmem := List.mem_of_getElem? hx
              have hm := desum_mem hmem
              have w1 : IntKind.i64.wrap ((i : Int) + 1) = ((i + 1 : Nat) : Int) := wrapN (i + 1) (by omega)
              rw [dropGet hx, bindAll_cons]
              cases hk : d.kind != 3
              · have hk3 : d.kind = 3 := by simpa using hk
                have hsx := hg d hmem hk3
                have hvt : d.val.tot < 300000 := by unfold De.tot at hm; omega
                have d1 := rboundT_den d.val hsx (by omega)
                have d2 := again_den _ d.val (Nat.le_refl _) hsx (by omega) []
                have d3 := rFree_den d.val hsx (by omega)
                have d4 := rconsT_den d.val hsx (by omega)
                rw [← bound_same] at d1
                rw [← free_same] at d3
                rw [← cons_same] at d4
                obtain ⟨r1, r2⟩ := again_rel ((hn d hmem).val hk3)
                have l1 := bound_le d.val
                have l3 := free_le d.val
                have l4 := cons_le d.val
                have hrest : restS T d.val = if !(walkE (· ++ ·) faS fbS d.val [] [] == []) then (walkE (· ++ ·) faS fbS d.val [] [], 90) else if (outS (freeS d.val) T.binds).2 then ((outS (freeS d.val) T.binds).1, 91)
                    else if (outS (consS d.val) T.cons).2 then ((outS (consS d.val) T.cons).1, 91) else ([], 0) := by
                  unfold restS; rw [r1, r2]
                generalize hb : boundS d.val = bs at *
                generalize freeS d.val = fs at *
                generalize consS d.val = cs at *
                generalize walkE (· ++ ·) faS fbS d.val [] [] = ag at *
                rw [exC_eq] at d1 d2 d3 d4
                simp only [Bool.false_eq_true, if_false]
                simp only [go_sem, ↓reduceIte, Nat.reduceEqDiff, Nat.reduceAdd, Nat.reduceLeDiff, Nat.one_ne_zero, reduceCtorEq, List.length_map, natlt, decide_eq_true hlt, natge0, tonat, deGet, hx, deV, deC, hk, d1]
                refine run_ind (fun k : Nat => k ≤ bs.length) (fun k => ⟨[(0, .slice (l.map deV)), (4, .ptr (.loc 21) 0), (9, .int .i64 i), (10, .slice (bs.map .str)), (11, .int .i64 k)], [], [(21, [.own 9 0 (T.data.map .str), .own 9 0 (T.cons.map .str), .own 9 0 (T.sigs.map .str), .own 9 0 (T.binds.map .str)])], 1⟩)
                  (fun k => some (seV (afterR T (l.drop (i + 1)) (bindR T d.val (bs.drop k))), [])) (fun k => bs.length - k) 0 (Nat.zero_le _) ?_ ?_
                · simp only [go_sem, ↓reduceIte, Nat.reduceEqDiff, reduceCtorEq, Int.cast_ofNat_Int]
                · intro k hkk hr
                  by_cases hkl : k < bs.length
                  · obtain ⟨v, hv⟩ := getS hkl
                    have w2 : IntKind.i64.wrap ((k : Int) + 1) = ((k + 1 : Nat) : Int) := wrapN (k + 1) (by omega)
                    have dv := has_den T.binds v (by omega)
                    rw [dropGet hv]
                    unfold bindR
                    rcases Bool.eq_false_or_eq_true (T.binds.contains v) with hq | hq
                    · rw [hq] at dv
                      simp only [hq, if_true]
                      simp only [go_sem, ↓reduceIte, Nat.reduceEqDiff, Nat.reduceAdd, Nat.one_ne_zero, Nat.reduceLT, reduceCtorEq, List.length_map, natlt, decide_eq_true hkl, natge0, tonat, strsGet, hv, dv, afterR, show ((90 : Int) != 0) = true from rfl, seV]
                    · rw [hq] at dv
                      simp only [hq, Bool.false_eq_true, if_false]
                      simp only [go_sem, ↓reduceIte, Nat.reduceEqDiff, Nat.reduceAdd, Nat.one_ne_zero, Nat.reduceLT, reduceCtorEq, List.length_map, natlt, decide_eq_true hkl, natge0, tonat, strsGet, hv, dv]
                      refine hr (k + 1) _ (by omega) (by omega) ?_
                      simp only [go_sem, ↓reduceIte, Nat.reduceEqDiff, reduceCtorEq, w2]
                  · have hke : k = bs.length := by omega
                    subst hke
                    clear hr
                    rw [List.drop_length]
                    unfold bindR
                    rw [hrest]
                    cases hag : ag == []
                    · simp only [Bool.not_false, if_true]
                      simp only [go_sem, ↓reduceIte, Nat.reduceEqDiff, Nat.reduceAdd, Nat.reduceLeDiff, reduceCtorEq, beq_self_eq_true, decide_false, List.length_map, natlt, Nat.lt_irrefl, natge0, tonat, deGet, hx, deV, deC, d2, hag, afterR, show ((90 : Int) != 0) = true from rfl, seV]
                    · have hag0 : ag = [] := by simpa using hag
                      rw [hag0] at d2
                      simp only [Bool.not_true, Bool.false_eq_true, if_false]
                      simp only [go_sem, ↓reduceIte, Nat.reduceEqDiff, Nat.reduceAdd, Nat.reduceLeDiff, reduceCtorEq, beq_self_eq_true, decide_false, List.length_map, natlt, Nat.lt_irrefl, natge0, tonat, deGet, hx, deV, deC, d2, d3]
                      refine run_ind (fun k : Nat => k ≤ fs.length) (fun k => ⟨[(0, .slice (l.map deV)), (4, .ptr (.loc 21) 0), (9, .int .i64 i), (14, .slice (fs.map .str)), (15, .int .i64 k)], [], [(21, [.own 9 0 (T.data.map .str), .own 9 0 (T.cons.map .str), .own 9 0 (T.sigs.map .str), .own 9 0 (T.binds.map .str)])], 1⟩)
                        (fun k => some (seV (afterR T (l.drop (i + 1)) (if (outS (fs.drop k) T.binds).2 then ((outS (fs.drop k) T.binds).1, 91) else if (outS cs T.cons).2 then ((outS cs T.cons).1, 91) else ([], 0))), [])) (fun k => fs.length - k) 0 (Nat.zero_le _) ?_ ?_
                      · simp only [go_sem, ↓reduceIte, Nat.reduceEqDiff, reduceCtorEq, Int.cast_ofNat_Int]
                      · intro k hkk hr
                        by_cases hkl : k < fs.length
                        · obtain ⟨v, hv⟩ := getS hkl
                          have w2 : IntKind.i64.wrap ((k : Int) + 1) = ((k + 1 : Nat) : Int) := wrapN (k + 1) (by omega)
                          have dv := has_den T.binds v (by omega)
                          rw [dropGet hv, outS_cons]
                          rcases Bool.eq_false_or_eq_true (T.binds.contains v) with hq | hq
                          · rw [hq] at dv
                            simp only [hq, if_true]
                            simp only [go_sem, ↓reduceIte, Nat.reduceEqDiff, Nat.reduceAdd, Nat.one_ne_zero, Nat.reduceLT, reduceCtorEq, List.length_map, natlt, decide_eq_true hkl, natge0, tonat, strsGet, hv, dv]
                            refine hr (k + 1) _ (by omega) (by omega) ?_
                            simp only [go_sem, ↓reduceIte, Nat.reduceEqDiff, reduceCtorEq, w2]
                          · rw [hq] at dv
                            simp only [hq, Bool.false_eq_true, if_false, if_true]
                            simp only [go_sem, ↓reduceIte, Nat.reduceEqDiff, Nat.reduceAdd, Nat.one_ne_zero, Nat.reduceLT, reduceCtorEq, List.length_map, natlt, decide_eq_true hkl, natge0, tonat, strsGet, hv, dv, afterR, show ((91 : Int) != 0) = true from rfl, seV]
                        · have hke : k = fs.length := by omega
                          subst hke
                          clear hr
                          rw [List.drop_length, outS_nil]
                          simp only [Bool.false_eq_true, if_false]
                          simp only [go_sem, ↓reduceIte, Nat.reduceEqDiff, Nat.reduceAdd, Nat.reduceLeDiff, reduceCtorEq, beq_self_eq_true, decide_false, List.length_map, natlt, Nat.lt_irrefl, natge0, tonat, deGet, hx, deV, deC, d4]
                          refine run_ind (fun k : Nat => k ≤ cs.length) (fun k => ⟨[(0, .slice (l.map deV)), (4, .ptr (.loc 21) 0), (9, .int .i64 i), (17, .slice (cs.map .str)), (18, .int .i64 k)], [], [(21, [.own 9 0 (T.data.map .str), .own 9 0 (T.cons.map .str), .own 9 0 (T.sigs.map .str), .own 9 0 (T.binds.map .str)])], 1⟩)
                            (fun k => some (seV (afterR T (l.drop (i + 1)) (if (outS (cs.drop k) T.cons).2 then ((outS (cs.drop k) T.cons).1, 91) else ([], 0))), [])) (fun k => cs.length - k) 0 (Nat.zero_le _) ?_ ?_
                          · simp only [go_sem, ↓reduceIte, Nat.reduceEqDiff, reduceCtorEq, Int.cast_ofNat_Int]
                          · intro k hkk hr
                            by_cases hkl : k < cs.length
                            · obtain ⟨v, hv⟩ := getS hkl
                              have w2 : IntKind.i64.wrap ((k : Int) + 1) = ((k + 1 : Nat) : Int) := wrapN (k + 1) (by omega)
                              have dv := has_den T.cons v (by omega)
                              rw [dropGet hv, outS_cons]
                              rcases Bool.eq_false_or_eq_true (T.cons.contains v) with hq | hq
                              · rw [hq] at dv
                                simp only [hq, if_true]
                                simp only [go_sem, ↓reduceIte, Nat.reduceEqDiff, Nat.reduceAdd, Nat.one_ne_zero, Nat.reduceLT, reduceCtorEq, List.length_map, natlt, decide_eq_true hkl, natge0, tonat, strsGet, hv, dv]
                                refine hr (k + 1) _ (by omega) (by omega) ?_
                                simp only [go_sem, ↓reduceIte, Nat.reduceEqDiff, reduceCtorEq, w2]
                              · rw [hq] at dv
                                simp only [hq, Bool.false_eq_true, if_false, if_true]
                                simp only [go_sem, ↓reduceIte, Nat.reduceEqDiff, Nat.reduceAdd, Nat.one_ne_zero, Nat.reduceLT, reduceCtorEq, List.length_map, natlt, decide_eq_true hkl, natge0, tonat, strsGet, hv, dv, afterR, show ((91 : Int) != 0) = true from rfl, seV]
                            · have hke : k = cs.length := by omega
                              subst hke
                              clear hr
                              rw [List.drop_length, outS_nil]
                              simp only [Bool.false_eq_true, if_false]
                              simp only [go_sem, ↓reduceIte, Nat.reduceEqDiff, Nat.reduceAdd, reduceCtorEq, beq_self_eq_true, decide_false, List.length_map, natlt, Nat.lt_irrefl]
                              rw [show afterR T (l.drop (i + 1)) ([], 0) = bindAll T (l.drop (i + 1)) from rfl]
                              refine h (i + 1) _ (by omega) (by omega) ?_
                              simp only [go_sem, ↓reduceIte, Nat.reduceEqDiff, reduceCtorEq, w1]
              · simp only [if_true]
                simp only [go_sem, ↓reduceIte, Nat.reduceEqDiff, Nat.reduceAdd, Nat.one_ne_zero, reduceCtorEq, beq_self_eq_true, List.length_map, natlt, decide_eq_true hlt, natge0, tonat, deGet, hx, deV, deC, hk]
                refine h (i + 1) _ (by omega) (by omega) ?_
                simp only [go_sem, ↓reduceIte, Nat.reduceEqDiff, reduceCtorEq, w1]
            · have hie : i = l.length := by omega
              subst hie
              rw [List.drop_length]
              simp only [go_sem, ↓reduceIte, Nat.reduceEqDiff, Nat.reduceAdd, reduceCtorEq, beq_self_eq_true, decide_false, List.length_map, natlt, Nat.lt_irrefl, bindAll, seV]
theorem checks_den (s : List UInt8) : den E 6 [.str s] [] = some (.bool true, []) := by
  rw [den_eq prim_6, body_6]
  have ha := awake_den
  obtain ⟨p, hp⟩ := parseO_tot s
  obtain ⟨h1, h2⟩ := parse_two hp
  unfold parV at h1 h2
  cases h0 : (p.2 != 0)
  · have h00 : p.2 = 0 := by rw [bne_not] at h0; simpa using h0
    have key := parse_good hp h00
    have hne := parse_ne hp h00
    have hsx : ∀ d ∈ p.1, d.kind = 3 → SX d.val := fun d hd hk => (key.1 d hd).sx hk
    have hc := check_den p.1 hsx (by have := key.2; omega)
    have hc2 := rcheck_den p.1 hsx hne (by have := key.2; omega)
    unfold seV at hc hc2
    simp only [go_sem, ↓reduceIte, Nat.reduceEqDiff, Nat.reduceAdd, reduceCtorEq, beq_self_eq_true, Tryz.f6, ha, h1, h2, h0, hc, hc2]
  · simp only [go_sem, ↓reduceIte, Nat.reduceEqDiff, Nat.reduceAdd, reduceCtorEq, Tryz.f6, ha, h1, h2, h0]
end Go.Proofs
