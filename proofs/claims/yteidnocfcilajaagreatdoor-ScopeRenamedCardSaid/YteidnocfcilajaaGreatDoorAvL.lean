/- What the document tells of names: free, constructors, bound. -/
import Derived.Test.YteidnocfcilajaaGreatDoorAvK
namespace Go.Proofs
open Go.Av
set_option maxHeartbeats 16000000
set_option maxRecDepth 100000
/-! the document's sets of names -/
theorem beqC (x n : List UInt8) : (x == n) = (n == x) := by
  by_cases h : x = n
  · subst h; rfl
  · rw [beq_eq_false_iff_ne.2 h, beq_eq_false_iff_ne.2 (Ne.symm h)]
theorem has_den (l : List (List UInt8)) (n : List UInt8) (hl : l.length < 1000000) : den E 38 [.slice (l.map .str), .str n] [] = some (.bool (l.contains n), []) := by
  rw [den_eq prim_38, body_38]
  simp only [go_sem, ↓reduceIte, Nat.reduceEqDiff, Nat.reduceAdd, reduceCtorEq, Tryz.f38]
  refine run_ind (fun i : Nat => i ≤ l.length) (fun i => ⟨[(0, .slice (l.map .str)), (1, .str n), (5, .int .i64 i)], [], [], 1⟩) (fun i => some (.bool ((l.drop i).contains n), [])) (fun i => l.length - i) 0 (Nat.zero_le _) ?_ ?_
  · simp only [go_sem, ↓reduceIte, Nat.reduceEqDiff, Nat.zero_ne_one, reduceCtorEq, Int.cast_ofNat_Int]
  · intro i hi h
    by_cases hlt : i < l.length
    · obtain ⟨x, hx⟩ := getS hlt
      rw [dropGet hx, List.contains_cons]
      have w1 : IntKind.i64.wrap ((i : Int) + 1) = ((i + 1 : Nat) : Int) := wrapN (i + 1) (by omega)
      cases hq : n == x
      · simp only [go_sem, ↓reduceIte, Nat.reduceEqDiff, Nat.reduceAdd, Nat.zero_ne_one, reduceCtorEq, List.length_map, natlt, decide_eq_true hlt, natge0, tonat, strsGet, hx, beqC x n, hq]
        refine h (i + 1) _ (by omega) (by omega) ?_
        simp only [go_sem, ↓reduceIte, Nat.reduceEqDiff, Nat.zero_ne_one, reduceCtorEq, w1]
      · simp only [go_sem, ↓reduceIte, Nat.reduceEqDiff, Nat.reduceAdd, Nat.zero_ne_one, reduceCtorEq, List.length_map, natlt, decide_eq_true hlt, natge0, tonat, strsGet, hx, beqC x n, hq]
    · have hie : i = l.length := by omega
      subst hie
      rw [List.drop_length]
      simp only [go_sem, ↓reduceIte, Nat.reduceEqDiff, Nat.reduceAdd, reduceCtorEq, beq_self_eq_true, decide_false, List.length_map, natlt, Nat.lt_irrefl, List.contains_nil]
theorem headCase (l : List (List UInt8)) : (l.map AVal.str).head? = none ∨ ∃ a, (l.map AVal.str).head? = some (.str a) := by cases l <;> simp
theorem addr_den (l : List (List UInt8)) (n : List UInt8) (hl : l.length < 1000000) : den E 132 [.slice (l.map .str), .str n] [] = some (.slice ((addS l n).map .str), []) := by
  rw [den_eq prim_132, body_132]
  have d := has_den l n hl
  have a1 : l.length ≤ appMax := by unfold appMax; omega
  have a2 : l.length + 1 ≤ appMax := by unfold appMax; omega
  unfold addS
  cases hq : l.contains n
  · rw [hq] at d
    simp only [Bool.false_eq_true, if_false]
    rcases headCase l with e0 | ⟨z, e0⟩
    · simp only [go_sem, ↓reduceIte, Nat.reduceEqDiff, Nat.reduceAdd, Nat.reduceMul, Nat.reduceLeDiff, Nat.zero_ne_one, Nat.reduceLT, reduceCtorEq, decide_true, Tryz.f132, d, List.length_map, a1, a2, e0, Nat.zero_add, List.map_append]
    · simp only [go_sem, ↓reduceIte, Nat.reduceEqDiff, Nat.reduceAdd, Nat.reduceMul, Nat.reduceLeDiff, Nat.zero_ne_one, Nat.reduceLT, reduceCtorEq, decide_true, Tryz.f132, d, List.length_map, a1, a2, e0, Nat.zero_add, List.map_append]
  · rw [hq] at d
    simp only [if_true]
    simp only [go_sem, ↓reduceIte, Nat.reduceEqDiff, Nat.reduceAdd, Nat.zero_ne_one, reduceCtorEq, Tryz.f132, d]
/-! the document goes through an expression part by part -/
section
variable {α : Type} {fa : Ex → List (List UInt8) → α → α} {fb : Al → α → α}
def bAt (e : Ex) (b : List (List UInt8)) (i : Nat) : List (List UInt8) := if e.kind == 3 || (e.kind == 5 && decide (i = 1)) then b ++ [e.name] else b
def kidsF (fa : Ex → List (List UInt8) → α → α) (fb : Al → α → α) (e : Ex) (b : List (List UInt8)) : List Ex → Nat → α → α
  | [], _, acc => acc
  | x :: r, i, acc => kidsF fa fb e b r (i + 1) (walkE (· ++ ·) fa fb x (bAt e b i) acc)
theorem kidsF_same (e : Ex) (b b' : List (List UInt8)) : ∀ (l : List Ex) (i : Nat) (acc : α), (∀ j, i ≤ j → bAt e b j = b') → kidsF fa fb e b l i acc = walkKs (· ++ ·) fa fb l b' acc
  | [], i, acc, _ => by rw [walkKs_nil]; rfl
  | x :: r, i, acc, h => by
    rw [walkKs_cons]
    unfold kidsF
    rw [h i (Nat.le_refl i)]
    exact kidsF_same e b b' r (i + 1) _ fun j hj => h j (by omega)
theorem walk_flat {e : Ex} (hs : SX e) (b : List (List UInt8)) (acc : α) : walkE (· ++ ·) fa fb e b acc = walkAs (· ++ ·) fa fb e.alts b (kidsF fa fb e b e.kids 0 (fa e b acc)) := by
  rw [walkE_eq]
  cases h3 : e.kind == 3
  · cases h5 : e.kind == 5
    · simp only [Bool.false_eq_true, if_false]
      rw [kidsF_same e b b _ _ _ fun j _ => by unfold bAt; rw [h3, h5]; rfl]
    · obtain ⟨x, y, hk⟩ := hs.lett h5
      simp only [Bool.false_eq_true, if_false, if_true]
      rw [hs.letA h5, walkAs_nil, hk, walkLet_cons, walkKs_cons, walkKs_nil]
      simp only [kidsF, bAt, h3, h5, Bool.false_or, Bool.true_and, Nat.zero_ne_one, decide_false, Bool.false_eq_true, if_false, Nat.zero_add, decide_true, if_true]
  · obtain ⟨x, hk⟩ := hs.lam h3
    simp only [if_true]
    rw [hs.lamA h3, walkAs_nil, hk, walkKs_cons, walkKs_nil]
    simp only [kidsF, bAt, h3, Bool.true_or, if_true]
theorem walk_name {e : Ex} (hs : SX e) (h1 : (e.kind == 1) = true) (b : List (List UInt8)) (acc : α) : walkE (· ++ ·) fa fb e b acc = fa e b acc := by
  rw [walk_flat hs, (hs.nam h1).1, (hs.nam h1).2, walkAs_nil]; rfl
end
theorem tots_drop {l : List Ex} {i : Nat} {x : Ex} (h : l[i]? = some x) : Ex.tots (l.drop i) = x.tot + Ex.tots (l.drop (i + 1)) := by rw [dropGet h, tots_cons]
theorem altots_drop {l : List Al} {i : Nat} {x : Al} (h : l[i]? = some x) : Al.tots (l.drop i) = x.body.tot + x.vars.length + 1 + Al.tots (l.drop (i + 1)) := by rw [dropGet h, altots_cons, altot_eq]
end Go.Proofs
namespace Go.Proofs
open Go.Av
set_option maxHeartbeats 16000000
set_option maxRecDepth 100000
/-! the document's answers: what is free, the constructors, what is bound -/
theorem kidsStep_le {fa : Ex → List (List UInt8) → List (List UInt8) → List (List UInt8)} {fb : Al → List (List UInt8) → List (List UInt8)} (h1 : ∀ e b acc, (fa e b acc).length ≤ acc.length + 1) (h2 : ∀ a acc, (fb a acc).length ≤ acc.length + a.vars.length + 1) (x : Ex) (b acc : List (List UInt8)) :
    (walkE (· ++ ·) fa fb x b acc).length ≤ acc.length + x.tot := walk_le (ext := (· ++ ·)) List.length h1 h2 _ x (Nat.le_refl _) b acc
theorem bOne (i : Nat) : ((i : Int) == 1) = decide (i = 1) := by
  by_cases h : i = 1
  · subst h; rfl
  · rw [decide_eq_false h, beq_eq_false_iff_ne]; omega
theorem rfree_den : ∀ (n : Nat) (e : Ex), e.tot ≤ n → SX e → ∀ (b acc : List (List UInt8)), acc.length + e.tot < 500000 → b.length + e.tot < 500000 → den E 78 [.agg (exC e), .slice (b.map .str), .slice (acc.map .str)] [] = some (.slice ((walkE (· ++ ·) faF fbF e b acc).map .str), []) := by
  intro n
  induction n with
  | zero => intro e he; exfalso; have := tot_eq e; have := ty_pos e; omega
  | succ n ih =>
  intro e he hs b acc hm hb
  have ht := tot_eq e
  have hp := ty_pos e
  rw [den_eq prim_78, body_78, exC_eq]
  cases h1 : e.kind == 1
  · rw [walk_flat hs, show faF e b acc = acc from by unfold faF; rw [h1]; rfl]
    simp only [go_sem, ↓reduceIte, Nat.reduceEqDiff, Nat.reduceAdd, Nat.one_ne_zero, Nat.reduceLT, reduceCtorEq, Tryz.f78, h1]
    refine run_ind (fun x : Nat × List (List UInt8) => x.1 ≤ e.kids.length ∧ x.2.length + Ex.tots (e.kids.drop x.1) ≤ acc.length + Ex.tots e.kids)
      (fun x => ⟨[(1, .slice (b.map .str)), (2, .slice (x.2.map .str)), (3, .ptr (.loc 3) 0), (8, .int .i64 x.1)], [], [(3, [.int .i64 e.kind, .str e.name, .bool e.told, .int .i64 e.ty.kind, .str e.ty.name, .int .i64 e.ty.n, .slice (tysV e.ty.args), .slice (exsV e.kids), .slice (alsV e.alts)])], 1⟩)
      (fun x => some (.slice ((walkAs (· ++ ·) faF fbF e.alts b (kidsF faF fbF e b (e.kids.drop x.1) x.1 x.2)).map .str), [])) (fun x => e.kids.length - x.1) (0, acc) ⟨Nat.zero_le _, by simp⟩ ?_ ?_
    · simp only [go_sem, ↓reduceIte, Nat.reduceEqDiff, Nat.zero_ne_one, reduceCtorEq, Int.cast_ofNat_Int]
    · rintro ⟨i, a1⟩ ⟨hi, ha⟩ h
      simp only at hi ha h ⊢
      by_cases hlt : i < e.kids.length
      · obtain ⟨x, hx⟩ := getS hlt
        have hkx := kids_tot (List.mem_of_getElem? hx)
        rw [tots_drop hx] at ha
        have w1 : IntKind.i64.wrap ((i : Int) + 1) = ((i + 1 : Nat) : Int) := wrapN (i + 1) (by have := kids_len e; omega)
        rw [dropGet hx]
        have a2 : b.length ≤ appMax := by unfold appMax; omega
        have a3 : b.length + 1 ≤ appMax := by unfold appMax; omega
        have hl := kidsStep_le faF_le fbF_le x (bAt e b i) a1
        have d := ih x (by omega) (hs.kid (List.mem_of_getElem? hx)) (bAt e b i) a1 (by omega) (by
          have : (bAt e b i).length ≤ b.length + 1 := by unfold bAt; split <;> simp
          omega)
        rw [exC_eq] at d
        unfold kidsF
        unfold bAt at d hl ⊢
        cases h3 : e.kind == 3
        · cases h5 : e.kind == 5
          · simp only [h3, h5, Bool.false_or, Bool.false_and, Bool.false_eq_true, if_false] at d hl ⊢
            generalize walkE (· ++ ·) faF fbF x b a1 = a4 at *
            simp only [go_sem, ↓reduceIte, Nat.reduceEqDiff, Nat.reduceAdd, Nat.reduceLeDiff, Nat.one_ne_zero, Nat.reduceLT, beq_self_eq_true, natlt, decide_eq_true hlt, natge0, tonat, exsV_len, exsV_get, hx, exC_eq, h3, h5, d]
            refine h (i + 1, a4) _ ⟨by omega, ?_⟩ (by simp only; omega) ?_
            · simp only; omega
            · simp only [go_sem, ↓reduceIte, Nat.reduceEqDiff, w1]
          · cases hi1 : decide (i = 1)
            · simp only [h3, h5, hi1, Bool.false_or, Bool.true_and, Bool.false_eq_true, if_false] at d hl ⊢
              generalize walkE (· ++ ·) faF fbF x b a1 = a4 at *
              simp only [go_sem, ↓reduceIte, Nat.reduceEqDiff, Nat.reduceAdd, Nat.reduceLeDiff, Nat.one_ne_zero, Nat.reduceLT, beq_self_eq_true, natlt, decide_eq_true hlt, natge0, tonat, exsV_len, exsV_get, hx, exC_eq, h3, h5, bOne, hi1, d]
              refine h (i + 1, a4) _ ⟨by omega, ?_⟩ (by simp only; omega) ?_
              · simp only; omega
              · simp only [go_sem, ↓reduceIte, Nat.reduceEqDiff, w1]
            · simp only [h3, h5, hi1, Bool.false_or, Bool.true_and, if_true] at d hl ⊢
              rw [List.map_append, List.map_cons, List.map_nil] at d
              generalize walkE (· ++ ·) faF fbF x (b ++ [e.name]) a1 = a4 at *
              rcases headCase b with e0 | ⟨z, e0⟩
              · simp only [go_sem, ↓reduceIte, Nat.reduceEqDiff, Nat.reduceAdd, Nat.reduceMul, Nat.reduceLeDiff, Nat.one_ne_zero, Nat.reduceLT, beq_self_eq_true, decide_true, natlt, decide_eq_true hlt, natge0, tonat, exsV_len, exsV_get, hx, exC_eq, h3, h5, bOne, hi1, d, List.length_map, a2, a3, e0, Nat.zero_add]
                refine h (i + 1, a4) _ ⟨by omega, ?_⟩ (by simp only; omega) ?_
                · simp only; omega
                · simp only [go_sem, ↓reduceIte, Nat.reduceEqDiff, w1]
              · simp only [go_sem, ↓reduceIte, Nat.reduceEqDiff, Nat.reduceAdd, Nat.reduceMul, Nat.reduceLeDiff, Nat.one_ne_zero, Nat.reduceLT, beq_self_eq_true, decide_true, natlt, decide_eq_true hlt, natge0, tonat, exsV_len, exsV_get, hx, exC_eq, h3, h5, bOne, hi1, d, List.length_map, a2, a3, e0, Nat.zero_add]
                refine h (i + 1, a4) _ ⟨by omega, ?_⟩ (by simp only; omega) ?_
                · simp only; omega
                · simp only [go_sem, ↓reduceIte, Nat.reduceEqDiff, w1]
        · simp only [h3, Bool.true_or, if_true] at d hl ⊢
          rw [List.map_append, List.map_cons, List.map_nil] at d
          generalize walkE (· ++ ·) faF fbF x (b ++ [e.name]) a1 = a4 at *
          rcases headCase b with e0 | ⟨z, e0⟩
          · simp only [go_sem, ↓reduceIte, Nat.reduceEqDiff, Nat.reduceAdd, Nat.reduceMul, Nat.reduceLeDiff, Nat.one_ne_zero, Nat.reduceLT, decide_true, natlt, decide_eq_true hlt, natge0, tonat, exsV_len, exsV_get, hx, exC_eq, h3, d, List.length_map, a2, a3, e0, Nat.zero_add]
            refine h (i + 1, a4) _ ⟨by omega, ?_⟩ (by simp only; omega) ?_
            · simp only; omega
            · simp only [go_sem, ↓reduceIte, Nat.reduceEqDiff, w1]
          · simp only [go_sem, ↓reduceIte, Nat.reduceEqDiff, Nat.reduceAdd, Nat.reduceMul, Nat.reduceLeDiff, Nat.one_ne_zero, Nat.reduceLT, decide_true, natlt, decide_eq_true hlt, natge0, tonat, exsV_len, exsV_get, hx, exC_eq, h3, d, List.length_map, a2, a3, e0, Nat.zero_add]
            refine h (i + 1, a4) _ ⟨by omega, ?_⟩ (by simp only; omega) ?_
            · simp only; omega
            · simp only [go_sem, ↓reduceIte, Nat.reduceEqDiff, w1]
      · have hie : i = e.kids.length := by omega
        subst hie
        clear h
        rw [List.drop_length] at ha ⊢
        unfold kidsF
        simp only [go_sem, ↓reduceIte, Nat.reduceEqDiff, Nat.reduceAdd, Nat.one_ne_zero, Nat.reduceLT, beq_self_eq_true, decide_false, natlt, Nat.lt_irrefl, exsV_len]
        refine run_ind (fun x : Nat × List (List UInt8) => x.1 ≤ e.alts.length ∧ x.2.length + Al.tots (e.alts.drop x.1) ≤ acc.length + Ex.tots e.kids + Al.tots e.alts)
          (fun x => ⟨[(1, .slice (b.map .str)), (2, .slice (x.2.map .str)), (3, .ptr (.loc 3) 0), (10, .int .i64 x.1)], [], [(3, [.int .i64 e.kind, .str e.name, .bool e.told, .int .i64 e.ty.kind, .str e.ty.name, .int .i64 e.ty.n, .slice (tysV e.ty.args), .slice (exsV e.kids), .slice (alsV e.alts)])], 1⟩)
          (fun x => some (.slice ((walkAs (· ++ ·) faF fbF (e.alts.drop x.1) b x.2).map .str), [])) (fun x => e.alts.length - x.1) (0, a1) ⟨Nat.zero_le _, ?_⟩ ?_ ?_
        · simp [Ex.tots] at ha; simp; omega
        · simp only [go_sem, ↓reduceIte, Nat.reduceEqDiff, Int.cast_ofNat_Int]
        · rintro ⟨i, a2⟩ ⟨hi, ha⟩ h
          simp only at hi ha h ⊢
          by_cases hlt : i < e.alts.length
          · obtain ⟨x, hx⟩ := getS hlt
            have hax := alts_tot (List.mem_of_getElem? hx)
            rw [altots_drop hx] at ha
            have w1 : IntKind.i64.wrap ((i : Int) + 1) = ((i + 1 : Nat) : Int) := wrapN (i + 1) (by have := altsLen e; omega)
            rw [dropGet hx, walkAs_cons, walkA_eq]
            have b2 : b.length ≤ appMax := by unfold appMax; omega
            have b3 : b.length + x.vars.length ≤ appMax := by unfold appMax; omega
            have hl := kidsStep_le faF_le fbF_le x.body (b ++ x.vars) a2
            have d := ih x.body (by omega) (hs.alt (List.mem_of_getElem? hx)) (b ++ x.vars) a2 (by omega) (by rw [List.length_append]; omega)
            rw [exC_eq, List.map_append] at d
            rw [show fbF x a2 = a2 from rfl]
            generalize walkE (· ++ ·) faF fbF x.body (b ++ x.vars) a2 = a4 at *
            rcases headCase b with e0 | ⟨z, e0⟩
            · rcases headCase x.vars with f0 | ⟨y, f0⟩
              · simp only [go_sem, ↓reduceIte, Nat.reduceEqDiff, Nat.reduceAdd, Nat.reduceMul, Nat.reduceLeDiff, Nat.one_ne_zero, Nat.reduceLT, reduceCtorEq, decide_true, natlt, decide_eq_true hlt, natge0, tonat, alsV_len, alsV_get, hx, alV_eq, exC_eq, d, List.length_map, b2, b3, e0, f0, Nat.zero_add]
                refine h (i + 1, a4) _ ⟨by omega, ?_⟩ (by simp only; omega) ?_
                · simp only; omega
                · simp only [go_sem, ↓reduceIte, Nat.reduceEqDiff, w1]
              · simp only [go_sem, ↓reduceIte, Nat.reduceEqDiff, Nat.reduceAdd, Nat.reduceMul, Nat.reduceLeDiff, Nat.one_ne_zero, Nat.reduceLT, reduceCtorEq, decide_true, natlt, decide_eq_true hlt, natge0, tonat, alsV_len, alsV_get, hx, alV_eq, exC_eq, d, List.length_map, b2, b3, e0, f0, Nat.zero_add]
                refine h (i + 1, a4) _ ⟨by omega, ?_⟩ (by simp only; omega) ?_
                · simp only; omega
                · simp only [go_sem, ↓reduceIte, Nat.reduceEqDiff, w1]
            · rcases headCase x.vars with f0 | ⟨y, f0⟩
              · simp only [go_sem, ↓reduceIte, Nat.reduceEqDiff, Nat.reduceAdd, Nat.reduceMul, Nat.reduceLeDiff, Nat.one_ne_zero, Nat.reduceLT, reduceCtorEq, decide_true, natlt, decide_eq_true hlt, natge0, tonat, alsV_len, alsV_get, hx, alV_eq, exC_eq, d, List.length_map, b2, b3, e0, f0, Nat.zero_add]
                refine h (i + 1, a4) _ ⟨by omega, ?_⟩ (by simp only; omega) ?_
                · simp only; omega
                · simp only [go_sem, ↓reduceIte, Nat.reduceEqDiff, w1]
              · simp only [go_sem, ↓reduceIte, Nat.reduceEqDiff, Nat.reduceAdd, Nat.reduceMul, Nat.reduceLeDiff, Nat.one_ne_zero, Nat.reduceLT, reduceCtorEq, decide_true, natlt, decide_eq_true hlt, natge0, tonat, alsV_len, alsV_get, hx, alV_eq, exC_eq, d, List.length_map, b2, b3, e0, f0, Nat.zero_add]
                refine h (i + 1, a4) _ ⟨by omega, ?_⟩ (by simp only; omega) ?_
                · simp only; omega
                · simp only [go_sem, ↓reduceIte, Nat.reduceEqDiff, w1]
          · have hie : i = e.alts.length := by omega
            subst hie
            rw [List.drop_length, walkAs_nil]
            simp only [go_sem, ↓reduceIte, Nat.reduceEqDiff, Nat.reduceAdd, Nat.one_ne_zero, Nat.reduceLT, beq_self_eq_true, decide_false, natlt, Nat.lt_irrefl, alsV_len]
  · rw [walk_name hs h1]
    unfold faF
    have d1 := has_den b e.name (by omega)
    have d2 := addr_den acc e.name (by omega)
    cases hq : b.contains e.name
    · rw [hq] at d1
      simp only [h1, Bool.not_false, Bool.and_self, if_true]
      simp only [go_sem, ↓reduceIte, Nat.reduceEqDiff, Nat.reduceAdd, Nat.zero_ne_one, Nat.one_ne_zero, Nat.reduceLT, reduceCtorEq, Tryz.f78, h1, d1, d2]
    · rw [hq] at d1
      simp only [h1, Bool.not_true, Bool.and_false, Bool.false_eq_true, if_false]
      simp only [go_sem, ↓reduceIte, Nat.reduceEqDiff, Nat.reduceAdd, Nat.zero_ne_one, Nat.one_ne_zero, Nat.reduceLT, reduceCtorEq, Tryz.f78, h1, d1]
theorem rFree_den (e : Ex) (hs : SX e) (ht : e.tot < 500000) : den E 31 [.agg (exC e)] [] = some (.slice ((walkE (· ++ ·) faF fbF e [] []).map .str), []) := by
  have d := rfree_den _ e (Nat.le_refl _) hs [] [] (by simpa using ht) (by simpa using ht)
  rw [den_eq prim_31, body_31]
  rw [exC_eq] at d ⊢
  simp only [List.map_nil] at d
  simp only [go_sem, ↓reduceIte, Nat.reduceEqDiff, Nat.reduceAdd, Nat.reduceLeDiff, Nat.zero_ne_one, Nat.reduceLT, reduceCtorEq, Tryz.f31, d]
end Go.Proofs
namespace Go.Proofs
open Go.Av
set_option maxHeartbeats 16000000
set_option maxRecDepth 100000
theorem rcons_den : ∀ (n : Nat) (e : Ex), e.tot ≤ n → SX e → ∀ (b acc : List (List UInt8)), acc.length + e.tot < 500000 → den E 81 [.agg (exC e), .slice (acc.map .str)] [] = some (.slice ((walkE (· ++ ·) faC fbC e b acc).map .str), []) := by
  intro n
  induction n with
  | zero => intro e he; exfalso; have := tot_eq e; have := ty_pos e; omega
  | succ n ih =>
  intro e he hs b acc hm
  have ht := tot_eq e
  have hp := ty_pos e
  rw [den_eq prim_81, body_81, exC_eq, walk_flat hs]
  unfold faC
  cases h1 : e.kind == 2
  · simp only [Bool.false_eq_true, if_false]
    have hacc : acc.length + Ex.tots e.kids + Al.tots e.alts < 500000 := by omega
    simp only [go_sem, ↓reduceIte, Nat.reduceEqDiff, Nat.reduceAdd, Nat.one_ne_zero, Nat.reduceLT, reduceCtorEq, Tryz.f81, h1]
    refine run_ind (fun x : Nat × List (List UInt8) => x.1 ≤ e.kids.length ∧ x.2.length + Ex.tots (e.kids.drop x.1) ≤ acc.length + Ex.tots e.kids)
      (fun x => ⟨[(1, .slice (x.2.map .str)), (2, .ptr (.loc 2) 0), (5, .int .i64 x.1)], [], [(2, [.int .i64 e.kind, .str e.name, .bool e.told, .int .i64 e.ty.kind, .str e.ty.name, .int .i64 e.ty.n, .slice (tysV e.ty.args), .slice (exsV e.kids), .slice (alsV e.alts)])], 1⟩)
      (fun x => some (.slice ((walkAs (· ++ ·) faC fbC e.alts b (kidsF faC fbC e b (e.kids.drop x.1) x.1 x.2)).map .str), [])) (fun x => e.kids.length - x.1) (0, acc) ⟨Nat.zero_le _, by simp⟩ ?_ ?_
    · simp only [go_sem, ↓reduceIte, Nat.reduceEqDiff, Nat.zero_ne_one, reduceCtorEq, Int.cast_ofNat_Int]
    · rintro ⟨i, a1⟩ ⟨hi, ha⟩ h
      simp only at hi ha h ⊢
      by_cases hlt : i < e.kids.length
      · obtain ⟨x, hx⟩ := getS hlt
        have hkx := kids_tot (List.mem_of_getElem? hx)
        rw [tots_drop hx] at ha
        have w1 : IntKind.i64.wrap ((i : Int) + 1) = ((i + 1 : Nat) : Int) := wrapN (i + 1) (by have := kids_len e; omega)
        rw [dropGet hx]
        have hl := kidsStep_le faC_le fbC_le x (bAt e b i) a1
        have d := ih x (by omega) (hs.kid (List.mem_of_getElem? hx)) (bAt e b i) a1 (by omega)
        rw [exC_eq] at d
        unfold kidsF
        generalize walkE (· ++ ·) faC fbC x (bAt e b i) a1 = a4 at *
        simp only [go_sem, ↓reduceIte, Nat.reduceEqDiff, Nat.reduceAdd, Nat.reduceLeDiff, Nat.one_ne_zero, Nat.reduceLT, natlt, decide_eq_true hlt, natge0, tonat, exsV_len, exsV_get, hx, exC_eq, d]
        refine h (i + 1, a4) _ ⟨by omega, ?_⟩ (by simp only; omega) ?_
        · simp only; omega
        · simp only [go_sem, ↓reduceIte, Nat.reduceEqDiff, w1]
      · have hie : i = e.kids.length := by omega
        subst hie
        clear h
        rw [List.drop_length] at ha ⊢
        unfold kidsF
        simp only [go_sem, ↓reduceIte, Nat.reduceEqDiff, Nat.reduceAdd, Nat.one_ne_zero, Nat.reduceLT, beq_self_eq_true, decide_false, natlt, Nat.lt_irrefl, exsV_len]
        refine run_ind (fun x : Nat × List (List UInt8) => x.1 ≤ e.alts.length ∧ x.2.length + Al.tots (e.alts.drop x.1) ≤ acc.length + Ex.tots e.kids + Al.tots e.alts)
          (fun x => ⟨[(1, .slice (x.2.map .str)), (2, .ptr (.loc 2) 0), (6, .int .i64 x.1)], [], [(2, [.int .i64 e.kind, .str e.name, .bool e.told, .int .i64 e.ty.kind, .str e.ty.name, .int .i64 e.ty.n, .slice (tysV e.ty.args), .slice (exsV e.kids), .slice (alsV e.alts)])], 1⟩)
          (fun x => some (.slice ((walkAs (· ++ ·) faC fbC (e.alts.drop x.1) b x.2).map .str), [])) (fun x => e.alts.length - x.1) (0, a1) ⟨Nat.zero_le _, ?_⟩ ?_ ?_
        · simp [Ex.tots] at ha; simp; omega
        · simp only [go_sem, ↓reduceIte, Nat.reduceEqDiff, Int.cast_ofNat_Int]
        · rintro ⟨i, a2⟩ ⟨hi, ha⟩ h
          simp only at hi ha h ⊢
          by_cases hlt : i < e.alts.length
          · obtain ⟨x, hx⟩ := getS hlt
            have hax := alts_tot (List.mem_of_getElem? hx)
            rw [altots_drop hx] at ha
            have w1 : IntKind.i64.wrap ((i : Int) + 1) = ((i + 1 : Nat) : Int) := wrapN (i + 1) (by have := altsLen e; omega)
            rw [dropGet hx, walkAs_cons, walkA_eq]
            have hl0 := fbC_le x a2
            have d2 := addr_den a2 x.con (by omega)
            have d := ih x.body (by omega) (hs.alt (List.mem_of_getElem? hx)) (b ++ x.vars) (fbC x a2) (by omega)
            have hl := kidsStep_le faC_le fbC_le x.body (b ++ x.vars) (fbC x a2)
            rw [exC_eq] at d
            rw [show fbC x a2 = addS a2 x.con from rfl] at d hl hl0 ⊢
            generalize addS a2 x.con = a3 at *
            generalize walkE (· ++ ·) faC fbC x.body (b ++ x.vars) a3 = a4 at *
            simp only [go_sem, ↓reduceIte, Nat.reduceEqDiff, Nat.reduceAdd, Nat.reduceLeDiff, Nat.one_ne_zero, Nat.reduceLT, reduceCtorEq, natlt, decide_eq_true hlt, natge0, tonat, alsV_len, alsV_get, hx, alV_eq, exC_eq, d, d2]
            refine h (i + 1, a4) _ ⟨by omega, ?_⟩ (by simp only; omega) ?_
            · simp only; omega
            · simp only [go_sem, ↓reduceIte, Nat.reduceEqDiff, w1]
          · have hie : i = e.alts.length := by omega
            subst hie
            rw [List.drop_length, walkAs_nil]
            simp only [go_sem, ↓reduceIte, Nat.reduceEqDiff, Nat.reduceAdd, Nat.one_ne_zero, Nat.reduceLT, beq_self_eq_true, decide_false, natlt, Nat.lt_irrefl, alsV_len]
  · simp only [if_true]
    have d2 := addr_den acc e.name (by omega)
    have hl := add_le acc e.name
    generalize addS acc e.name = a0 at *
    have hacc : a0.length + Ex.tots e.kids + Al.tots e.alts < 500000 := by omega
    simp only [go_sem, ↓reduceIte, Nat.reduceEqDiff, Nat.reduceAdd, Nat.zero_ne_one, Nat.one_ne_zero, Nat.reduceLT, reduceCtorEq, Tryz.f81, h1, d2]
    refine run_ind (fun x : Nat × List (List UInt8) => x.1 ≤ e.kids.length ∧ x.2.length + Ex.tots (e.kids.drop x.1) ≤ a0.length + Ex.tots e.kids)
      (fun x => ⟨[(1, .slice (x.2.map .str)), (2, .ptr (.loc 2) 0), (5, .int .i64 x.1)], [], [(2, [.int .i64 e.kind, .str e.name, .bool e.told, .int .i64 e.ty.kind, .str e.ty.name, .int .i64 e.ty.n, .slice (tysV e.ty.args), .slice (exsV e.kids), .slice (alsV e.alts)])], 1⟩)
      (fun x => some (.slice ((walkAs (· ++ ·) faC fbC e.alts b (kidsF faC fbC e b (e.kids.drop x.1) x.1 x.2)).map .str), [])) (fun x => e.kids.length - x.1) (0, a0) ⟨Nat.zero_le _, by simp⟩ ?_ ?_
    · simp only [go_sem, ↓reduceIte, Nat.reduceEqDiff, Nat.zero_ne_one, reduceCtorEq, Int.cast_ofNat_Int]
    · rintro ⟨i, a1⟩ ⟨hi, ha⟩ h
      simp only at hi ha h ⊢
      by_cases hlt : i < e.kids.length
      · obtain ⟨x, hx⟩ := getS hlt
        have hkx := kids_tot (List.mem_of_getElem? hx)
        rw [tots_drop hx] at ha
        have w1 : IntKind.i64.wrap ((i : Int) + 1) = ((i + 1 : Nat) : Int) := wrapN (i + 1) (by have := kids_len e; omega)
        rw [dropGet hx]
        have hl := kidsStep_le faC_le fbC_le x (bAt e b i) a1
        have d := ih x (by omega) (hs.kid (List.mem_of_getElem? hx)) (bAt e b i) a1 (by omega)
        rw [exC_eq] at d
        unfold kidsF
        generalize walkE (· ++ ·) faC fbC x (bAt e b i) a1 = a4 at *
        simp only [go_sem, ↓reduceIte, Nat.reduceEqDiff, Nat.reduceAdd, Nat.reduceLeDiff, Nat.one_ne_zero, Nat.reduceLT, natlt, decide_eq_true hlt, natge0, tonat, exsV_len, exsV_get, hx, exC_eq, d]
        refine h (i + 1, a4) _ ⟨by omega, ?_⟩ (by simp only; omega) ?_
        · simp only; omega
        · simp only [go_sem, ↓reduceIte, Nat.reduceEqDiff, w1]
      · have hie : i = e.kids.length := by omega
        subst hie
        clear h
        rw [List.drop_length] at ha ⊢
        unfold kidsF
        simp only [go_sem, ↓reduceIte, Nat.reduceEqDiff, Nat.reduceAdd, Nat.one_ne_zero, Nat.reduceLT, beq_self_eq_true, decide_false, natlt, Nat.lt_irrefl, exsV_len]
        refine run_ind (fun x : Nat × List (List UInt8) => x.1 ≤ e.alts.length ∧ x.2.length + Al.tots (e.alts.drop x.1) ≤ a0.length + Ex.tots e.kids + Al.tots e.alts)
          (fun x => ⟨[(1, .slice (x.2.map .str)), (2, .ptr (.loc 2) 0), (6, .int .i64 x.1)], [], [(2, [.int .i64 e.kind, .str e.name, .bool e.told, .int .i64 e.ty.kind, .str e.ty.name, .int .i64 e.ty.n, .slice (tysV e.ty.args), .slice (exsV e.kids), .slice (alsV e.alts)])], 1⟩)
          (fun x => some (.slice ((walkAs (· ++ ·) faC fbC (e.alts.drop x.1) b x.2).map .str), [])) (fun x => e.alts.length - x.1) (0, a1) ⟨Nat.zero_le _, ?_⟩ ?_ ?_
        · simp [Ex.tots] at ha; simp; omega
        · simp only [go_sem, ↓reduceIte, Nat.reduceEqDiff, Int.cast_ofNat_Int]
        · rintro ⟨i, a2⟩ ⟨hi, ha⟩ h
          simp only at hi ha h ⊢
          by_cases hlt : i < e.alts.length
          · obtain ⟨x, hx⟩ := getS hlt
            have hax := alts_tot (List.mem_of_getElem? hx)
            rw [altots_drop hx] at ha
            have w1 : IntKind.i64.wrap ((i : Int) + 1) = ((i + 1 : Nat) : Int) := wrapN (i + 1) (by have := altsLen e; omega)
            rw [dropGet hx, walkAs_cons, walkA_eq]
            have hl0 := fbC_le x a2
            have d2 := addr_den a2 x.con (by omega)
            have d := ih x.body (by omega) (hs.alt (List.mem_of_getElem? hx)) (b ++ x.vars) (fbC x a2) (by omega)
            have hl := kidsStep_le faC_le fbC_le x.body (b ++ x.vars) (fbC x a2)
            rw [exC_eq] at d
            rw [show fbC x a2 = addS a2 x.con from rfl] at d hl hl0 ⊢
            generalize addS a2 x.con = a3 at *
            generalize walkE (· ++ ·) faC fbC x.body (b ++ x.vars) a3 = a4 at *
            simp only [go_sem, ↓reduceIte, Nat.reduceEqDiff, Nat.reduceAdd, Nat.reduceLeDiff, Nat.one_ne_zero, Nat.reduceLT, reduceCtorEq, natlt, decide_eq_true hlt, natge0, tonat, alsV_len, alsV_get, hx, alV_eq, exC_eq, d, d2]
            refine h (i + 1, a4) _ ⟨by omega, ?_⟩ (by simp only; omega) ?_
            · simp only; omega
            · simp only [go_sem, ↓reduceIte, Nat.reduceEqDiff, w1]
          · have hie : i = e.alts.length := by omega
            subst hie
            rw [List.drop_length, walkAs_nil]
            simp only [go_sem, ↓reduceIte, Nat.reduceEqDiff, Nat.reduceAdd, Nat.one_ne_zero, Nat.reduceLT, beq_self_eq_true, decide_false, natlt, Nat.lt_irrefl, alsV_len]
theorem rconsT_den (e : Ex) (hs : SX e) (ht : e.tot < 500000) : den E 33 [.agg (exC e)] [] = some (.slice ((walkE (· ++ ·) faC fbC e [] []).map .str), []) := by
  have d := rcons_den _ e (Nat.le_refl _) hs [] [] (by simpa using ht)
  rw [den_eq prim_33, body_33]
  rw [exC_eq] at d ⊢
  simp only [List.map_nil] at d
  simp only [go_sem, ↓reduceIte, Nat.reduceEqDiff, Nat.reduceAdd, Nat.reduceLeDiff, Nat.zero_ne_one, Nat.reduceLT, reduceCtorEq, Tryz.f33, d]
end Go.Proofs
namespace Go.Proofs
open Go.Av
set_option maxHeartbeats 16000000
set_option maxRecDepth 100000
theorem rbound_den : ∀ (n : Nat) (e : Ex), e.tot ≤ n → SX e → ∀ (b acc : List (List UInt8)), acc.length + e.tot < 500000 → den E 84 [.agg (exC e), .slice (acc.map .str)] [] = some (.slice ((walkE (· ++ ·) faB fbB e b acc).map .str), []) := by
  intro n
  induction n with
  | zero => intro e he; exfalso; have := tot_eq e; have := ty_pos e; omega
  | succ n ih =>
  intro e he hs b acc hm
  have ht := tot_eq e
  have hp := ty_pos e
  rw [den_eq prim_84, body_84, exC_eq, walk_flat hs]
  unfold faB
  cases h3 : e.kind == 3
  · cases h5 : e.kind == 5
    · simp only [Bool.or_self, Bool.false_eq_true, if_false]
      have hacc : acc.length + Ex.tots e.kids + Al.tots e.alts < 500000 := by omega
      simp only [go_sem, ↓reduceIte, Nat.reduceEqDiff, Nat.reduceAdd, Nat.one_ne_zero, Nat.reduceLT, reduceCtorEq, beq_self_eq_true, Tryz.f84, h3, h5]
      refine run_ind (fun x : Nat × List (List UInt8) => x.1 ≤ e.kids.length ∧ x.2.length + Ex.tots (e.kids.drop x.1) ≤ acc.length + Ex.tots e.kids)
        (fun x => ⟨[(1, .slice (x.2.map .str)), (2, .ptr (.loc 2) 0), (5, .int .i64 x.1)], [], [(2, [.int .i64 e.kind, .str e.name, .bool e.told, .int .i64 e.ty.kind, .str e.ty.name, .int .i64 e.ty.n, .slice (tysV e.ty.args), .slice (exsV e.kids), .slice (alsV e.alts)])], 1⟩)
        (fun x => some (.slice ((walkAs (· ++ ·) faB fbB e.alts b (kidsF faB fbB e b (e.kids.drop x.1) x.1 x.2)).map .str), [])) (fun x => e.kids.length - x.1) (0, acc) ⟨Nat.zero_le _, by simp⟩ ?_ ?_
      · simp only [go_sem, ↓reduceIte, Nat.reduceEqDiff, Nat.zero_ne_one, reduceCtorEq, Int.cast_ofNat_Int]
      · rintro ⟨i, a1⟩ ⟨hi, ha⟩ h
        simp only at hi ha h ⊢
        by_cases hlt : i < e.kids.length
        · obtain ⟨x, hx⟩ := getS hlt
          have hkx := kids_tot (List.mem_of_getElem? hx)
          rw [tots_drop hx] at ha
          have w1 : IntKind.i64.wrap ((i : Int) + 1) = ((i + 1 : Nat) : Int) := wrapN (i + 1) (by have := kids_len e; omega)
          rw [dropGet hx]
          have hl := kidsStep_le faB_le fbB_le x (bAt e b i) a1
          have d := ih x (by omega) (hs.kid (List.mem_of_getElem? hx)) (bAt e b i) a1 (by omega)
          rw [exC_eq] at d
          unfold kidsF
          generalize walkE (· ++ ·) faB fbB x (bAt e b i) a1 = a4 at *
          simp only [go_sem, ↓reduceIte, Nat.reduceEqDiff, Nat.reduceAdd, Nat.reduceLeDiff, Nat.one_ne_zero, Nat.reduceLT, natlt, decide_eq_true hlt, natge0, tonat, exsV_len, exsV_get, hx, exC_eq, d]
          refine h (i + 1, a4) _ ⟨by omega, ?_⟩ (by simp only; omega) ?_
          · simp only; omega
          · simp only [go_sem, ↓reduceIte, Nat.reduceEqDiff, w1]
        · have hie : i = e.kids.length := by omega
          subst hie
          clear h
          rw [List.drop_length] at ha ⊢
          unfold kidsF
          simp only [go_sem, ↓reduceIte, Nat.reduceEqDiff, Nat.reduceAdd, Nat.one_ne_zero, Nat.reduceLT, beq_self_eq_true, decide_false, natlt, Nat.lt_irrefl, exsV_len]
          refine run_ind (fun x : Nat × List (List UInt8) => x.1 ≤ e.alts.length ∧ x.2.length + Al.tots (e.alts.drop x.1) ≤ acc.length + Ex.tots e.kids + Al.tots e.alts)
            (fun x => ⟨[(1, .slice (x.2.map .str)), (2, .ptr (.loc 2) 0), (6, .int .i64 x.1)], [], [(2, [.int .i64 e.kind, .str e.name, .bool e.told, .int .i64 e.ty.kind, .str e.ty.name, .int .i64 e.ty.n, .slice (tysV e.ty.args), .slice (exsV e.kids), .slice (alsV e.alts)])], 1⟩)
            (fun x => some (.slice ((walkAs (· ++ ·) faB fbB (e.alts.drop x.1) b x.2).map .str), [])) (fun x => e.alts.length - x.1) (0, a1) ⟨Nat.zero_le _, ?_⟩ ?_ ?_
          · simp [Ex.tots] at ha; simp; omega
          · simp only [go_sem, ↓reduceIte, Nat.reduceEqDiff, Int.cast_ofNat_Int]
          · rintro ⟨i, a2⟩ ⟨hi, ha⟩ h
            simp only at hi ha h ⊢
            by_cases hlt : i < e.alts.length
            · obtain ⟨x, hx⟩ := getS hlt
              have hax := alts_tot (List.mem_of_getElem? hx)
              rw [altots_drop hx] at ha
              have w1 : IntKind.i64.wrap ((i : Int) + 1) = ((i + 1 : Nat) : Int) := wrapN (i + 1) (by have := altsLen e; omega)
              rw [dropGet hx, walkAs_cons, walkA_eq]
              have hl0 := fbB_le x a2
              have d := ih x.body (by omega) (hs.alt (List.mem_of_getElem? hx)) (b ++ x.vars) (fbB x a2) (by omega)
              have hl := kidsStep_le faB_le fbB_le x.body (b ++ x.vars) (fbB x a2)
              rw [exC_eq] at d
              have hvl : x.vars.length < 500000 := by omega
              rw [show fbB x a2 = x.vars.foldl addS a2 from rfl] at d hl hl0 ⊢
              generalize walkE (· ++ ·) faB fbB x.body (b ++ x.vars) (x.vars.foldl addS a2) = a4 at *
              simp only [go_sem, ↓reduceIte, Nat.reduceEqDiff, Nat.reduceAdd, Nat.one_ne_zero, Nat.reduceLT, natlt, decide_eq_true hlt, alsV_len]
              refine run_ind (fun z : Nat × List (List UInt8) => z.1 ≤ x.vars.length ∧ z.2.length + (x.vars.length - z.1) ≤ a2.length + x.vars.length ∧ (x.vars.drop z.1).foldl addS z.2 = x.vars.foldl addS a2)
                (fun z => ⟨[(1, .slice (z.2.map .str)), (2, .ptr (.loc 2) 0), (6, .int .i64 i), (7, .int .i64 z.1)], [], [(2, [.int .i64 e.kind, .str e.name, .bool e.told, .int .i64 e.ty.kind, .str e.ty.name, .int .i64 e.ty.n, .slice (tysV e.ty.args), .slice (exsV e.kids), .slice (alsV e.alts)])], 1⟩)
                (fun _ => some (.slice ((walkAs (· ++ ·) faB fbB (e.alts.drop (i + 1)) b a4).map .str), [])) (fun z => x.vars.length - z.1) (0, a2) ⟨Nat.zero_le _, by simp, rfl⟩ ?_ ?_
              · simp only [go_sem, ↓reduceIte, Nat.reduceEqDiff, Int.cast_ofNat_Int]
              · rintro ⟨k, a5⟩ ⟨hk, hk2, hk3⟩ hr
                simp only at hk hk2 hk3 hr ⊢
                by_cases hkl : k < x.vars.length
                · obtain ⟨v, hv⟩ := getS hkl
                  have w2 : IntKind.i64.wrap ((k : Int) + 1) = ((k + 1 : Nat) : Int) := wrapN (k + 1) (by omega)
                  have d2 := addr_den a5 v (by omega)
                  have hl5 := add_le a5 v
                  rw [dropGet hv, List.foldl_cons] at hk3
                  generalize addS a5 v = a6 at *
                  simp only [go_sem, ↓reduceIte, Nat.reduceEqDiff, Nat.reduceAdd, Nat.one_ne_zero, Nat.reduceLT, natlt, decide_eq_true hkl, natge0, tonat, alsV_get, hx, alV_eq, exC_eq, strsGet, hv, List.length_map, d2]
                  refine hr (k + 1, a6) _ ⟨by omega, ?_, hk3⟩ (by simp only; omega) ?_
                  · simp only; omega
                  · simp only [go_sem, ↓reduceIte, Nat.reduceEqDiff, w2]
                · have hke : k = x.vars.length := by omega
                  subst hke
                  rw [List.drop_length, List.foldl_nil] at hk3
                  subst hk3
                  simp only [go_sem, ↓reduceIte, Nat.reduceEqDiff, Nat.reduceAdd, Nat.reduceLeDiff, Nat.one_ne_zero, Nat.reduceLT, reduceCtorEq, beq_self_eq_true, decide_false, natlt, Nat.lt_irrefl, natge0, tonat, alsV_get, hx, alV_eq, exC_eq, List.length_map, d]
                  refine h (i + 1, a4) _ ⟨by omega, ?_⟩ (by simp only; omega) ?_
                  · simp only; omega
                  · simp only [go_sem, ↓reduceIte, Nat.reduceEqDiff, w1]
            · have hie : i = e.alts.length := by omega
              subst hie
              rw [List.drop_length, walkAs_nil]
              simp only [go_sem, ↓reduceIte, Nat.reduceEqDiff, Nat.reduceAdd, Nat.one_ne_zero, Nat.reduceLT, beq_self_eq_true, decide_false, natlt, Nat.lt_irrefl, alsV_len]
    · simp only [Bool.or_true, if_true]
      have d2 := addr_den acc e.name (by omega)
      have hl := add_le acc e.name
      generalize addS acc e.name = a0 at *
      have hacc : a0.length + Ex.tots e.kids + Al.tots e.alts < 500000 := by omega
      simp only [go_sem, ↓reduceIte, Nat.reduceEqDiff, Nat.reduceAdd, Nat.zero_ne_one, Nat.one_ne_zero, Nat.reduceLT, reduceCtorEq, beq_self_eq_true, Tryz.f84, h3, h5, d2]
      refine run_ind (fun x : Nat × List (List UInt8) => x.1 ≤ e.kids.length ∧ x.2.length + Ex.tots (e.kids.drop x.1) ≤ a0.length + Ex.tots e.kids)
        (fun x => ⟨[(1, .slice (x.2.map .str)), (2, .ptr (.loc 2) 0), (5, .int .i64 x.1)], [], [(2, [.int .i64 e.kind, .str e.name, .bool e.told, .int .i64 e.ty.kind, .str e.ty.name, .int .i64 e.ty.n, .slice (tysV e.ty.args), .slice (exsV e.kids), .slice (alsV e.alts)])], 1⟩)
        (fun x => some (.slice ((walkAs (· ++ ·) faB fbB e.alts b (kidsF faB fbB e b (e.kids.drop x.1) x.1 x.2)).map .str), [])) (fun x => e.kids.length - x.1) (0, a0) ⟨Nat.zero_le _, by simp⟩ ?_ ?_
      · simp only [go_sem, ↓reduceIte, Nat.reduceEqDiff, Nat.zero_ne_one, reduceCtorEq, Int.cast_ofNat_Int]
      · rintro ⟨i, a1⟩ ⟨hi, ha⟩ h
        simp only at hi ha h ⊢
        by_cases hlt : i < e.kids.length
        · obtain ⟨x, hx⟩ := getS hlt
          have hkx := kids_tot (List.mem_of_getElem? hx)
          rw [tots_drop hx] at ha
          have w1 : IntKind.i64.wrap ((i : Int) + 1) = ((i + 1 : Nat) : Int) := wrapN (i + 1) (by have := kids_len e; omega)
          rw [dropGet hx]
          have hl := kidsStep_le faB_le fbB_le x (bAt e b i) a1
          have d := ih x (by omega) (hs.kid (List.mem_of_getElem? hx)) (bAt e b i) a1 (by omega)
          rw [exC_eq] at d
          unfold kidsF
          generalize walkE (· ++ ·) faB fbB x (bAt e b i) a1 = a4 at *
          simp only [go_sem, ↓reduceIte, Nat.reduceEqDiff, Nat.reduceAdd, Nat.reduceLeDiff, Nat.one_ne_zero, Nat.reduceLT, natlt, decide_eq_true hlt, natge0, tonat, exsV_len, exsV_get, hx, exC_eq, d]
          refine h (i + 1, a4) _ ⟨by omega, ?_⟩ (by simp only; omega) ?_
          · simp only; omega
          · simp only [go_sem, ↓reduceIte, Nat.reduceEqDiff, w1]
        · have hie : i = e.kids.length := by omega
          subst hie
          clear h
          rw [List.drop_length] at ha ⊢
          unfold kidsF
          simp only [go_sem, ↓reduceIte, Nat.reduceEqDiff, Nat.reduceAdd, Nat.one_ne_zero, Nat.reduceLT, beq_self_eq_true, decide_false, natlt, Nat.lt_irrefl, exsV_len]
          refine run_ind (fun x : Nat × List (List UInt8) => x.1 ≤ e.alts.length ∧ x.2.length + Al.tots (e.alts.drop x.1) ≤ a0.length + Ex.tots e.kids + Al.tots e.alts)
            (fun x => ⟨[(1, .slice (x.2.map .str)), (2, .ptr (.loc 2) 0), (6, .int .i64 x.1)], [], [(2, [.int .i64 e.kind, .str e.name, .bool e.told, .int .i64 e.ty.kind, .str e.ty.name, .int .i64 e.ty.n, .slice (tysV e.ty.args), .slice (exsV e.kids), .slice (alsV e.alts)])], 1⟩)
            (fun x => some (.slice ((walkAs (· ++ ·) faB fbB (e.alts.drop x.1) b x.2).map .str), [])) (fun x => e.alts.length - x.1) (0, a1) ⟨Nat.zero_le _, ?_⟩ ?_ ?_
          · simp [Ex.tots] at ha; simp; omega
          · simp only [go_sem, ↓reduceIte, Nat.reduceEqDiff, Int.cast_ofNat_Int]
          · rintro ⟨i, a2⟩ ⟨hi, ha⟩ h
            simp only at hi ha h ⊢
            by_cases hlt : i < e.alts.length
            · obtain ⟨x, hx⟩ := getS hlt
              have hax := alts_tot (List.mem_of_getElem? hx)
              rw [altots_drop hx] at ha
              have w1 : IntKind.i64.wrap ((i : Int) + 1) = ((i + 1 : Nat) : Int) := wrapN (i + 1) (by have := altsLen e; omega)
              rw [dropGet hx, walkAs_cons, walkA_eq]
              have hl0 := fbB_le x a2
              have d := ih x.body (by omega) (hs.alt (List.mem_of_getElem? hx)) (b ++ x.vars) (fbB x a2) (by omega)
              have hl := kidsStep_le faB_le fbB_le x.body (b ++ x.vars) (fbB x a2)
              rw [exC_eq] at d
              have hvl : x.vars.length < 500000 := by omega
              rw [show fbB x a2 = x.vars.foldl addS a2 from rfl] at d hl hl0 ⊢
              generalize walkE (· ++ ·) faB fbB x.body (b ++ x.vars) (x.vars.foldl addS a2) = a4 at *
              simp only [go_sem, ↓reduceIte, Nat.reduceEqDiff, Nat.reduceAdd, Nat.one_ne_zero, Nat.reduceLT, natlt, decide_eq_true hlt, alsV_len]
              refine run_ind (fun z : Nat × List (List UInt8) => z.1 ≤ x.vars.length ∧ z.2.length + (x.vars.length - z.1) ≤ a2.length + x.vars.length ∧ (x.vars.drop z.1).foldl addS z.2 = x.vars.foldl addS a2)
                (fun z => ⟨[(1, .slice (z.2.map .str)), (2, .ptr (.loc 2) 0), (6, .int .i64 i), (7, .int .i64 z.1)], [], [(2, [.int .i64 e.kind, .str e.name, .bool e.told, .int .i64 e.ty.kind, .str e.ty.name, .int .i64 e.ty.n, .slice (tysV e.ty.args), .slice (exsV e.kids), .slice (alsV e.alts)])], 1⟩)
                (fun _ => some (.slice ((walkAs (· ++ ·) faB fbB (e.alts.drop (i + 1)) b a4).map .str), [])) (fun z => x.vars.length - z.1) (0, a2) ⟨Nat.zero_le _, by simp, rfl⟩ ?_ ?_
              · simp only [go_sem, ↓reduceIte, Nat.reduceEqDiff, Int.cast_ofNat_Int]
              · rintro ⟨k, a5⟩ ⟨hk, hk2, hk3⟩ hr
                simp only at hk hk2 hk3 hr ⊢
                by_cases hkl : k < x.vars.length
                · obtain ⟨v, hv⟩ := getS hkl
                  have w2 : IntKind.i64.wrap ((k : Int) + 1) = ((k + 1 : Nat) : Int) := wrapN (k + 1) (by omega)
                  have d2 := addr_den a5 v (by omega)
                  have hl5 := add_le a5 v
                  rw [dropGet hv, List.foldl_cons] at hk3
                  generalize addS a5 v = a6 at *
                  simp only [go_sem, ↓reduceIte, Nat.reduceEqDiff, Nat.reduceAdd, Nat.one_ne_zero, Nat.reduceLT, natlt, decide_eq_true hkl, natge0, tonat, alsV_get, hx, alV_eq, exC_eq, strsGet, hv, List.length_map, d2]
                  refine hr (k + 1, a6) _ ⟨by omega, ?_, hk3⟩ (by simp only; omega) ?_
                  · simp only; omega
                  · simp only [go_sem, ↓reduceIte, Nat.reduceEqDiff, w2]
                · have hke : k = x.vars.length := by omega
                  subst hke
                  rw [List.drop_length, List.foldl_nil] at hk3
                  subst hk3
                  simp only [go_sem, ↓reduceIte, Nat.reduceEqDiff, Nat.reduceAdd, Nat.reduceLeDiff, Nat.one_ne_zero, Nat.reduceLT, reduceCtorEq, beq_self_eq_true, decide_false, natlt, Nat.lt_irrefl, natge0, tonat, alsV_get, hx, alV_eq, exC_eq, List.length_map, d]
                  refine h (i + 1, a4) _ ⟨by omega, ?_⟩ (by simp only; omega) ?_
                  · simp only; omega
                  · simp only [go_sem, ↓reduceIte, Nat.reduceEqDiff, w1]
            · have hie : i = e.alts.length := by omega
              subst hie
              rw [List.drop_length, walkAs_nil]
              simp only [go_sem, ↓reduceIte, Nat.reduceEqDiff, Nat.reduceAdd, Nat.one_ne_zero, Nat.reduceLT, beq_self_eq_true, decide_false, natlt, Nat.lt_irrefl, alsV_len]
  · simp only [Bool.true_or, if_true]
    have d2 := addr_den acc e.name (by omega)
    have hl := add_le acc e.name
    generalize addS acc e.name = a0 at *
    have hacc : a0.length + Ex.tots e.kids + Al.tots e.alts < 500000 := by omega
    simp only [go_sem, ↓reduceIte, Nat.reduceEqDiff, Nat.reduceAdd, Nat.zero_ne_one, Nat.one_ne_zero, Nat.reduceLT, reduceCtorEq, Tryz.f84, h3, d2]
    refine run_ind (fun x : Nat × List (List UInt8) => x.1 ≤ e.kids.length ∧ x.2.length + Ex.tots (e.kids.drop x.1) ≤ a0.length + Ex.tots e.kids)
      (fun x => ⟨[(1, .slice (x.2.map .str)), (2, .ptr (.loc 2) 0), (5, .int .i64 x.1)], [], [(2, [.int .i64 e.kind, .str e.name, .bool e.told, .int .i64 e.ty.kind, .str e.ty.name, .int .i64 e.ty.n, .slice (tysV e.ty.args), .slice (exsV e.kids), .slice (alsV e.alts)])], 1⟩)
      (fun x => some (.slice ((walkAs (· ++ ·) faB fbB e.alts b (kidsF faB fbB e b (e.kids.drop x.1) x.1 x.2)).map .str), [])) (fun x => e.kids.length - x.1) (0, a0) ⟨Nat.zero_le _, by simp⟩ ?_ ?_
    · simp only [go_sem, ↓reduceIte, Nat.reduceEqDiff, Nat.zero_ne_one, reduceCtorEq, Int.cast_ofNat_Int]
    · rintro ⟨i, a1⟩ ⟨hi, ha⟩ h
      simp only at hi ha h ⊢
      by_cases hlt : i < e.kids.length
      · obtain ⟨x, hx⟩ := getS hlt
        have hkx := kids_tot (List.mem_of_getElem? hx)
        rw [tots_drop hx] at ha
        have w1 : IntKind.i64.wrap ((i : Int) + 1) = ((i + 1 : Nat) : Int) := wrapN (i + 1) (by have := kids_len e; omega)
        rw [dropGet hx]
        have hl := kidsStep_le faB_le fbB_le x (bAt e b i) a1
        have d := ih x (by omega) (hs.kid (List.mem_of_getElem? hx)) (bAt e b i) a1 (by omega)
        rw [exC_eq] at d
        unfold kidsF
        generalize walkE (· ++ ·) faB fbB x (bAt e b i) a1 = a4 at *
        simp only [go_sem, ↓reduceIte, Nat.reduceEqDiff, Nat.reduceAdd, Nat.reduceLeDiff, Nat.one_ne_zero, Nat.reduceLT, natlt, decide_eq_true hlt, natge0, tonat, exsV_len, exsV_get, hx, exC_eq, d]
        refine h (i + 1, a4) _ ⟨by omega, ?_⟩ (by simp only; omega) ?_
        · simp only; omega
        · simp only [go_sem, ↓reduceIte, Nat.reduceEqDiff, w1]
      · have hie : i = e.kids.length := by omega
        subst hie
        clear h
        rw [List.drop_length] at ha ⊢
        unfold kidsF
        simp only [go_sem, ↓reduceIte, Nat.reduceEqDiff, Nat.reduceAdd, Nat.one_ne_zero, Nat.reduceLT, beq_self_eq_true, decide_false, natlt, Nat.lt_irrefl, exsV_len]
        refine run_ind (fun x : Nat × List (List UInt8) => x.1 ≤ e.alts.length ∧ x.2.length + Al.tots (e.alts.drop x.1) ≤ a0.length + Ex.tots e.kids + Al.tots e.alts)
          (fun x => ⟨[(1, .slice (x.2.map .str)), (2, .ptr (.loc 2) 0), (6, .int .i64 x.1)], [], [(2, [.int .i64 e.kind, .str e.name, .bool e.told, .int .i64 e.ty.kind, .str e.ty.name, .int .i64 e.ty.n, .slice (tysV e.ty.args), .slice (exsV e.kids), .slice (alsV e.alts)])], 1⟩)
          (fun x => some (.slice ((walkAs (· ++ ·) faB fbB (e.alts.drop x.1) b x.2).map .str), [])) (fun x => e.alts.length - x.1) (0, a1) ⟨Nat.zero_le _, ?_⟩ ?_ ?_
        · simp [Ex.tots] at ha; simp; omega
        · simp only [go_sem, ↓reduceIte, Nat.reduceEqDiff, Int.cast_ofNat_Int]
        · rintro ⟨i, a2⟩ ⟨hi, ha⟩ h
          simp only at hi ha h ⊢
          by_cases hlt : i < e.alts.length
          · obtain ⟨x, hx⟩ := getS hlt
            have hax := alts_tot (List.mem_of_getElem? hx)
            rw [altots_drop hx] at ha
            have w1 : IntKind.i64.wrap ((i : Int) + 1) = ((i + 1 : Nat) : Int) := wrapN (i + 1) (by have := altsLen e; omega)
            rw [dropGet hx, walkAs_cons, walkA_eq]
            have hl0 := fbB_le x a2
            have d := ih x.body (by omega) (hs.alt (List.mem_of_getElem? hx)) (b ++ x.vars) (fbB x a2) (by omega)
            have hl := kidsStep_le faB_le fbB_le x.body (b ++ x.vars) (fbB x a2)
            rw [exC_eq] at d
            have hvl : x.vars.length < 500000 := by omega
            rw [show fbB x a2 = x.vars.foldl addS a2 from rfl] at d hl hl0 ⊢
            generalize walkE (· ++ ·) faB fbB x.body (b ++ x.vars) (x.vars.foldl addS a2) = a4 at *
            simp only [go_sem, ↓reduceIte, Nat.reduceEqDiff, Nat.reduceAdd, Nat.one_ne_zero, Nat.reduceLT, natlt, decide_eq_true hlt, alsV_len]
            refine run_ind (fun z : Nat × List (List UInt8) => z.1 ≤ x.vars.length ∧ z.2.length + (x.vars.length - z.1) ≤ a2.length + x.vars.length ∧ (x.vars.drop z.1).foldl addS z.2 = x.vars.foldl addS a2)
              (fun z => ⟨[(1, .slice (z.2.map .str)), (2, .ptr (.loc 2) 0), (6, .int .i64 i), (7, .int .i64 z.1)], [], [(2, [.int .i64 e.kind, .str e.name, .bool e.told, .int .i64 e.ty.kind, .str e.ty.name, .int .i64 e.ty.n, .slice (tysV e.ty.args), .slice (exsV e.kids), .slice (alsV e.alts)])], 1⟩)
              (fun _ => some (.slice ((walkAs (· ++ ·) faB fbB (e.alts.drop (i + 1)) b a4).map .str), [])) (fun z => x.vars.length - z.1) (0, a2) ⟨Nat.zero_le _, by simp, rfl⟩ ?_ ?_
            · simp only [go_sem, ↓reduceIte, Nat.reduceEqDiff, Int.cast_ofNat_Int]
            · rintro ⟨k, a5⟩ ⟨hk, hk2, hk3⟩ hr
              simp only at hk hk2 hk3 hr ⊢
              by_cases hkl : k < x.vars.length
              · obtain ⟨v, hv⟩ := getS hkl
                have w2 : IntKind.i64.wrap ((k : Int) + 1) = ((k + 1 : Nat) : Int) := wrapN (k + 1) (by omega)
                have d2 := addr_den a5 v (by omega)
                have hl5 := add_le a5 v
                rw [dropGet hv, List.foldl_cons] at hk3
                generalize addS a5 v = a6 at *
                simp only [go_sem, ↓reduceIte, Nat.reduceEqDiff, Nat.reduceAdd, Nat.one_ne_zero, Nat.reduceLT, natlt, decide_eq_true hkl, natge0, tonat, alsV_get, hx, alV_eq, exC_eq, strsGet, hv, List.length_map, d2]
                refine hr (k + 1, a6) _ ⟨by omega, ?_, hk3⟩ (by simp only; omega) ?_
                · simp only; omega
                · simp only [go_sem, ↓reduceIte, Nat.reduceEqDiff, w2]
              · have hke : k = x.vars.length := by omega
                subst hke
                rw [List.drop_length, List.foldl_nil] at hk3
                subst hk3
                simp only [go_sem, ↓reduceIte, Nat.reduceEqDiff, Nat.reduceAdd, Nat.reduceLeDiff, Nat.one_ne_zero, Nat.reduceLT, reduceCtorEq, beq_self_eq_true, decide_false, natlt, Nat.lt_irrefl, natge0, tonat, alsV_get, hx, alV_eq, exC_eq, List.length_map, d]
                refine h (i + 1, a4) _ ⟨by omega, ?_⟩ (by simp only; omega) ?_
                · simp only; omega
                · simp only [go_sem, ↓reduceIte, Nat.reduceEqDiff, w1]
          · have hie : i = e.alts.length := by omega
            subst hie
            rw [List.drop_length, walkAs_nil]
            simp only [go_sem, ↓reduceIte, Nat.reduceEqDiff, Nat.reduceAdd, Nat.one_ne_zero, Nat.reduceLT, beq_self_eq_true, decide_false, natlt, Nat.lt_irrefl, alsV_len]
theorem rboundT_den (e : Ex) (hs : SX e) (ht : e.tot < 500000) : den E 35 [.agg (exC e)] [] = some (.slice ((walkE (· ++ ·) faB fbB e [] []).map .str), []) := by
  have d := rbound_den _ e (Nat.le_refl _) hs [] [] (by simpa using ht)
  rw [den_eq prim_35, body_35]
  rw [exC_eq] at d ⊢
  simp only [List.map_nil] at d
  simp only [go_sem, ↓reduceIte, Nat.reduceEqDiff, Nat.reduceAdd, Nat.reduceLeDiff, Nat.zero_ne_one, Nat.reduceLT, reduceCtorEq, Tryz.f35, d]
end Go.Proofs
