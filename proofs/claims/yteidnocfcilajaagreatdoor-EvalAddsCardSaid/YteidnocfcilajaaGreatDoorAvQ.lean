/- Numbers are added. -/
import Derived.Test.YteidnocfcilajaaGreatDoorAvM
namespace Go.Proofs
open Go.Av
set_option maxHeartbeats 64000000
set_option maxRecDepth 100000
/-! numbers -/
def numT : Nat → List UInt8
  | 0 => [90]
  | k + 1 => [83, 32, 40] ++ numT k ++ [41]
theorem numT_len (k : Nat) : (numT k).length = 4 * k + 1 := by
  induction k with
  | zero => rfl
  | succ k ih => simp only [numT, List.length_append, List.length_cons, List.length_nil, ih]; omega
theorem enumber_den (k : Nat) (hk : k ≤ 12) : den E 49 [.int .i64 k] [] = some (.str (numT k), []) := by
  rw [den_eq prim_49, body_49]
  simp only [go_sem, ↓reduceIte, Nat.reduceEqDiff, Nat.reduceAdd, Nat.reduceSub, Nat.reduceMul, Nat.reduceLeDiff, Nat.reduceLT, Nat.reduceBEq, reduceCtorEq, Int.reduceToNat, Int.reduceLE, Int.reduceLT, Int.reduceNeg, ne_eq, not_true_eq_false, Bool.not_eq_true, Bool.not_eq_false, Int.cast_ofNat_Int, Int.natCast_zero, Int.natCast_one, Int.reduceEq, Tryz.f49]
  refine run_ind (fun i : Nat => i ≤ k) (fun i => ⟨[(0, .int .i64 k), (3, .str (numT i)), (4, .int .i64 i)], [], [], 1⟩) (fun _ => some (.str (numT k), [])) (fun i => k - i) 0 (Nat.zero_le _) ?_ ?_
  · simp only [go_sem, ↓reduceIte, Nat.reduceEqDiff, Nat.reduceAdd, Nat.reduceSub, Nat.reduceMul, Nat.reduceLeDiff, Nat.reduceLT, Nat.reduceBEq, reduceCtorEq, Int.reduceToNat, Int.reduceLE, Int.reduceLT, Int.reduceNeg, ne_eq, not_true_eq_false, Bool.not_eq_true, Bool.not_eq_false, Int.cast_ofNat_Int, Int.natCast_zero, Int.natCast_one, Int.reduceEq, numT]
  · intro i hi h
    by_cases hlt : i < k
    · have w1 : IntKind.i64.wrap ((i : Int) + 1) = ((i + 1 : Nat) : Int) := wrapN (i + 1) (by omega)
      have hl := numT_len i
      have l1 : (3 + (numT i).length ≤ strMax) = True := eq_true (by unfold strMax; omega)
      have l2 : ((numT i).length + 1 + 1 + 1 + 1 ≤ strMax) = True := eq_true (by unfold strMax; omega)
      simp only [go_sem, ↓reduceIte, Nat.reduceEqDiff, Nat.reduceAdd, Nat.reduceSub, Nat.reduceMul, Nat.reduceLeDiff, Nat.reduceLT, Nat.reduceBEq, reduceCtorEq, Int.reduceToNat, Int.reduceLE, Int.reduceLT, Int.reduceNeg, ne_eq, not_true_eq_false, Bool.not_eq_true, Bool.not_eq_false, Int.cast_ofNat_Int, Int.natCast_zero, Int.natCast_one, Int.reduceEq, natlt, decide_eq_true hlt, l1, l2, List.length_append]
      refine h (i + 1) _ (by omega) (by omega) ?_
      simp only [go_sem, ↓reduceIte, Nat.reduceEqDiff, Nat.reduceAdd, Nat.reduceSub, Nat.reduceMul, Nat.reduceLeDiff, Nat.reduceLT, Nat.reduceBEq, reduceCtorEq, Int.reduceToNat, Int.reduceLE, Int.reduceLT, Int.reduceNeg, ne_eq, not_true_eq_false, Bool.not_eq_true, Bool.not_eq_false, Int.cast_ofNat_Int, Int.natCast_zero, Int.natCast_one, Int.reduceEq, w1, numT]
    · have hie : i = k := by omega
      subst hie
      simp only [go_sem, ↓reduceIte, Nat.reduceEqDiff, Nat.reduceAdd, Nat.reduceSub, Nat.reduceMul, Nat.reduceLeDiff, Nat.reduceLT, Nat.reduceBEq, reduceCtorEq, Int.reduceToNat, Int.reduceLE, Int.reduceLT, Int.reduceNeg, ne_eq, not_true_eq_false, Bool.not_eq_true, Bool.not_eq_false, Int.cast_ofNat_Int, Int.natCast_zero, Int.natCast_one, Int.reduceEq, natlt, Nat.lt_irrefl]
def addS : List UInt8 := [97, 100, 100, 32, 61, 32, 92, 109, 32, 45, 62, 32, 92, 110, 32, 45, 62, 32, 99, 97, 115, 101, 32, 109, 32, 111, 102, 32, 123, 90, 32, 45, 62, 32, 110, 59, 32, 83, 32, 107, 32, 45, 62, 32, 83, 32, 40, 97, 100, 100, 32, 107, 32, 110, 41, 125]
def addT (m n : Nat) : List UInt8 := [97, 100, 100, 32, 40] ++ numT m ++ [41, 32, 40] ++ numT n ++ [41]
def addsO (defs : List (List UInt8 × Ex)) (all : Nat) : Nat → Ex → Nat → Bool
  | 0, _, _ => false
  | k + 1, x, sum => match runO 100 defs 100 x with
    | none => false
    | some r => r.2 == 2 && (if r.1.kind == 2 then sum == all && r.1.name == [90] else r.1.kind == 4 && (match r.1.kids with
      | a :: b :: _ => a.name == [83] && addsO defs all k b (sum + 1)
      | _ => false))
def chkA (m n : Nat) : Bool := match parseO 100 addS, pexO 200 (addT m n) with
  | some ([d], 0), some (x, 0) => d.kind == 3 && addsO [([97, 100, 100], d.val)] (m + n) 40 x 0
  | _, _ => false
theorem chkA0 : ((List.range 13).all fun n => chkA 0 n) = true := by kernel_rfl
theorem chkA1 : ((List.range 13).all fun n => chkA 1 n) = true := by kernel_rfl
theorem chkA2 : ((List.range 13).all fun n => chkA 2 n) = true := by kernel_rfl
theorem chkA3 : ((List.range 13).all fun n => chkA 3 n) = true := by kernel_rfl
theorem chkA4 : ((List.range 13).all fun n => chkA 4 n) = true := by kernel_rfl
theorem chkA5 : ((List.range 13).all fun n => chkA 5 n) = true := by kernel_rfl
theorem chkA6 : ((List.range 13).all fun n => chkA 6 n) = true := by kernel_rfl
theorem chkA7 : ((List.range 13).all fun n => chkA 7 n) = true := by kernel_rfl
theorem chkA8 : ((List.range 13).all fun n => chkA 8 n) = true := by kernel_rfl
theorem chkA9 : ((List.range 13).all fun n => chkA 9 n) = true := by kernel_rfl
theorem chkA10 : ((List.range 13).all fun n => chkA 10 n) = true := by kernel_rfl
theorem chkA11 : ((List.range 13).all fun n => chkA 11 n) = true := by kernel_rfl
theorem chkA12 : ((List.range 13).all fun n => chkA 12 n) = true := by kernel_rfl
theorem chkA_ok {m n : Nat} (hm : m ≤ 12) (hn : n ≤ 12) : chkA m n = true := by
  have key : ∀ m, m < 13 → ((List.range 13).all fun n => chkA m n) = true := fun m h => match m, h with
    | 0, _ => chkA0
    | 1, _ => chkA1
    | 2, _ => chkA2
    | 3, _ => chkA3
    | 4, _ => chkA4
    | 5, _ => chkA5
    | 6, _ => chkA6
    | 7, _ => chkA7
    | 8, _ => chkA8
    | 9, _ => chkA9
    | 10, _ => chkA10
    | 11, _ => chkA11
    | 12, _ => chkA12
    | k + 13, h => absurd h (by omega)
  exact List.all_eq_true.1 (key m (by omega)) n (List.mem_range.2 (by omega))
theorem adds_run (defs : List (List UInt8 × Ex)) (hl : defs.length < 1000000) (hg : ∀ d ∈ defs, GX d.2) {all k : Nat} {x : Ex} {sum : Nat} (hx : GX x) (h : addsO defs all (k + 1) x sum = true) :
    ∃ y, den E 50 [.slice (defs.map defV), .agg (exC x), .int .i64 100] [] = some (.tup [.agg (exC y), .int .i64 2], []) ∧
      ((y.kind = 2 ∧ sum = all ∧ y.name = [90]) ∨ ∃ a b, y = .mk 4 [] false zTy [a, b] [] ∧ a.name = [83] ∧ GX b ∧ addsO defs all k b (sum + 1) = true) := by
  simp only [addsO] at h
  split at h
  · cases h
  · rename_i r hr
    obtain ⟨d1, d2⟩ := run_den defs hl hg 100 100 (by decide) x r hx hr
    obtain ⟨y, o⟩ := r
    simp only [Bool.and_eq_true, beq_iff_eq] at h d1 d2
    obtain ⟨h1, h2⟩ := h
    subst h1
    refine ⟨y, d1, ?_⟩
    split at h2
    · rename_i hk
      rw [Bool.and_eq_true, beq_iff_eq, beq_iff_eq] at h2
      exact .inl ⟨by simpa using hk, h2.1, h2.2⟩
    · rename_i hk
      rw [Bool.and_eq_true] at h2
      obtain ⟨a, b, rfl, g1, g2⟩ := d2.app_kids h2.1
      have h3 := h2.2
      simp only [Ex.kids, Bool.and_eq_true, beq_iff_eq] at h3
      exact .inr ⟨a, b, rfl, h3.1, g2, h3.2⟩
end Go.Proofs
namespace Go.Proofs
open Go.Av
set_option maxHeartbeats 64000000
set_option maxRecDepth 100000
theorem adds_nat (m n : Nat) (hm : m ≤ 12) (hn : n ≤ 12) : den E 13 [.int .i64 m, .int .i64 n] [] = some (.bool true, []) := by
  rw [den_eq prim_13, body_13]
  have ha := awake44_den
  have h := chkA_ok hm hn
  unfold chkA at h
  split at h
  rotate_left
  · cases h
  rename_i d x hp hq
  have a1 := (parse_two hp).1
  have b1 := (pex_two hq).1
  have gd := (parse_good hp rfl).1 d (List.mem_cons_self ..)
  have gx := (pex_good hq rfl).1
  rw [Bool.and_eq_true] at h
  obtain ⟨h3, h⟩ := h
  have gv : GX d.val := by
    cases gd with
    | bind s x _ hx => exact hx
    | data => cases h3
    | sig => cases h3
  have hgd : ∀ e ∈ [(([97, 100, 100] : List UInt8), d.val)], GX e.2 := fun e he => by
    rw [List.mem_singleton] at he; rw [he]; exact gv
  have e1 := enumber_den m hm
  have e2 := enumber_den n hn
  have q1 : decide ((m : Int) < 0) = false := decide_eq_false (by omega)
  have q2 : decide ((m : Int) > 12) = false := decide_eq_false (by omega)
  have q3 : decide ((n : Int) < 0) = false := decide_eq_false (by omega)
  have q4 : decide ((n : Int) > 12) = false := decide_eq_false (by omega)
  have t1 : addT m n = ((([97, 100, 100, 32, 40] ++ numT m) ++ [41, 32, 40]) ++ numT n) ++ [41] := rfl
  have n1 := numT_len m
  have n2 := numT_len n
  unfold parV at a1
  unfold pexV at b1
  rw [t1] at b1
  unfold addS at a1
  simp only [List.map_cons, List.map_nil] at a1
  generalize numT m = tm at *
  generalize numT n = tn at *
  simp only [List.cons_append, List.nil_append, List.append_assoc] at b1
  unfold deV deC at a1
  rw [exC_eq] at b1
  simp (maxSteps := 10000000) (disch := ((try simp only [List.length_append, List.length_cons, List.length_nil]); omega)) only [go_sem, ↓reduceIte, Nat.reduceEqDiff, Nat.reduceAdd, Nat.reduceMul, Nat.reduceLeDiff, Nat.zero_ne_one, Nat.reduceLT, reduceCtorEq, beq_self_eq_true, Int.cast_ofNat_Int, le_str, Tryz.f13, ha, a1, b1, e1, e2, q1, q2, q3, q4, List.cons_append, List.append_assoc, List.length_append, Int.reduceBNe, Int.le_refl, Int.toNat_zero]
  refine run_ind (fun q : Nat × Ex × Nat => q.1 ≤ 40 ∧ q.2.2 ≤ q.1 ∧ GX q.2.1 ∧ addsO [(([97, 100, 100] : List UInt8), d.val)] (m + n) (40 - q.1) q.2.1 q.2.2 = true)
    (fun q => ⟨[(0, .int .i64 m), (1, .int .i64 n), (5, .bool true), (8, .ptr (.loc 8) 0), (10, .own 82 0 [defV ([97, 100, 100], d.val)]), (11, .int .i64 q.2.2), (12, .int .i64 q.1)], [], [(8, exC q.2.1)], 1⟩)
    (fun _ => some (.bool true, [])) (fun q => 40 - q.1) (0, x, 0) ⟨Nat.zero_le _, Nat.le_refl _, gx, h⟩ ?_ ?_
  · simp only [go_sem, ↓reduceIte, Nat.reduceEqDiff, reduceCtorEq, Int.cast_ofNat_Int, exC_eq, defV_eq]
  · rintro ⟨i, c, sum⟩ ⟨hi, hsi, hc, hq⟩ hrun
    simp only at hi hsi hc hq hrun ⊢
    by_cases hlt : i < 40
    · obtain ⟨k, hk⟩ : ∃ k, 40 - i = k + 1 := ⟨40 - i - 1, by omega⟩
      rw [hk] at hq
      obtain ⟨y, d1, hy⟩ := adds_run [(([97, 100, 100] : List UInt8), d.val)] (show 1 < 1000000 by decide) hgd hc hq
      simp only [List.map_cons, List.map_nil] at d1
      have i40 : decide ((i : Int) < 40) = true := decide_eq_true (by omega)
      have w1 : IntKind.i64.wrap ((i : Int) + 1) = ((i + 1 : Nat) : Int) := wrapN (i + 1) (by omega)
      have w2 : IntKind.i64.wrap ((sum : Int) + 1) = ((sum + 1 : Nat) : Int) := wrapN (sum + 1) (by omega)
      have w3 : IntKind.i64.wrap ((m : Int) + n) = ((m + n : Nat) : Int) := wrapN (m + n) (by omega)
      rw [defV_eq] at d1
      rcases hy with ⟨h1, h2, h4⟩ | ⟨a, b, rfl, h1, gb, h2⟩
      · rw [exC_eq, exC_eq y, h1, h4] at d1
        have h5 : ((sum : Int) == ((m + n : Nat) : Int)) = true := by rw [h2]; simp
        simp only [go_sem, ↓reduceIte, Nat.reduceEqDiff, Nat.reduceAdd, Nat.reduceLeDiff, Nat.reduceLT, reduceCtorEq, i40, exC_eq, defV_eq, d1, w3, h5, Int.reduceBNe]
      · rw [exC_mk, exsV_cons, exsV_cons, exsV_nil, exC_eq c, exC_eq a, h1, exC_eq b] at d1
        simp only [go_sem, ↓reduceIte, Nat.reduceEqDiff, Nat.reduceAdd, Nat.reduceLeDiff, Nat.reduceLT, reduceCtorEq, Int.reduceLE, i40, exC_eq, defV_eq, d1, Int.reduceBNe, Int.reduceBEq, Int.le_refl, Int.toNat_zero, Int.toNat_one]
        refine hrun (i + 1, b, sum + 1) _ ⟨by simp only; omega, by simp only; omega, gb, ?_⟩ (by simp only; omega) ?_
        · simp only
          rw [show 40 - (i + 1) = k by omega]; exact h2
        · simp only [go_sem, ↓reduceIte, Nat.reduceEqDiff, reduceCtorEq, w1, w2, exC_eq, defV_eq]
    · rw [show 40 - i = 0 by omega] at hq
      cases hq
theorem adds_den (m n : Int) : den E 13 [.int .i64 m, .int .i64 n] [] = some (.bool true, []) := by
  have ha := awake44_den
  by_cases h1 : m < 0
  · rw [den_eq prim_13, body_13]
    simp only [go_sem, ↓reduceIte, Nat.reduceEqDiff, Nat.reduceAdd, reduceCtorEq, Tryz.f13, ha, decide_eq_true h1]
  by_cases h2 : m > 12
  · rw [den_eq prim_13, body_13]
    simp only [go_sem, ↓reduceIte, Nat.reduceEqDiff, Nat.reduceAdd, reduceCtorEq, Tryz.f13, ha, decide_eq_false h1, decide_eq_true h2]
  by_cases h3 : n < 0
  · rw [den_eq prim_13, body_13]
    simp only [go_sem, ↓reduceIte, Nat.reduceEqDiff, Nat.reduceAdd, reduceCtorEq, Tryz.f13, ha, decide_eq_false h1, decide_eq_false h2, decide_eq_true h3]
  by_cases h4 : n > 12
  · rw [den_eq prim_13, body_13]
    simp only [go_sem, ↓reduceIte, Nat.reduceEqDiff, Nat.reduceAdd, reduceCtorEq, Tryz.f13, ha, decide_eq_false h1, decide_eq_false h2, decide_eq_false h3, decide_eq_true h4]
  obtain ⟨a, rfl⟩ : ∃ a : Nat, m = a := ⟨m.toNat, by omega⟩
  obtain ⟨b, rfl⟩ : ∃ b : Nat, n = b := ⟨n.toNat, by omega⟩
  exact adds_nat a b (by omega) (by omega)
end Go.Proofs
