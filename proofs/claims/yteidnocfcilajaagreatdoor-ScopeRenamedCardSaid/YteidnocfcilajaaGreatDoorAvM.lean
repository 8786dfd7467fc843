/- The program and the document go the same way; the examples; two laws come out true for any text. -/
import Derived.Test.YteidnocfcilajaaGreatDoorAvL
namespace Go.Proofs
open Go.Av
set_option maxHeartbeats 16000000
set_option maxRecDepth 100000
/-! the program and the document go the same way -/
theorem bool_ext {a b : Bool} (h : a = true ↔ b = true) : a = b := by cases a <;> cases b <;> simp_all
theorem adds_mem (n : List UInt8) : ∀ (ns b : List (List UInt8)), (ns.foldl addS b).contains n = (b ++ ns).contains n
  | [], b => by simp
  | x :: r, b => by
    rw [List.foldl_cons, adds_mem n r]
    unfold addS
    split
    · rename_i h
      apply bool_ext
      simp only [List.contains_eq_mem, decide_eq_true_eq, List.mem_append, List.mem_cons] at h ⊢
      constructor
      · rintro (h1 | h1)
        · exact .inl h1
        · exact .inr (.inr h1)
      · rintro (h1 | rfl | h1)
        · exact .inl h1
        · exact .inl h
        · exact .inr h1
    · rw [List.append_assoc]; rfl
theorem with_mem (n : List UInt8) (b ns : List (List UInt8)) : (withS b ns).contains n = (b ++ ns).contains n := adds_mem n ns b
theorem app_mem {b b' : List (List UInt8)} (ns : List (List UInt8)) (h : ∀ n, b.contains n = b'.contains n) (n : List UInt8) : (withS b ns).contains n = (b' ++ ns).contains n := by
  have := h n
  rw [with_mem]
  apply bool_ext
  simp only [List.contains_eq_mem, decide_eq_true_eq, List.mem_append] at this ⊢
  have := decide_eq_decide.1 this
  rw [this]
theorem walk_cong {α : Type} {fa : Ex → List (List UInt8) → α → α} {fb : Al → α → α} (hfa : ∀ e b b' acc, (∀ n, b.contains n = b'.contains n) → fa e b acc = fa e b' acc) : ∀ (n : Nat) (e : Ex), e.tot ≤ n → ∀ b b' acc, (∀ m, b.contains m = b'.contains m) → walkE withS fa fb e b acc = walkE (· ++ ·) fa fb e b' acc := by
  intro n
  induction n with
  | zero => intro e he; exfalso; have := tot_eq e; have := ty_pos e; omega
  | succ n ih =>
    have hks : ∀ (l : List Ex) b b' acc, Ex.tots l ≤ n → (∀ m, b.contains m = b'.contains m) → walkKs withS fa fb l b acc = walkKs (· ++ ·) fa fb l b' acc := by
      intro l
      induction l with
      | nil => intro b b' acc _ _; rw [walkKs_nil, walkKs_nil]
      | cons e r ihr =>
        intro b b' acc hl hb
        rw [tots_cons] at hl
        rw [walkKs_cons, walkKs_cons, ih e (by omega) b b' acc hb]
        exact ihr b b' _ (by omega) hb
    have hal : ∀ (l : List Al) b b' acc, Al.tots l ≤ n → (∀ m, b.contains m = b'.contains m) → walkAs withS fa fb l b acc = walkAs (· ++ ·) fa fb l b' acc := by
      intro l
      induction l with
      | nil => intro b b' acc _ _; rw [walkAs_nil, walkAs_nil]
      | cons e r ihr =>
        intro b b' acc hl hb
        rw [altots_cons, altot_eq] at hl
        rw [walkAs_cons, walkAs_cons, walkA_eq, walkA_eq, ih e.body (by omega) _ (b' ++ e.vars) _ (app_mem e.vars hb)]
        exact ihr b b' _ (by omega) hb
    intro e he b b' acc hb
    have ht := tot_eq e
    have hp := ty_pos e
    rw [walkE_eq, walkE_eq, hfa e b b' acc hb]
    split
    · exact hks e.kids _ (b' ++ [e.name]) _ (by omega) (app_mem [e.name] hb)
    · split
      · cases hk : e.kids with
        | nil => rw [walkLet_nil, walkLet_nil]
        | cons x r =>
          rw [hk, tots_cons] at ht
          rw [walkLet_cons, walkLet_cons, ih x (by omega) b b' _ hb]
          exact hks r _ (b' ++ [e.name]) _ (by omega) (app_mem [e.name] hb)
      · rw [hks e.kids b b' _ (by omega) hb]
        exact hal e.alts b b' _ (by omega) hb
theorem free_same (e : Ex) : freeS e = walkE (· ++ ·) faF fbF e [] [] := walk_cong (fun e b b' acc h => by unfold faF; rw [h]) _ e (Nat.le_refl _) [] [] [] fun _ => rfl
theorem cons_same (e : Ex) : consS e = walkE (· ++ ·) faC fbC e [] [] := walk_cong (fun _ _ _ _ _ => rfl) _ e (Nat.le_refl _) [] [] [] fun _ => rfl
theorem bound_same (e : Ex) : boundS e = walkE (· ++ ·) faB fbB e [] [] := walk_cong (fun _ _ _ _ _ => rfl) _ e (Nat.le_refl _) [] [] [] fun _ => rfl
theorem GX.sx {e : Ex} (h : GX e) : SX e := by
  induction h with
  | nam k s hk _ => exact .mk _ (fun _ => ⟨rfl, rfl⟩) (fun h3 => by rcases hk with rfl | rfl <;> simp [Ex.kind] at h3) (fun h3 => by rcases hk with rfl | rfl <;> simp [Ex.kind] at h3) (by simp [Ex.kids]) (by simp [Ex.alts])
  | lam s x _ _ ih => exact .mk _ (by simp [Ex.kind]) (fun _ => ⟨⟨x, rfl⟩, rfl⟩) (by simp [Ex.kind]) (by simp [Ex.kids, ih]) (by simp [Ex.alts])
  | app x y _ _ ih1 ih2 => exact .mk _ (by simp [Ex.kind]) (by simp [Ex.kind]) (by simp [Ex.kind]) (by simp [Ex.kids, ih1, ih2]) (by simp [Ex.alts])
  | lett s t x y _ _ _ _ ih1 ih2 => exact .mk _ (by simp [Ex.kind]) (by simp [Ex.kind]) (fun _ => ⟨⟨x, y, rfl⟩, rfl⟩) (by simp [Ex.kids, ih1, ih2]) (by simp [Ex.alts])
  | letu s x y _ _ _ ih1 ih2 => exact .mk _ (by simp [Ex.kind]) (by simp [Ex.kind]) (fun _ => ⟨⟨x, y, rfl⟩, rfl⟩) (by simp [Ex.kids, ih1, ih2]) (by simp [Ex.alts])
  | cas x al _ _ _ ih1 ih2 => exact .mk _ (by simp [Ex.kind]) (by simp [Ex.kind]) (by simp [Ex.kind]) (by simp [Ex.kids, ih1]) (fun a ha => ih2 a ha)
  | ann x t _ _ ih => exact .mk _ (by simp [Ex.kind]) (by simp [Ex.kind]) (by simp [Ex.kind]) (by simp [Ex.kids, ih]) (by simp [Ex.alts])
theorem GD.sx {d : De} (h : GD d) (hk : d.kind = 3) : SX d.val := by
  cases h with
  | data => simp at hk
  | sig => simp at hk
  | bind s x _ hx => exact hx.sx
theorem names_same (l : List (List UInt8)) (hl : l.length < 1000000) : den E 29 [.slice (l.map .str), .slice (l.map .str)] [] = some (.bool true, []) := by
  rw [den_eq prim_29, body_29]
  have e0 : ((l.length : Int) != l.length) = false := by simp
  simp only [go_sem, ↓reduceIte, Nat.reduceEqDiff, Nat.reduceAdd, Nat.zero_ne_one, reduceCtorEq, Tryz.f29, List.length_map, e0]
  refine run_ind (fun i : Nat => i ≤ l.length) (fun i => ⟨[(0, .slice (l.map .str)), (1, .slice (l.map .str)), (5, .int .i64 i)], [], [], 1⟩) (fun _ => some (.bool true, [])) (fun i => l.length - i) 0 (Nat.zero_le _) ?_ ?_
  · simp only [go_sem, ↓reduceIte, Nat.reduceEqDiff, Nat.zero_ne_one, reduceCtorEq, Int.cast_ofNat_Int]
  · intro i hi h
    by_cases hlt : i < l.length
    · obtain ⟨x, hx⟩ := getS hlt
      have w1 : IntKind.i64.wrap ((i : Int) + 1) = ((i + 1 : Nat) : Int) := wrapN (i + 1) (by omega)
      simp only [go_sem, ↓reduceIte, Nat.reduceEqDiff, Nat.reduceAdd, Nat.zero_ne_one, reduceCtorEq, beq_self_eq_true, List.length_map, natlt, decide_eq_true hlt, natge0, tonat, strsGet, hx]
      refine h (i + 1) _ (by omega) (by omega) ?_
      simp only [go_sem, ↓reduceIte, Nat.reduceEqDiff, Nat.zero_ne_one, reduceCtorEq, w1]
    · have hie : i = l.length := by omega
      subst hie
      simp only [go_sem, ↓reduceIte, Nat.reduceEqDiff, Nat.reduceAdd, reduceCtorEq, beq_self_eq_true, decide_false, List.length_map, natlt, Nat.lt_irrefl]
theorem checked_den {f : Nat} {s n : List UInt8} {p : List De × Int} {c : Nat} (hp : parseO f s = some p) (h0 : p.2 = 0) (hc : chkS p.1 = (n, (c : Int))) (hc2 : c < 1000000000) (hn : n.length ≤ 1000) : den E 73 [.str s] [] = some (.str (n ++ [32] ++ Lib.itoa c), []) := by
  rw [den_eq prim_73, body_73]
  have h1 := (parse_two hp).1
  have key := parse_good hp h0
  have h2 := check_den p.1 (fun d hd hk => (key.1 d hd).sx hk) (by have := key.2; omega)
  have hb : (p.2 != 0) = false := by rw [h0]; rfl
  have h3 := decimal_den c hc2
  have hm : (if (c : Int) > 0 then (c : Int) else 0) = c := by split <;> omega
  have hl : (Lib.itoa c).length ≤ 1000 := by
    have := itoa_len 8 c (by have e : (10 : Nat) ^ (8 + 1) = 1000000000 := by decide
                             omega)
    omega
  have l1 : n.length + 1 ≤ strMax := by unfold strMax; omega
  have l2 : (n ++ [32]).length + (Lib.itoa c).length ≤ strMax := by rw [List.length_append]; unfold strMax; simp; omega
  unfold parV at h1
  rw [hc] at h2
  unfold seV at h2
  simp only [go_sem, ↓reduceIte, Nat.reduceEqDiff, Nat.reduceAdd, reduceCtorEq, Tryz.f73, h1, h2, hb, hm, h3, l1, l2]
end Go.Proofs
namespace Go.Proofs
open Go.Av
set_option maxHeartbeats 16000000
set_option maxRecDepth 100000
theorem zeroOne : ((0 : Int) == 1) = false := rfl
theorem word_den (s : List UInt8) : ∃ b, den E 39 [.str s] [] = some (.bool b, []) := by
  obtain ⟨q, hq⟩ := scanO_T s
  have d := scanAll_den s
  rw [hq] at d
  rw [den_eq prim_39, body_39]
  cases h0 : (scanO s).2 == 0
  · exact ⟨false, by simp only [go_sem, ↓reduceIte, Nat.reduceEqDiff, Nat.reduceAdd, reduceCtorEq, Tryz.f39, d, h0]⟩
  · generalize (scanO s).1 = l at *
    match l with
    | [] => exact ⟨false, by simp only [go_sem, ↓reduceIte, Nat.reduceEqDiff, Nat.reduceAdd, reduceCtorEq, beq_self_eq_true, Int.cast_ofNat_Int, Tryz.f39, d, h0, toksV, zeroOne]⟩
    | [t] =>
      cases h1 : t.kind == 1
      · exact ⟨false, by simp only [go_sem, ↓reduceIte, Nat.reduceEqDiff, Nat.reduceAdd, Nat.one_ne_zero, reduceCtorEq, beq_self_eq_true, Int.cast_ofNat_Int, Tryz.f39, d, h0, toksV, tokV, h1, Int.le_refl, Int.toNat_zero]⟩
      · exact ⟨t.text == s, by simp only [go_sem, ↓reduceIte, Nat.reduceEqDiff, Nat.reduceAdd, Nat.one_ne_zero, reduceCtorEq, beq_self_eq_true, Int.cast_ofNat_Int, Tryz.f39, d, h0, toksV, tokV, h1, Int.le_refl, Int.toNat_zero]⟩
    | a :: b :: r =>
      have e : ((((r.map tokV).length + 1 + 1 : Nat) : Int) == 1) = false := by rw [beq_eq_false_iff_ne]; omega
      exact ⟨false, by simp only [go_sem, ↓reduceIte, Nat.reduceEqDiff, Nat.reduceAdd, reduceCtorEq, beq_self_eq_true, Tryz.f39, d, h0, toksV, e]⟩
def chkC (f : Nat) (s t : List UInt8) : Bool := match parseO f s with
  | some p => p.2 == 0 && (chkS p.1).2 == ((chkS p.1).2.toNat : Int) && decide ((chkS p.1).2.toNat < 1000) && decide ((chkS p.1).1.length ≤ 1000) && (chkS p.1).1 ++ [32] ++ (if (chkS p.1).2.toNat = 0 then [48] else [UInt8.ofNat (48 + (chkS p.1).2.toNat / 10), UInt8.ofNat (48 + (chkS p.1).2.toNat % 10)]) == t && decide ((chkS p.1).2.toNat ∈ [0, 90, 91, 92])
  | none => false
theorem itoa_four {c : Nat} (h : c ∈ [0, 90, 91, 92]) : Lib.itoa (c : Int) = if c = 0 then [48] else [UInt8.ofNat (48 + c / 10), UInt8.ofNat (48 + c % 10)] := by
  simp only [List.mem_cons, List.not_mem_nil, or_false] at h
  rcases h with rfl | rfl | rfl | rfl
  · rw [itoa_nat, Lib.decDigits_one (by omega)]; rfl
  · rw [itoa_nat, Lib.decDigits_two (by omega) (by omega)]; rfl
  · rw [itoa_nat, Lib.decDigits_two (by omega) (by omega)]; rfl
  · rw [itoa_nat, Lib.decDigits_two (by omega) (by omega)]; rfl
theorem chkC_den {f : Nat} {s t : List UInt8} (h : chkC f s t = true) : den E 73 [.str s] [] = some (.str t, []) := by
  unfold chkC at h
  split at h
  · rename_i p hp
    simp only [Bool.and_eq_true, beq_iff_eq, decide_eq_true_eq] at h
    obtain ⟨⟨⟨⟨⟨h1, h2⟩, h3⟩, h4⟩, h5⟩, h6⟩ := h
    have := checked_den (n := (chkS p.1).1) (c := (chkS p.1).2.toNat) hp h1 (by rw [← h2]) (by omega) h4
    rw [itoa_four h6, h5] at this
    exact this
  · cases h
def chkW (f : Nat) (s : List UInt8) : Bool := match pexO f s with
  | some p => p.2 == 0 && (freeS p.1 == [[121], [119], [122]] && (consS p.1 == [[83], [90]] && boundS p.1 == [[120], [122]]))
  | none => false
theorem chkW_den {f : Nat} {s : List UInt8} (h : chkW f s = true) : ∃ x, den E 20 [.str s] [] = some (.tup [.agg (exC x), .int .i64 0], []) ∧ den E 30 [.agg (exC x)] [] = some (.slice [.str [121], .str [119], .str [122]], []) ∧
    den E 32 [.agg (exC x)] [] = some (.slice [.str [83], .str [90]], []) ∧ den E 34 [.agg (exC x)] [] = some (.slice [.str [120], .str [122]], []) := by
  unfold chkW at h
  split at h
  · rename_i p hp
    simp only [Bool.and_eq_true, beq_iff_eq] at h
    obtain ⟨h1, h2, h3, h4⟩ := h
    have k1 := (pex_two hp).1
    have k2 := pex_good hp h1
    unfold pexV at k1
    rw [h1] at k1
    have d1 := free_den p.1 k2.1.sx (by have := k2.2; omega)
    have d2 := cons_den p.1 k2.1.sx (by have := k2.2; omega)
    have d3 := bound_den p.1 k2.1.sx (by have := k2.2; omega)
    rw [h2] at d1
    rw [h3] at d2
    rw [h4] at d3
    exact ⟨p.1, k1, d1, d2, d3⟩
  · cases h
theorem chk0 : chkW 100 [92, 120, 32, 45, 62, 32, 99, 97, 115, 101, 32, 121, 32, 111, 102, 32, 123, 83, 32, 122, 32, 45, 62, 32, 120, 32, 122, 32, 119, 59, 32, 90, 32, 45, 62, 32, 122, 125] = true := by kernel_rfl
theorem chk1 : chkC 100 [100, 97, 116, 97, 32, 78, 32, 123, 90, 32, 58, 32, 78, 125, 59, 32, 102, 32, 61, 32, 90, 59, 32, 102, 32, 61, 32, 90] [102, 32, 57, 48] = true := by kernel_rfl
theorem chk2 : chkC 100 [102, 32, 58, 32, 78] [102, 32, 57, 50] = true := by kernel_rfl
theorem chk3 : chkC 100 [102, 32, 61, 32, 92, 102, 32, 45, 62, 32, 102] [102, 32, 57, 48] = true := by kernel_rfl
theorem chk4 : chkC 100 [102, 32, 61, 32, 103] [103, 32, 57, 49] = true := by kernel_rfl
theorem chk5 : chkC 100 [102, 32, 61, 32, 75] [75, 32, 57, 49] = true := by kernel_rfl
theorem chk6 : chkC 100 [100, 97, 116, 97, 32, 80, 32, 97, 32, 97, 32, 123, 125] [97, 32, 57, 48] = true := by kernel_rfl
theorem chk7 : chkC 100 [100, 97, 116, 97, 32, 65, 110, 121, 32, 123, 125] [65, 110, 121, 32, 57, 48] = true := by kernel_rfl
theorem chk8 : chkC 100 [100, 97, 116, 97, 32, 78, 32, 123, 125, 59, 32, 102, 32, 61, 32, 99, 97, 115, 101, 32, 102, 32, 111, 102, 32, 123, 75, 32, 120, 32, 120, 32, 45, 62, 32, 102, 125] [120, 32, 57, 48] = true := by kernel_rfl
theorem chk9 : chkC 100 [100, 97, 116, 97, 32, 78, 32, 123, 90, 32, 58, 32, 78, 125, 59, 32, 102, 32, 61, 32, 90] [32, 48] = true := by kernel_rfl
theorem awake_den : den E 28 [] [] = some (.bool true, []) := by
  rw [den_eq prim_28, body_28]
  obtain ⟨x, e1, e2, e3, e4⟩ := chkW_den chk0
  have n1 := names_same [[121], [119], [122]] (by decide)
  have n2 := names_same [[83], [90]] (by decide)
  have n3 := names_same [[120], [122]] (by decide)
  simp only [List.map_cons, List.map_nil] at n1 n2 n3
  have c1 := chkC_den chk1
  have c2 := chkC_den chk2
  have c3 := chkC_den chk3
  have c4 := chkC_den chk4
  have c5 := chkC_den chk5
  have c6 := chkC_den chk6
  have c7 := chkC_den chk7
  have c8 := chkC_den chk8
  have c9 := chkC_den chk9
  rw [exC_eq] at e1 e2 e3 e4
  simp only [go_sem, ↓reduceIte, Nat.reduceEqDiff, Nat.reduceAdd, Nat.reduceMul, Nat.reduceLeDiff, Nat.zero_ne_one, Nat.reduceLT, reduceCtorEq, beq_self_eq_true, Tryz.f28, e1, e2, e3, e4, n1, n2, n3, c1, c2, c3, c4, c5, c6, c7, c8, c9]
theorem tells_den (s : List UInt8) : den E 5 [.str s] [] = some (.bool true, []) := by
  rw [den_eq prim_5, body_5]
  have ha := awake_den
  obtain ⟨p, hp⟩ := pexO_tot s
  obtain ⟨h1, h2⟩ := pex_two hp
  unfold pexV at h1 h2
  cases h0 : (p.2 != 0)
  · have h00 : p.2 = 0 := by rw [bne_not] at h0; simpa using h0
    have k := pex_good hp h00
    have hs := k.1.sx
    have ht : p.1.tot < 500000 := by have := k.2; omega
    have d1 := free_den p.1 hs (by omega)
    have d2 := rFree_den p.1 hs ht
    have d3 := cons_den p.1 hs (by omega)
    have d4 := rconsT_den p.1 hs ht
    have d5 := bound_den p.1 hs (by omega)
    have d6 := rboundT_den p.1 hs ht
    rw [← free_same] at d2
    rw [← cons_same] at d4
    rw [← bound_same] at d6
    have n1 := names_same (freeS p.1) (by have := free_le p.1; omega)
    have n2 := names_same (consS p.1) (by have := cons_le p.1; omega)
    have n3 := names_same (boundS p.1) (by have := bound_le p.1; omega)
    simp only [exC_eq] at h1 h2 d1 d2 d3 d4 d5 d6
    simp only [go_sem, ↓reduceIte, Nat.reduceEqDiff, Nat.reduceAdd, Nat.reduceLeDiff, Nat.reduceLT, reduceCtorEq, beq_self_eq_true, Tryz.f5, ha, h1, h2, h0, d1, d2, d3, d4, d5, d6, n1, n2, n3]
  · simp only [exC_eq] at h1 h2
    simp only [go_sem, ↓reduceIte, Nat.reduceEqDiff, Nat.reduceAdd, Nat.reduceLeDiff, Nat.reduceLT, reduceCtorEq, Tryz.f5, ha, h1, h2, h0]
end Go.Proofs
namespace Go.Proofs
open Go.Av
set_option maxHeartbeats 16000000
set_option maxRecDepth 100000
/-! a let's name, an alternative's names -/
def exVar (s : List UInt8) : Ex := .mk 1 s false zTy [] []
def exLet (s : List UInt8) : Ex := .mk 5 s false zTy [exVar s, exVar s] []
def exCase (x : Ex) (vs : List (List UInt8)) (s : List UInt8) : Ex := .mk 6 [] false zTy [x] [.mk [75] vs (exVar s)]
theorem exVar_sx (s : List UInt8) : SX (exVar s) := .mk _ (fun _ => ⟨rfl, rfl⟩) (by simp [exVar, Ex.kind]) (by simp [exVar, Ex.kind]) (by simp [exVar, Ex.kids]) (by simp [exVar, Ex.alts])
theorem exLet_sx (s : List UInt8) : SX (exLet s) := .mk _ (by simp [exLet, Ex.kind]) (by simp [exLet, Ex.kind]) (fun _ => ⟨⟨_, _, rfl⟩, rfl⟩) (by simp [exLet, Ex.kids, exVar_sx]) (by simp [exLet, Ex.alts])
theorem exCase_sx {x : Ex} (h : SX x) (vs : List (List UInt8)) (s : List UInt8) : SX (exCase x vs s) := .mk _ (by simp [exCase, Ex.kind]) (by simp [exCase, Ex.kind]) (by simp [exCase, Ex.kind]) (by simp [exCase, Ex.kids, h]) (by simp [exCase, Ex.alts, Al.body, exVar_sx])
theorem exVar_tot (s : List UInt8) : (exVar s).tot = 1 := by unfold exVar; rw [tot_mk, tots_nil, altots_nil, zTy_sz]
theorem exLet_tot (s : List UInt8) : (exLet s).tot = 3 := by unfold exLet; rw [tot_mk, tots_two, altots_nil, zTy_sz, exVar_tot]
theorem exCase_tot (x : Ex) (vs : List (List UInt8)) (s : List UInt8) : (exCase x vs s).tot = x.tot + vs.length + 3 := by
  unfold exCase; rw [tot_mk, tots_one, altots_cons, altots_nil, zTy_sz, altot_eq]
  simp only [Al.body, Al.vars, exVar_tot]; omega
theorem walkVar {α : Type} {ext : List (List UInt8) → List (List UInt8) → List (List UInt8)} {fa : Ex → List (List UInt8) → α → α} {fb : Al → α → α} (s : List UInt8) (b : List (List UInt8)) (acc : α) : walkE ext fa fb (exVar s) b acc = fa (exVar s) b acc := by
  unfold exVar
  rw [walkE_eq]
  simp only [Ex.kind, Ex.kids, Ex.alts, walkKs_nil, walkAs_nil]
  rfl
theorem walkCase {α : Type} {ext : List (List UInt8) → List (List UInt8) → List (List UInt8)} {fa : Ex → List (List UInt8) → α → α} {fb : Al → α → α} (x : Ex) (vs : List (List UInt8)) (s : List UInt8) (b : List (List UInt8)) (acc : α) :
    walkE ext fa fb (exCase x vs s) b acc = fa (exVar s) (ext b vs) (fb (.mk [75] vs (exVar s)) (walkE ext fa fb x b (fa (exCase x vs s) b acc))) := by
  unfold exCase
  rw [walkE_eq]
  simp only [Ex.kind, Ex.kids, Ex.alts, walkKs_cons, walkKs_nil, walkAs_cons, walkAs_nil, walkA_eq, Al.body, Al.vars, walkVar]
  rfl
theorem let_free (s : List UInt8) : freeS (exLet s) = [s] := by
  unfold freeS exLet
  rw [walkE_eq]
  simp only [Ex.kind, Ex.kids, Ex.alts, Ex.name, show ((5 : Int) == 3) = false from rfl, show ((5 : Int) == 5) = true from rfl, Bool.false_eq_true, if_false, if_true, walkLet_cons, walkKs_cons, walkKs_nil, walkVar]
  have e : ∀ b acc, faF (exVar s) b acc = if b.contains s then acc else addS acc s := by
    intro b acc; unfold faF exVar; simp only [Ex.kind, Ex.name]
    rcases Bool.eq_false_or_eq_true (b.contains s) with h | h <;> simp only [h] <;> rfl
  have e5 : faF (.mk 5 s false zTy [exVar s, exVar s] []) [] [] = [] := rfl
  rw [e5, e, e]
  simp [addS, withS]
theorem var_faF (s : List UInt8) (b acc : List (List UInt8)) : faF (exVar s) b acc = if b.contains s then acc else addS acc s := by
  unfold faF exVar; simp only [Ex.kind, Ex.name]
  rcases Bool.eq_false_or_eq_true (b.contains s) with h | h <;> simp only [h] <;> rfl
theorem case_free (x : Ex) (s : List UInt8) : freeS (exCase x [s] s) = freeS x := by
  unfold freeS
  rw [walkCase, var_faF]
  have e : faF (exCase x [s] s) [] [] = [] := rfl
  rw [e]
  simp [withS, addS, fbF]
theorem case_bound (x : Ex) (s : List UInt8) : (boundS (exCase x [s] s)).contains s = true := by
  unfold boundS
  rw [walkCase]
  have e : ∀ b acc, faB (exVar s) b acc = acc := fun _ _ => rfl
  rw [e]
  unfold fbB
  simp only [Al.vars]
  rw [adds_mem]
  simp
theorem case_cons (x : Ex) (s : List UInt8) : (consS (exCase x [] s)).contains [75] = true := by
  unfold consS
  rw [walkCase]
  have e : ∀ b acc, faC (exVar s) b acc = acc := fun _ _ => rfl
  rw [e]
  rw [show fbC (.mk [75] [] (exVar s)) (walkE withS faC fbC x [] (faC (exCase x [] s) [] [])) = addS (walkE withS faC fbC x [] (faC (exCase x [] s) [] [])) [75] from rfl]
  have := adds_mem [75] [[75]] (walkE withS faC fbC x [] (faC (exCase x [] s) [] []))
  simp only [List.foldl_cons, List.foldl_nil] at this
  rw [this]
  simp
theorem let_den (s n : List UInt8) : den E 9 [.str s, .str n] [] = some (.bool true, []) := by
  rw [den_eq prim_9, body_9]
  have ha := awake_den
  obtain ⟨p, hp⟩ := pexO_tot s
  have h1 := (pex_two hp).1
  obtain ⟨w, hw⟩ := word_den n
  unfold pexV at h1
  cases h0 : (p.2 != 0)
  · have h00 : p.2 = 0 := by rw [bne_not] at h0; simpa using h0
    have k := pex_good hp h00
    have hs := k.1.sx
    have ht : p.1.tot < 500000 := by have := k.2; omega
    cases w
    · simp only [exC_eq] at h1
      simp only [go_sem, ↓reduceIte, Nat.reduceEqDiff, Nat.reduceAdd, Nat.reduceLeDiff, Nat.zero_ne_one, Nat.reduceLT, reduceCtorEq, beq_self_eq_true, Tryz.f9, ha, h1, h0, hw]
    · have d1 := free_den (exLet n) (exLet_sx n) (by rw [exLet_tot]; omega)
      have d2 := free_den (exCase p.1 [n] n) (exCase_sx hs [n] n) (by rw [exCase_tot]; simp; omega)
      have d3 := bound_den (exCase p.1 [n] n) (exCase_sx hs [n] n) (by rw [exCase_tot]; simp; omega)
      have d4 := cons_den (exCase p.1 [] n) (exCase_sx hs [] n) (by rw [exCase_tot]; simp; omega)
      have d5 := free_den p.1 hs (by omega)
      rw [let_free] at d1
      rw [case_free] at d2
      have n1 := names_same (freeS p.1) (by have := free_le p.1; omega)
      have n2 := has_den (boundS (exCase p.1 [n] n)) n (by have := bound_le (exCase p.1 [n] n); rw [exCase_tot] at this; simp at this; omega)
      have n3 := has_den (consS (exCase p.1 [] n)) [75] (by have := cons_le (exCase p.1 [] n); rw [exCase_tot] at this; simp at this; omega)
      rw [case_bound] at n2
      rw [case_cons] at n3
      generalize boundS (exCase p.1 [n] n) = l1 at *
      generalize consS (exCase p.1 [] n) = l2 at *
      unfold exLet exVar at d1
      unfold exCase exVar at d2 d3 d4
      simp only [exC_eq, exmk, exsV_cons, exsV_nil, alsV_nil, tysV_nil, zTy_k, zTy_s, zTy_n, zTy_a, alsV_cons, alV_eq, Al.con, Al.vars, Al.body, List.map_cons, List.map_nil] at h1 d1 d2 d3 d4 d5
      simp only [go_sem, ↓reduceIte, Nat.reduceEqDiff, Nat.reduceAdd, Nat.reduceMul, Nat.reduceLeDiff, Nat.zero_ne_one, Nat.reduceLT, reduceCtorEq, beq_self_eq_true, Int.cast_ofNat_Int, Tryz.f9, ha, h1, h0, hw, d1, d2, d3, d4, d5, n1, n2, n3, Int.le_refl, Int.toNat_zero]
  · simp only [exC_eq] at h1
    simp only [go_sem, ↓reduceIte, Nat.reduceEqDiff, Nat.reduceAdd, Nat.reduceLeDiff, Nat.zero_ne_one, Nat.reduceLT, reduceCtorEq, Tryz.f9, ha, h1, h0, hw]
end Go.Proofs
