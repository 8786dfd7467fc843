/- Another name for what a lambda binds changes what is free nowhere. -/
import Derived.Test.YteidnocfcilajaaGreatDoorAvQ
namespace Go.Proofs
open Go.Av
set_option maxHeartbeats 16000000
set_option maxRecDepth 100000
/-! another name for what a lambda binds -/
section
variable (f t : List UInt8)
mutual
def renE : Ex → Ex
  | .mk k s b ty ks al => if k == 1 && s == f then .mk k t b ty ks al else .mk k s b ty (renKs (s == f && k == 3) (s == f && k == 5) 0 ks) (renAs al)
def renKs (lam lett : Bool) : Nat → List Ex → List Ex
  | _, [] => []
  | i, x :: r => (if lam || (lett && decide (i = 1)) then x else renE x) :: renKs lam lett (i + 1) r
def renA : Al → Al
  | .mk c vs e => if vs.contains f then .mk c vs e else .mk c vs (renE e)
def renAs : List Al → List Al
  | [] => []
  | a :: r => renA a :: renAs r
end
end
theorem renKs_nil (f t : List UInt8) (lam lett : Bool) (i : Nat) : renKs f t lam lett i [] = [] := by simp only [renKs]
theorem renKs_cons (f t : List UInt8) (lam lett : Bool) (i : Nat) (x : Ex) (r : List Ex) : renKs f t lam lett i (x :: r) = (if lam || (lett && decide (i = 1)) then x else renE f t x) :: renKs f t lam lett (i + 1) r := by simp only [renKs]
theorem renAs_nil (f t : List UInt8) : renAs f t [] = [] := by simp only [renAs]
theorem renAs_cons (f t : List UInt8) (a : Al) (r : List Al) : renAs f t (a :: r) = renA f t a :: renAs f t r := by simp only [renAs]
theorem renA_eq (f t : List UInt8) (a : Al) : renA f t a = if a.vars.contains f then a else .mk a.con a.vars (renE f t a.body) := by
  cases a; simp only [renA, Al.vars, Al.con, Al.body]; rfl
theorem renE_eq (f t : List UInt8) (e : Ex) : renE f t e = if e.kind == 1 && e.name == f then .mk e.kind t e.told e.ty e.kids e.alts else .mk e.kind e.name e.told e.ty (renKs f t (e.name == f && e.kind == 3) (e.name == f && e.kind == 5) 0 e.kids) (renAs f t e.alts) := by
  cases e; simp only [renE, Ex.kind, Ex.name, Ex.told, Ex.ty, Ex.kids, Ex.alts]; rfl
theorem exsV_app (a : List Ex) (x : Ex) : exsV (a ++ [x]) = exsV a ++ [.agg (exC x)] := by simp [exsV_map]
theorem alsV_app (a : List Al) (x : Al) : alsV (a ++ [x]) = alsV a ++ [alV x] := by simp [alsV_map]
theorem renamed_den (f t : List UInt8) : ∀ (n : Nat) (e : Ex), e.tot ≤ n → e.tot < 500000 → den E 40 [.agg (exC e), .str f, .str t] [] = some (.agg (exC (renE f t e)), []) := by
  intro n
  induction n with
  | zero => intro e he; exfalso; have := tot_eq e; have := ty_pos e; omega
  | succ n ih =>
  intro e he hm
  have ht := tot_eq e
  have hp := ty_pos e
  rw [den_eq prim_40, body_40, renE_eq, exC_eq]
  cases h1 : e.kind == 1
  · simp only [Bool.false_and, Bool.false_eq_true, if_false]
    simp only [go_sem, ↓reduceIte, Nat.reduceEqDiff, Nat.reduceAdd, Nat.reduceLeDiff, Nat.one_ne_zero, Nat.reduceLT, reduceCtorEq, Tryz.f40, h1]
    refine run_ind (fun x : Nat × List Ex => x.1 ≤ e.kids.length ∧ x.2.length = x.1)
      (fun x => ⟨[(1, .str f), (2, .str t), (3, .ptr (.loc 3) 0), (6, .ptr (.loc 6) 0), (7, .ptr (.loc 7) 0), (8, .int .i64 x.1)], [], [(3, [.int .i64 e.kind, .str e.name, .bool e.told, .int .i64 e.ty.kind, .str e.ty.name, .int .i64 e.ty.n, .slice (tysV e.ty.args), .slice (exsV e.kids), .slice (alsV e.alts)]),
        (6, [.int .i64 0, .str [], .bool false, .int .i64 0, .str [], .int .i64 0, .own 35 0 [], .own 39 0 [], .own 67 0 []]), (7, [.int .i64 e.kind, .str e.name, .bool e.told, .int .i64 e.ty.kind, .str e.ty.name, .int .i64 e.ty.n, .slice (tysV e.ty.args), .own 39 0 (exsV x.2), .own 67 0 []])], 1⟩)
      (fun x => some (.agg (exC (.mk e.kind e.name e.told e.ty (x.2 ++ renKs f t (e.name == f && e.kind == 3) (e.name == f && e.kind == 5) x.1 (e.kids.drop x.1)) (renAs f t e.alts))), [])) (fun x => e.kids.length - x.1) (0, []) ⟨Nat.zero_le _, rfl⟩ ?_ ?_
    · simp only [go_sem, ↓reduceIte, Nat.reduceEqDiff, Nat.zero_ne_one, reduceCtorEq, Int.cast_ofNat_Int, exsV_nil]
    · rintro ⟨i, a1⟩ ⟨hi, ha⟩ h
      simp only at hi ha h ⊢
      by_cases hlt : i < e.kids.length
      · obtain ⟨x, hx⟩ := getS hlt
        have hkx := kids_tot (List.mem_of_getElem? hx)
        have w1 : IntKind.i64.wrap ((i : Int) + 1) = ((i + 1 : Nat) : Int) := wrapN (i + 1) (by have := kids_len e; omega)
        have a5 : a1.length + 1 ≤ appMax := by have := kids_len e; unfold appMax; omega
        have d := ih x (by omega) (by omega)
        rw [exC_eq, exC_eq] at d
        rw [dropGet hx, renKs_cons]
        cases h2 : e.name == f
        · simp only [Bool.false_and, Bool.or_self, Bool.false_eq_true, if_false]
          generalize hz : renE f t x = z at *
          simp only [go_sem, ↓reduceIte, Nat.reduceEqDiff, Nat.reduceAdd, Nat.reduceMul, Nat.reduceLeDiff, Nat.one_ne_zero, Nat.reduceLT, decide_true, natlt, decide_eq_true hlt, natge0, tonat, exsV_len, exsV_get, hx, exC_eq, h2, d, a5]
          have hh := h (i + 1, a1 ++ [z])
          simp only [List.append_assoc, List.cons_append, List.nil_append, h2, Bool.false_and] at hh
          refine hh _ ⟨by omega, by simp; omega⟩ (by omega) ?_
          simp only [go_sem, ↓reduceIte, Nat.reduceEqDiff, w1, exsV_app, exC_eq]
        · cases h3 : e.kind == 3
          · cases h5 : e.kind == 5
            · simp only [Bool.and_false, Bool.or_self, Bool.false_and, Bool.false_eq_true, if_false]
              generalize hz : renE f t x = z at *
              simp only [go_sem, ↓reduceIte, Nat.reduceEqDiff, Nat.reduceAdd, Nat.reduceMul, Nat.reduceLeDiff, Nat.one_ne_zero, Nat.reduceLT, beq_self_eq_true, decide_true, natlt, decide_eq_true hlt, natge0, tonat, exsV_len, exsV_get, hx, exC_eq, h2, h3, h5, d, a5]
              have hh := h (i + 1, a1 ++ [z])
              simp only [List.append_assoc, List.cons_append, List.nil_append, h2, h3, h5, Bool.and_false] at hh
              refine hh _ ⟨by omega, by simp; omega⟩ (by omega) ?_
              simp only [go_sem, ↓reduceIte, Nat.reduceEqDiff, w1, exsV_app, exC_eq]
            · cases hi1 : decide (i = 1)
              · simp only [Bool.and_false, Bool.and_true, Bool.or_self, Bool.false_eq_true, if_false]
                generalize hz : renE f t x = z at *
                simp only [go_sem, ↓reduceIte, Nat.reduceEqDiff, Nat.reduceAdd, Nat.reduceMul, Nat.reduceLeDiff, Nat.one_ne_zero, Nat.reduceLT, beq_self_eq_true, decide_true, natlt, decide_eq_true hlt, natge0, tonat, exsV_len, exsV_get, hx, exC_eq, h2, h3, h5, bOne, hi1, d, a5]
                have hh := h (i + 1, a1 ++ [z])
                simp only [List.append_assoc, List.cons_append, List.nil_append, h2, h3, h5, Bool.and_false, Bool.and_true] at hh
                refine hh _ ⟨by omega, by simp; omega⟩ (by omega) ?_
                simp only [go_sem, ↓reduceIte, Nat.reduceEqDiff, w1, exsV_app, exC_eq]
              · simp only [Bool.and_false, Bool.and_true, Bool.false_or, if_true]
                simp only [go_sem, ↓reduceIte, Nat.reduceEqDiff, Nat.reduceAdd, Nat.reduceMul, Nat.reduceLeDiff, Nat.one_ne_zero, Nat.reduceLT, beq_self_eq_true, decide_true, natlt, decide_eq_true hlt, natge0, tonat, exsV_len, exsV_get, hx, exC_eq, h2, h3, h5, bOne, hi1, a5]
                have hh := h (i + 1, a1 ++ [x])
                simp only [List.append_assoc, List.cons_append, List.nil_append, h2, h3, h5, Bool.and_false, Bool.and_true] at hh
                refine hh _ ⟨by omega, by simp; omega⟩ (by omega) ?_
                simp only [go_sem, ↓reduceIte, Nat.reduceEqDiff, w1, exsV_app, exC_eq]
          · simp only [Bool.and_true, Bool.true_or, if_true]
            simp only [go_sem, ↓reduceIte, Nat.reduceEqDiff, Nat.reduceAdd, Nat.reduceMul, Nat.reduceLeDiff, Nat.one_ne_zero, Nat.reduceLT, beq_self_eq_true, decide_true, natlt, decide_eq_true hlt, natge0, tonat, exsV_len, exsV_get, hx, exC_eq, h2, h3, a5]
            have hh := h (i + 1, a1 ++ [x])
            simp only [List.append_assoc, List.cons_append, List.nil_append, h2, h3, Bool.and_true] at hh
            refine hh _ ⟨by omega, by simp; omega⟩ (by omega) ?_
            simp only [go_sem, ↓reduceIte, Nat.reduceEqDiff, w1, exsV_app, exC_eq]
      · have hie : i = e.kids.length := by omega
        subst hie
        clear h
        rw [List.drop_length, renKs_nil, List.append_nil]
        simp only [go_sem, ↓reduceIte, Nat.reduceEqDiff, Nat.reduceAdd, Nat.one_ne_zero, Nat.reduceLT, beq_self_eq_true, decide_false, natlt, Nat.lt_irrefl, exsV_len]
        refine run_ind (fun x : Nat × List Al => x.1 ≤ e.alts.length ∧ x.2.length = x.1)
          (fun x => ⟨[(1, .str f), (2, .str t), (3, .ptr (.loc 3) 0), (6, .ptr (.loc 6) 0), (7, .ptr (.loc 7) 0), (9, .int .i64 x.1)], [], [(3, [.int .i64 e.kind, .str e.name, .bool e.told, .int .i64 e.ty.kind, .str e.ty.name, .int .i64 e.ty.n, .slice (tysV e.ty.args), .slice (exsV e.kids), .slice (alsV e.alts)]),
            (6, [.int .i64 0, .str [], .bool false, .int .i64 0, .str [], .int .i64 0, .own 35 0 [], .own 39 0 [], .own 67 0 []]), (7, [.int .i64 e.kind, .str e.name, .bool e.told, .int .i64 e.ty.kind, .str e.ty.name, .int .i64 e.ty.n, .slice (tysV e.ty.args), .own 39 0 (exsV a1), .own 67 0 (alsV x.2)])], 1⟩)
          (fun x => some (.agg (exC (.mk e.kind e.name e.told e.ty a1 (x.2 ++ renAs f t (e.alts.drop x.1)))), [])) (fun x => e.alts.length - x.1) (0, []) ⟨Nat.zero_le _, rfl⟩ ?_ ?_
        · simp only [go_sem, ↓reduceIte, Nat.reduceEqDiff, Int.cast_ofNat_Int, alsV_nil]
        · rintro ⟨i, a2⟩ ⟨hi, ha2⟩ h
          simp only at hi ha2 h ⊢
          by_cases hlt : i < e.alts.length
          · obtain ⟨x, hx⟩ := getS hlt
            have hax := alts_tot (List.mem_of_getElem? hx)
            have w1 : IntKind.i64.wrap ((i : Int) + 1) = ((i + 1 : Nat) : Int) := wrapN (i + 1) (by have := altsLen e; omega)
            have a5 : a2.length + 1 ≤ appMax := by have := altsLen e; unfold appMax; omega
            have d := ih x.body (by omega) (by omega)
            have dh := has_den x.vars f (by omega)
            rw [exC_eq, exC_eq] at d
            rw [dropGet hx, renAs_cons, renA_eq]
            rcases Bool.eq_false_or_eq_true (x.vars.contains f) with hq | hq
            · rw [hq] at dh
              simp only [hq, if_true]
              simp only [go_sem, ↓reduceIte, Nat.reduceEqDiff, Nat.reduceAdd, Nat.reduceMul, Nat.reduceLeDiff, Nat.one_ne_zero, Nat.reduceLT, decide_true, natlt, decide_eq_true hlt, natge0, tonat, alsV_len, alsV_get, hx, alV_eq, exC_eq, dh, a5]
              have hh := h (i + 1, a2 ++ [x])
              simp only [List.append_assoc, List.cons_append, List.nil_append] at hh
              refine hh _ ⟨by omega, by simp; omega⟩ (by omega) ?_
              simp only [go_sem, ↓reduceIte, Nat.reduceEqDiff, w1, alsV_app, alV_eq, exC_eq]
            · rw [hq] at dh
              simp only [hq, Bool.false_eq_true, if_false]
              generalize hz : renE f t x.body = z at *
              simp only [go_sem, ↓reduceIte, Nat.reduceEqDiff, Nat.reduceAdd, Nat.reduceMul, Nat.reduceLeDiff, Nat.one_ne_zero, Nat.reduceLT, reduceCtorEq, decide_true, natlt, decide_eq_true hlt, natge0, tonat, alsV_len, alsV_get, hx, alV_eq, exC_eq, dh, d, a5]
              have hh := h (i + 1, a2 ++ [.mk x.con x.vars z])
              simp only [List.append_assoc, List.cons_append, List.nil_append] at hh
              refine hh _ ⟨by omega, by simp; omega⟩ (by omega) ?_
              simp only [go_sem, ↓reduceIte, Nat.reduceEqDiff, w1, alsV_app, alV_eq, Al.con, Al.vars, Al.body, exC_eq]
          · have hie : i = e.alts.length := by omega
            subst hie
            rw [List.drop_length, renAs_nil, List.append_nil]
            simp only [go_sem, ↓reduceIte, Nat.reduceEqDiff, Nat.reduceAdd, Nat.reduceLeDiff, Nat.one_ne_zero, Nat.reduceLT, beq_self_eq_true, decide_false, natlt, Nat.lt_irrefl, alsV_len, exC_mk]
  · cases hn : e.name == f
    · simp only [Bool.and_false, Bool.false_eq_true, if_false]
      simp only [go_sem, ↓reduceIte, Nat.reduceEqDiff, Nat.reduceAdd, Nat.reduceLeDiff, Nat.zero_ne_one, Nat.one_ne_zero, Nat.reduceLT, reduceCtorEq, beq_self_eq_true, Tryz.f40, h1, hn]
      refine run_ind (fun x : Nat × List Ex => x.1 ≤ e.kids.length ∧ x.2.length = x.1)
        (fun x => ⟨[(1, .str f), (2, .str t), (3, .ptr (.loc 3) 0), (6, .ptr (.loc 6) 0), (7, .ptr (.loc 7) 0), (8, .int .i64 x.1)], [], [(3, [.int .i64 e.kind, .str e.name, .bool e.told, .int .i64 e.ty.kind, .str e.ty.name, .int .i64 e.ty.n, .slice (tysV e.ty.args), .slice (exsV e.kids), .slice (alsV e.alts)]),
          (6, [.int .i64 0, .str [], .bool false, .int .i64 0, .str [], .int .i64 0, .own 35 0 [], .own 39 0 [], .own 67 0 []]), (7, [.int .i64 e.kind, .str e.name, .bool e.told, .int .i64 e.ty.kind, .str e.ty.name, .int .i64 e.ty.n, .slice (tysV e.ty.args), .own 39 0 (exsV x.2), .own 67 0 []])], 1⟩)
        (fun x => some (.agg (exC (.mk e.kind e.name e.told e.ty (x.2 ++ renKs f t false false x.1 (e.kids.drop x.1)) (renAs f t e.alts))), [])) (fun x => e.kids.length - x.1) (0, []) ⟨Nat.zero_le _, rfl⟩ ?_ ?_
      · simp only [go_sem, ↓reduceIte, Nat.reduceEqDiff, Nat.zero_ne_one, reduceCtorEq, Int.cast_ofNat_Int, exsV_nil]
      · rintro ⟨i, a1⟩ ⟨hi, ha⟩ h
        simp only at hi ha h ⊢
        by_cases hlt : i < e.kids.length
        · obtain ⟨x, hx⟩ := getS hlt
          have hkx := kids_tot (List.mem_of_getElem? hx)
          have w1 : IntKind.i64.wrap ((i : Int) + 1) = ((i + 1 : Nat) : Int) := wrapN (i + 1) (by have := kids_len e; omega)
          have a5 : a1.length + 1 ≤ appMax := by have := kids_len e; unfold appMax; omega
          have d := ih x (by omega) (by omega)
          rw [exC_eq, exC_eq] at d
          rw [dropGet hx, renKs_cons]
          cases h2 : e.name == f
          · simp only [Bool.false_and, Bool.or_self, Bool.false_eq_true, if_false]
            generalize hz : renE f t x = z at *
            simp only [go_sem, ↓reduceIte, Nat.reduceEqDiff, Nat.reduceAdd, Nat.reduceMul, Nat.reduceLeDiff, Nat.one_ne_zero, Nat.reduceLT, decide_true, natlt, decide_eq_true hlt, natge0, tonat, exsV_len, exsV_get, hx, exC_eq, h2, d, a5]
            have hh := h (i + 1, a1 ++ [z])
            simp only [List.append_assoc, List.cons_append, List.nil_append] at hh
            refine hh _ ⟨by omega, by simp; omega⟩ (by omega) ?_
            simp only [go_sem, ↓reduceIte, Nat.reduceEqDiff, w1, exsV_app, exC_eq]
          · rw [hn] at h2; cases h2
        · have hie : i = e.kids.length := by omega
          subst hie
          clear h
          rw [List.drop_length, renKs_nil, List.append_nil]
          simp only [go_sem, ↓reduceIte, Nat.reduceEqDiff, Nat.reduceAdd, Nat.one_ne_zero, Nat.reduceLT, beq_self_eq_true, decide_false, natlt, Nat.lt_irrefl, exsV_len]
          refine run_ind (fun x : Nat × List Al => x.1 ≤ e.alts.length ∧ x.2.length = x.1)
            (fun x => ⟨[(1, .str f), (2, .str t), (3, .ptr (.loc 3) 0), (6, .ptr (.loc 6) 0), (7, .ptr (.loc 7) 0), (9, .int .i64 x.1)], [], [(3, [.int .i64 e.kind, .str e.name, .bool e.told, .int .i64 e.ty.kind, .str e.ty.name, .int .i64 e.ty.n, .slice (tysV e.ty.args), .slice (exsV e.kids), .slice (alsV e.alts)]),
              (6, [.int .i64 0, .str [], .bool false, .int .i64 0, .str [], .int .i64 0, .own 35 0 [], .own 39 0 [], .own 67 0 []]), (7, [.int .i64 e.kind, .str e.name, .bool e.told, .int .i64 e.ty.kind, .str e.ty.name, .int .i64 e.ty.n, .slice (tysV e.ty.args), .own 39 0 (exsV a1), .own 67 0 (alsV x.2)])], 1⟩)
            (fun x => some (.agg (exC (.mk e.kind e.name e.told e.ty a1 (x.2 ++ renAs f t (e.alts.drop x.1)))), [])) (fun x => e.alts.length - x.1) (0, []) ⟨Nat.zero_le _, rfl⟩ ?_ ?_
          · simp only [go_sem, ↓reduceIte, Nat.reduceEqDiff, Int.cast_ofNat_Int, alsV_nil]
          · rintro ⟨i, a2⟩ ⟨hi, ha2⟩ h
            simp only at hi ha2 h ⊢
            by_cases hlt : i < e.alts.length
            · obtain ⟨x, hx⟩ := getS hlt
              have hax := alts_tot (List.mem_of_getElem? hx)
              have w1 : IntKind.i64.wrap ((i : Int) + 1) = ((i + 1 : Nat) : Int) := wrapN (i + 1) (by have := altsLen e; omega)
              have a5 : a2.length + 1 ≤ appMax := by have := altsLen e; unfold appMax; omega
              have d := ih x.body (by omega) (by omega)
              have dh := has_den x.vars f (by omega)
              rw [exC_eq, exC_eq] at d
              rw [dropGet hx, renAs_cons, renA_eq]
              rcases Bool.eq_false_or_eq_true (x.vars.contains f) with hq | hq
              · rw [hq] at dh
                simp only [hq, if_true]
                simp only [go_sem, ↓reduceIte, Nat.reduceEqDiff, Nat.reduceAdd, Nat.reduceMul, Nat.reduceLeDiff, Nat.one_ne_zero, Nat.reduceLT, decide_true, natlt, decide_eq_true hlt, natge0, tonat, alsV_len, alsV_get, hx, alV_eq, exC_eq, dh, a5]
                have hh := h (i + 1, a2 ++ [x])
                simp only [List.append_assoc, List.cons_append, List.nil_append] at hh
                refine hh _ ⟨by omega, by simp; omega⟩ (by omega) ?_
                simp only [go_sem, ↓reduceIte, Nat.reduceEqDiff, w1, alsV_app, alV_eq, exC_eq]
              · rw [hq] at dh
                simp only [hq, Bool.false_eq_true, if_false]
                generalize hz : renE f t x.body = z at *
                simp only [go_sem, ↓reduceIte, Nat.reduceEqDiff, Nat.reduceAdd, Nat.reduceMul, Nat.reduceLeDiff, Nat.one_ne_zero, Nat.reduceLT, reduceCtorEq, decide_true, natlt, decide_eq_true hlt, natge0, tonat, alsV_len, alsV_get, hx, alV_eq, exC_eq, dh, d, a5]
                have hh := h (i + 1, a2 ++ [.mk x.con x.vars z])
                simp only [List.append_assoc, List.cons_append, List.nil_append] at hh
                refine hh _ ⟨by omega, by simp; omega⟩ (by omega) ?_
                simp only [go_sem, ↓reduceIte, Nat.reduceEqDiff, w1, alsV_app, alV_eq, Al.con, Al.vars, Al.body, exC_eq]
            · have hie : i = e.alts.length := by omega
              subst hie
              rw [List.drop_length, renAs_nil, List.append_nil]
              simp only [go_sem, ↓reduceIte, Nat.reduceEqDiff, Nat.reduceAdd, Nat.reduceLeDiff, Nat.one_ne_zero, Nat.reduceLT, beq_self_eq_true, decide_false, natlt, Nat.lt_irrefl, alsV_len, exC_mk]
    · simp only [Bool.and_self, if_true]
      simp only [go_sem, ↓reduceIte, Nat.reduceEqDiff, Nat.reduceAdd, Nat.reduceLeDiff, Nat.zero_ne_one, Nat.one_ne_zero, Nat.reduceLT, reduceCtorEq, beq_self_eq_true, Tryz.f40, h1, hn, exC_mk]
end Go.Proofs
namespace Go.Proofs
open Go.Av
set_option maxHeartbeats 16000000
set_option maxRecDepth 100000
/-! what is free, with another name -/
theorem add_has {l : List (List UInt8)} {t n : List UInt8} (h : l.contains t = true) : (addS l n).contains t = true := by
  unfold addS; split
  · exact h
  · simp only [List.contains_eq_mem, decide_eq_true_eq, List.mem_append] at h ⊢; exact .inl h
theorem add_self (l : List (List UInt8)) (n : List UInt8) : (addS l n).contains n = true := by
  unfold addS; split
  · assumption
  · simp
theorem faF_has {e : Ex} {b l : List (List UInt8)} {t : List UInt8} (h : l.contains t = true) : (faF e b l).contains t = true := by
  unfold faF; split
  · exact add_has h
  · exact h
theorem monoE {e : Ex} (hn : NX e) {b l : List (List UInt8)} {t : List UInt8} (h : l.contains t = true) : (walkE withS faF fbF e b l).contains t = true :=
  walk_inv (fun a : List (List UInt8) => a.contains t = true) (fun _ _ _ _ ha => faF_has ha) (fun _ _ _ ha => ha) hn h
theorem monoKs {t : List UInt8} {b : List (List UInt8)} : ∀ {ks : List Ex} {l : List (List UInt8)}, (∀ x ∈ ks, NX x) → l.contains t = true → (walkKs withS faF fbF ks b l).contains t = true
  | [], l, _, h => by rw [walkKs_nil]; exact h
  | x :: r, l, hn, h => by rw [walkKs_cons]; exact monoKs (fun y hy => hn y (by simp [hy])) (monoE (hn x (by simp)) h)
theorem monoAs {t : List UInt8} {b : List (List UInt8)} : ∀ {al : List Al} {l : List (List UInt8)}, (∀ x ∈ al, NX x.body) → l.contains t = true → (walkAs withS faF fbF al b l).contains t = true
  | [], l, _, h => by rw [walkAs_nil]; exact h
  | x :: r, l, hn, h => by rw [walkAs_cons, walkA_eq]; exact monoAs (fun y hy => hn y (by simp [hy])) (monoE (hn x (by simp)) h)
theorem not_true {b c : Bool} (h : c = true → b = true) (hb : b = false) : c = false := by
  cases c
  · rfl
  · rw [h rfl] at hb; cases hb
theorem with_has {b ns : List (List UInt8)} {n : List UInt8} (h : b.contains n = true) : (withS b ns).contains n = true := by
  rw [with_mem]
  simp only [List.contains_eq_mem, decide_eq_true_eq, List.mem_append] at h ⊢; exact .inl h
theorem with_eq {b b' : List (List UInt8)} (ns : List (List UInt8)) {n : List UInt8} (h : b.contains n = b'.contains n) : (withS b ns).contains n = (withS b' ns).contains n := by
  rw [with_mem, with_mem]
  apply bool_ext
  simp only [List.contains_eq_mem, decide_eq_true_eq, List.mem_append] at h ⊢
  rw [decide_eq_decide.1 h]
theorem with_mem2 (b ns : List (List UInt8)) {n : List UInt8} (h : n ∈ ns) : (withS b ns).contains n = true := by
  rw [with_mem]; simp [h]
/-- the sets differ in t alone, and t is free nowhere -/
def SetT (t : List UInt8) (b b' : List (List UInt8)) : Prop := (∀ n, n ≠ t → b.contains n = b'.contains n) ∧ b'.contains t = true
theorem SetT.ext {t : List UInt8} {b b' : List (List UInt8)} (h : SetT t b b') (ns : List (List UInt8)) : SetT t (withS b ns) (withS b' ns) := ⟨fun n hn => with_eq ns (h.1 n hn), with_has h.2⟩
theorem faF_t {t : List UInt8} {e : Ex} {b b' acc : List (List UInt8)} (h : SetT t b b') (hf : (faF e b acc).contains t = false) : faF e b' acc = faF e b acc := by
  unfold faF at hf ⊢
  by_cases ht : e.name = t
  · rw [ht] at hf ⊢
    rw [h.2]
    simp only [Bool.not_true, Bool.and_false, Bool.false_eq_true, if_false]
    split
    · rename_i hc
      rw [if_pos hc, add_self] at hf; cases hf
    · rfl
  · rw [h.1 _ ht]
theorem cong_t (t : List UInt8) : ∀ (n : Nat) (e : Ex), e.tot ≤ n → NX e → ∀ b b' acc, SetT t b b' → (walkE withS faF fbF e b acc).contains t = false → walkE withS faF fbF e b' acc = walkE withS faF fbF e b acc := by
  intro n
  induction n with
  | zero => intro e he; exfalso; have := tot_eq e; have := ty_pos e; omega
  | succ n ih =>
    have hks : ∀ (l : List Ex) b b' acc, Ex.tots l ≤ n → (∀ x ∈ l, NX x) → SetT t b b' → (walkKs withS faF fbF l b acc).contains t = false → walkKs withS faF fbF l b' acc = walkKs withS faF fbF l b acc := by
      intro l
      induction l with
      | nil => intro b b' acc _ _ _ _; rw [walkKs_nil, walkKs_nil]
      | cons e r ihr =>
        intro b b' acc hl hn hs hf
        rw [tots_cons] at hl
        rw [walkKs_cons] at hf ⊢
        rw [walkKs_cons]
        have hr : ∀ x ∈ r, NX x := fun x hx => hn x (by simp [hx])
        rw [ih e (by omega) (hn e (by simp)) b b' acc hs (not_true (monoKs hr) hf)]
        exact ihr b b' _ (by omega) hr hs hf
    have hal : ∀ (l : List Al) b b' acc, Al.tots l ≤ n → (∀ x ∈ l, NX x.body) → SetT t b b' → (walkAs withS faF fbF l b acc).contains t = false → walkAs withS faF fbF l b' acc = walkAs withS faF fbF l b acc := by
      intro l
      induction l with
      | nil => intro b b' acc _ _ _ _; rw [walkAs_nil, walkAs_nil]
      | cons e r ihr =>
        intro b b' acc hl hn hs hf
        rw [altots_cons, altot_eq] at hl
        rw [walkAs_cons, walkA_eq] at hf ⊢
        rw [walkAs_cons, walkA_eq]
        have hr : ∀ x ∈ r, NX x.body := fun x hx => hn x (by simp [hx])
        rw [ih e.body (by omega) (hn e (by simp)) (withS b e.vars) (withS b' e.vars) _ (hs.ext e.vars) (not_true (monoAs hr) hf)]
        exact ihr b b' _ (by omega) hr hs hf
    intro e he hn b b' acc hs hf
    have ht := tot_eq e
    have hp := ty_pos e
    have nk : ∀ x ∈ e.kids, NX x := fun x hx => hn.kid hx
    have na : ∀ x ∈ e.alts, NX x.body := fun x hx => hn.alt hx
    rw [walkE_eq] at hf ⊢
    rw [walkE_eq]
    cases h3 : e.kind == 3
    · cases h5 : e.kind == 5
      · simp only [h3, h5, Bool.false_eq_true, if_false] at hf ⊢
        have f2 := not_true (monoAs na) hf
        have f1 := not_true (monoKs nk) f2
        rw [faF_t hs f1, hks e.kids b b' _ (by omega) nk hs f2]
        exact hal e.alts b b' _ (by omega) na hs hf
      · simp only [h3, h5, Bool.false_eq_true, if_false, if_true] at hf ⊢
        revert hf
        have hkt : Ex.tots e.kids ≤ n := by omega
        revert nk hkt
        cases e.kids with
        | nil =>
          intro _ _ hf
          rw [walkLet_nil] at hf ⊢
          rw [walkLet_nil]
          exact faF_t hs hf
        | cons x r =>
          intro nk hkt hf
          rw [tots_cons] at hkt
          have hr : ∀ y ∈ r, NX y := fun y hy => nk y (by simp [hy])
          rw [walkLet_cons] at hf ⊢
          rw [walkLet_cons]
          have f2 := not_true (monoKs hr) hf
          have f1 := not_true (monoE (nk x (by simp))) f2
          rw [faF_t hs f1, ih x (by omega) (nk x (by simp)) b b' _ hs f2]
          exact hks r _ _ _ (by omega) hr (hs.ext [e.name]) hf
    · simp only [h3, if_true] at hf ⊢
      have f1 := not_true (monoKs nk) hf
      rw [faF_t hs f1]
      exact hks e.kids _ _ _ (by omega) nk (hs.ext [e.name]) hf
/-- with f in the one set, t in the other -/
structure SetR (f t : List UInt8) (b b' : List (List UInt8)) : Prop where
  same : ∀ n, n ≠ f → n ≠ t → b.contains n = b'.contains n
  old : b.contains f = true
  new : b'.contains t = true
theorem SetR.ext {f t : List UInt8} {b b' : List (List UInt8)} (h : SetR f t b b') (ns : List (List UInt8)) : SetR f t (withS b ns) (withS b' ns) := ⟨fun n h1 h2 => with_eq ns (h.same n h1 h2), with_has h.old, with_has h.new⟩
theorem SetR.toT {f t : List UInt8} {b b' : List (List UInt8)} (h : SetR f t b b') (hft : f ≠ t) {ns : List (List UInt8)} (hf : f ∈ ns) : SetT t (withS b ns) (withS b' ns) := ⟨fun n hn => by
  by_cases e : n = f
  · rw [e, with_mem2 b ns hf, with_mem2 b' ns hf]
  · exact with_eq ns (h.same n e hn), with_has h.new⟩
theorem faF_other {e : Ex} (h : (e.kind == 1) = false) (b acc : List (List UInt8)) : faF e b acc = acc := by unfold faF; rw [h]; rfl
theorem kind1 {k : Int} {s : List UInt8} {b : Bool} {ty : Ty} {ks : List Ex} {al : List Al} (h : (k == 1) = false) (x acc : List (List UInt8)) : faF (.mk k s b ty ks al) x acc = acc := faF_other (by exact h) x acc
theorem walkE_mk {α : Type} {ext : List (List UInt8) → List (List UInt8) → List (List UInt8)} {fa : Ex → List (List UInt8) → α → α} {fb : Al → α → α} (k : Int) (s : List UInt8) (b : Bool) (ty : Ty) (ks : List Ex) (al : List Al) (x : List (List UInt8)) (acc : α) :
    walkE ext fa fb (.mk k s b ty ks al) x acc = if k == 3 then walkKs ext fa fb ks (ext x [s]) (fa (.mk k s b ty ks al) x acc)
      else if k == 5 then walkLet ext fa fb ks x s (fa (.mk k s b ty ks al) x acc)
      else walkAs ext fa fb al x (walkKs ext fa fb ks x (fa (.mk k s b ty ks al) x acc)) := by rw [walkE_eq]; rfl
theorem faF_mk (k : Int) (s : List UInt8) (b : Bool) (ty : Ty) (ks : List Ex) (al : List Al) (x acc : List (List UInt8)) : faF (.mk k s b ty ks al) x acc = if k == 1 && !x.contains s then addS acc s else acc := rfl
theorem ren_walk {f t : List UInt8} (hft : f ≠ t) : ∀ (n : Nat) (e : Ex), e.tot ≤ n → NX e → SX e → ∀ b b' acc, SetR f t b b' → (walkE withS faF fbF e b acc).contains t = false → walkE withS faF fbF (renE f t e) b' acc = walkE withS faF fbF e b acc := by
  intro n
  induction n with
  | zero => intro e he; exfalso; have := tot_eq e; have := ty_pos e; omega
  | succ n ih =>
    have hks : ∀ (l : List Ex) (i : Nat) b b' acc, Ex.tots l ≤ n → (∀ x ∈ l, NX x) → (∀ x ∈ l, SX x) → SetR f t b b' → (walkKs withS faF fbF l b acc).contains t = false → walkKs withS faF fbF (renKs f t false false i l) b' acc = walkKs withS faF fbF l b acc := by
      intro l
      induction l with
      | nil => intro i b b' acc _ _ _ _ _; rw [renKs_nil, walkKs_nil, walkKs_nil]
      | cons e r ihr =>
        intro i b b' acc hl hn hx hs hf
        rw [tots_cons] at hl
        rw [walkKs_cons] at hf ⊢
        rw [renKs_cons, walkKs_cons]
        simp only [Bool.false_and, Bool.or_self, Bool.false_eq_true, if_false]
        have hr : ∀ x ∈ r, NX x := fun x hx => hn x (by simp [hx])
        rw [ih e (by omega) (hn e (by simp)) (hx e (by simp)) b b' acc hs (not_true (monoKs hr) hf)]
        exact ihr (i + 1) b b' _ (by omega) hr (fun x h => hx x (by simp [h])) hs hf
    have hal : ∀ (l : List Al) b b' acc, Al.tots l ≤ n → (∀ x ∈ l, NX x.body) → (∀ x ∈ l, SX x.body) → SetR f t b b' → (walkAs withS faF fbF l b acc).contains t = false → walkAs withS faF fbF (renAs f t l) b' acc = walkAs withS faF fbF l b acc := by
      intro l
      induction l with
      | nil => intro b b' acc _ _ _ _ _; rw [renAs_nil, walkAs_nil, walkAs_nil]
      | cons e r ihr =>
        intro b b' acc hl hn hx hs hf
        rw [altots_cons, altot_eq] at hl
        rw [walkAs_cons, walkA_eq] at hf ⊢
        rw [renAs_cons, walkAs_cons, walkA_eq, renA_eq]
        have hr : ∀ x ∈ r, NX x.body := fun x hx => hn x (by simp [hx])
        have fe := not_true (monoAs hr) hf
        have hfb : ∀ x y : Al, fbF x acc = fbF y acc := fun _ _ => rfl
        have key : walkE withS faF fbF (if e.vars.contains f then e else .mk e.con e.vars (renE f t e.body)).body (withS b' (if e.vars.contains f then e else .mk e.con e.vars (renE f t e.body)).vars) (fbF (if e.vars.contains f then e else .mk e.con e.vars (renE f t e.body)) acc) = walkE withS faF fbF e.body (withS b e.vars) (fbF e acc) := by
          rcases Bool.eq_false_or_eq_true (e.vars.contains f) with hc | hc
          · simp only [hc, if_true]
            exact cong_t t _ e.body (Nat.le_refl _) (hn e (by simp)) _ _ _ (hs.toT hft (by simpa using hc)) fe
          · simp only [hc, Bool.false_eq_true, if_false]
            show walkE withS faF fbF (renE f t e.body) (withS b' e.vars) (fbF e acc) = _
            exact ih e.body (by omega) (hn e (by simp)) (hx e (by simp)) _ _ _ (hs.ext e.vars) fe
        rw [key]
        exact ihr b b' _ (by omega) hr (fun x h => hx x (by simp [h])) hs hf
    intro e he hn hx b b' acc hs hf
    have ht := tot_eq e
    have hp := ty_pos e
    have nk : ∀ x ∈ e.kids, NX x := fun x h => hn.kid h
    have na : ∀ x ∈ e.alts, NX x.body := fun x h => hn.alt h
    have sk : ∀ x ∈ e.kids, SX x := fun x h => hx.kid h
    have sa : ∀ x ∈ e.alts, SX x.body := fun x h => hx.alt h
    rw [renE_eq]
    cases h1 : e.kind == 1
    · simp only [Bool.false_and, Bool.false_eq_true, if_false]
      rw [walkE_mk, kind1 h1]
      rw [walkE_eq e, faF_other h1] at hf ⊢
      cases h3 : e.kind == 3
      · cases h5 : e.kind == 5
        · simp only [h3, h5, Bool.and_false, Bool.false_eq_true, if_false] at hf ⊢
          have f2 := not_true (monoAs na) hf
          rw [hks e.kids 0 b b' _ (by omega) nk sk hs f2]
          exact hal e.alts b b' _ (by omega) na sa hs hf
        · obtain ⟨x, y, hk⟩ := hx.lett h5
          simp only [h3, h5, Bool.and_false, Bool.and_true, Bool.false_eq_true, if_false, if_true] at hf ⊢
          have nx : NX x := nk x (by rw [hk]; simp)
          have ny : NX y := nk y (by rw [hk]; simp)
          have txy : x.tot + y.tot + 1 ≤ n + 1 := by rw [hk, tots_cons, tots_cons] at ht; omega
          rw [hk, walkLet_cons, walkKs_cons, walkKs_nil] at hf ⊢
          rw [renKs_cons, renKs_cons, renKs_nil, walkLet_cons, walkKs_cons, walkKs_nil]
          have f1 := not_true (monoE ny) hf
          simp only [Bool.false_or, Nat.zero_ne_one, decide_false, Bool.and_false, Bool.false_eq_true, if_false, Nat.zero_add, decide_true, Bool.and_true]
          rw [ih x (by omega) nx (sk x (by rw [hk]; simp)) b b' acc hs f1]
          rcases Bool.eq_false_or_eq_true (e.name == f) with hc | hc
          · simp only [hc, if_true]
            exact cong_t t _ y (Nat.le_refl _) ny _ _ _ (hs.toT hft (by simp only [beq_iff_eq] at hc; simp [hc])) hf
          · simp only [hc, Bool.false_eq_true, if_false]
            exact ih y (by omega) ny (sk y (by rw [hk]; simp)) _ _ _ (hs.ext [e.name]) hf
      · obtain ⟨x, hk⟩ := hx.lam h3
        have h5 := kindNe (b := 5) h3 (by decide)
        simp only [h3, h5, Bool.and_false, Bool.and_true, if_true] at hf ⊢
        have nx : NX x := nk x (by rw [hk]; simp)
        have tx : x.tot + 1 ≤ n + 1 := by rw [hk, tots_cons] at ht; omega
        rw [hk, walkKs_cons, walkKs_nil] at hf ⊢
        rw [renKs_cons, renKs_nil, walkKs_cons, walkKs_nil]
        rcases Bool.eq_false_or_eq_true (e.name == f) with hc | hc
        · simp only [hc, Bool.true_or, if_true]
          exact cong_t t _ x (Nat.le_refl _) nx _ _ _ (hs.toT hft (by simp only [beq_iff_eq] at hc; simp [hc])) hf
        · simp only [hc, Bool.false_and, Bool.or_self, Bool.false_eq_true, if_false]
          exact ih x (by omega) nx (sk x (by rw [hk]; simp)) _ _ _ (hs.ext [e.name]) hf
    · obtain ⟨hk, ha⟩ := hx.nam h1
      have h3 := kindNe (b := 3) h1 (by decide)
      have h5 := kindNe (b := 5) h1 (by decide)
      have flat : ∀ (s : List UInt8) (b : List (List UInt8)), walkE withS faF fbF (.mk e.kind s e.told e.ty e.kids e.alts) b acc = if b.contains s then acc else addS acc s := by
        intro s b
        rw [walkE_mk, faF_mk]
        simp only [h3, h5, Bool.false_eq_true, if_false]
        rw [hk, ha, walkKs_nil, walkAs_nil]
        simp only [h1, Bool.true_and]
        rcases Bool.eq_false_or_eq_true (b.contains s) with hc | hc
        · simp only [hc, Bool.not_true, Bool.false_eq_true, if_false, if_true]
        · simp only [hc, Bool.not_false, if_true, Bool.false_eq_true, if_false]
      have eself : e = .mk e.kind e.name e.told e.ty e.kids e.alts := by cases e; rfl
      have hfe : walkE withS faF fbF e b acc = if b.contains e.name then acc else addS acc e.name := by
        conv => lhs; rw [eself]
        exact flat e.name b
      rw [hfe] at hf ⊢
      cases hc : e.name == f
      · simp only [Bool.and_false, Bool.false_eq_true, if_false, Bool.false_and, renKs_nil, hk, ha, renAs_nil]
        have flat2 := flat e.name b'
        rw [hk, ha] at flat2
        rw [flat2]
        have hnf : e.name ≠ f := by simpa using hc
        by_cases hnt : e.name = t
        · rw [hnt] at hf ⊢
          rw [hs.new]
          simp only [if_true]
          split
          · rfl
          · rename_i hb
            rw [if_neg hb, add_self] at hf; cases hf
        · rw [hs.same _ hnf hnt]
      · simp only [Bool.and_self, if_true]
        rw [flat t b', hs.new]
        have hnf : e.name = f := by simpa using hc
        rw [hnf, hs.old]
        simp only [if_true]
theorem pex_ne {f : Nat} {s : List UInt8} {p : Ex × Int} (h : pexO f s = some p) (h0 : p.2 = 0) : NX p.1 := by
  unfold pexO at h
  split at h
  · rename_i he
    injection h with h; subst h
    simp only at h0
    rw [h0] at he
    exact absurd he (by decide)
  · split at h
    · cases h
    · rename_i ds r hd
      injection h with h; subst h
      unfold endX at h0 ⊢
      cases hb : r.bad
      · have k : NX ds := exR_ne _ _ _ _ _ (scanO_ne s) hd hb
        rw [hb] at h0
        split at h0
        · exact absurd h0 (by decide)
        · split at h0
          · exact absurd h0 (by decide)
          · rename_i h3 h4
            rw [if_neg (by simpa using h3), if_neg h4]
            exact k
      · rw [hb] at h0; simp at h0
end Go.Proofs
namespace Go.Proofs
open Go.Av
set_option maxHeartbeats 16000000
set_option maxRecDepth 100000
def exLam (s : List UInt8) (x : Ex) : Ex := .mk 3 s false zTy [x] []
theorem exLam_sx {s : List UInt8} {x : Ex} (h : SX x) : SX (exLam s x) := .mk _ (by simp [exLam, Ex.kind]) (fun _ => ⟨⟨x, rfl⟩, rfl⟩) (by simp [exLam, Ex.kind]) (by simp [exLam, Ex.kids, h]) (by simp [exLam, Ex.alts])
theorem exLam_tot (s : List UInt8) (x : Ex) : (exLam s x).tot = x.tot + 1 := by unfold exLam; rw [tot_mk, tots_one, altots_nil, zTy_sz]
theorem lam_free (s : List UInt8) (x : Ex) : freeS (exLam s x) = walkE withS faF fbF x (withS [] [s]) [] := by
  unfold freeS exLam
  rw [walkE_mk, faF_mk]
  simp only [show ((3 : Int) == 3) = true from rfl, show ((3 : Int) == 1) = false from rfl, Bool.false_and, Bool.false_eq_true, if_false, if_true]
  rw [walkKs_cons, walkKs_nil]
theorem ren_kids_mem {f t : List UInt8} {lam lett : Bool} : ∀ {l : List Ex} {i : Nat} {y : Ex}, y ∈ renKs f t lam lett i l → ∃ x ∈ l, y = x ∨ y = renE f t x
  | [], i, y, h => by rw [renKs_nil] at h; cases h
  | x :: r, i, y, h => by
    rw [renKs_cons] at h
    rcases List.mem_cons.1 h with h | h
    · refine ⟨x, by simp, ?_⟩
      split at h
      · exact .inl h
      · exact .inr h
    · obtain ⟨z, hz, h⟩ := ren_kids_mem h
      exact ⟨z, by simp [hz], h⟩
theorem ren_alts_mem {f t : List UInt8} : ∀ {l : List Al} {y : Al}, y ∈ renAs f t l → ∃ x ∈ l, y.body = x.body ∨ y.body = renE f t x.body
  | [], y, h => by rw [renAs_nil] at h; cases h
  | x :: r, y, h => by
    rw [renAs_cons] at h
    rcases List.mem_cons.1 h with h | h
    · refine ⟨x, by simp, ?_⟩
      rw [h, renA_eq]
      split
      · exact .inl rfl
      · exact .inr rfl
    · obtain ⟨z, hz, h⟩ := ren_alts_mem h
      exact ⟨z, by simp [hz], h⟩
theorem ren_sx {f t : List UInt8} : ∀ (n : Nat) (e : Ex), e.tot ≤ n → SX e → SX (renE f t e) := by
  intro n
  induction n with
  | zero => intro e he; exfalso; have := tot_eq e; have := ty_pos e; omega
  | succ n ih =>
    intro e he hx
    rw [renE_eq]
    split
    · rename_i hc
      simp only [Bool.and_eq_true] at hc
      obtain ⟨hk, ha⟩ := hx.nam hc.1
      have h3 := kindNe (b := 3) hc.1 (by decide)
      have h5 := kindNe (b := 5) hc.1 (by decide)
      rw [hk, ha]
      refine .mk _ (fun _ => ⟨rfl, rfl⟩) (fun h => ?_) (fun h => ?_) (fun x hx => by cases hx) (fun x hx => by cases hx)
      · rw [beq_eq_false_iff_ne] at h3; exact absurd h h3
      · rw [beq_eq_false_iff_ne] at h5; exact absurd h h5
    · refine .mk _ (fun h => ?_) (fun h => ?_) (fun h => ?_) (fun y hy => ?_) (fun y hy => ?_)
      · have h1 : (e.kind == 1) = true := by simpa using (show e.kind = 1 from h)
        obtain ⟨hk, ha⟩ := hx.nam h1
        exact ⟨by show renKs f t _ _ 0 e.kids = []; rw [hk, renKs_nil], by show renAs f t e.alts = []; rw [ha, renAs_nil]⟩
      · have h1 : (e.kind == 3) = true := by simpa using (show e.kind = 3 from h)
        obtain ⟨x, hk⟩ := hx.lam h1
        exact ⟨⟨_, by show renKs f t _ _ 0 e.kids = [_]; rw [hk, renKs_cons, renKs_nil]⟩, by show renAs f t e.alts = []; rw [hx.lamA h1, renAs_nil]⟩
      · have h1 : (e.kind == 5) = true := by simpa using (show e.kind = 5 from h)
        obtain ⟨x, y, hk⟩ := hx.lett h1
        exact ⟨⟨_, _, by show renKs f t _ _ 0 e.kids = [_, _]; rw [hk, renKs_cons, renKs_cons, renKs_nil]⟩, by show renAs f t e.alts = []; rw [hx.letA h1, renAs_nil]⟩
      · obtain ⟨x, hm, h⟩ := ren_kids_mem hy
        have := kids_tot hm
        rcases h with rfl | rfl
        · exact hx.kid hm
        · exact ih x (by omega) (hx.kid hm)
      · obtain ⟨x, hm, h⟩ := ren_alts_mem hy
        have := alts_tot hm
        rcases h with h | h
        · rw [h]; exact hx.alt hm
        · rw [h]; exact ih x.body (by omega) (hx.alt hm)
theorem renKs_tots {f t : List UInt8} {lam lett : Bool} : ∀ (l : List Ex) (i : Nat), (∀ x ∈ l, (renE f t x).tot = x.tot) → Ex.tots (renKs f t lam lett i l) = Ex.tots l
  | [], i, _ => by rw [renKs_nil]
  | x :: r, i, h => by
    rw [renKs_cons, tots_cons, tots_cons, renKs_tots r (i + 1) fun y hy => h y (by simp [hy])]
    split
    · rfl
    · rw [h x (by simp)]
theorem renAs_tots {f t : List UInt8} : ∀ (l : List Al), (∀ x ∈ l, (renE f t x.body).tot = x.body.tot) → Al.tots (renAs f t l) = Al.tots l
  | [], _ => by rw [renAs_nil]
  | x :: r, h => by
    rw [renAs_cons, altots_cons, altots_cons, renAs_tots r fun y hy => h y (by simp [hy]), renA_eq]
    split
    · rfl
    · rw [altot_eq, altot_eq]
      show (renE f t x.body).tot + x.vars.length + 1 + _ = _
      rw [h x (by simp)]
theorem ren_tot {f t : List UInt8} : ∀ (n : Nat) (e : Ex), e.tot ≤ n → (renE f t e).tot = e.tot := by
  intro n
  induction n with
  | zero => intro e he; exfalso; have := tot_eq e; have := ty_pos e; omega
  | succ n ih =>
    intro e he
    rw [renE_eq]
    split
    · rw [tot_mk, tot_eq e]
    · rw [tot_mk, tot_eq e, renKs_tots _ _ fun x hx => ih x (by have := kids_tot hx; omega), renAs_tots _ fun x hx => ih x.body (by have := alts_tot hx; omega)]
/-- the more is bound, the less is free -/
def Less (t : List UInt8) (a a' : List (List UInt8)) : Prop := a'.contains t = true → a.contains t = true
theorem add_inv {l : List (List UInt8)} {n t : List UInt8} (h : (addS l n).contains t = true) : l.contains t = true ∨ t = n := by
  unfold addS at h
  split at h
  · exact .inl h
  · simp only [List.contains_eq_mem, decide_eq_true_eq, List.mem_append, List.mem_singleton] at h ⊢
    exact h
theorem faF_less {t : List UInt8} {e : Ex} {b b' a a' : List (List UInt8)} (hb : b.contains t = true → b'.contains t = true) (h : Less t a a') : Less t (faF e b a) (faF e b' a') := by
  intro hc
  unfold faF at hc
  split at hc
  · rename_i h1
    rcases add_inv hc with h2 | h2
    · exact faF_has (h h2)
    · subst h2
      simp only [Bool.and_eq_true, Bool.not_eq_true'] at h1
      unfold faF
      rcases Bool.eq_false_or_eq_true (b.contains e.name) with hq | hq
      · rw [hb hq] at h1; exact absurd h1.2 (by decide)
      · rw [h1.1, hq]
        simp only [Bool.not_false, Bool.and_self, if_true]
        exact add_self _ _
  · exact faF_has (h hc)
theorem with_less {t : List UInt8} {b b' : List (List UInt8)} (ns : List (List UInt8)) (hb : b.contains t = true → b'.contains t = true) : (withS b ns).contains t = true → (withS b' ns).contains t = true := by
  rw [with_mem, with_mem]
  simp only [List.contains_eq_mem, decide_eq_true_eq, List.mem_append] at hb ⊢
  exact Or.imp_left hb
theorem walk_less {t : List UInt8} : ∀ (n : Nat) (e : Ex), e.tot ≤ n → ∀ b b' a a', (b.contains t = true → b'.contains t = true) → Less t a a' → Less t (walkE withS faF fbF e b a) (walkE withS faF fbF e b' a') := by
  intro n
  induction n with
  | zero => intro e he; exfalso; have := tot_eq e; have := ty_pos e; omega
  | succ n ih =>
    have hks : ∀ (l : List Ex) b b' a a', Ex.tots l ≤ n → (b.contains t = true → b'.contains t = true) → Less t a a' → Less t (walkKs withS faF fbF l b a) (walkKs withS faF fbF l b' a') := by
      intro l
      induction l with
      | nil => intro b b' a a' _ _ h; rw [walkKs_nil, walkKs_nil]; exact h
      | cons e r ihr =>
        intro b b' a a' hl hb h
        rw [tots_cons] at hl
        rw [walkKs_cons, walkKs_cons]
        exact ihr b b' _ _ (by omega) hb (ih e (by omega) b b' a a' hb h)
    have hal : ∀ (l : List Al) b b' a a', Al.tots l ≤ n → (b.contains t = true → b'.contains t = true) → Less t a a' → Less t (walkAs withS faF fbF l b a) (walkAs withS faF fbF l b' a') := by
      intro l
      induction l with
      | nil => intro b b' a a' _ _ h; rw [walkAs_nil, walkAs_nil]; exact h
      | cons e r ihr =>
        intro b b' a a' hl hb h
        rw [altots_cons, altot_eq] at hl
        rw [walkAs_cons, walkAs_cons, walkA_eq, walkA_eq]
        exact ihr b b' _ _ (by omega) hb (ih e.body (by omega) _ _ _ _ (with_less e.vars hb) h)
    intro e he b b' a a' hb h
    have ht := tot_eq e
    have hp := ty_pos e
    have h0 := faF_less (e := e) hb h
    rw [walkE_eq, walkE_eq]
    split
    · exact hks e.kids _ _ _ _ (by omega) (with_less [e.name] hb) h0
    · split
      · have hkt : Ex.tots e.kids ≤ n := by omega
        revert hkt
        cases e.kids with
        | nil => intro _; rw [walkLet_nil, walkLet_nil]; exact h0
        | cons x r =>
          intro hkt
          rw [tots_cons] at hkt
          rw [walkLet_cons, walkLet_cons]
          exact hks r _ _ _ _ (by omega) (with_less [e.name] hb) (ih x (by omega) _ _ _ _ hb h0)
      · exact hal e.alts _ _ _ _ (by omega) hb (hks e.kids _ _ _ _ (by omega) hb h0)
theorem free_less {e : Ex} {t : List UInt8} {b : List (List UInt8)} (h : (freeS e).contains t = false) : (walkE withS faF fbF e b []).contains t = false :=
  not_true (walk_less _ e (Nat.le_refl _) [] b [] [] (fun h => by cases h) (fun h => h)) h
theorem renamed_law_den (s f t : List UInt8) : den E 8 [.str s, .str f, .str t] [] = some (.bool true, []) := by
  rw [den_eq prim_8, body_8]
  have ha := awake_den
  obtain ⟨p, hp⟩ := pexO_tot s
  have h1 := (pex_two hp).1
  obtain ⟨w1, hw1⟩ := word_den f
  obtain ⟨w2, hw2⟩ := word_den t
  unfold pexV at h1
  cases h0 : (p.2 != 0)
  · have h00 : p.2 = 0 := by rw [bne_not] at h0; simpa using h0
    have k := pex_good hp h00
    have hn := pex_ne hp h00
    have hs := k.1.sx
    have ht : p.1.tot < 400000 := by have := k.2; omega
    cases hft : f == t
    · cases w1
      · simp only [exC_eq] at h1
        simp only [go_sem, ↓reduceIte, Nat.reduceEqDiff, Nat.reduceAdd, Nat.reduceLeDiff, Nat.zero_ne_one, Nat.reduceLT, reduceCtorEq, beq_self_eq_true, Tryz.f8, ha, h1, h0, hw1, hw2, hft]
      · cases w2
        · simp only [exC_eq] at h1
          simp only [go_sem, ↓reduceIte, Nat.reduceEqDiff, Nat.reduceAdd, Nat.reduceLeDiff, Nat.zero_ne_one, Nat.reduceLT, reduceCtorEq, beq_self_eq_true, Tryz.f8, ha, h1, h0, hw1, hw2, hft]
        · have d1 := free_den p.1 hs (by omega)
          have d2 := bound_den p.1 hs (by omega)
          have n1 := has_den (freeS p.1) t (by have := free_le p.1; omega)
          have n2 := has_den (boundS p.1) t (by have := bound_le p.1; omega)
          cases hf1 : (freeS p.1).contains t
          · rw [hf1] at n1
            cases hf2 : (boundS p.1).contains t
            · rw [hf2] at n2
              have hne : f ≠ t := by simpa using hft
              have d3 := free_den (exLam f p.1) (exLam_sx hs) (by rw [exLam_tot]; omega)
              have rt := ren_tot (f := f) (t := t) _ p.1 (Nat.le_refl _)
              have d4 := renamed_den f t _ p.1 (Nat.le_refl _) (by omega)
              have d5 := free_den (exLam t (renE f t p.1)) (exLam_sx (ren_sx _ _ (Nat.le_refl _) hs)) (by rw [exLam_tot, rt]; omega)
              have key : freeS (exLam t (renE f t p.1)) = freeS (exLam f p.1) := by
                rw [lam_free, lam_free]
                refine ren_walk hne _ p.1 (Nat.le_refl _) hn hs _ _ _ ⟨fun n h1 h2 => ?_, with_mem2 _ _ (by simp), with_mem2 _ _ (by simp)⟩ ?_
                · rw [with_mem, with_mem]
                  simp [h1, h2]
                · exact free_less hf1
              rw [key] at d5
              have n3 := names_same (freeS (exLam f p.1)) (by have := free_le (exLam f p.1); rw [exLam_tot] at this; omega)
              generalize freeS (exLam f p.1) = l3 at *
              generalize freeS p.1 = l1 at *
              generalize boundS p.1 = l2 at *
              unfold exLam at d3 d5
              generalize renE f t p.1 = z at *
              simp only [exC_eq, exmk, exsV_cons, exsV_nil, alsV_nil, tysV_nil, zTy_k, zTy_s, zTy_n, zTy_a] at h1 d1 d2 d3 d4 d5
              simp only [go_sem, ↓reduceIte, Nat.reduceEqDiff, Nat.reduceAdd, Nat.reduceMul, Nat.reduceLeDiff, Nat.zero_ne_one, Nat.reduceLT, reduceCtorEq, beq_self_eq_true, Tryz.f8, ha, h1, h0, hw1, hw2, hft, d1, d2, n1, n2, d3, d4, d5, n3]
            · rw [hf2] at n2
              generalize freeS p.1 = l1 at *
              generalize boundS p.1 = l2 at *
              simp only [exC_eq] at h1 d1 d2
              simp only [go_sem, ↓reduceIte, Nat.reduceEqDiff, Nat.reduceAdd, Nat.reduceLeDiff, Nat.zero_ne_one, Nat.reduceLT, reduceCtorEq, beq_self_eq_true, Tryz.f8, ha, h1, h0, hw1, hw2, hft, d1, d2, n1, n2]
          · rw [hf1] at n1
            generalize freeS p.1 = l1 at *
            generalize boundS p.1 = l2 at *
            simp only [exC_eq] at h1 d1 d2
            simp only [go_sem, ↓reduceIte, Nat.reduceEqDiff, Nat.reduceAdd, Nat.reduceLeDiff, Nat.zero_ne_one, Nat.reduceLT, reduceCtorEq, beq_self_eq_true, Tryz.f8, ha, h1, h0, hw1, hw2, hft, d1, d2, n1, n2]
    · simp only [exC_eq] at h1
      simp only [go_sem, ↓reduceIte, Nat.reduceEqDiff, Nat.reduceAdd, Nat.reduceLeDiff, Nat.zero_ne_one, Nat.reduceLT, reduceCtorEq, beq_self_eq_true, Tryz.f8, ha, h1, h0, hw1, hw2, hft]
  · simp only [exC_eq] at h1
    simp only [go_sem, ↓reduceIte, Nat.reduceEqDiff, Nat.reduceAdd, Nat.reduceLeDiff, Nat.zero_ne_one, Nat.reduceLT, reduceCtorEq, Tryz.f8, ha, h1, h0, hw1, hw2]
end Go.Proofs
