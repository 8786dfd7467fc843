/- A step of an expression, and so many steps. -/
import Derived.Test.YtnodmhkacfcmfaaGreatDoorAvK
import Derived.Test.YtnodmhkacfcmfaaGreatDoorAvJ
namespace Go.Proofs
open Go.Av
set_option maxHeartbeats 64000000
set_option maxRecDepth 100000
/-! what an expression applies, and to what -/
def spineE : Nat → Ex → List Ex → Ex × List Ex
  | 0, e, acc => (e, acc)
  | f + 1, e, acc => if e.kind == 4 then (match e.kids with
    | x :: y :: _ => spineE f x (y :: acc)
    | _ => (e, acc)) else (e, acc)
theorem spine_step {f : Nat} {e x y : Ex} {r acc : List Ex} (h4 : (e.kind == 4) = true) (hk : e.kids = x :: y :: r) : spineE (f + 1) e acc = spineE f x (y :: acc) := by
  simp only [spineE, h4, if_true, hk]
theorem spine_stop {f : Nat} {e : Ex} {acc : List Ex} (h4 : (e.kind == 4) = false) : spineE f e acc = (e, acc) := by
  cases f <;> simp [spineE, h4]
theorem GX.app_kids {e : Ex} (h : GX e) (h4 : (e.kind == 4) = true) : ∃ x y, e = .mk 4 [] false zTy [x, y] [] ∧ GX x ∧ GX y := by
  cases h with
  | app x y hx hy => exact ⟨x, y, rfl, hx, hy⟩
  | nam k s hk _ => rcases hk with rfl | rfl <;> cases h4
  | _ => cases h4
theorem spine_fuel : ∀ (f g : Nat) (e : Ex) (acc : List Ex), GX e → e.tot ≤ f → e.tot ≤ g → spineE f e acc = spineE g e acc := by
  intro f
  induction f with
  | zero => intro g e acc _ h; have := tot_pos e; omega
  | succ f ih =>
    intro g e acc hx hf hg
    have hp := tot_pos e
    obtain ⟨g, rfl⟩ : ∃ g', g = g' + 1 := ⟨g - 1, by omega⟩
    cases h4 : e.kind == 4
    · rw [spine_stop h4, spine_stop h4]
    · obtain ⟨x, y, rfl, h1, h2⟩ := hx.app_kids h4
      have : (Ex.mk 4 [] false zTy [x, y] []).tot = x.tot + y.tot + 1 := by rw [tot_mk, tots_two, altots_nil, zTy_sz]
      have := tot_pos y
      rw [spine_step h4 rfl, spine_step h4 rfl]
      exact ih g x _ h1 (by omega) (by omega)
/-- the list of what was applied, as it is built -/
def ownE : List Ex → AVal
  | [] => .own 29 0 []
  | e :: r => .own mapT 0 [.own 29 0 (exsV (e :: r))]
theorem exsV_snoc (l : List Ex) (y : Ex) : exsV l ++ [.agg (exC y)] = exsV (l ++ [y]) := by rw [exsV_map, exsV_map, List.map_append]; rfl
theorem exsV_rev (l : List Ex) : (exsV l).reverse = exsV l.reverse := by rw [exsV_map, exsV_map, List.map_reverse]
theorem applied_den (e : Ex) (hx : GX e) (hb : e.tot < 1000000) : den E 70 [.agg (exC e)] [] = some (.tup [.str (spineE e.tot e []).1.name, .slice (exsV (spineE e.tot e []).2), .bool ((spineE e.tot e []).1.kind == 2)], []) := by
  rw [den_eq prim_70, body_70]
  rw [exC_eq]
  obtain ⟨fin, hfin⟩ : ∃ fin, fin = spineE e.tot e [] := ⟨_, rfl⟩
  rw [← hfin]
  simp only [go_sem, ↓reduceIte, Nat.reduceEqDiff, Nat.reduceAdd, reduceCtorEq, Tryz.f70]
  refine run_ind (fun x : Ex × List Ex => GX x.1 ∧ x.1.tot + x.2.length ≤ e.tot ∧ spineE x.1.tot x.1 x.2.reverse = fin) (fun x => ⟨[(1, .ptr (.loc 1) 0), (3, ownE x.2)], [], [(1, exC x.1)], 1⟩)
    (fun _ => some (.tup [.str fin.1.name, .slice (exsV fin.2), .bool (fin.1.kind == 2)], [])) (fun x => x.1.tot) (e, []) ⟨hx, by simp, hfin.symm⟩ ?_ ?_
  · simp only [go_sem, ↓reduceIte, Nat.reduceEqDiff, reduceCtorEq, ownE, exC_eq]
  · rintro ⟨c, l⟩ ⟨hc, hl, hs⟩ h
    simp only at hc hl hs h ⊢
    have hcp := tot_pos c
    cases h4 : c.kind == 4
    · rw [spine_stop h4] at hs
      subst hs
      rw [exC_eq]
      cases l with
      | nil => simp only [go_sem, ↓reduceIte, Nat.reduceEqDiff, Nat.reduceAdd, Nat.reduceLT, ownE, h4, List.reverse_nil, exsV_nil]
      | cons a l =>
        have hn : (exsV (a :: l)).length = l.length + 1 := by rw [exsV_len, List.length_cons]
        have h0 : (0 < l.length + 1) = True := by simp
        have h1 : (l.length + 1 ≤ 1073741824) = True := by simp at hl ⊢; omega
        simp only [go_sem, ↓reduceIte, Nat.reduceEqDiff, Nat.reduceAdd, Nat.reduceLT, ownE, h4, hn, h0, h1, exsV_rev]
    · obtain ⟨x, y, rfl, g1, g2⟩ := hc.app_kids h4
      have ht : (Ex.mk 4 [] false zTy [x, y] []).tot = x.tot + y.tot + 1 := by rw [tot_mk, tots_two, altots_nil, zTy_sz]
      have hyp := tot_pos y
      rw [ht] at hl h
      have hs2 : spineE x.tot x (l ++ [y]).reverse = fin := by
        rw [← hs, ht, spine_step h4 rfl, List.reverse_append]
        exact spine_fuel _ _ _ _ g1 (Nat.le_refl _) (by omega)
      rw [exC_eq]
      simp only [Ex.kind, Ex.name, Ex.told, Ex.ty, Ex.kids, Ex.alts, exsV_cons, exsV_nil]
      cases l with
      | nil =>
        simp only [go_sem, ↓reduceIte, Nat.reduceEqDiff, Nat.reduceAdd, Nat.reduceMul, Nat.reduceLeDiff, Nat.reduceLT, Int.reduceLE, ownE, Int.le_refl, Int.toNat_zero, Int.toNat_one, exC_eq]
        refine h (x, [y]) _ ⟨g1, by simp; omega, hs2⟩ (by simp only; omega) ?_
        simp only [go_sem, ↓reduceIte, Nat.reduceEqDiff, ownE, exC_eq, exsV_cons, exsV_nil]
      | cons a l =>
        have hn : (exsV (a :: l)).length = l.length + 1 := by rw [exsV_len, List.length_cons]
        have h1 : (l.length + 1 + 1 ≤ 1073741824) = True := by simp at hl ⊢; omega
        have hsn := exsV_snoc (a :: l) y
        rw [exC_eq y] at hsn
        simp only [go_sem, ↓reduceIte, Nat.reduceEqDiff, Nat.reduceAdd, Nat.reduceMul, Nat.reduceLeDiff, Nat.reduceLT, Int.reduceLE, ownE, Int.le_refl, Int.toNat_zero, Int.toNat_one, exC_eq, hn, h1]
        refine h (x, a :: l ++ [y]) _ ⟨g1, by simp at hl ⊢; omega, hs2⟩ (by simp only; omega) ?_
        simp only [go_sem, ↓reduceIte, Nat.reduceEqDiff, ownE, exC_eq, hsn]
end Go.Proofs
namespace Go.Proofs
open Go.Av
set_option maxHeartbeats 64000000
set_option maxRecDepth 100000
/-! the first one that is so -/
def idxP {α : Type} (p : α → Bool) : List α → Nat → Int
  | [], _ => -1
  | x :: r, i => if p x then (i : Int) else idxP p r (i + 1)
def defV (d : List UInt8 × Ex) : AVal := .agg (.str d.1 :: exC d.2)
theorem defV_eq (d : List UInt8 × Ex) : defV d = .agg [.str d.1, .int .i64 d.2.kind, .str d.2.name, .bool d.2.told, .int .i64 d.2.ty.kind, .str d.2.ty.name, .int .i64 d.2.ty.n, .slice (tysV d.2.ty.args), .slice (exsV d.2.kids), .slice (alsV d.2.alts)] := by
  unfold defV; rw [exC_eq]
theorem def_is (d : List UInt8 × Ex) (e : Ex) : den E 73 [defV d, .ptr (.par 0) 0] [exC e] = some (.bool (d.1 == e.name), [exC e]) := by
  rw [den_eq prim_73, body_73, defV_eq, exC_eq]
  simp only [go_sem, ↓reduceIte, Nat.reduceEqDiff, Nat.reduceAdd, Nat.reduceLT, reduceCtorEq, Tryz.f73]
theorem defs_get (l : List (List UInt8 × Ex)) (i : Nat) : (l.map defV)[i]? = (l[i]?).map defV := by simp
theorem defs_idx (l : List (List UInt8 × Ex)) (e : Ex) (hl : l.length < 1000000) : den E 72 [.slice (l.map defV), .func 73 [] [.ptr (.par 0) 0]] [exC e] = some (.int .i64 (idxP (fun d => d.1 == e.name) l 0), [exC e]) := by
  rw [den_eq prim_72, body_72]
  have di := fun d => def_is d e
  rw [exC_eq] at di ⊢
  simp only [go_sem, ↓reduceIte, Nat.reduceEqDiff, Nat.reduceAdd, reduceCtorEq, Int.reduceNeg, Tryz.f72, List.length_map]
  refine run_ind (fun i : Nat => i ≤ l.length) (fun i => ⟨[(0, .slice (l.map defV)), (1, .func 73 [] [.ptr (.par 0) 0]), (7, .int .i64 l.length), (8, .int .i64 i)], [[.int .i64 e.kind, .str e.name, .bool e.told, .int .i64 e.ty.kind, .str e.ty.name, .int .i64 e.ty.n, .slice (tysV e.ty.args), .slice (exsV e.kids), .slice (alsV e.alts)]], [], 1⟩)
    (fun i => some (.int .i64 (idxP (fun d => d.1 == e.name) (l.drop i) i), [[.int .i64 e.kind, .str e.name, .bool e.told, .int .i64 e.ty.kind, .str e.ty.name, .int .i64 e.ty.n, .slice (tysV e.ty.args), .slice (exsV e.kids), .slice (alsV e.alts)]])) (fun i => l.length - i) 0 (Nat.zero_le _) ?_ ?_
  · simp only [go_sem, ↓reduceIte, Nat.reduceEqDiff, reduceCtorEq, Int.cast_ofNat_Int]
  · intro i hi h
    by_cases hlt : i < l.length
    · obtain ⟨x, hx⟩ := getS hlt
      rw [dropGet hx]
      have w1 : IntKind.i64.wrap ((i : Int) + 1) = ((i + 1 : Nat) : Int) := wrapN (i + 1) (by omega)
      have d := di x
      rw [defV_eq] at d
      cases hq : x.1 == e.name
      · rw [hq] at d
        simp only [go_sem, ↓reduceIte, Nat.reduceEqDiff, Nat.reduceAdd, Nat.reduceLeDiff, reduceCtorEq, Int.reduceNeg, natlt, decide_eq_true hlt, natge0, tonat, defs_get, hx, defV_eq, d, idxP, hq]
        refine h (i + 1) _ (by omega) (by omega) ?_
        simp only [go_sem, ↓reduceIte, Nat.reduceEqDiff, reduceCtorEq, w1]
      · rw [hq] at d
        simp only [go_sem, ↓reduceIte, Nat.reduceEqDiff, Nat.reduceAdd, Nat.reduceLeDiff, reduceCtorEq, Int.reduceNeg, natlt, decide_eq_true hlt, natge0, tonat, defs_get, hx, defV_eq, d, idxP, hq]
    · have hie : i = l.length := by omega
      subst hie
      rw [List.drop_length]
      simp only [go_sem, ↓reduceIte, Nat.reduceEqDiff, Nat.reduceAdd, reduceCtorEq, Int.reduceNeg, natlt, Nat.lt_irrefl, idxP]
theorem alt_is (a : Al) (n : List UInt8) : den E 97 [alV a, .ptr (.par 0) 0] [[.str n]] = some (.bool (a.con == n), [[.str n]]) := by
  rw [den_eq prim_97, body_97, alV_C, alC_eq]
  simp only [go_sem, ↓reduceIte, Nat.reduceEqDiff, Nat.reduceAdd, Nat.reduceLT, reduceCtorEq, Tryz.f97]
theorem alsV_get' (l : List Al) (i : Nat) : (alsV l)[i]? = (l[i]?).map alV := by simp [alsV_map]
theorem alts_idx (l : List Al) (n : List UInt8) (hl : l.length < 1000000) : den E 96 [.slice (alsV l), .func 97 [] [.ptr (.par 0) 0]] [[.str n]] = some (.int .i64 (idxP (fun a => a.con == n) l 0), [[.str n]]) := by
  rw [den_eq prim_96, body_96]
  simp only [go_sem, ↓reduceIte, Nat.reduceEqDiff, Nat.reduceAdd, reduceCtorEq, Int.reduceNeg, Tryz.f96, alsV_len]
  refine run_ind (fun i : Nat => i ≤ l.length) (fun i => ⟨[(0, .slice (alsV l)), (1, .func 97 [] [.ptr (.par 0) 0]), (7, .int .i64 l.length), (8, .int .i64 i)], [[.str n]], [], 1⟩)
    (fun i => some (.int .i64 (idxP (fun a => a.con == n) (l.drop i) i), [[.str n]])) (fun i => l.length - i) 0 (Nat.zero_le _) ?_ ?_
  · simp only [go_sem, ↓reduceIte, Nat.reduceEqDiff, reduceCtorEq, Int.cast_ofNat_Int]
  · intro i hi h
    by_cases hlt : i < l.length
    · obtain ⟨x, hx⟩ := getS hlt
      rw [dropGet hx]
      have w1 : IntKind.i64.wrap ((i : Int) + 1) = ((i + 1 : Nat) : Int) := wrapN (i + 1) (by omega)
      have d := alt_is x n
      rw [alV_C, alC_eq] at d
      cases hq : x.con == n
      · rw [hq] at d
        simp only [go_sem, ↓reduceIte, Nat.reduceEqDiff, Nat.reduceAdd, Nat.reduceLeDiff, reduceCtorEq, Int.reduceNeg, natlt, decide_eq_true hlt, natge0, tonat, alsV_get', hx, alV_C, alC_eq, d, idxP, hq]
        refine h (i + 1) _ (by omega) (by omega) ?_
        simp only [go_sem, ↓reduceIte, Nat.reduceEqDiff, reduceCtorEq, w1]
      · rw [hq] at d
        simp only [go_sem, ↓reduceIte, Nat.reduceEqDiff, Nat.reduceAdd, Nat.reduceLeDiff, reduceCtorEq, Int.reduceNeg, natlt, decide_eq_true hlt, natge0, tonat, alsV_get', hx, alV_C, alC_eq, d, idxP, hq]
    · have hie : i = l.length := by omega
      subst hie
      rw [List.drop_length]
      simp only [go_sem, ↓reduceIte, Nat.reduceEqDiff, Nat.reduceAdd, reduceCtorEq, Int.reduceNeg, natlt, Nat.lt_irrefl, idxP]
theorem idxP_cases {α : Type} (p : α → Bool) : ∀ (l : List α) (i : Nat), (idxP p l i = -1 ∧ l.find? p = none) ∨ ∃ j x, idxP p l i = ((i + j : Nat) : Int) ∧ l[j]? = some x ∧ l.find? p = some x
  | [], i => .inl ⟨rfl, rfl⟩
  | x :: r, i => by
    cases h : p x
    · rcases idxP_cases p r (i + 1) with ⟨h1, h2⟩ | ⟨j, y, h1, h2, h3⟩
      · exact .inl ⟨by simp only [idxP, h, Bool.false_eq_true, if_false, h1], by simp [h, h2]⟩
      · refine .inr ⟨j + 1, y, ?_, by simpa using h2, by simp [h, h3]⟩
        simp only [idxP, h, Bool.false_eq_true, if_false, h1]
        congr 1; omega
    · exact .inr ⟨0, x, by simp [idxP, h], rfl, by simp [h]⟩
/-! arguments are put into an alternative -/
def putsO : List (List UInt8) → List Ex → Ex → Option Ex
  | [], [], e => some e
  | n :: ns, a :: r, e => if e.tot < 1000000 then putsO ns r (putE n a e) else none
  | _, _, _ => none
/-- a case's step; 5: its first part is no value -/
def splitO (e : Ex) : Option (Ex × Int) :=
  if e.alts.length = 0 then some (e, 3) else match e.kids with
  | [x] => if x.tot < 1000000 then (if ((spineE x.tot x []).1.kind == 2) then
      (match e.alts.find? fun a => a.con == (spineE x.tot x []).1.name with
      | none => some (e, 3)
      | some a => if a.vars.length = (spineE x.tot x []).2.length then (match putsO a.vars (spineE x.tot x []).2 a.body with
        | some y => some (y, 1)
        | none => none) else some (e, 4))
    else if x.kind == 3 then some (e, 4) else some (e, 5)) else none
  | _ => none
theorem split_den (e : Ex) (r : Ex × Int) (hk : ∀ x, e.kids = [x] → GX x) (hal : e.alts.length < 1000000) (hv : ∀ a ∈ e.alts, a.vars.length < 1000000) (h : splitO e = some r) :
    den E 74 [.agg (exC e)] [] = some (.tup [.agg (exC r.1), .int .i64 r.2], []) := by
  rw [den_eq prim_74, body_74]
  unfold splitO at h
  have al := alsV_len e.alts
  have n0 := nat_eq0 e.alts.length
  by_cases h0 : e.alts.length = 0
  · rw [if_pos h0] at h
    injection h with h; subst h
    rw [decide_eq_true h0] at n0
    simp only
    rw [exC_eq]
    simp only [go_sem, ↓reduceIte, Nat.reduceEqDiff, Nat.reduceAdd, Nat.reduceLeDiff, Nat.reduceLT, reduceCtorEq, Tryz.f74, al, n0]
  · rw [if_neg h0] at h
    rw [decide_eq_false h0] at n0
    split at h
    · rename_i x hx
      have gx := hk x hx
      split at h
      · rename_i hxt
        have d1 := applied_den x gx hxt
        rw [exC_eq x] at d1
        generalize hsp : spineE x.tot x [] = sp at h d1
        obtain ⟨c, args⟩ := sp
        simp only at h d1
        cases hc : c.kind == 2
        · rw [hc] at h d1
          simp only [Bool.false_eq_true, if_false] at h
          cases h3 : x.kind == 3
          · rw [h3] at h
            simp only [Bool.false_eq_true, if_false] at h
            injection h with h; subst h
            simp only
            rw [exC_eq, hx, exsV_cons, exsV_nil, exC_eq x]
            simp only [go_sem, ↓reduceIte, Nat.reduceEqDiff, Nat.reduceAdd, Nat.reduceLeDiff, Nat.reduceLT, reduceCtorEq, Tryz.f74, al, n0, Int.le_refl, Int.toNat_zero, d1, h3]
          · rw [h3] at h
            simp only [if_true] at h
            injection h with h; subst h
            simp only
            rw [exC_eq, hx, exsV_cons, exsV_nil, exC_eq x]
            simp only [go_sem, ↓reduceIte, Nat.reduceEqDiff, Nat.reduceAdd, Nat.reduceLeDiff, Nat.reduceLT, reduceCtorEq, Tryz.f74, al, n0, Int.le_refl, Int.toNat_zero, d1, h3]
        · rw [hc] at h d1
          simp only [if_true] at h
          have d2 := alts_idx e.alts c.name hal
          rcases idxP_cases (fun a : Al => a.con == c.name) e.alts 0 with ⟨h1, h2⟩ | ⟨j, a, h1, h2, h3⟩
          · rw [h2] at h
            simp only at h
            injection h with h; subst h
            rw [h1] at d2
            simp only
            rw [exC_eq, hx, exsV_cons, exsV_nil, exC_eq x]
            simp only [go_sem, ↓reduceIte, Nat.reduceEqDiff, Nat.reduceAdd, Nat.reduceLeDiff, Nat.reduceLT, reduceCtorEq, Int.reduceLT, Int.reduceNeg, Tryz.f74, al, n0, Int.le_refl, Int.toNat_zero, d1, d2]
          · rw [h3] at h
            simp only at h
            rw [h1, Nat.zero_add] at d2
            have jn : decide ((j : Int) < 0) = false := by simp
            have ja := List.mem_of_getElem? h2
            have hav := hv a ja
            have e1 : (((a.vars.map AVal.str).length : Int) != ((exsV args).length : Int)) = !(decide (a.vars.length = args.length)) := by
              rw [List.length_map, exsV_len, bne_not, nat_eq]
            rw [List.length_map, exsV_len] at e1
            by_cases hl : a.vars.length = args.length
            · rw [if_pos hl] at h
              rw [decide_eq_true hl] at e1
              cases hp : putsO a.vars args a.body with
              | none => rw [hp] at h; cases h
              | some y =>
                rw [hp] at h
                simp only at h
                injection h with h; subst h
                obtain ⟨fin, hfin⟩ : ∃ fin, fin = (some (.tup [.agg (exC y), .int .i64 1], []) : Option (AVal × Heap)) := ⟨_, rfl⟩
                simp only
                rw [← hfin]
                rw [exC_eq] at hfin
                rw [exC_eq, hx, exsV_cons, exsV_nil, exC_eq x]
                simp only [go_sem, ↓reduceIte, Nat.reduceEqDiff, Nat.reduceAdd, Nat.reduceLeDiff, Nat.reduceLT, reduceCtorEq, Tryz.f74, al, n0, Int.le_refl, Int.toNat_zero, d1, d2, jn, natge0, tonat, alsV_get', h2, alV_C, alC_eq, List.length_map, exsV_len, e1]
                refine run_ind (fun q : Nat × Ex => q.1 ≤ a.vars.length ∧ putsO (a.vars.drop q.1) (args.drop q.1) q.2 = some y)
                  (fun q => ⟨[(2, .ptr (.loc 2) 0), (5, .slice (exsV args)), (8, .ptr (.loc 8) 0), (66, .slice (a.vars.map .str)), (67, .int .i64 a.vars.length), (68, .int .i64 q.1)], [],
                    [(2, [.int .i64 0, .str [], .bool false, .int .i64 0, .str [], .int .i64 0, .own 25 0 [], .own 29 0 [], .own 54 0 []]), (8, exC q.2)], 1⟩) (fun _ => fin) (fun q => a.vars.length - q.1) (0, a.body) ⟨Nat.zero_le _, hp⟩ ?_ ?_
                · simp only [go_sem, ↓reduceIte, Nat.reduceEqDiff, reduceCtorEq, Int.cast_ofNat_Int, exC_eq]
                · rintro ⟨i, o⟩ ⟨hi, hq⟩ hrun
                  simp only at hi hq hrun ⊢
                  by_cases hlt : i < a.vars.length
                  · obtain ⟨v, hvv⟩ := getS hlt
                    obtain ⟨g, hg⟩ := getS (show i < args.length by omega)
                    rw [dropGet hvv, dropGet hg] at hq
                    simp only [putsO] at hq
                    split at hq
                    · rename_i hot
                      have w1 : IntKind.i64.wrap ((i : Int) + 1) = ((i + 1 : Nat) : Int) := wrapN (i + 1) (by omega)
                      have d3 := eput_den _ o g v (Nat.le_refl _) hot
                      rw [exC_eq, exC_eq g, exC_eq (putE v g o)] at d3
                      have hge : (exsV args)[i]? = some (.agg (exC g)) := by rw [exsV_map, List.getElem?_map, hg]; rfl
                      simp only [go_sem, ↓reduceIte, Nat.reduceEqDiff, Nat.reduceAdd, Nat.reduceLeDiff, Nat.reduceLT, natlt, decide_eq_true hlt, natge0, tonat, strsGet, hvv, hge, exC_eq, d3]
                      refine hrun (i + 1, putE v g o) _ ⟨by simp only; omega, hq⟩ (by simp only; omega) ?_
                      simp only [go_sem, ↓reduceIte, Nat.reduceEqDiff, w1, exC_eq]
                    · cases hq
                  · have hie : i = a.vars.length := by omega
                    subst hie
                    rw [List.drop_length, hl, List.drop_length] at hq
                    simp only [putsO, Option.some.injEq] at hq
                    subst hq
                    simp only [go_sem, ↓reduceIte, Nat.reduceEqDiff, Nat.reduceAdd, Nat.reduceLeDiff, Nat.reduceLT, natlt, Nat.lt_irrefl, exC_eq, hfin]
            · rw [if_neg hl] at h
              rw [decide_eq_false hl] at e1
              injection h with h; subst h
              simp only
              rw [exC_eq, hx, exsV_cons, exsV_nil, exC_eq x]
              simp only [go_sem, ↓reduceIte, Nat.reduceEqDiff, Nat.reduceAdd, Nat.reduceLeDiff, Nat.reduceLT, reduceCtorEq, Tryz.f74, al, n0, Int.le_refl, Int.toNat_zero, d1, d2, jn, natge0, tonat, alsV_get', h2, alV_C, alC_eq, List.length_map, exsV_len, e1]
      · cases h
    · cases h
end Go.Proofs
namespace Go.Proofs
open Go.Av
set_option maxHeartbeats 64000000
set_option maxRecDepth 100000
/-! a step -/
def partO (r : Option (Ex × Int)) (e : Ex) : Option (Ex × Int) := match r with
  | none => none
  | some (k, o) => if o != 1 then some (e, o) else (match e.kids with
    | _ :: q => some (.mk e.kind e.name e.told e.ty (k :: q) e.alts, 1)
    | [] => none)
def stepO : Nat → List (List UInt8 × Ex) → Ex → Option (Ex × Int)
  | 0, _, _ => none
  | f + 1, defs, e => if e.tot < 1000000 then (if (spineE e.tot e []).1.kind == 2 then some (e, 2)
    else if e.kind == 1 then (match defs.find? fun d => d.1 == e.name with
      | some d => some (d.2, 1)
      | none => some (e, 4))
    else if e.kind == 7 then (match e.kids with
      | x :: _ => some (x, 1)
      | [] => none)
    else if e.kind == 5 then (match e.kids with
      | x :: y :: _ => some (putE e.name x y, 1)
      | _ => none)
    else if e.kind == 4 then (match e.kids with
      | x :: y :: _ => if x.kind == 3 then (match x.kids with
        | b :: _ => some (putE x.name y b, 1)
        | [] => none) else partO (stepO f defs x) e
      | _ => none)
    else if e.kind == 6 then (match splitO e with
      | some (y, o) => if o != 5 then some (y, o) else (match e.kids with
        | x :: _ => partO (stepO f defs x) e
        | [] => none)
      | none => none)
    else some (e, 2)) else none
theorem part_den (defs : List (List UInt8 × Ex)) (e x : Ex) (q : List Ex) (p r : Ex × Int) (hk : e.kids = x :: q) (hb : e.tot < 1000000) (h : den E 45 [.slice (defs.map defV), .agg (exC x)] [] = some (.tup [.agg (exC p.1), .int .i64 p.2], []))
    (hr : partO (some p) e = some r) : den E 71 [.ptr (.par 0) 0, .ptr (.par 1) 0] [[.slice (defs.map defV)], exC e] = some (.tup [.agg (exC r.1), .int .i64 r.2], [[.slice (defs.map defV)], exC r.1]) := by
  obtain ⟨k, o⟩ := p
  simp only [partO] at hr
  rw [den_eq prim_71, body_71]
  have h0 : (exsV e.kids)[0]? = some (.agg (exC x)) := by rw [hk, exsV_cons]; rfl
  cases ho : o != 1
  · have ho1 : o = 1 := by rw [bne_not] at ho; simpa using ho
    subst ho1
    rw [ho, hk] at hr
    simp only [Bool.false_eq_true, if_false, Option.some.injEq] at hr
    subst hr
    have htot := tot_eq e
    have hkl := tots_len e.kids
    have hnk : e.kids.length = q.length + 1 := by rw [hk]; rfl
    have kh : (exsV e.kids).head? = some (.agg (exC x)) := by rw [hk]; exact exs_head x q
    have kl : (exsV e.kids).length = q.length + 1 := by rw [exsV_len, hnk]
    have kx : (q.length + 1 ≤ 1073741824) = True := eq_true (by omega)
    have k0n : (q.length + 1 = 0) = False := eq_false (by omega)
    have kp : (0 < q.length + 1) = True := eq_true (by omega)
    have i1 : ((0 : Int) < ((q.length + 1 : Nat) : Int)) = True := eq_true (by omega)
    have kfl : ∀ l : List Ex, (l.flatMap exC).length = l.length * 9 := exC_cell.flen
    have i3 : (9 ≤ (q.length + 1) * 9) = True := eq_true (by omega)
    have hput := exC_cell.put (l := e.kids) (i := 0) (x := x) (by rw [hk]; rfl) k
    rw [exC_eq k] at hput
    simp only [Nat.zero_mul, List.take_zero, List.nil_append, List.cons_append, Nat.zero_add] at hput
    have hset : e.kids.set 0 k = k :: q := by rw [hk]; rfl
    rw [hset] at hput
    have hch := exs_chunks (k :: q)
    rw [List.length_cons] at hch
    have hln : ((k :: q).flatMap exC).length = (q.length + 1) * 9 := by rw [kfl, List.length_cons]
    have hKQ : (k :: q).length = q.length + 1 := rfl
    generalize hkq : k :: q = KQ at hput hch hln hKQ ⊢
    rw [exC_mk]
    rw [exC_eq, exC_eq k] at h
    rw [exC_eq x] at h0
    rw [exC_eq]
    simp only [go_sem, ↓reduceIte, Nat.reduceEqDiff, Nat.reduceAdd, Nat.reduceMul, Nat.reduceLeDiff, Nat.reduceLT, Nat.reduceBEq, reduceCtorEq, ne_eq, Tryz.f71, h0, Int.le_refl, Int.toNat_zero, h, ho, kl, k0n, kh, kp, kx, exC_len, flatC_exs, exC_cell.fstamp, i1, kfl, hnk, i3, hput, true_or, exC_cell.fstrip, exC_cell.fpure, hch, hKQ]
  · rw [ho] at hr
    simp only [if_true, Option.some.injEq] at hr
    subst hr
    rw [exC_eq, exC_eq k] at h
    rw [exC_eq x] at h0
    rw [exC_eq]
    simp only [go_sem, ↓reduceIte, Nat.reduceEqDiff, Nat.reduceAdd, Nat.reduceLeDiff, Nat.reduceLT, reduceCtorEq, Tryz.f71, h0, Int.le_refl, Int.toNat_zero, h, ho]
/-! what is put into what is read is as if it was read -/
theorem GX.put {u : Ex} (hu : GX u) (n : List UInt8) {e : Ex} (h : GX e) : GX (putE n u e) := by
  have one : ∀ o x, putK n u o [x] = [putE n u x] := fun o x => by cases o <;> simp [putK]
  induction h with
  | nam k s hk hs =>
    rw [putE_eq]
    split
    · exact hu
    · split
      · exact .nam k s hk hs
      · rename_i h1 h2
        rcases hk with rfl | rfl
        · simp [Ex.kind] at h2
        · show GX (.mk 2 s false zTy (putK n u _ []) (putA n u []))
          simp only [putK, putA]; exact .nam 2 s (.inr rfl) hs
  | lam s x hs hx ih =>
    rw [putE_eq]
    split
    · exact hu
    · split
      · exact .lam s x hs hx
      · show GX (.mk 3 s false zTy (putK n u _ [x]) (putA n u []))
        rw [one]; simp only [putA]; exact .lam s _ hs ih
  | app x y hx hy ihx ihy =>
    rw [putE_eq]
    split
    · exact hu
    · split
      · exact .app x y hx hy
      · show GX (.mk 4 [] false zTy (putK n u (_ && _) [x, y]) (putA n u []))
        have : ((Ex.mk 4 [] false zTy [x, y] []).kind == 5) = false := rfl
        rw [this, Bool.false_and, putK_all]
        simp only [putA, List.map_cons, List.map_nil]; exact .app _ _ ihx ihy
  | lett s t x y hs ht hx hy ihx ihy =>
    rw [putE_eq]
    split
    · exact hu
    · split
      · exact .lett s t x y hs ht hx hy
      · show GX (.mk 5 s true t (putK n u _ [x, y]) (putA n u []))
        generalize ((Ex.mk 5 s true t [x, y] []).kind == 5 && (Ex.mk 5 s true t [x, y] []).name == n) = o
        cases o
        · rw [putK_all]; simp only [putA, List.map_cons, List.map_nil]; exact .lett s t _ _ hs ht ihx ihy
        · simp only [putK, putA, if_true]; exact .lett s t _ _ hs ht ihx hy
  | letu s x y hs hx hy ihx ihy =>
    rw [putE_eq]
    split
    · exact hu
    · split
      · exact .letu s x y hs hx hy
      · show GX (.mk 5 s false zTy (putK n u _ [x, y]) (putA n u []))
        generalize ((Ex.mk 5 s false zTy [x, y] []).kind == 5 && (Ex.mk 5 s false zTy [x, y] []).name == n) = o
        cases o
        · rw [putK_all]; simp only [putA, List.map_cons, List.map_nil]; exact .letu s _ _ hs ihx ihy
        · simp only [putK, putA, if_true]; exact .letu s _ _ hs ihx hy
  | cas x al hx ha hn ihx iha =>
    rw [putE_eq]
    split
    · exact hu
    · split
      · exact .cas x al hx ha hn
      · show GX (.mk 6 [] false zTy (putK n u _ [x]) (putA n u al))
        rw [one, putA_map]
        refine .cas _ _ ihx (fun a hm => ?_) (fun a hm => ?_)
        · obtain ⟨b, hb, rfl⟩ := List.mem_map.1 hm
          rw [putL_eq]
          show GX (if b.vars.contains n = true then b.body else putE n u b.body)
          split
          · exact ha b hb
          · exact iha b hb
        · obtain ⟨b, hb, rfl⟩ := List.mem_map.1 hm
          rw [putL_eq]; exact hn b hb
  | ann x t hx ht ih =>
    rw [putE_eq]
    split
    · exact hu
    · split
      · exact .ann x t hx ht
      · show GX (.mk 7 [] false t (putK n u _ [x]) (putA n u []))
        rw [one]; simp only [putA]; exact .ann _ t ih ht
theorem spine_gx : ∀ (f : Nat) (e : Ex) (acc : List Ex), GX e → (∀ a ∈ acc, GX a) → ∀ a ∈ (spineE f e acc).2, GX a
  | 0, _, _, _, ha => ha
  | f + 1, e, acc, he, ha => by
    cases h4 : e.kind == 4
    · rw [spine_stop h4]; exact ha
    · obtain ⟨x, y, rfl, h1, h2⟩ := he.app_kids h4
      rw [spine_step h4 rfl]
      exact spine_gx f x _ h1 fun a hm => by
        rcases List.mem_cons.1 hm with rfl | hm
        · exact h2
        · exact ha a hm
theorem putsO_gx : ∀ {ns : List (List UInt8)} {l : List Ex} {e y : Ex}, (∀ a ∈ l, GX a) → GX e → putsO ns l e = some y → GX y
  | [], [], _, _, _, he, h => by simp only [putsO, Option.some.injEq] at h; exact h ▸ he
  | n :: ns, a :: r, e, y, hl, he, h => by
    simp only [putsO] at h
    split at h
    · exact putsO_gx (fun b hb => hl b (List.mem_cons_of_mem _ hb)) ((hl a (List.mem_cons_self ..)).put n he) h
    · cases h
  | [], _ :: _, _, _, _, _, h => by cases h
  | _ :: _, [], _, _, _, _, h => by cases h
theorem alts_bounds {e : Ex} (hb : e.tot < 1000000) : e.alts.length < 1000000 ∧ ∀ a ∈ e.alts, a.vars.length < 1000000 := by
  have htot := tot_eq e
  have h1 := altots_len e.alts
  refine ⟨by omega, fun a ha => ?_⟩
  have h2 := paltots_mem ha
  have h3 := paltot_eq a
  omega
theorem splitO_gx {e y : Ex} {o : Int} (he : GX e) (hk : ∀ x, e.kids = [x] → GX x) (ha : ∀ a ∈ e.alts, GX a.body) (h : splitO e = some (y, o)) : GX y := by
  have same : ∀ {z : Ex} {q : Int}, some (z, q) = some (y, o) → z = e → GX y := fun h1 h2 => by
    injection h1 with h1; injection h1 with h1 _; rw [← h1, h2]; exact he
  unfold splitO at h
  split at h
  · exact same h rfl
  · split at h
    · rename_i x hx
      have gx := hk x hx
      split at h
      · split at h
        · split at h
          · exact same h rfl
          · rename_i a hfa
            split at h
            · split at h
              · rename_i z hpz
                injection h with h; injection h with h1 _
                rw [← h1]
                exact putsO_gx (spine_gx _ _ _ gx (by simp)) (ha a (List.mem_of_find?_eq_some hfa)) hpz
              · cases h
            · exact same h rfl
        · split at h
          · exact same h rfl
          · exact same h rfl
      · cases h
    · cases h
theorem step_den (defs : List (List UInt8 × Ex)) (hl : defs.length < 1000000) (hg : ∀ d ∈ defs, GX d.2) : ∀ (f : Nat) (e : Ex) (r : Ex × Int), GX e → stepO f defs e = some r →
    den E 45 [.slice (defs.map defV), .agg (exC e)] [] = some (.tup [.agg (exC r.1), .int .i64 r.2], []) ∧ GX r.1 := by
  intro f
  induction f with
  | zero => intro e r _ h; cases h
  | succ f ih =>
    intro e r hx h
    simp only [stepO] at h
    split at h
    rotate_left
    · cases h
    rename_i hb
    have d0 := applied_den e hx hb
    have hsp := spine_gx e.tot e [] hx (by simp)
    cases hs : (spineE e.tot e []).1.kind == 2
    rotate_left
    · rw [hs] at h d0
      simp only [if_true, Option.some.injEq] at h
      subst h
      refine ⟨?_, hx⟩
      rw [den_eq prim_45, body_45]
      simp only
      rw [exC_eq] at d0 ⊢
      simp only [go_sem, ↓reduceIte, Nat.reduceEqDiff, Nat.reduceAdd, Nat.reduceLeDiff, Nat.reduceLT, reduceCtorEq, Tryz.f45, d0]
    · rw [hs] at h d0
      simp only [Bool.false_eq_true, if_false] at h
      have part : ∀ (x : Ex) (q : List Ex) (r : Ex × Int), GX x → e.kids = x :: q → partO (stepO f defs x) e = some r → ∃ d, d = den E 71 [.ptr (.par 0) 0, .ptr (.par 1) 0] [[.slice (defs.map defV)], exC e] ∧ d = some (.tup [.agg (exC r.1), .int .i64 r.2], [[.slice (defs.map defV)], exC r.1]) ∧
          (r.1 = e ∨ ∃ k, GX k ∧ r.1 = .mk e.kind e.name e.told e.ty (k :: q) e.alts) := by
        intro x q r gx hk hp
        cases hst : stepO f defs x with
        | none => rw [hst] at hp; cases hp
        | some p =>
          rw [hst] at hp
          obtain ⟨dx, gp⟩ := ih x p gx hst
          refine ⟨_, rfl, part_den defs e x q p r hk hb dx hp, ?_⟩
          obtain ⟨k, o⟩ := p
          simp only [partO] at hp
          split at hp
          · injection hp with hp; subst hp; exact .inl rfl
          · rw [hk] at hp
            injection hp with hp; subst hp
            exact .inr ⟨k, gp, rfl⟩
      cases hx with
      | nam k s hk hsl =>
        rcases hk with rfl | rfl
        · rw [spine_stop rfl] at d0
          have h' : (match defs.find? fun d => d.1 == s with | some d => some (d.2, 1) | none => some (Ex.mk 1 s false zTy [] [], 4)) = some r := h
          have d1 := defs_idx defs (.mk 1 s false zTy [] []) hl
          rw [den_eq prim_45, body_45]
          rcases idxP_cases (fun d : List UInt8 × Ex => d.1 == s) defs 0 with ⟨h1, h2⟩ | ⟨j, d, h1, h2, h3⟩
          · rw [h2] at h'
            injection h' with h'; subst h'
            refine ⟨?_, .nam 1 s (.inl rfl) hsl⟩
            have d1' : den E 72 [.slice (defs.map defV), .func 73 [] [.ptr (.par 0) 0]] [exC (.mk 1 s false zTy [] [])] = some (.int .i64 (-1), [exC (.mk 1 s false zTy [] [])]) := by rw [d1]; exact congrArg (fun z => some (AVal.int .i64 z, _)) h1
            rw [exC_mk] at d0 d1' ⊢
            simp only [go_sem, ↓reduceIte, Nat.reduceEqDiff, Nat.reduceAdd, Nat.reduceLeDiff, Nat.reduceLT, reduceCtorEq, Int.reduceLT, Int.reduceNeg, Tryz.f45, d0, d1']
          · rw [h3] at h'
            injection h' with h'; subst h'
            refine ⟨?_, hg d (List.mem_of_getElem? h2)⟩
            rw [Nat.zero_add] at h1
            have d1' : den E 72 [.slice (defs.map defV), .func 73 [] [.ptr (.par 0) 0]] [exC (.mk 1 s false zTy [] [])] = some (.int .i64 (j : Int), [exC (.mk 1 s false zTy [] [])]) := by rw [d1]; exact congrArg (fun z => some (AVal.int .i64 z, _)) h1
            have jn : decide ((j : Int) < 0) = false := by simp
            simp only
            rw [exC_mk] at d0 d1' ⊢
            rw [exC_eq d.2]
            simp only [go_sem, ↓reduceIte, Nat.reduceEqDiff, Nat.reduceAdd, Nat.reduceLeDiff, Nat.reduceLT, reduceCtorEq, Tryz.f45, d0, d1', jn, natge0, tonat, defs_get, h2, defV_eq]
        · rw [spine_stop rfl] at hs; cases hs
      | lam s x hsl gx =>
        rw [spine_stop rfl] at d0
        have h' : some (Ex.mk 3 s false zTy [x] [], (2 : Int)) = some r := h
        injection h' with h'; subst h'
        refine ⟨?_, .lam s x hsl gx⟩
        rw [den_eq prim_45, body_45]
        simp only
        rw [exC_mk] at d0 ⊢
        simp only [go_sem, ↓reduceIte, Nat.reduceEqDiff, Nat.reduceAdd, Nat.reduceLeDiff, Nat.reduceLT, reduceCtorEq, Tryz.f45, Int.reduceBEq, d0]
      | ann x t gx ht =>
        rw [spine_stop rfl] at d0
        have h' : some (x, (1 : Int)) = some r := h
        injection h' with h'; subst h'
        refine ⟨?_, gx⟩
        rw [den_eq prim_45, body_45]
        simp only
        rw [exC_mk, exsV_cons, exsV_nil] at d0 ⊢
        rw [exC_eq x] at d0 ⊢
        simp only [go_sem, ↓reduceIte, Nat.reduceEqDiff, Nat.reduceAdd, Nat.reduceLeDiff, Nat.reduceLT, reduceCtorEq, Tryz.f45, Int.reduceBEq, d0, Int.le_refl, Int.toNat_zero]
      | lett s t x y hsl ht gx gy =>
        rw [spine_stop rfl] at d0
        have h' : some (putE s x y, (1 : Int)) = some r := h
        injection h' with h'; subst h'
        have ht : (Ex.mk 5 s true t [x, y] []).tot = x.tot + y.tot + t.sz := by rw [tot_mk, tots_two, altots_nil]; omega
        refine ⟨?_, gx.put s gy⟩
        have d1 := eput_den _ y x s (Nat.le_refl _) (by omega)
        rw [den_eq prim_45, body_45]
        simp only
        rw [exC_mk, exsV_cons, exsV_cons, exsV_nil] at d0 ⊢
        rw [exC_eq x, exC_eq y] at d0 d1 ⊢
        rw [exC_eq (putE s x y)] at d1 ⊢
        simp only [go_sem, ↓reduceIte, Nat.reduceEqDiff, Nat.reduceAdd, Nat.reduceLeDiff, Nat.reduceLT, reduceCtorEq, Int.reduceLE, Tryz.f45, Int.reduceBEq, d0, d1, Int.le_refl, Int.toNat_zero, Int.toNat_one]
      | letu s x y hsl gx gy =>
        rw [spine_stop rfl] at d0
        have h' : some (putE s x y, (1 : Int)) = some r := h
        injection h' with h'; subst h'
        have ht : (Ex.mk 5 s false zTy [x, y] []).tot = x.tot + y.tot + 1 := by rw [tot_mk, tots_two, altots_nil, zTy_sz]
        refine ⟨?_, gx.put s gy⟩
        have d1 := eput_den _ y x s (Nat.le_refl _) (by omega)
        rw [den_eq prim_45, body_45]
        simp only
        rw [exC_mk, exsV_cons, exsV_cons, exsV_nil] at d0 ⊢
        rw [exC_eq x, exC_eq y] at d0 d1 ⊢
        rw [exC_eq (putE s x y)] at d1 ⊢
        simp only [go_sem, ↓reduceIte, Nat.reduceEqDiff, Nat.reduceAdd, Nat.reduceLeDiff, Nat.reduceLT, reduceCtorEq, Int.reduceLE, Tryz.f45, Int.reduceBEq, d0, d1, Int.le_refl, Int.toNat_zero, Int.toNat_one]
      | app x y gx gy =>
        have h' : (if x.kind == 3 then (match x.kids with | b :: _ => some (putE x.name y b, (1 : Int)) | [] => none) else partO (stepO f defs x) (.mk 4 [] false zTy [x, y] [])) = some r := h
        have ht : (Ex.mk 4 [] false zTy [x, y] []).tot = x.tot + y.tot + 1 := by rw [tot_mk, tots_two, altots_nil, zTy_sz]
        rw [den_eq prim_45, body_45]
        generalize spineE (Ex.mk 4 [] false zTy [x, y] []).tot (Ex.mk 4 [] false zTy [x, y] []) [] = sp at d0
        cases h3 : x.kind == 3
        · rw [h3] at h'
          simp only [Bool.false_eq_true, if_false] at h'
          obtain ⟨d, hd, dp, hgr⟩ := part x [y] r gx rfl h'
          rw [hd] at dp
          refine ⟨?_, ?_⟩
          · rw [exC_mk, exsV_cons, exsV_cons, exsV_nil] at d0 dp ⊢
            rw [exC_eq x, exC_eq y] at d0 dp ⊢
            rw [exC_eq r.1] at dp ⊢
            simp only [go_sem, ↓reduceIte, Nat.reduceEqDiff, Nat.reduceAdd, Nat.reduceLeDiff, Nat.reduceLT, Nat.reduceBEq, reduceCtorEq, Tryz.f45, Int.reduceBEq, d0, dp, h3, Int.le_refl, Int.toNat_zero]
          · rcases hgr with e | ⟨k, gk, e⟩
            · rw [e]; exact .app x y gx gy
            · rw [e]; exact .app k y gk gy
        · rw [h3] at h'
          simp only [if_true] at h'
          cases gx with
          | lam s b hsl gb =>
            have h'' : some (putE s y b, (1 : Int)) = some r := h'
            injection h'' with h''; subst h''
            have hxt : (Ex.mk 3 s false zTy [b] []).tot = b.tot + 1 := by rw [tot_mk, tots_one, altots_nil, zTy_sz]
            refine ⟨?_, gy.put s gb⟩
            have d1 := eput_den _ b y s (Nat.le_refl _) (by omega)
            simp only
            rw [exC_mk, exsV_cons, exsV_cons, exsV_nil, exC_mk, exsV_cons, exsV_nil] at d0 ⊢
            rw [exC_eq y, exC_eq b] at d0 d1 ⊢
            rw [exC_eq (putE s y b)] at d1 ⊢
            simp only [go_sem, ↓reduceIte, Nat.reduceEqDiff, Nat.reduceAdd, Nat.reduceLeDiff, Nat.reduceLT, reduceCtorEq, Int.reduceLE, Tryz.f45, Int.reduceBEq, d0, d1, Int.le_refl, Int.toNat_zero, Int.toNat_one]
          | nam k s hk _ => rcases hk with rfl | rfl <;> cases h3
          | _ => cases h3
      | cas x al gx ga hn =>
        rw [spine_stop rfl] at d0
        have h' : (match splitO (.mk 6 [] false zTy [x] al) with
          | some (y, o) => if o != 5 then some (y, o) else partO (stepO f defs x) (.mk 6 [] false zTy [x] al)
          | none => none) = some r := h
        obtain ⟨b1, b2⟩ := alts_bounds hb
        rw [den_eq prim_45, body_45]
        cases hsp2 : splitO (.mk 6 [] false zTy [x] al) with
        | none => rw [hsp2] at h'; cases h'
        | some p =>
          obtain ⟨y, o⟩ := p
          rw [hsp2] at h'
          simp only at h'
          have ds := split_den _ (y, o) (fun z hz => by
            have : [x] = [z] := hz
            injection this with this; subst this; exact gx) b1 b2 hsp2
          cases ho : o != 5
          · rw [ho] at h'
            simp only [Bool.false_eq_true, if_false] at h'
            obtain ⟨d, hd, dp, hgr⟩ := part x [] r gx rfl h'
            rw [hd] at dp
            refine ⟨?_, ?_⟩
            · rw [exC_mk, exsV_cons, exsV_nil] at d0 ds dp ⊢
              rw [exC_eq x] at d0 ds dp ⊢
              rw [exC_eq y] at ds
              rw [exC_eq r.1] at dp ⊢
              simp only [go_sem, ↓reduceIte, Nat.reduceEqDiff, Nat.reduceAdd, Nat.reduceLeDiff, Nat.reduceLT, Nat.reduceBEq, reduceCtorEq, Tryz.f45, Int.reduceBEq, d0, ds, dp, ho]
            · rcases hgr with e | ⟨k, gk, e⟩
              · rw [e]; exact .cas x al gx ga hn
              · rw [e]; exact .cas k al gk ga hn
          · rw [ho] at h'
            simp only [if_true, Option.some.injEq] at h'
            subst h'
            refine ⟨?_, ?_⟩
            · simp only
              rw [exC_mk, exsV_cons, exsV_nil] at d0 ds ⊢
              rw [exC_eq x] at d0 ds ⊢
              rw [exC_eq y] at ds ⊢
              simp only [go_sem, ↓reduceIte, Nat.reduceEqDiff, Nat.reduceAdd, Nat.reduceLeDiff, Nat.reduceLT, reduceCtorEq, Tryz.f45, Int.reduceBEq, d0, ds, ho]
            · exact splitO_gx (.cas x al gx ga hn) (fun z hz => by
                have : [x] = [z] := hz
                injection this with this; subst this; exact gx) ga hsp2
end Go.Proofs
namespace Go.Proofs
open Go.Av
set_option maxHeartbeats 64000000
set_option maxRecDepth 100000
/-! so many steps -/
def runO (f : Nat) (defs : List (List UInt8 × Ex)) : Nat → Ex → Option (Ex × Int)
  | 0, e => some (e, 1)
  | k + 1, e => match stepO f defs e with
    | none => none
    | some r => if r.2 == 1 then runO f defs k r.1 else some r
def goO (f : Nat) (defs : List (List UInt8 × Ex)) (k : Nat) (e : Ex) (o : Int) : Option (Ex × Int) := if o == 1 then runO f defs k e else some (e, o)
theorem run_den (defs : List (List UInt8 × Ex)) (hl : defs.length < 1000000) (hg : ∀ d ∈ defs, GX d.2) (f k : Nat) (hk : k ≤ 10000) (e : Ex) (r : Ex × Int) (hx : GX e) (h : runO f defs k e = some r) :
    den E 25 [.slice (defs.map defV), .agg (exC e), .int .i64 k] [] = some (.tup [.agg (exC r.1), .int .i64 r.2], []) ∧ GX r.1 := by
  have hgr : GX r.1 := by
    clear hk
    induction k generalizing e with
    | zero => simp only [runO, Option.some.injEq] at h; subst h; exact hx
    | succ k ih =>
      simp only [runO] at h
      cases hs : stepO f defs e with
      | none => rw [hs] at h; cases h
      | some p =>
        rw [hs] at h
        have hp := (step_den defs hl hg f e p hx hs).2
        simp only at h
        split at h
        · exact ih _ hp h
        · injection h with h; exact h ▸ hp
  refine ⟨?_, hgr⟩
  rw [den_eq prim_25, body_25]
  obtain ⟨fin, hfin⟩ : ∃ fin, fin = (some (.tup [.agg (exC r.1), .int .i64 r.2], []) : Option (AVal × Heap)) := ⟨_, rfl⟩
  rw [← hfin]
  rw [exC_eq] at hfin
  rw [exC_eq]
  have mk : ((10000 : Int) < (k : Int)) = False := eq_false (by omega)
  simp only [go_sem, ↓reduceIte, Nat.reduceEqDiff, Nat.reduceAdd, reduceCtorEq, Tryz.f25]
  refine run_ind (fun q : Nat × Ex × Int => q.1 ≤ k ∧ GX q.2.1 ∧ goO f defs (k - q.1) q.2.1 q.2.2 = some r)
    (fun q => ⟨[(0, .slice (defs.map defV)), (2, .int .i64 k), (4, .ptr (.loc 4) 0), (6, .ptr (.loc 6) 0), (8, .int .i64 q.2.2), (9, .int .i64 q.1)], [],
      [(4, exC q.2.1), (6, [.int .i64 0, .str [], .bool false, .int .i64 0, .str [], .int .i64 0, .own 25 0 [], .own 29 0 [], .own 54 0 []])], 1⟩) (fun _ => fin) (fun q => k - q.1) (0, e, 1) ⟨Nat.zero_le _, hx, h⟩ ?_ ?_
  · simp only [go_sem, ↓reduceIte, Nat.reduceEqDiff, reduceCtorEq, Int.cast_ofNat_Int, exC_eq]
  · rintro ⟨i, c, o⟩ ⟨hi, hc, hq⟩ hrun
    simp only at hi hc hq hrun ⊢
    by_cases hlt : i < k
    · cases ho : o == 1
      · unfold goO at hq
        rw [ho] at hq
        simp only [Bool.false_eq_true, if_false, Option.some.injEq] at hq
        subst hq
        simp only [go_sem, ↓reduceIte, Nat.reduceEqDiff, Nat.reduceAdd, Nat.reduceLeDiff, Nat.reduceLT, reduceCtorEq, mk, natlt, decide_eq_true hlt, ho, exC_eq, hfin]
      · have hq' := hq
        unfold goO at hq
        rw [ho] at hq
        obtain ⟨n, hn⟩ : ∃ n, k - i = n + 1 := ⟨k - i - 1, by omega⟩
        rw [hn] at hq
        simp only [if_true, runO] at hq
        cases hs : stepO f defs c with
        | none => rw [hs] at hq; cases hq
        | some p =>
          rw [hs] at hq
          obtain ⟨d1, d2⟩ := step_den defs hl hg f c p hc hs
          obtain ⟨y, u⟩ := p
          simp only at hq d1 d2
          rw [exC_eq, exC_eq y] at d1
          have w1 : IntKind.i64.wrap ((i : Int) + 1) = ((i + 1 : Nat) : Int) := wrapN (i + 1) (by omega)
          simp only [go_sem, ↓reduceIte, Nat.reduceEqDiff, Nat.reduceAdd, Nat.reduceLeDiff, Nat.reduceLT, reduceCtorEq, mk, natlt, decide_eq_true hlt, ho, exC_eq, d1]
          refine hrun (i + 1, y, u) _ ⟨by simp only; omega, d2, ?_⟩ (by simp only; omega) ?_
          · simp only
            rw [show k - (i + 1) = n by omega]; exact hq
          · simp only [go_sem, ↓reduceIte, Nat.reduceEqDiff, reduceCtorEq, w1, exC_eq]
    · have hie : i = k := by omega
      subst hie
      unfold goO at hq
      rw [Nat.sub_self] at hq
      have : r = (c, o) := by
        split at hq
        · rename_i h1
          simp only [runO, Option.some.injEq] at hq
          rw [← hq, eq_of_beq h1]
        · injection hq with hq; exact hq.symm
      subst this
      simp only [go_sem, ↓reduceIte, Nat.reduceEqDiff, Nat.reduceAdd, Nat.reduceLeDiff, Nat.reduceLT, reduceCtorEq, mk, natlt, Nat.lt_irrefl, exC_eq, hfin]
end Go.Proofs
