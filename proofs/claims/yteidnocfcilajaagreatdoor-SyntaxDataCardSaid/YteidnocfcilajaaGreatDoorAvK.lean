/- What is free in a type; other names; canonical names: there is always an answer. -/
import Derived.Test.YteidnocfcilajaaGreatDoorAvF
import Derived.Test.YteidnocfcilajaaGreatDoorAvI
namespace Go.Proofs
open Go.Av
set_option maxHeartbeats 16000000
set_option maxRecDepth 100000
/-! lists of names -/
theorem strsGet (l : List (List UInt8)) (i : Nat) : (l.map AVal.str)[i]? = (l[i]?).map AVal.str := by simp
theorem dropGet {α : Type} {l : List α} {i : Nat} {x : α} (h : l[i]? = some x) : l.drop i = x :: l.drop (i + 1) := by
  obtain ⟨h1, h2⟩ := List.getElem?_eq_some_iff.1 h
  rw [List.drop_eq_getElem_cons h1, h2]
theorem getS {α : Type} {l : List α} {i : Nat} (h : i < l.length) : ∃ x, l[i]? = some x := ⟨l[i], List.getElem?_eq_getElem h⟩
def idxR : List (List UInt8) → List UInt8 → Nat → Int
  | [], _, _ => -1
  | x :: r, n, i => if n == x then (i : Int) else idxR r n (i + 1)
theorem idxR_ge : ∀ (l : List (List UInt8)) (n : List UInt8) (i : Nat), decide (idxR l n i ≥ 0) = l.contains n
  | [], n, i => rfl
  | x :: r, n, i => by
    rw [List.contains_cons]
    unfold idxR
    cases h : n == x
    · simp only [Bool.false_eq_true, if_false, Bool.false_or]; exact idxR_ge r n (i + 1)
    · simp
theorem index_den (l : List (List UInt8)) (n : List UInt8) (hl : l.length < 1000000) : den E 143 [.slice (l.map .str), .str n] [] = some (.int .i64 (idxR l n 0), []) := by
  rw [den_eq prim_143, body_143]
  simp only [go_sem, ↓reduceIte, Nat.reduceEqDiff, Nat.reduceAdd, reduceCtorEq, Int.reduceNeg, Tryz.f143, List.length_map]
  refine run_ind (fun i : Nat => i ≤ l.length) (fun i => ⟨[(0, .slice (l.map .str)), (1, .str n), (7, .int .i64 l.length), (8, .int .i64 i)], [], [], 1⟩) (fun i => some (.int .i64 (idxR (l.drop i) n i), [])) (fun i => l.length - i) 0 (Nat.zero_le _) ?_ ?_
  · simp only [go_sem, ↓reduceIte, Nat.reduceEqDiff, Nat.zero_ne_one, reduceCtorEq, Int.cast_ofNat_Int]
  · intro i hi h
    by_cases hlt : i < l.length
    · obtain ⟨x, hx⟩ := getS hlt
      rw [dropGet hx]
      have w1 : IntKind.i64.wrap ((i : Int) + 1) = ((i + 1 : Nat) : Int) := wrapN (i + 1) (by omega)
      cases hq : n == x
      · simp only [go_sem, ↓reduceIte, Nat.reduceEqDiff, Nat.reduceAdd, Nat.zero_ne_one, reduceCtorEq, Int.reduceNeg, natlt, decide_eq_true hlt, natge0, tonat, strsGet, hx, hq, idxR]
        refine h (i + 1) _ (by omega) (by omega) ?_
        simp only [go_sem, ↓reduceIte, Nat.reduceEqDiff, Nat.zero_ne_one, reduceCtorEq, w1]
      · simp only [go_sem, ↓reduceIte, Nat.reduceEqDiff, Nat.reduceAdd, Nat.zero_ne_one, reduceCtorEq, Int.reduceNeg, natlt, decide_eq_true hlt, natge0, tonat, strsGet, hx, hq, idxR]
    · have hie : i = l.length := by omega
      subst hie
      rw [List.drop_length]
      simp only [go_sem, ↓reduceIte, Nat.reduceEqDiff, Nat.reduceAdd, reduceCtorEq, beq_self_eq_true, decide_false, Int.reduceNeg, natlt, Nat.lt_irrefl, idxR]
theorem contains_den (l : List (List UInt8)) (n : List UInt8) (hl : l.length < 1000000) : den E 99 [.slice (l.map .str), .str n] [] = some (.bool (l.contains n), []) := by
  rw [den_eq prim_99, body_99]
  have h1 := index_den l n hl
  have h2 := idxR_ge l n 0
  simp only [go_sem, ↓reduceIte, Nat.reduceEqDiff, Nat.reduceAdd, Nat.zero_ne_one, reduceCtorEq, Tryz.f99, h1, h2]
/-! sets of names -/
def entsV (l : List (List UInt8)) : List AVal := l.map fun n => .tup [.str n, .bool true]
def addS (l : List (List UInt8)) (n : List UInt8) : List (List UInt8) := if l.contains n then l else l ++ [n]
theorem find_ents (n : List UInt8) : ∀ l, findE (.str n) (entsV l) = some (if l.contains n then some (.bool true) else none)
  | [] => rfl
  | x :: r => by
    have ih := find_ents n r
    unfold entsV at ih ⊢
    rw [List.map_cons, List.contains_cons]
    simp only [findE, keyEq, Option.bind_some]
    cases h : n == x
    · simp only [Bool.false_eq_true, if_false, Bool.false_or]; exact ih
    · simp
theorem upd_ents (n : List UInt8) : ∀ l, updE (.str n) (.bool true) (entsV l) = some (entsV (addS l n))
  | [] => rfl
  | x :: r => by
    have ih := upd_ents n r
    unfold entsV addS at ih ⊢
    rw [List.contains_cons, List.map_cons]
    simp only [updE, keyEq, Option.bind_some]
    cases h : n == x
    · simp only [Bool.false_eq_true, if_false, Bool.false_or, ih, Option.map_some]
      cases r.contains n <;> simp
    · have hx : n = x := by simpa using h
      subst hx
      simp
/-! what is free in a type -/
def freeAt (t : Ty) (b acc : List (List UInt8)) : List (List UInt8) := if t.kind == 1 && !b.contains t.name then addS acc t.name else acc
mutual
def freeT : Ty → List (List UInt8) → List (List UInt8) → List (List UInt8)
  | .mk k s n a, b, acc => freeTs a (if k == 5 then addS b s else b) (freeAt (.mk k s n a) b acc)
def freeTs : List Ty → List (List UInt8) → List (List UInt8) → List (List UInt8)
  | [], _, acc => acc
  | t :: r, b, acc => freeTs r b (freeT t b acc)
end
theorem freeT_eq (t : Ty) (b acc : List (List UInt8)) : freeT t b acc = freeTs t.args (if t.kind == 5 then addS b t.name else b) (freeAt t b acc) := by
  cases t; simp only [freeT, Ty.args, Ty.kind, Ty.name]; rfl
theorem freeTs_nil (b acc : List (List UInt8)) : freeTs [] b acc = acc := by simp only [freeTs]
theorem freeTs_cons (t : Ty) (r : List Ty) (b acc : List (List UInt8)) : freeTs (t :: r) b acc = freeTs r b (freeT t b acc) := by simp only [freeTs]
theorem addS_le (l : List (List UInt8)) (n : List UInt8) : (addS l n).length ≤ l.length + 1 := by
  unfold addS; split
  · omega
  · simp
theorem freeAt_le (t : Ty) (b acc : List (List UInt8)) : (freeAt t b acc).length ≤ acc.length + 1 := by
  unfold freeAt; split
  · exact addS_le _ _
  · omega
theorem szs_cons (t : Ty) (r : List Ty) : Ty.szs (t :: r) = t.sz + Ty.szs r := by simp [Ty.szs]
theorem freeT_le : ∀ (n : Nat) (t : Ty), t.sz ≤ n → ∀ b acc, (freeT t b acc).length ≤ acc.length + t.sz := by
  intro n
  induction n with
  | zero => intro t h; have := sz_eq t; omega
  | succ n ih =>
    have hs : ∀ (l : List Ty) b acc, Ty.szs l ≤ n → (freeTs l b acc).length ≤ acc.length + Ty.szs l := by
      intro l
      induction l with
      | nil => intro b acc _; rw [freeTs_nil]; omega
      | cons x r ihr =>
        intro b acc hl
        rw [szs_cons] at hl ⊢
        rw [freeTs_cons]
        have := ih x (by omega) b acc
        have := ihr b (freeT x b acc) (by omega)
        omega
    intro t h b acc
    have := sz_eq t
    have h1 := freeAt_le t b acc
    have h2 := hs t.args (if t.kind == 5 then addS b t.name else b) (freeAt t b acc) (by omega)
    rw [freeT_eq]; omega
theorem freefn_den (t : Ty) (b acc : List (List UInt8)) (h : acc.length < 1000000) : den E 170 [tyV t, .pmap (entsV b), .ptr (.par 0) 0] [[.own 9 0 (acc.map .str)]] = some (.tup [], [[.own 9 0 ((freeAt t b acc).map .str)]]) := by
  rw [den_eq prim_170, body_170, tyV_eq]
  have hf := find_ents t.name b
  have hc := contains_den acc t.name h
  have a1 : acc.length + 1 ≤ appMax := by unfold appMax; omega
  unfold freeAt addS
  cases h1 : t.kind == 1
  · simp only [go_sem, ↓reduceIte, Nat.reduceEqDiff, Nat.reduceAdd, Nat.one_ne_zero, Nat.reduceLT, reduceCtorEq, Tryz.f170, h1]
  · cases h2 : b.contains t.name
    · rw [h2] at hf
      cases h3 : acc.contains t.name
      · rw [h3] at hc
        simp only [go_sem, ↓reduceIte, Nat.reduceEqDiff, Nat.reduceAdd, Nat.reduceMul, Nat.reduceLeDiff, Nat.zero_ne_one, Nat.one_ne_zero, Nat.reduceLT, reduceCtorEq, beq_self_eq_true, decide_true, Tryz.f170, h1, hf, hc, a1, List.length_map, List.map_append]
      · rw [h3] at hc
        simp only [go_sem, ↓reduceIte, Nat.reduceEqDiff, Nat.reduceAdd, Nat.zero_ne_one, Nat.one_ne_zero, Nat.reduceLT, reduceCtorEq, beq_self_eq_true, Tryz.f170, h1, hf, hc]
    · rw [h2] at hf
      simp only [go_sem, ↓reduceIte, Nat.reduceEqDiff, Nat.reduceAdd, Nat.zero_ne_one, Nat.one_ne_zero, Nat.reduceLT, reduceCtorEq, beq_self_eq_true, Tryz.f170, h1, hf]
theorem args_len (t : Ty) : t.args.length + 1 ≤ t.sz := by
  have : ∀ l : List Ty, l.length ≤ Ty.szs l := by
    intro l
    induction l with
    | nil => simp
    | cons x r ih => rw [szs_cons, List.length_cons]; have := sz_eq x; omega
  have := this t.args
  have := sz_eq t
  omega
theorem tysGet (l : List Ty) (i : Nat) : (tysV l)[i]? = (l[i]?).map tyV := by simp [tysV_map]
theorem twalk_den : ∀ (n : Nat) (t : Ty), t.sz ≤ n → ∀ (b acc : List (List UInt8)), acc.length + t.sz < 1000000 → den E 169 [tyV t, .pmap (entsV b), .func 170 [] [.ptr (.par 0) 0]] [[.own 9 0 (acc.map .str)]] = some (.tup [], [[.own 9 0 ((freeT t b acc).map .str)]]) := by
  intro n
  induction n with
  | zero => intro t h; have := sz_eq t; omega
  | succ n ih =>
  intro t hn b acc hm
  have hsz := sz_eq t
  have d0 := freefn_den t b acc (by omega)
  have hl0 := freeAt_le t b acc
  rw [den_eq prim_169, body_169, freeT_eq]
  generalize freeAt t b acc = a0 at *
  rw [tyV_eq] at d0 ⊢
  obtain ⟨b', hb'⟩ : ∃ b', b' = (if t.kind == 5 then addS b t.name else b) := ⟨_, rfl⟩
  rw [← hb']
  cases h5 : t.kind == 5
  · rw [h5] at hb'
    simp only [Bool.false_eq_true, if_false] at hb'
    subst hb'
    simp only [go_sem, ↓reduceIte, Nat.reduceEqDiff, Nat.reduceAdd, Nat.reduceLeDiff, Nat.zero_ne_one, Nat.one_ne_zero, Nat.reduceLT, reduceCtorEq, beq_self_eq_true, Tryz.f169, d0, h5, tysV_len]
    refine run_ind (fun x : Nat × List (List UInt8) => x.1 ≤ t.args.length ∧ x.2.length + Ty.szs (t.args.drop x.1) ≤ a0.length + Ty.szs t.args ∧ freeTs (t.args.drop x.1) b' x.2 = freeTs t.args b' a0)
      (fun x => ⟨[(1, .pmap (entsV b')), (2, .func 170 [] [.ptr (.par 0) 0]), (21, .slice (tysV t.args)), (22, .int .i64 t.args.length), (23, .int .i64 x.1)], [[.own 9 0 (x.2.map .str)]], [], 1⟩)
      (fun _ => some (.tup [], [[.own 9 0 ((freeTs t.args b' a0).map .str)]])) (fun x => t.args.length - x.1) (0, a0) ⟨Nat.zero_le _, by simp, rfl⟩ ?_ ?_
    · simp only [go_sem, ↓reduceIte, Nat.reduceEqDiff, Nat.zero_ne_one, reduceCtorEq, Int.cast_ofNat_Int]
    · rintro ⟨i, a1⟩ ⟨hi, ha, hf⟩ h
      simp only at hi ha hf h ⊢
      by_cases hlt : i < t.args.length
      · obtain ⟨x, hx⟩ := getS hlt
        have hxs := szs_mem (List.mem_of_getElem? hx)
        rw [dropGet hx, szs_cons] at ha
        rw [dropGet hx, freeTs_cons] at hf
        have w1 : IntKind.i64.wrap ((i : Int) + 1) = ((i + 1 : Nat) : Int) := wrapN (i + 1) (by have := args_len t; omega)
        have d := ih x (by omega) b' a1 (by omega)
        have hl := freeT_le _ x (Nat.le_refl _) b' a1
        generalize freeT x b' a1 = a2 at *
        rw [tyV_eq] at d
        simp only [go_sem, ↓reduceIte, Nat.reduceEqDiff, Nat.reduceAdd, Nat.reduceLeDiff, Nat.reduceLT, beq_self_eq_true, natlt, decide_eq_true hlt, natge0, tonat, tysGet, hx, tyV_eq, d]
        refine h (i + 1, a2) _ ⟨by omega, by simp only; omega, hf⟩ (by simp only; omega) ?_
        simp only [go_sem, ↓reduceIte, Nat.reduceEqDiff, w1]
      · have hie : i = t.args.length := by omega
        subst hie
        rw [List.drop_length, freeTs_nil] at hf
        subst hf
        simp only [go_sem, ↓reduceIte, Nat.reduceEqDiff, Nat.reduceAdd, beq_self_eq_true, decide_false, natlt, Nat.lt_irrefl]
  · rw [h5] at hb'
    simp only [if_true] at hb'
    have hc : den E 162 [.pmap (entsV b)] [] = some (.own mapT 0 (entsV b), []) := den_prim prim_162
    have hu := upd_ents t.name b
    rw [← hb'] at hu
    clear hb'
    simp only [go_sem, ↓reduceIte, Nat.reduceEqDiff, Nat.reduceAdd, Nat.reduceLeDiff, Nat.zero_ne_one, Nat.one_ne_zero, Nat.reduceLT, reduceCtorEq, beq_self_eq_true, Tryz.f169, d0, h5, tysV_len, hc, hu]
    refine run_ind (fun x : Nat × List (List UInt8) => x.1 ≤ t.args.length ∧ x.2.length + Ty.szs (t.args.drop x.1) ≤ a0.length + Ty.szs t.args ∧ freeTs (t.args.drop x.1) b' x.2 = freeTs t.args b' a0)
      (fun x => ⟨[(1, .pmap (entsV b')), (2, .func 170 [] [.ptr (.par 0) 0]), (21, .slice (tysV t.args)), (22, .int .i64 t.args.length), (23, .int .i64 x.1)], [[.own 9 0 (x.2.map .str)]], [], 1⟩)
      (fun _ => some (.tup [], [[.own 9 0 ((freeTs t.args b' a0).map .str)]])) (fun x => t.args.length - x.1) (0, a0) ⟨Nat.zero_le _, by simp, rfl⟩ ?_ ?_
    · simp only [go_sem, ↓reduceIte, Nat.reduceEqDiff, Nat.zero_ne_one, reduceCtorEq, Int.cast_ofNat_Int]
    · rintro ⟨i, a1⟩ ⟨hi, ha, hf⟩ h
      simp only at hi ha hf h ⊢
      by_cases hlt : i < t.args.length
      · obtain ⟨x, hx⟩ := getS hlt
        have hxs := szs_mem (List.mem_of_getElem? hx)
        rw [dropGet hx, szs_cons] at ha
        rw [dropGet hx, freeTs_cons] at hf
        have w1 : IntKind.i64.wrap ((i : Int) + 1) = ((i + 1 : Nat) : Int) := wrapN (i + 1) (by have := args_len t; omega)
        have d := ih x (by omega) b' a1 (by omega)
        have hl := freeT_le _ x (Nat.le_refl _) b' a1
        generalize freeT x b' a1 = a2 at *
        rw [tyV_eq] at d
        simp only [go_sem, ↓reduceIte, Nat.reduceEqDiff, Nat.reduceAdd, Nat.reduceLeDiff, Nat.reduceLT, beq_self_eq_true, natlt, decide_eq_true hlt, natge0, tonat, tysGet, hx, tyV_eq, d]
        refine h (i + 1, a2) _ ⟨by omega, by simp only; omega, hf⟩ (by simp only; omega) ?_
        simp only [go_sem, ↓reduceIte, Nat.reduceEqDiff, w1]
      · have hie : i = t.args.length := by omega
        subst hie
        rw [List.drop_length, freeTs_nil] at hf
        subst hf
        simp only [go_sem, ↓reduceIte, Nat.reduceEqDiff, Nat.reduceAdd, beq_self_eq_true, decide_false, natlt, Nat.lt_irrefl]
theorem tfree_den (t : Ty) (h : t.sz < 1000000) : den E 141 [tyV t] [] = some (.own 9 0 ((freeT t [] []).map .str), []) := by
  have d := twalk_den _ t (Nat.le_refl _) [] [] (by simpa using h)
  rw [den_eq prim_141, body_141]
  rw [show entsV [] = [] from rfl] at d
  rw [tyV_eq] at d ⊢
  simp only [List.map_nil] at d
  simp only [go_sem, ↓reduceIte, Nat.reduceEqDiff, Nat.reduceAdd, Nat.reduceLeDiff, Nat.zero_ne_one, Nat.reduceLT, reduceCtorEq, beq_self_eq_true, Tryz.f141, d]
end Go.Proofs
namespace Go.Proofs
open Go.Av
set_option maxHeartbeats 16000000
set_option maxRecDepth 100000
/-! a name that none of these is -/
theorem itoa_ne (n : Nat) : Lib.itoa (n : Int) ≠ [] := by
  by_cases h : n < 10
  · rw [dig_lt n h]; simp
  · rw [dig_ge n (by omega)]; simp
theorem dig_inj {a b : Nat} (ha : a < 10) (hb : b < 10) (h : UInt8.ofNat (48 + a) = UInt8.ofNat (48 + b)) : a = b := by
  have := congrArg UInt8.toNat h
  simp only [UInt8.toNat_ofNat'] at this
  omega
theorem itoa_inj : ∀ (i j : Nat), Lib.itoa (i : Int) = Lib.itoa (j : Int) → i = j
  | i, j, h => by
    by_cases hi : i < 10
    · rw [dig_lt i hi] at h
      by_cases hj : j < 10
      · rw [dig_lt j hj] at h
        injection h with h _
        exact dig_inj hi hj h
      · rw [dig_ge j (by omega)] at h
        have h2 := congrArg List.length h
        have h3 : 0 < (Lib.itoa ((j / 10 : Nat) : Int)).length := List.length_pos_iff.2 (itoa_ne _)
        simp only [List.length_append, List.length_singleton] at h2
        omega
    · rw [dig_ge i (by omega)] at h
      by_cases hj : j < 10
      · rw [dig_lt j hj] at h
        have h2 := congrArg List.length h
        have h3 : 0 < (Lib.itoa ((i / 10 : Nat) : Int)).length := List.length_pos_iff.2 (itoa_ne _)
        simp only [List.length_append, List.length_singleton] at h2
        omega
      · rw [dig_ge j (by omega)] at h
        obtain ⟨h1, h2⟩ := List.append_inj' h rfl
        have := itoa_inj (i / 10) (j / 10) h1
        injection h2 with h2 _
        have := dig_inj (Nat.mod_lt _ (by omega)) (Nat.mod_lt _ (by omega)) h2
        omega
theorem pig {f : Nat → List UInt8} : ∀ (n : Nat) (l : List (List UInt8)), (∀ i j, i < n → j < n → f i = f j → i = j) → (∀ i, i < n → f i ∈ l) → n ≤ l.length
  | 0, l, _, _ => Nat.zero_le _
  | n + 1, l, hinj, hm => by
    have h1 := hm n (by omega)
    have h2 := pig n (l.erase (f n)) (fun i j hi hj => hinj i j (by omega) (by omega)) (fun i hi => (List.mem_erase_of_ne (fun e => by have := hinj i n (by omega) (by omega) e; omega)).2 (hm i (by omega)))
    rw [List.length_erase_of_mem h1] at h2
    have : 0 < l.length := List.length_pos_of_mem h1
    omega
/-- the first number whose text is none of a list -/
theorem first_free (f : Nat → List UInt8) (hinj : ∀ i j, f i = f j → i = j) (l : List (List UInt8)) : ∃ i, i ≤ l.length ∧ l.contains (f i) = false ∧ ∀ j, j < i → l.contains (f j) = true := by
  have ex : ∃ i, i ≤ l.length ∧ l.contains (f i) = false := by
    refine Classical.byContradiction fun hc => ?_
    have := pig (f := f) (l.length + 1) l (fun i j _ _ => hinj i j) (fun i hi => by
      have : ¬ l.contains (f i) = false := fun h => hc ⟨i, by omega, h⟩
      simpa using this)
    omega
  have key : ∀ n i, i ≤ n → i ≤ l.length → l.contains (f i) = false → ∃ i, i ≤ l.length ∧ l.contains (f i) = false ∧ ∀ j, j < i → l.contains (f j) = true := by
    intro n
    induction n with
    | zero => intro i h1 h2 h3; exact ⟨i, h2, h3, fun j hj => by omega⟩
    | succ n ih =>
      intro i h1 h2 h3
      by_cases hs : ∃ j, j < i ∧ l.contains (f j) = false
      · obtain ⟨j, h4, h5⟩ := hs
        exact ih j (by omega) (by omega) h5
      · refine ⟨i, h2, h3, fun j hj => ?_⟩
        cases hq : l.contains (f j)
        · exact absurd ⟨j, hj, hq⟩ hs
        · rfl
  obtain ⟨i, h1, h2⟩ := ex
  exact key i i (Nat.le_refl _) h1 h2
def candF (s : List UInt8) (i : Nat) : List UInt8 := s.take 1 ++ [95] ++ Lib.itoa (i : Int)
theorem cand_inj (s : List UInt8) (i j : Nat) (h : candF s i = candF s j) : i = j := by
  unfold candF at h
  exact itoa_inj i j (List.append_cancel_left h)
theorem fitoa_den (n : Nat) (h : n < 1000000000) : den E 93 [.int .i64 n] [] = some (.str (Lib.itoa n), []) := by
  rw [den_prim prim_93]
  unfold itoaP
  simp only
  rw [if_pos (by omega)]
theorem fresh_den (s : List UInt8) (but : List (List UInt8)) (hs : s ≠ []) (hl : s.length ≤ 1000) (hb : but.length < 1000000) : ∃ i, i ≤ but.length ∧ but.contains (candF s i) = false ∧ den E 180 [.str s, .slice (but.map .str)] [] = some (.str (candF s i), []) := by
  obtain ⟨i0, h1, h2, h3⟩ := first_free (candF s) (cand_inj s) but
  refine ⟨i0, h1, h2, ?_⟩
  rw [den_eq prim_180, body_180]
  have hl1 : 1 ≤ s.length := List.length_pos_iff.2 hs
  have l1 : (s.take 1).length + 1 ≤ strMax := by rw [List.length_take]; unfold strMax; omega
  simp only [go_sem, ↓reduceIte, Nat.reduceEqDiff, Nat.reduceAdd, reduceCtorEq, Tryz.f180]
  refine run_ind (fun i : Nat => i ≤ i0) (fun i => ⟨[(0, .str s), (1, .slice (but.map .str)), (5, .int .i64 i)], [], [], 1⟩) (fun _ => some (.str (candF s i0), [])) (fun i => i0 - i) 0 (Nat.zero_le _) ?_ ?_
  · simp only [go_sem, ↓reduceIte, Nat.reduceEqDiff, Nat.zero_ne_one, reduceCtorEq, Int.cast_ofNat_Int]
  · intro i hi h
    have w1 : IntKind.i64.wrap ((i : Int) + 1) = ((i + 1 : Nat) : Int) := wrapN (i + 1) (by omega)
    have d1 := fitoa_den i (by omega)
    have dc := contains_den but (candF s i) hb
    have l2 : (s.take 1 ++ [95]).length + (Lib.itoa (i : Int)).length ≤ strMax := by
      have := itoa_len 8 i (by have e : (10 : Nat) ^ (8 + 1) = 1000000000 := by decide
                               omega)
      rw [List.length_append, List.length_take]; unfold strMax; simp; omega
    by_cases hlt : i < i0
    · rw [h3 i hlt] at dc
      unfold candF at dc
      simp only [go_sem, ↓reduceIte, Nat.reduceEqDiff, Nat.reduceAdd, Nat.zero_ne_one, reduceCtorEq, hl1, Nat.zero_le, l1, l2, d1, dc, Int.toNat_one, Int.zero_le_ofNat]
      refine h (i + 1) _ (by omega) (by omega) ?_
      simp only [go_sem, ↓reduceIte, Nat.reduceEqDiff, Nat.zero_ne_one, reduceCtorEq, w1]
    · have hie : i = i0 := by omega
      subst hie
      rw [h2] at dc
      unfold candF at dc ⊢
      simp only [go_sem, ↓reduceIte, Nat.reduceEqDiff, Nat.reduceAdd, Nat.zero_ne_one, reduceCtorEq, hl1, Nat.zero_le, l1, l2, d1, dc, Int.toNat_one, Int.zero_le_ofNat]
end Go.Proofs
namespace Go.Proofs
open Go.Av
set_option maxHeartbeats 16000000
set_option maxRecDepth 100000
/-! an array that is filled, cell by cell -/
def tyC (t : Ty) : List AVal := [.int .i64 t.kind, .str t.name, .int .i64 t.n, .slice (tysV t.args)]
theorem tyC_len (t : Ty) : (tyC t).length = 4 := rfl
def zC : List AVal := [.int .i64 0, .str [], .int .i64 0, .own 35 0 []]
def cellsA (ys : List Ty) (n i : Nat) : List AVal := (ys.take i).flatMap tyC ++ repA (n - i) zC
theorem repA_map (f : AVal → AVal) (z : List AVal) : ∀ n, (repA n z).map f = repA n (z.map f)
  | 0 => rfl
  | n + 1 => by rw [repA, List.map_append, repA_map f z n]; rfl
theorem tyC_flat_len : ∀ l : List Ty, (l.flatMap tyC).length = l.length * 4
  | [] => rfl
  | t :: l => by rw [List.flatMap_cons, List.length_append, tyC_flat_len l, tyC_len, List.length_cons]; omega
theorem cellsA_len {ys : List Ty} {n i : Nat} (h : ys.length = n) (hi : i ≤ n) : (cellsA ys n i).length = n * 4 := by
  unfold cellsA
  rw [List.length_append, tyC_flat_len, repA_len, List.length_take]
  have : zC.length = 4 := rfl
  rw [this]; omega
theorem tyC_head (t : Ty) : (tyC t).map stampH = tyC t := rfl
theorem flat_head : ∀ l : List Ty, (l.flatMap tyC).map stampH = l.flatMap tyC
  | [] => rfl
  | t :: l => by rw [List.flatMap_cons, List.map_append, tyC_head, flat_head l]
theorem cellsA_head (ys : List Ty) (n i : Nat) : (cellsA ys n i).map stampH = cellsA ys n i := by
  unfold cellsA
  rw [List.map_append, flat_head, repA_map]; rfl
theorem cellsA_new (ys : List Ty) (n m : Nat) : ((repA n zC).map (stamp1 m)).map stampH = cellsA ys n 0 := by
  rw [repA_map, repA_map]; rfl
theorem flat_names : ∀ l : List Ty, (l.flatMap tyC).flatMap names1 = []
  | [] => rfl
  | t :: l => by rw [List.flatMap_cons, List.flatMap_append, flat_names l]; rfl
theorem repA_names : ∀ n, (repA n zC).flatMap names1 = []
  | 0 => rfl
  | n + 1 => by rw [repA, List.flatMap_append, repA_names n]; rfl
theorem cellsA_names (ys : List Ty) (n i : Nat) : (cellsA ys n i).flatMap names1 = [] := by
  unfold cellsA
  rw [List.flatMap_append, flat_names, repA_names]; rfl
theorem cellsA_put {ys : List Ty} {n i : Nat} (hl : ys.length = n) {y : Ty} (hy : ys[i]? = some y) :
    (cellsA ys n i).take (i * 4) ++ (.int .i64 y.kind :: .str y.name :: .int .i64 y.n :: .slice (tysV y.args) :: (cellsA ys n i).drop (i * 4 + 4)) = cellsA ys n (i + 1) := by
  have hi : i < n := by have := (List.getElem?_eq_some_iff.1 hy).1; omega
  unfold cellsA
  have h1 : ((ys.take i).flatMap tyC).length = i * 4 := by rw [tyC_flat_len, List.length_take]; omega
  have h2 : n - i = (n - (i + 1)) + 1 := by omega
  have h3 : zC.length = 4 := rfl
  rw [List.take_left' h1, take_snoc hy, List.flatMap_append, h2, repA, ← h1, List.drop_length_add_append, ← h3, List.drop_left]
  simp only [List.flatMap_cons, List.flatMap_nil, List.append_nil, tyC, List.append_assoc, List.cons_append, List.nil_append]
theorem cellsA_end {ys : List Ty} {n : Nat} (hl : ys.length = n) : cellsA ys n n = ys.flatMap tyC := by
  unfold cellsA
  rw [List.take_of_length_le (by omega), Nat.sub_self]; simp [repA]
theorem flat_strip : ∀ l : List Ty, (l.flatMap tyC).map strip1 = l.flatMap tyC
  | [] => rfl
  | t :: l => by rw [List.flatMap_cons, List.map_append, flat_strip l]; rfl
theorem flat_pure : ∀ l : List Ty, (l.flatMap tyC).all pure1 = true
  | [] => rfl
  | t :: l => by rw [List.flatMap_cons, List.all_append, flat_pure l]; rfl
theorem flat_chunks : ∀ (l : List Ty), chunks true 4 l.length (l.flatMap tyC) = tysV l
  | [] => by rw [tysV_nil]; rfl
  | t :: l => by
    rw [List.length_cons, chunks, List.flatMap_cons, tysV_cons, tyV_eq]
    have h4 : (tyC t).length = 4 := rfl
    rw [List.take_left' h4, ← h4, List.drop_left, h4, flat_chunks l]; rfl
theorem withA_den (t : Ty) (ys : List Ty) (a b : List UInt8) (hl : ys.length = t.args.length) (hb : t.sz < 1000000)
    (hc : ∀ (i : Nat) (x y : Ty), t.args[i]? = some x → ys[i]? = some y → den E 181 [tyV x, .ptr (.par 0) 0, .ptr (.par 1) 0] [[.str a], [.str b]] = some (tyV y, [[.str a], [.str b]])) :
    den E 167 [tyV t, .func 181 [] [.ptr (.par 0) 0, .ptr (.par 1) 0]] [[.str a], [.str b]] = some (tyV (.mk t.kind t.name t.n ys), [[.str a], [.str b]]) := by
  rw [den_eq prim_167, body_167]
  have hal := args_len t
  have rl := tysV_len t.args
  have n0 := nat_eq0 t.args.length
  by_cases h0 : t.args = []
  · have hy : ys = [] := List.eq_nil_of_length_eq_zero (by rw [hl, h0]; rfl)
    subst hy
    rw [tyV_mk, tyV_eq]
    rw [h0] at n0
    simp only [go_sem, ↓reduceIte, Nat.reduceEqDiff, Nat.reduceAdd, Nat.reduceLeDiff, Nat.one_ne_zero, Nat.reduceLT, reduceCtorEq, beq_self_eq_true, Int.cast_ofNat_Int, Tryz.f167, h0, tysV_nil]
  · have h0' : ¬ t.args.length = 0 := fun e => h0 (List.eq_nil_of_length_eq_zero e)
    rw [decide_eq_false h0'] at n0
    rw [tyV_mk, tyV_eq]
    obtain ⟨n, hn⟩ : ∃ n, n = t.args.length := ⟨_, rfl⟩
    rw [← hn] at hl n0 rl
    have l1 : ((n : Int) ≤ 1073741824) = True := by simp; omega
    have hz : ∀ m, List.map stampH (List.map (stamp1 m) (repA n [.int .i64 0, .str [], .int .i64 0, .own 35 0 []])) = cellsA ys n 0 := fun m => cellsA_new ys n m
    obtain ⟨fin, hfin⟩ : ∃ fin, fin = (some (.agg [.int .i64 t.kind, .str t.name, .int .i64 t.n, .slice (tysV ys)], [[.str a], [.str b]]) : Option (AVal × Heap)) := ⟨_, rfl⟩
    try rw [← hn] at hfin
    try rw [← hn]
    rw [← hfin]
    simp only [go_sem, ↓reduceIte, Nat.reduceEqDiff, Nat.reduceAdd, Nat.one_ne_zero, Nat.reduceLT, reduceCtorEq, Tryz.f167, rl, n0, natge0, tonat, l1]
    refine run_for (fun i => ⟨[(1, .func 181 [] [.ptr (.par 0) 0, .ptr (.par 1) 0]), (2, .ptr (.loc 2) 0), (4, .ptr (.loc 4) 0), (5, .ptr (.loc 16) (bsBase + n)), (18, .slice (tysV t.args)), (19, .int .i64 n), (20, .int .i64 i)], [[.str a], [.str b]], [(2, tyC t), (4, zC), (16, cellsA ys n i)], 1⟩) n ?_ ?_ ?_
    · simp only [go_sem, ↓reduceIte, Nat.reduceEqDiff, Nat.zero_ne_one, reduceCtorEq, Int.cast_ofNat_Int, hz, cellsA_names, tyC, zC]
    · intro i hi h
      have hia : i < t.args.length := by omega
      have hiy : i < ys.length := by omega
      obtain ⟨x, hx⟩ := getS hia
      obtain ⟨y, hy⟩ := getS hiy
      have d := hc i x y hx hy
      have hxs := szs_mem (List.mem_of_getElem? hx)
      have hsz := sz_eq t
      have w1 : IntKind.i64.wrap ((i : Int) + 1) = ((i + 1 : Nat) : Int) := wrapN (i + 1) (by omega)
      have i1 : ((i : Int) < (n : Int)) = True := by simp; omega
      have i2 : (i * 4 < bsBase) = True := by rw [bsBase_eq]; simp; omega
      have cl : (cellsA ys n i).length = n * 4 := cellsA_len hl (by omega)
      have i3 : (i * 4 + 4 ≤ n * 4) = True := by simp; omega
      have hput := cellsA_put hl hy
      rw [tyV_eq, tyV_eq] at d
      simp only [go_sem, ↓reduceIte, Nat.reduceEqDiff, Nat.reduceAdd, Nat.reduceLeDiff, Nat.reduceLT, Nat.reduceBEq, reduceCtorEq, beq_self_eq_true, decide_true, ne_eq, not_false_eq_true, natge0, tonat, tysGet, hx, tyV_eq, tyC, zC, d, i1, i2, cl, i3]
      refine h _ ?_
      simp only [go_sem, ↓reduceIte, Nat.reduceEqDiff, w1, hput, cellsA_head, cellsA_names, tyC, zC]
    · have cl : (cellsA ys n n).length = n * 4 := cellsA_len hl (Nat.le_refl _)
      have ce := cellsA_end hl
      have ch := flat_chunks ys
      rw [hl] at ch
      rw [ce] at cl
      simp only [go_sem, ↓reduceIte, Nat.reduceEqDiff, Nat.reduceAdd, Nat.reduceLeDiff, Nat.one_ne_zero, Nat.reduceLT, Nat.reduceBEq, beq_self_eq_true, decide_false, natlt, Nat.lt_irrefl, true_or, tyC, zC, ce, cl, flat_strip, flat_pure, ch, hfin]
theorem withB_den (t : Ty) (ys : List Ty) (fr : List AVal) (ns : Nat → Int) (hl : ys.length = t.args.length) (hb : t.sz < 1000000)
    (hc : ∀ (i : Nat) (x y : Ty), t.args[i]? = some x → ys[i]? = some y → den E 168 [tyV x, .ptr (.par 0) 0, .ptr (.par 1) 0] [[.slice fr], [.int .i64 (ns i)]] = some (tyV y, [[.slice fr], [.int .i64 (ns (i + 1))]])) :
    den E 167 [tyV t, .func 168 [] [.ptr (.par 0) 0, .ptr (.par 1) 0]] [[.slice fr], [.int .i64 (ns 0)]] = some (tyV (.mk t.kind t.name t.n ys), [[.slice fr], [.int .i64 (ns t.args.length)]]) := by
  rw [den_eq prim_167, body_167]
  have hal := args_len t
  have rl := tysV_len t.args
  have n0 := nat_eq0 t.args.length
  by_cases h0 : t.args = []
  · have hy : ys = [] := List.eq_nil_of_length_eq_zero (by rw [hl, h0]; rfl)
    subst hy
    rw [tyV_mk, tyV_eq]
    rw [h0] at n0
    simp only [go_sem, ↓reduceIte, Nat.reduceEqDiff, Nat.reduceAdd, Nat.reduceLeDiff, Nat.one_ne_zero, Nat.reduceLT, reduceCtorEq, beq_self_eq_true, Int.cast_ofNat_Int, Tryz.f167, h0, tysV_nil]
  · have h0' : ¬ t.args.length = 0 := fun e => h0 (List.eq_nil_of_length_eq_zero e)
    rw [decide_eq_false h0'] at n0
    rw [tyV_mk, tyV_eq]
    obtain ⟨n, hn⟩ : ∃ n, n = t.args.length := ⟨_, rfl⟩
    rw [← hn] at hl n0 rl
    have l1 : ((n : Int) ≤ 1073741824) = True := by simp; omega
    have hz : ∀ m, List.map stampH (List.map (stamp1 m) (repA n [.int .i64 0, .str [], .int .i64 0, .own 35 0 []])) = cellsA ys n 0 := fun m => cellsA_new ys n m
    obtain ⟨fin, hfin⟩ : ∃ fin, fin = (some (.agg [.int .i64 t.kind, .str t.name, .int .i64 t.n, .slice (tysV ys)], [[.slice fr], [.int .i64 (ns t.args.length)]]) : Option (AVal × Heap)) := ⟨_, rfl⟩
    try rw [← hn] at hfin
    try rw [← hn]
    rw [← hfin]
    simp only [go_sem, ↓reduceIte, Nat.reduceEqDiff, Nat.reduceAdd, Nat.one_ne_zero, Nat.reduceLT, reduceCtorEq, Tryz.f167, rl, n0, natge0, tonat, l1]
    refine run_for (fun i => ⟨[(1, .func 168 [] [.ptr (.par 0) 0, .ptr (.par 1) 0]), (2, .ptr (.loc 2) 0), (4, .ptr (.loc 4) 0), (5, .ptr (.loc 16) (bsBase + n)), (18, .slice (tysV t.args)), (19, .int .i64 n), (20, .int .i64 i)], [[.slice fr], [.int .i64 (ns i)]], [(2, tyC t), (4, zC), (16, cellsA ys n i)], 1⟩) n ?_ ?_ ?_
    · simp only [go_sem, ↓reduceIte, Nat.reduceEqDiff, Nat.zero_ne_one, reduceCtorEq, Int.cast_ofNat_Int, hz, cellsA_names, tyC, zC]
    · intro i hi h
      have hia : i < t.args.length := by omega
      have hiy : i < ys.length := by omega
      obtain ⟨x, hx⟩ := getS hia
      obtain ⟨y, hy⟩ := getS hiy
      have d := hc i x y hx hy
      have hxs := szs_mem (List.mem_of_getElem? hx)
      have hsz := sz_eq t
      have w1 : IntKind.i64.wrap ((i : Int) + 1) = ((i + 1 : Nat) : Int) := wrapN (i + 1) (by omega)
      have i1 : ((i : Int) < (n : Int)) = True := by simp; omega
      have i2 : (i * 4 < bsBase) = True := by rw [bsBase_eq]; simp; omega
      have cl : (cellsA ys n i).length = n * 4 := cellsA_len hl (by omega)
      have i3 : (i * 4 + 4 ≤ n * 4) = True := by simp; omega
      have hput := cellsA_put hl hy
      rw [tyV_eq, tyV_eq] at d
      simp only [go_sem, ↓reduceIte, Nat.reduceEqDiff, Nat.reduceAdd, Nat.reduceLeDiff, Nat.reduceLT, Nat.reduceBEq, reduceCtorEq, beq_self_eq_true, decide_true, ne_eq, not_false_eq_true, natge0, tonat, tysGet, hx, tyV_eq, tyC, zC, d, i1, i2, cl, i3]
      refine h _ ?_
      simp only [go_sem, ↓reduceIte, Nat.reduceEqDiff, w1, hput, cellsA_head, cellsA_names, tyC, zC]
    · have cl : (cellsA ys n n).length = n * 4 := cellsA_len hl (Nat.le_refl _)
      have ce := cellsA_end hl
      have ch := flat_chunks ys
      rw [hl] at ch
      rw [ce] at cl
      simp only [go_sem, ↓reduceIte, Nat.reduceEqDiff, Nat.reduceAdd, Nat.reduceLeDiff, Nat.one_ne_zero, Nat.reduceLT, Nat.reduceBEq, beq_self_eq_true, decide_false, natlt, Nat.lt_irrefl, true_or, tyC, zC, ce, cl, flat_strip, flat_pure, ch, hfin]
end Go.Proofs
namespace Go.Proofs
open Go.Av
set_option maxHeartbeats 16000000
set_option maxRecDepth 100000
/-! a free variable gets another name -/
theorem ren1_den {x y : Ty} {a b : List UInt8} (h : den E 166 [tyV x, .str a, .str b] [] = some (tyV y, [])) :
    den E 181 [tyV x, .ptr (.par 0) 0, .ptr (.par 1) 0] [[.str a], [.str b]] = some (tyV y, [[.str a], [.str b]]) := by
  rw [den_eq prim_181, body_181]
  rw [tyV_eq, tyV_eq] at h ⊢
  simp only [go_sem, ↓reduceIte, Nat.reduceEqDiff, Nat.reduceAdd, Nat.reduceLeDiff, Nat.zero_ne_one, Nat.reduceLT, reduceCtorEq, Tryz.f181, h]
theorem renT_plain (t : Ty) (ys : List Ty) (a b : List UInt8) (hl : ys.length = t.args.length) (hb : t.sz < 1000000)
    (hc : ∀ (i : Nat) (x y : Ty), t.args[i]? = some x → ys[i]? = some y → den E 166 [tyV x, .str a, .str b] [] = some (tyV y, []))
    (h1 : (t.kind == 1 && t.name == a) = false) (h2 : (t.kind == 5 && t.name == a) = false) (h3 : (t.kind == 5 && t.name == b) = false) :
    den E 166 [tyV t, .str a, .str b] [] = some (tyV (.mk t.kind t.name t.n ys), []) := by
  have d := withA_den t ys a b hl hb fun i x y hx hy => ren1_den (hc i x y hx hy)
  rw [den_eq prim_166, body_166]
  rw [tyV_mk, tyV_eq] at d ⊢
  cases k1 : t.kind == 1 <;> cases k5 : t.kind == 5 <;> cases na : t.name == a <;> cases nb : t.name == b <;> simp only [k1, k5, na, nb, Bool.and_true, Bool.and_false, Bool.true_eq_false] at h1 h2 h3 <;>
  simp only [go_sem, ↓reduceIte, Nat.reduceEqDiff, Nat.reduceAdd, Nat.reduceLeDiff, Nat.zero_ne_one, Nat.one_ne_zero, Nat.reduceLT, Nat.reduceBEq, reduceCtorEq, beq_self_eq_true, Tryz.f166, k1, k5, na, nb, d]
theorem ren_var (t : Ty) (a b : List UInt8) (h1 : (t.kind == 1) = true) (h2 : (t.name == a) = true) : den E 166 [tyV t, .str a, .str b] [] = some (tyV (.mk t.kind b t.n t.args), []) := by
  rw [den_eq prim_166, body_166, tyV_mk, tyV_eq]
  simp only [go_sem, ↓reduceIte, Nat.reduceEqDiff, Nat.reduceAdd, Nat.reduceLeDiff, Nat.zero_ne_one, Nat.one_ne_zero, Nat.reduceLT, reduceCtorEq, beq_self_eq_true, Tryz.f166, h1, h2]
theorem ren_hide (t : Ty) (a b : List UInt8) (h0 : (t.kind == 1) = false) (h1 : (t.kind == 5) = true) (h2 : (t.name == a) = true) : den E 166 [tyV t, .str a, .str b] [] = some (tyV t, []) := by
  rw [den_eq prim_166, body_166, tyV_eq]
  simp only [go_sem, ↓reduceIte, Nat.reduceEqDiff, Nat.reduceAdd, Nat.reduceLeDiff, Nat.zero_ne_one, Nat.one_ne_zero, Nat.reduceLT, reduceCtorEq, beq_self_eq_true, Tryz.f166, h0, h1, h2]
theorem ren_fresh (t x x' y : Ty) (a b c : List UInt8) (hx : t.args = [x]) (h0 : (t.kind == 1) = false) (h1 : (t.kind == 5) = true) (h2 : (t.name == a) = false) (h3 : (t.name == b) = true) (hb : t.sz < 300000) (hs : x'.sz = x.sz)
    (hd : den E 180 [.str b, .slice ((freeT x [] [] ++ [a, b]).map .str)] [] = some (.str c, [])) (r1 : den E 166 [tyV x, .str b, .str c] [] = some (tyV x', [])) (r2 : den E 166 [tyV x', .str a, .str b] [] = some (tyV y, [])) :
    den E 166 [tyV t, .str a, .str b] [] = some (tyV (.mk 5 c 0 [y]), []) := by
  have hsz := sz_eq t
  rw [hx, szs_one] at hsz
  have d := withA_den (.mk 5 c 0 [x']) [y] a b rfl (by rw [sz_mk, szs_one]; omega) fun i u v hu hv => ren1_den (by
    cases i with
    | zero => simp [Ty.args] at hu hv; subst hu hv; exact r2
    | succ i => simp [Ty.args] at hu)
  have df := tfree_den x (by omega)
  have hle := freeT_le _ x (Nat.le_refl _) [] []
  have a1 : (freeT x [] []).length + 2 ≤ appMax := by unfold appMax; simp at hle; omega
  rw [den_eq prim_166, body_166]
  simp only [tyV_mk, tysV_cons, tysV_nil, Ty.kind, Ty.name, Ty.n] at d
  simp only [List.map_append, List.map_cons, List.map_nil] at hd
  rw [tyV_mk, tysV_cons, tysV_nil]
  rw [tyV_eq] at r1 r2 d df ⊢
  rw [tyV_eq y] at r2 d ⊢
  rw [tyV_eq x'] at r1
  rw [hx, tysV_cons, tysV_nil, tyV_eq]
  simp only [go_sem, ↓reduceIte, Nat.reduceEqDiff, Nat.reduceAdd, Nat.reduceMul, Nat.reduceLeDiff, Nat.zero_ne_one, Nat.one_ne_zero, Nat.reduceLT, Nat.reduceBEq, reduceCtorEq, beq_self_eq_true, decide_true, Tryz.f166, h0, h1, h2, h3, Int.le_refl, Int.toNat_zero, df, a1, List.length_map, hd, r1, d]
theorem cand_len (b : List UInt8) (i : Nat) (h : i < 1000000) : candF b i ≠ [] ∧ (candF b i).length ≤ 16 := by
  have := itoa_len 5 i (by have e : (10 : Nat) ^ (5 + 1) = 1000000 := by decide
                           omega)
  unfold candF
  refine ⟨by simp, ?_⟩
  rw [List.length_append, List.length_append, List.length_take, List.length_singleton]; omega
theorem list_ex {α β : Type} {R : α → β → Prop} : ∀ (l : List α), (∀ x, x ∈ l → ∃ y, R x y) → ∃ ys : List β, ys.length = l.length ∧ ∀ (i : Nat) (x : α) (y : β), l[i]? = some x → ys[i]? = some y → R x y
  | [], _ => ⟨[], rfl, fun i x y h => by simp at h⟩
  | a :: l, h => by
    obtain ⟨b, hb⟩ := h a (List.mem_cons_self ..)
    obtain ⟨ys, h1, h2⟩ := list_ex l fun x hx => h x (List.mem_cons_of_mem _ hx)
    refine ⟨b :: ys, by simp [h1], fun i x y hx hy => ?_⟩
    cases i with
    | zero => simp at hx hy; subst hx hy; exact hb
    | succ i => exact h2 i x y (by simpa using hx) (by simpa using hy)
theorem szs_eq : ∀ {l m : List Ty}, m.length = l.length → (∀ (i : Nat) (x y : Ty), l[i]? = some x → m[i]? = some y → y.sz = x.sz) → Ty.szs m = Ty.szs l
  | [], [], _, _ => rfl
  | a :: l, b :: m, h, hs => by
    rw [szs_cons, szs_cons, hs 0 a b rfl rfl, szs_eq (by simpa using h) fun i x y hx hy => hs (i + 1) x y (by simpa using hx) (by simpa using hy)]
  | [], b :: m, h, _ => by simp at h
  | a :: l, [], h, _ => by simp at h
theorem mem_get {α : Type} {l : List α} {y : α} (h : y ∈ l) : ∃ i : Nat, l[i]? = some y := List.mem_iff_getElem?.1 h
theorem ren_ex : ∀ (n : Nat) (t : Ty), t.sz ≤ n → GT t → t.sz < 300000 → ∀ (a b : List UInt8), b ≠ [] → b.length ≤ 16 → ∃ r, den E 166 [tyV t, .str a, .str b] [] = some (tyV r, []) ∧ GT r ∧ r.sz = t.sz := by
  intro n
  induction n with
  | zero => intro t h; have := sz_eq t; omega
  | succ n ih =>
    intro t hn hg hb a b hb0 hb1
    have hsz := sz_eq t
    have kids : ∀ l : List Ty, (∀ x, x ∈ l → GT x) → Ty.szs l ≤ n → Ty.szs l < 300000 → ∃ ys : List Ty, ys.length = l.length ∧ ∀ (i : Nat) (x y : Ty), l[i]? = some x → ys[i]? = some y → den E 166 [tyV x, .str a, .str b] [] = some (tyV y, []) ∧ GT y ∧ y.sz = x.sz := by
      intro l hl h1 h2
      refine list_ex l fun x hx => ?_
      have := szs_mem hx
      exact ih x (by omega) (hl x hx) (by omega) a b hb0 hb1
    cases hg with
    | var s hs =>
      cases h : s == a
      · exact ⟨_, renT_plain (.mk 1 s 0 []) [] a b rfl (by omega) (fun i x y hx => by simp [Ty.args] at hx) (by simpa [Ty.kind, Ty.name] using h) rfl rfl, .var s hs, rfl⟩
      · exact ⟨_, ren_var (.mk 1 s 0 []) a b rfl h, .var b hb1, rfl⟩
    | unk m h1 h2 => exact ⟨_, renT_plain (.mk 2 [] m []) [] a b rfl (by omega) (fun i x y hx => by simp [Ty.args] at hx) rfl rfl rfl, .unk m h1 h2, rfl⟩
    | con s l hs hl =>
      rw [sz_mk] at hn hb
      obtain ⟨ys, h1, h2⟩ := kids l hl (by omega) (by omega)
      refine ⟨_, renT_plain (.mk 3 s 0 l) ys a b h1 (by rw [sz_mk]; omega) (fun i x y hx hy => (h2 i x y hx hy).1) rfl rfl rfl, .con s ys hs fun y hy => ?_, ?_⟩
      · obtain ⟨i, hi⟩ := mem_get hy
        have : i < l.length := by have := (List.getElem?_eq_some_iff.1 hi).1; omega
        obtain ⟨x, hx⟩ := getS this
        exact (h2 i x y hx hi).2.1
      · rw [sz_mk, sz_mk]
        exact congrArg (· + 1) (szs_eq h1 fun i x y hx hy => (h2 i x y hx hy).2.2)
    | fn u v hu hv =>
      rw [sz_mk, szs_two] at hn hb
      obtain ⟨u', d1, g1, s1⟩ := ih u (by omega) hu (by omega) a b hb0 hb1
      obtain ⟨v', d2, g2, s2⟩ := ih v (by omega) hv (by omega) a b hb0 hb1
      refine ⟨_, renT_plain (.mk 4 [] 0 [u, v]) [u', v'] a b rfl (by rw [sz_mk, szs_two]; omega) (fun i x y hx hy => ?_) rfl rfl rfl, .fn u' v' g1 g2, by simp only [sz_mk, szs_two, s1, s2]⟩
      match i with
      | 0 => simp [Ty.args] at hx hy; subst hx hy; exact d1
      | 1 => simp [Ty.args] at hx hy; subst hx hy; exact d2
      | i + 2 => simp [Ty.args] at hx
    | all s x hs hx =>
      rw [sz_mk, szs_one] at hn hb
      cases ha : s == a
      · cases hq : s == b
        · obtain ⟨y, d1, g1, s1⟩ := ih x (by omega) hx (by omega) a b hb0 hb1
          refine ⟨_, renT_plain (.mk 5 s 0 [x]) [y] a b rfl (by rw [sz_mk, szs_one]; omega) (fun i u v hu hv => ?_) rfl (by simpa [Ty.kind, Ty.name] using ha) (by simpa [Ty.kind, Ty.name] using hq), .all s y hs g1, by simp only [sz_mk, szs_one, s1]⟩
          match i with
          | 0 => simp [Ty.args] at hu hv; subst hu hv; exact d1
          | i + 1 => simp [Ty.args] at hu
        · have hle := freeT_le _ x (Nat.le_refl _) [] []
          simp only [List.length_nil, Nat.zero_add] at hle
          obtain ⟨i, hi, _, hd⟩ := fresh_den b (freeT x [] [] ++ [a, b]) hb0 (by omega) (by simp; omega)
          simp only [List.length_append, List.length_cons, List.length_nil] at hi
          obtain ⟨c0, c1⟩ := cand_len b i (by omega)
          obtain ⟨x', r1, g1, s1⟩ := ih x (by omega) hx (by omega) b (candF b i) c0 c1
          obtain ⟨y, r2, g2, s2⟩ := ih x' (by omega) g1 (by omega) a b hb0 hb1
          exact ⟨_, ren_fresh (.mk 5 s 0 [x]) x x' y a b (candF b i) rfl rfl rfl ha hq (by rw [sz_mk, szs_one]; omega) s1 hd r1 r2, .all _ y c1 g2, by rw [sz_mk, sz_mk, szs_one, szs_one, s2, s1]⟩
      · exact ⟨_, ren_hide (.mk 5 s 0 [x]) a b rfl rfl ha, .all s x hs hx, rfl⟩
end Go.Proofs
namespace Go.Proofs
open Go.Av
set_option maxHeartbeats 16000000
set_option maxRecDepth 100000
/-! canonical names -/
def candX (i : Nat) : List UInt8 := 120 :: Lib.itoa (i : Int)
theorem candX_inj (i j : Nat) (h : candX i = candX j) : i = j := itoa_inj i j (by unfold candX at h; injection h)
theorem candX_len (i : Nat) (h : i < 1000000000) : (candX i).length ≤ 16 ∧ candX i ≠ [] ∧ 1 + (Lib.itoa (i : Int)).length ≤ strMax := by
  have := itoa_len 8 i (by have e : (10 : Nat) ^ (8 + 1) = 1000000000 := by decide
                           omega)
  unfold candX strMax
  exact ⟨by simp; omega, by simp, by omega⟩
theorem num1_den {x y : Ty} {fr : List AVal} {k k' : Nat} (h : den E 140 [tyV x, .slice fr, .int .i64 k] [] = some (.tup [tyV y, .int .i64 k'], [])) :
    den E 168 [tyV x, .ptr (.par 0) 0, .ptr (.par 1) 0] [[.slice fr], [.int .i64 k]] = some (tyV y, [[.slice fr], [.int .i64 k']]) := by
  rw [den_eq prim_168, body_168]
  rw [tyV_eq, tyV_eq] at h ⊢
  simp only [go_sem, ↓reduceIte, Nat.reduceEqDiff, Nat.reduceAdd, Nat.reduceLeDiff, Nat.zero_ne_one, Nat.reduceLT, reduceCtorEq, Tryz.f168, h]
theorem num_plain (t : Ty) (ys : List Ty) (fr : List AVal) (ks : List Nat) (hl : ys.length = t.args.length) (hb : t.sz < 1000000) (hk : (t.kind == 5) = false)
    (hc : ∀ (i : Nat) (x y : Ty), t.args[i]? = some x → ys[i]? = some y → den E 140 [tyV x, .slice fr, .int .i64 (ks.getD i 0 : Nat)] [] = some (.tup [tyV y, .int .i64 (ks.getD (i + 1) 0 : Nat)], [])) :
    den E 140 [tyV t, .slice fr, .int .i64 (ks.getD 0 0 : Nat)] [] = some (.tup [tyV (.mk t.kind t.name t.n ys), .int .i64 (ks.getD t.args.length 0 : Nat)], []) := by
  have d := withB_den t ys fr (fun i => ((ks.getD i 0 : Nat) : Int)) hl hb fun i x y hx hy => num1_den (hc i x y hx hy)
  try simp only at d
  generalize ks.getD t.args.length 0 = k' at d ⊢
  generalize ks.getD 0 0 = k0 at d ⊢
  rw [den_eq prim_140, body_140]
  rw [tyV_mk, tyV_eq] at d ⊢
  simp only [go_sem, ↓reduceIte, Nat.reduceEqDiff, Nat.reduceAdd, Nat.reduceLeDiff, Nat.zero_ne_one, Nat.one_ne_zero, Nat.reduceLT, Nat.reduceBEq, reduceCtorEq, beq_self_eq_true, Tryz.f140, hk, d]
theorem num_all (t x x' y : Ty) (fr : List (List UInt8)) (k m k' : Nat) (hx : t.args = [x]) (hk : (t.kind == 5) = true) (hf : fr.length < 1000000) (hkm : k ≤ m) (hm : m < 999999999)
    (h2 : fr.contains (candX m) = false) (h3 : ∀ j, k ≤ j → j < m → fr.contains (candX j) = true) (hs : x'.sz < 300000)
    (r1 : den E 166 [tyV x, .str t.name, .str (candX m)] [] = some (tyV x', [])) (r2 : den E 140 [tyV x', .slice (fr.map .str), .int .i64 ((m + 1 : Nat) : Int)] [] = some (.tup [tyV y, .int .i64 k'], [])) :
    den E 140 [tyV t, .slice (fr.map .str), .int .i64 k] [] = some (.tup [tyV (.mk 5 (candX m) 0 [y]), .int .i64 k'], []) := by
  have d := withB_den (.mk 5 (candX m) 0 [x']) [y] (fr.map .str) (fun j => if j = 0 then ((m + 1 : Nat) : Int) else (k' : Int)) rfl (by rw [sz_mk, szs_one]; omega) fun j u v hu hv => by
    cases j with
    | zero => simp [Ty.args] at hu hv; subst hu hv; exact num1_den r2
    | succ j => simp [Ty.args] at hu
  have e1 : (Ty.mk 5 (candX m) 0 [x']).args.length = 1 := rfl
  rw [e1] at d
  simp only [if_true, Nat.one_ne_zero, if_false] at d
  simp only [tyV_mk, tysV_cons, tysV_nil, Ty.kind, Ty.name, Ty.n] at d
  rw [den_eq prim_140, body_140]
  have d0 := fitoa_den k (by omega)
  have m0 := (candX_len k (by omega)).2.2
  rw [tyV_mk, tysV_cons, tysV_nil]
  rw [tyV_eq] at r1 d ⊢
  rw [tyV_eq y] at d ⊢
  rw [tyV_eq x'] at r1
  rw [hx, tysV_cons, tysV_nil, tyV_eq]
  obtain ⟨fin, hfin⟩ : ∃ fin, fin = (some (.tup [.agg [.int .i64 5, .str (candX m), .int .i64 0, .slice [.agg [.int .i64 y.kind, .str y.name, .int .i64 y.n, .slice (tysV y.args)]]], .int .i64 k'], []) : Option (AVal × Heap)) := ⟨_, rfl⟩
  rw [← hfin]
  simp only [go_sem, ↓reduceIte, Nat.reduceEqDiff, Nat.reduceAdd, Nat.zero_ne_one, Nat.one_ne_zero, Nat.reduceLT, reduceCtorEq, Tryz.f140, hk, d0, m0]
  refine run_ind (fun j : Nat => k ≤ j ∧ j ≤ m) (fun j => ⟨[(3, .ptr (.loc 3) 0), (4, .ptr (.loc 4) 0), (5, .ptr (.loc 5) 0), (6, .ptr (.loc 6) 0), (8, .str (candX j))], [],
    [(3, [.int .i64 t.kind, .str t.name, .int .i64 t.n, .slice [.agg [.int .i64 x.kind, .str x.name, .int .i64 x.n, .slice (tysV x.args)]]]), (4, [.slice (fr.map .str)]), (5, [.int .i64 (j : Int)]), (6, [.int .i64 0, .str [], .int .i64 0, .own 35 0 []])], 1⟩)
    (fun _ => fin) (fun j => m - j) k ⟨Nat.le_refl _, hkm⟩ ?_ ?_
  · simp only [go_sem, ↓reduceIte, Nat.reduceEqDiff, reduceCtorEq, candX]
  · intro j hj h
    obtain ⟨q, w1, hq⟩ : ∃ q : Nat, IntKind.i64.wrap ((j : Int) + 1) = (q : Int) ∧ q = j + 1 := ⟨j + 1, wrapN (j + 1) (by omega), rfl⟩
    have dc := contains_den fr (candX j) hf
    by_cases hlt : j < m
    · rw [h3 j hj.1 hlt] at dc
      have d1 := fitoa_den q (by omega)
      have m1 := (candX_len q (by omega)).2.2
      simp only [go_sem, ↓reduceIte, Nat.reduceEqDiff, Nat.reduceAdd, Nat.reduceLeDiff, Nat.reduceLT, dc, w1, d1, m1]
      refine h q _ ⟨by omega, by omega⟩ (by omega) ?_
      simp only [go_sem, ↓reduceIte, Nat.reduceEqDiff, candX]
    · have hje : j = m := by omega
      subst hje
      rw [h2] at dc
      rw [← hq] at d
      simp only [go_sem, ↓reduceIte, Nat.reduceEqDiff, Nat.reduceAdd, Nat.reduceMul, Nat.reduceLeDiff, Nat.one_ne_zero, Nat.reduceLT, Nat.reduceBEq, beq_self_eq_true, dc, w1, Int.le_refl, Int.toNat_zero, r1, d, hfin]
theorem num_list {fr : List (List UInt8)} {B : Nat} : ∀ (l : List Ty), (∀ x, x ∈ l → ∀ k : Nat, k + x.sz * (fr.length + 1) ≤ B → ∃ (y : Ty) (k' : Nat), den E 140 [tyV x, .slice (fr.map .str), .int .i64 k] [] = some (.tup [tyV y, .int .i64 k'], []) ∧ GT y ∧ y.sz = x.sz ∧ k' ≤ k + x.sz * (fr.length + 1)) →
    ∀ k : Nat, k + Ty.szs l * (fr.length + 1) ≤ B → ∃ (ys : List Ty) (ks : List Nat), ks.getD 0 0 = k ∧ ys.length = l.length ∧ (ks.getD l.length 0) ≤ k + Ty.szs l * (fr.length + 1) ∧
      ∀ (i : Nat) (x y : Ty), l[i]? = some x → ys[i]? = some y → den E 140 [tyV x, .slice (fr.map .str), .int .i64 (ks.getD i 0 : Nat)] [] = some (.tup [tyV y, .int .i64 (ks.getD (i + 1) 0 : Nat)], []) ∧ GT y ∧ y.sz = x.sz
  | [], _, k, _ => ⟨[], [k], rfl, rfl, by simp [Ty.szs], fun i x y h => by simp at h⟩
  | a :: l, h, k, hk => by
    rw [szs_cons, Nat.add_mul] at hk
    obtain ⟨y, k', h1, h2, h3, h4⟩ := h a (List.mem_cons_self ..) k (by omega)
    obtain ⟨ys, ks, e1, e2, e3, e4⟩ := num_list l (fun x hx => h x (List.mem_cons_of_mem _ hx)) k' (by omega)
    refine ⟨y :: ys, k :: ks, rfl, by simp [e2], ?_, fun i x z hx hz => ?_⟩
    · rw [szs_cons, Nat.add_mul, List.length_cons, List.getD_cons_succ]; omega
    · cases i with
      | zero =>
        simp at hx hz; subst hx hz
        rw [List.getD_cons_zero, List.getD_cons_succ, e1]
        exact ⟨h1, h2, h3⟩
      | succ i =>
        rw [List.getD_cons_succ, List.getD_cons_succ]
        exact e4 i x z (by simpa using hx) (by simpa using hz)
theorem num_ex (fr : List (List UInt8)) (hf : fr.length < 1000000) : ∀ (n : Nat) (t : Ty), t.sz ≤ n → GT t → t.sz < 300000 → ∀ k : Nat, k + t.sz * (fr.length + 1) ≤ 900000000 →
    ∃ (y : Ty) (k' : Nat), den E 140 [tyV t, .slice (fr.map .str), .int .i64 k] [] = some (.tup [tyV y, .int .i64 k'], []) ∧ GT y ∧ y.sz = t.sz ∧ k' ≤ k + t.sz * (fr.length + 1) := by
  intro n
  induction n with
  | zero => intro t h; have := sz_eq t; omega
  | succ n ih =>
    intro t hn hg hb k hk
    have kids : ∀ l : List Ty, (∀ x, x ∈ l → GT x) → Ty.szs l ≤ n → Ty.szs l < 300000 → k + Ty.szs l * (fr.length + 1) ≤ 900000000 → ∃ (ys : List Ty) (ks : List Nat), ks.getD 0 0 = k ∧ ys.length = l.length ∧ (ks.getD l.length 0) ≤ k + Ty.szs l * (fr.length + 1) ∧
      ∀ (i : Nat) (x y : Ty), l[i]? = some x → ys[i]? = some y → den E 140 [tyV x, .slice (fr.map .str), .int .i64 (ks.getD i 0 : Nat)] [] = some (.tup [tyV y, .int .i64 (ks.getD (i + 1) 0 : Nat)], []) ∧ GT y ∧ y.sz = x.sz := by
      intro l hl h1 h2 h3
      exact num_list l (fun x hx k2 hk2 => by
        have := szs_mem hx
        exact ih x (by omega) (hl x hx) (by omega) k2 hk2) k h3
    have mono : ∀ a b : Nat, a ≤ b → a * (fr.length + 1) ≤ b * (fr.length + 1) := fun a b h => Nat.mul_le_mul_right _ h
    cases hg with
    | var s hs =>
      refine ⟨_, k, num_plain (.mk 1 s 0 []) [] _ [k] rfl (by omega) rfl (fun i x y hx => by simp [Ty.args] at hx), .var s hs, rfl, by omega⟩
    | unk m h1 h2 =>
      refine ⟨_, k, num_plain (.mk 2 [] m []) [] _ [k] rfl (by omega) rfl (fun i x y hx => by simp [Ty.args] at hx), .unk m h1 h2, rfl, by omega⟩
    | con s l hs hl =>
      rw [sz_mk] at hn hb hk ⊢
      have := mono (Ty.szs l) (Ty.szs l + 1) (by omega)
      obtain ⟨ys, ks, e0, e1, e2, e3⟩ := kids l hl (by omega) (by omega) (by omega)
      refine ⟨_, ks.getD l.length 0, e0 ▸ num_plain (.mk 3 s 0 l) ys _ ks e1 (by rw [sz_mk]; omega) rfl (fun i x y hx hy => (e3 i x y hx hy).1), .con s ys hs fun y hy => ?_, ?_, by omega⟩
      · obtain ⟨i, hi⟩ := mem_get hy
        have : i < l.length := by have := (List.getElem?_eq_some_iff.1 hi).1; omega
        obtain ⟨x, hx⟩ := getS this
        exact (e3 i x y hx hi).2.1
      · show (Ty.mk 3 s 0 ys).sz = _
        rw [sz_mk]
        exact congrArg (· + 1) (szs_eq e1 fun i x y hx hy => (e3 i x y hx hy).2.2)
    | fn u v hu hv =>
      rw [sz_mk, szs_two] at hn hb hk ⊢
      have := mono (u.sz + v.sz) (u.sz + v.sz + 1) (by omega)
      obtain ⟨ys, ks, e0, e1, e2, e3⟩ := kids [u, v] (fun x hx => by simp at hx; rcases hx with rfl | rfl; exact hu; exact hv) (by rw [szs_two]; omega) (by rw [szs_two]; omega) (by rw [szs_two]; omega)
      rw [szs_two] at e2
      have e2 : ks.getD 2 0 ≤ k + (u.sz + v.sz) * (fr.length + 1) := e2
      match ys, e1, e3 with
      | [u', v'], e1, e3 =>
        have f1 := e3 0 u u' rfl rfl
        have f2 := e3 1 v v' rfl rfl
        refine ⟨_, ks.getD 2 0, e0 ▸ num_plain (.mk 4 [] 0 [u, v]) [u', v'] _ ks e1 (by rw [sz_mk, szs_two]; omega) rfl (fun i x y hx hy => (e3 i x y hx hy).1), .fn u' v' f1.2.1 f2.2.1, ?_, by omega⟩
        show (Ty.mk 4 [] 0 [u', v']).sz = _
        rw [sz_mk, szs_two, f1.2.2, f2.2.2]
    | all s x hs hx =>
      rw [sz_mk, szs_one] at hn hb hk ⊢
      have e : (x.sz + 1) * (fr.length + 1) = x.sz * (fr.length + 1) + (fr.length + 1) := by rw [Nat.add_mul]; omega
      obtain ⟨i, h1, h2, h3⟩ := first_free (fun i => candX (k + i)) (fun i j h => by have := candX_inj _ _ h; omega) fr
      obtain ⟨c1, c2, _⟩ := candX_len (k + i) (by omega)
      obtain ⟨x', r1, g1, s1⟩ := ren_ex _ x (Nat.le_refl _) hx (by omega) s (candX (k + i)) c2 c1
      obtain ⟨y, k', r2, g2, s2, b2⟩ := ih x' (by omega) g1 (by omega) (k + i + 1) (by rw [s1]; omega)
      rw [s1] at b2
      refine ⟨_, k', num_all (.mk 5 s 0 [x]) x x' y fr k (k + i) k' rfl rfl hf (by omega) (by omega) h2 (fun j hj1 hj2 => by
        have := h3 (j - k) (by omega)
        rwa [show k + (j - k) = j by omega] at this) (by omega) r1 r2, .all _ y c1 g2, by rw [sz_mk, szs_one, s2, s1], by omega⟩
/-! written with canonical names -/
theorem canon_ex (t : Ty) (hg : GT t) (hb : t.sz < 20000) : ∃ s, den E 92 [tyV t] [] = some (.str s, []) := by
  have df := tfree_den t (by omega)
  have hle := freeT_le _ t (Nat.le_refl _) [] []
  simp only [List.length_nil, Nat.zero_add] at hle
  have hp : t.sz * ((freeT t [] []).length + 1) ≤ 20000 * 20001 := Nat.mul_le_mul (by omega) (by omega)
  obtain ⟨y, k', d, g, hs, _⟩ := num_ex (freeT t [] []) (by omega) _ t (Nat.le_refl _) hg (by omega) 0 (by omega)
  obtain ⟨s, _, hp⟩ := pr_tot g (by omega)
  have dp := tprint_den _ y s (by omega) (hp _ (Nat.le_refl _))
  refine ⟨s, ?_⟩
  rw [den_eq prim_92, body_92]
  rw [tyV_eq] at d df dp ⊢
  rw [tyV_eq, show ((0 : Nat) : Int) = 0 from rfl] at d
  simp only [go_sem, ↓reduceIte, Nat.reduceEqDiff, Nat.reduceAdd, Nat.reduceLeDiff, Nat.zero_ne_one, Nat.reduceLT, reduceCtorEq, Tryz.f92, df, d, dp]
theorem same_self (t : Ty) (hg : GT t) (hb : t.sz < 20000) : den E 42 [tyV t, tyV t] [] = some (.bool true, []) := by
  obtain ⟨s, d⟩ := canon_ex t hg hb
  rw [den_eq prim_42, body_42]
  rw [tyV_eq] at d ⊢
  simp only [go_sem, ↓reduceIte, Nat.reduceEqDiff, Nat.reduceAdd, Nat.reduceLeDiff, Nat.zero_ne_one, Nat.reduceLT, reduceCtorEq, beq_self_eq_true, Tryz.f42, d]
end Go.Proofs
