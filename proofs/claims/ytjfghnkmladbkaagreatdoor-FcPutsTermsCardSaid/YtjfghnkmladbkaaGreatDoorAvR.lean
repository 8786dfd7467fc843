/- Names that stand in terms and coercions, and names that these bind: the document. -/
import Derived.Test.YtjfghnkmladbkaaGreatDoorAvQ
import Derived.Test.YtjfghnkmladbkaaGreatDoorAvK
import Derived.Test.YtjfghnkmladbkaaGreatDoorAvI
namespace Go.Proofs
open Go.Av
set_option maxHeartbeats 32000000
set_option maxRecDepth 100000
/-! the document's free names of a type -/
theorem GT.kid {t x : Ty} (h : GT t) (hx : x ∈ t.args) : GT x := by
 cases h with
 | var s _ => cases hx
 | unk n _ _ => cases hx
 | con s a _ h => exact h x hx
 | fn a b ha hb =>
  rcases List.mem_cons.1 hx with rfl | hx
  · exact ha
  · rw [List.mem_singleton.1 hx]; exact hb
 | all s t _ ht => rw [List.mem_singleton.1 hx]; exact ht
theorem GT.var0 {t : Ty} (h : GT t) (hk : (t.kind == 1) = true) : t.args = [] := by
 cases h <;> first | rfl | (simp [Ty.kind] at hk)
theorem contains_iff {b b' : List (List UInt8)} (h : ∀ x, x ∈ b ↔ x ∈ b') (x : List UInt8) : b.contains x = b'.contains x := by
 rw [Bool.eq_iff_iff]; simp [h x]
theorem addS_mem' (l : List (List UInt8)) (n x : List UInt8) : x ∈ addS l n ↔ x ∈ l ∨ x = n := by
 unfold addS; split
 · rename_i h
   have h : n ∈ l := by simpa using h
   constructor
   · exact fun hx => .inl hx
   · rintro (hx | rfl)
     · exact hx
     · exact h
 · simp
theorem freeT_congr : ∀ (n : Nat) (t : Ty), t.sz ≤ n → ∀ (b b' acc : List (List UInt8)), (∀ x, x ∈ b ↔ x ∈ b') → freeT t b acc = freeT t b' acc := by
 intro n
 induction n with
 | zero => intro t h; have := sz_eq t; omega
 | succ n ih =>
  have hs : ∀ (l : List Ty), Ty.szs l ≤ n → ∀ b b' acc, (∀ x, x ∈ b ↔ x ∈ b') → freeTs l b acc = freeTs l b' acc := by
   intro l
   induction l with
   | nil => intro _ b b' acc _; rw [freeTs_nil, freeTs_nil]
   | cons x r ihr =>
    intro hl b b' acc h
    rw [szs_cons] at hl
    rw [freeTs_cons, freeTs_cons, ih x (by omega) b b' acc h, ihr (by omega) b b' _ h]
  intro t ht b b' acc h
  have := sz_eq t
  rw [freeT_eq, freeT_eq t b']
  have e : freeAt t b acc = freeAt t b' acc := by unfold freeAt; rw [contains_iff h]
  rw [e]
  refine hs _ (by omega) _ _ _ fun x => ?_
  split
  · rw [addS_mem', addS_mem', h x]
  · exact h x
theorem freeTs_snoc {l : List Ty} {i : Nat} {x : Ty} (h : l[i]? = some x) (b acc : List (List UInt8)) : freeTs (l.take (i + 1)) b acc = freeT x b (freeTs (l.take i) b acc) := by
 rw [take_snoc h]
 have : ∀ (m : List Ty) acc, freeTs (m ++ [x]) b acc = freeT x b (freeTs m b acc) := by
  intro m
  induction m with
  | nil => intro acc; rw [List.nil_append, freeTs_cons, freeTs_nil, freeTs_nil]
  | cons y m ih => intro acc; rw [List.cons_append, freeTs_cons, freeTs_cons, ih]
 exact this _ _
theorem freeTs_le (l : List Ty) (b acc : List (List UInt8)) : (freeTs l b acc).length ≤ acc.length + Ty.szs l := by
 induction l generalizing acc with
 | nil => rw [freeTs_nil]; omega
 | cons x r ih =>
  rw [freeTs_cons, szs_cons]
  have := ih (freeT x b acc)
  have := freeT_le _ x (Nat.le_refl _) b acc
  omega
theorem szs_take (l : List Ty) (i : Nat) : Ty.szs (l.take i) ≤ Ty.szs l := by
 induction l generalizing i with
 | nil => simp
 | cons x r ih =>
  cases i with
  | zero => simp [Ty.szs]
  | succ i => rw [List.take_succ_cons, szs_cons, szs_cons]; have := ih i; omega
theorem r2free_den : ∀ (n : Nat) (t : Ty), t.sz ≤ n → (GT t ∨ t = zTy) → ∀ (b acc : List (List UInt8)), acc.length + t.sz < 1000000 → b.length + t.sz < 1000000 →
 den E 118 [tyV t, .slice (b.map .str), .own 9 0 (acc.map .str)] [] = some (.own 9 0 ((freeT t b acc).map .str), []) := by
 intro n
 induction n with
 | zero => intro t h; have := sz_eq t; omega
 | succ n ih =>
  intro t hn hg b acc ha hb
  have hsz := sz_eq t
  have rl := tysV_len t.args
  have hal := args_len t
  rw [den_eq prim_118, body_118, tyV_eq]
  cases k1 : t.kind == 1
  · have hfa : freeAt t b acc = acc := by unfold freeAt; rw [k1]; rfl
    -- the loop, with the names that are bound there
    have loop : ∀ (b' : List (List UInt8)), freeT t b acc = freeTs t.args b' acc → b'.length + Ty.szs t.args < 1000000 → ∀ i, i < t.args.length → ∃ x, t.args[i]? = some x ∧
     den E 118 [tyV x, .slice (b'.map .str), .own 9 0 ((freeTs (t.args.take i) b' acc).map .str)] [] = some (.own 9 0 ((freeTs (t.args.take (i + 1)) b' acc).map .str), []) := by
     intro b' _ hb' i hi
     obtain ⟨x, hx⟩ := getS hi
     have hxs := szs_mem (List.mem_of_getElem? hx)
     have hts := freeTs_le (t.args.take i) b' acc
     have hle : Ty.szs (t.args.take i) + x.sz ≤ Ty.szs t.args := by
      have h2 := szs_take t.args (i + 1)
      rw [take_snoc hx] at h2
      have : ∀ m : List Ty, Ty.szs (m ++ [x]) = Ty.szs m + x.sz := by
       intro m
       induction m with
       | nil => simp [Ty.szs]
       | cons y m ihm => rw [List.cons_append, szs_cons, szs_cons, ihm]; omega
      rw [this] at h2; exact h2
     have hgx : GT x ∨ x = zTy := by
      rcases hg with hg | hg
      · exact .inl (hg.kid (List.mem_of_getElem? hx))
      · rw [hg] at hx; simp [zTy, Ty.args] at hx
     refine ⟨x, hx, ?_⟩
     rw [freeTs_snoc hx]
     exact ih x (by omega) hgx b' _ (by omega) (by omega)
    cases k5 : t.kind == 5
    · have he : freeT t b acc = freeTs t.args b acc := by rw [freeT_eq, hfa, k5]; rfl
      have lp := loop b he (by omega)
      rw [he]
      obtain ⟨fin, hfin⟩ : ∃ fin, fin = (some (.own 9 0 ((freeTs t.args b acc).map .str), []) : Option (AVal × Heap)) := ⟨_, rfl⟩
      rw [← hfin]
      simp only [go_sem, Tryz.f118, k1, k5]
      refine run_for (fun i => ⟨[(2, .own 9 0 ((freeTs (t.args.take i) b acc).map .str)), (3, .ptr (.loc 3) 0), (9, .slice (b.map .str)), (10, .int .i64 i)], [], [(3, tyC t)], 1⟩) t.args.length ?_ ?_ ?_
      · simp only [go_sem, tyC, freeTs_nil]
      · intro i hi h
        obtain ⟨x, hx, d⟩ := lp i hi
        have w1 : IntKind.i64.wrap ((i : Int) + 1) = ((i + 1 : Nat) : Int) := wrapN (i + 1) (by omega)
        rw [tyV_eq] at d
        simp only [go_sem, natlt, decide_eq_true hi, rl, natge0, tonat, tysGet, hx, tyV_eq, tyC, d]
        refine h _ ?_
        simp only [go_sem, w1, tyC]
      · simp only [go_sem, natlt, Nat.lt_irrefl, rl, tyC, List.take_length, hfin]
    · have he : freeT t b acc = freeTs t.args (b ++ [t.name]) acc := by
       rw [freeT_eq, hfa, k5]
       simp only [if_true]
       have hs : ∀ (l : List Ty) acc, freeTs l (addS b t.name) acc = freeTs l (b ++ [t.name]) acc := by
        intro l
        induction l with
        | nil => intro acc; rw [freeTs_nil, freeTs_nil]
        | cons x r ihr => intro acc; rw [freeTs_cons, freeTs_cons, freeT_congr _ x (Nat.le_refl _) (addS b t.name) (b ++ [t.name]) acc (fun y => by rw [addS_mem']; simp), ihr]
       exact hs _ _
      have lp := loop (b ++ [t.name]) he (by rw [List.length_append, List.length_singleton]; omega)
      rw [he]
      have a1 : b.length ≤ appMax := by unfold appMax; omega
      have a2 : b.length + 1 ≤ appMax := by unfold appMax; omega
      have hh := headCase b
      obtain ⟨fin, hfin⟩ : ∃ fin, fin = (some (.own 9 0 ((freeTs t.args (b ++ [t.name]) acc).map .str), []) : Option (AVal × Heap)) := ⟨_, rfl⟩
      rw [← hfin]
      rcases hh with hh | ⟨y, hh⟩ <;>
      (simp only [go_sem, Tryz.f118, k1, k5, List.length_map, a1, a2, hh, Nat.zero_add]
       refine run_for (fun i => ⟨[(2, .own 9 0 ((freeTs (t.args.take i) (b ++ [t.name]) acc).map .str)), (3, .ptr (.loc 3) 0), (9, .own 9 0 ((b ++ [t.name]).map .str)), (10, .int .i64 i)], [], [(3, tyC t)], 1⟩) t.args.length ?_ ?_ ?_
       · simp only [go_sem, tyC, freeTs_nil, List.map_append]
       · intro i hi h
         obtain ⟨x, hx, d⟩ := lp i hi
         have w1 : IntKind.i64.wrap ((i : Int) + 1) = ((i + 1 : Nat) : Int) := wrapN (i + 1) (by omega)
         rw [tyV_eq] at d
         simp only [go_sem, natlt, decide_eq_true hi, rl, natge0, tonat, tysGet, hx, tyV_eq, tyC, d]
         refine h _ ?_
         simp only [go_sem, w1, tyC]
       · simp only [go_sem, natlt, Nat.lt_irrefl, rl, tyC, List.take_length, hfin])
  · have h0 : t.args = [] := by
     rcases hg with hg | hg
     · exact hg.var0 k1
     · rw [hg] at k1; simp [zTy, Ty.kind] at k1
    have he : freeT t b acc = if b.contains t.name then acc else addS acc t.name := by
     rw [freeT_eq, h0, freeTs_nil]
     unfold freeAt
     rw [k1]
     cases b.contains t.name <;> rfl
    have d1 := has_den b t.name (by omega)
    have d2 := has_den acc t.name (by omega)
    have a1 : acc.length ≤ appMax := by unfold appMax; omega
    have a2 : acc.length + 1 ≤ appMax := by unfold appMax; omega
    rw [he]
    unfold addS
    cases hb1 : b.contains t.name <;> cases hb2 : acc.contains t.name <;> rw [hb1] at d1 <;> rw [hb2] at d2
    · rcases headCase acc with hh | ⟨y, hh⟩ <;> simp only [go_sem, Tryz.f118, k1, d1, d2, List.length_map, a1, a2, hh, Nat.zero_add, List.map_append]
    · simp only [go_sem, Tryz.f118, k1, d1, d2]
    · simp only [go_sem, Tryz.f118, k1, d1, d2]
    · simp only [go_sem, Tryz.f118, k1, d1, d2]
theorem r2Free_den (t : Ty) (hg : GT t ∨ t = zTy) (h : t.sz < 900000) : den E 52 [tyV t] [] = some (.own 9 0 ((freeT t [] []).map .str), []) := by
 have d := r2free_den _ t (Nat.le_refl _) hg [] [] (by simp; omega) (by simp; omega)
 rw [den_eq prim_52, body_52]
 rw [tyV_eq] at d ⊢
 simp only [List.map_nil] at d
 simp only [go_sem, Tryz.f52, d]
end Go.Proofs
namespace Go.Proofs
open Go.Av
set_option maxHeartbeats 32000000
set_option maxRecDepth 100000
/-! names that stand in coercions and terms, and names that these bind -/
inductive GC0 : Cx → Prop
 | mk (k : Int) (s : List UInt8) (n : Int) (t : Ty) (ks : List Cx) : (GT t ∨ t = zTy) → (∀ x, x ∈ ks → GC0 x) → GC0 (.mk k s n t ks)
theorem GC0.kid {c x : Cx} (h : GC0 c) (hx : x ∈ c.kids) : GC0 x := by cases h with | mk k s n t ks _ h => exact h x hx
theorem GC0.typ {c : Cx} (h : GC0 c) : GT c.ty ∨ c.ty = zTy := by cases h with | mk k s n t ks h _ => exact h
theorem cx_tots_take (l : List Cx) (i : Nat) : Cx.tots (l.take i) ≤ Cx.tots l := by
 induction l generalizing i with
 | nil => simp
 | cons x r ih =>
  cases i with
  | zero => simp [Cx.tots]
  | succ i => rw [List.take_succ_cons]; simp only [Cx.tots]; have := ih i; omega
theorem tm_tots_take (l : List Tm) (i : Nat) : Tm.tots (l.take i) ≤ Tm.tots l := by
 induction l generalizing i with
 | nil => simp
 | cons x r ih =>
  cases i with
  | zero => simp [Tm.tots]
  | succ i => rw [List.take_succ_cons]; simp only [Tm.tots]; have := ih i; omega
theorem ta_tots_take (l : List Ta) (i : Nat) : Ta.tots (l.take i) ≤ Ta.tots l := by
 induction l generalizing i with
 | nil => simp
 | cons x r ih =>
  cases i with
  | zero => simp [Ta.tots]
  | succ i => rw [List.take_succ_cons]; simp only [Ta.tots]; have := ih i; omega
mutual
def bnC : Cx → List (List UInt8)
 | .mk k s _ _ ks => (if k == 7 then [s] else []) ++ bnCs ks
def bnCs : List Cx → List (List UInt8)
 | [] => []
 | x :: r => bnC x ++ bnCs r
end
theorem bnC_eq (c : Cx) : bnC c = (if c.kind == 7 then [c.name] else []) ++ bnCs c.kids := by cases c; simp only [bnC, Cx.kind, Cx.name, Cx.kids]; first | done | rfl
mutual
def stC : Cx → List (List UInt8)
 | .mk k s _ t ks => (freeT t [] [] ++ if k == 1 then [s] else []) ++ stCs ks
def stCs : List Cx → List (List UInt8)
 | [] => []
 | x :: r => stC x ++ stCs r
end
theorem stC_eq (c : Cx) : stC c = (freeT c.ty [] [] ++ if c.kind == 1 then [c.name] else []) ++ stCs c.kids := by cases c; simp only [stC, Cx.kind, Cx.name, Cx.kids, Cx.ty]; first | done | rfl

theorem bnCs_nil : bnCs [] = [] := by simp [bnCs]
theorem bnCs_snoc (l : List Cx) (x : Cx) : bnCs (l ++ [x]) = bnCs l ++ bnC x := by
 induction l with
 | nil => simp [bnCs]
 | cons y r ih => rw [List.cons_append, bnCs, ih, bnCs, List.append_assoc]

theorem stCs_nil : stCs [] = [] := by simp [stCs]
theorem stCs_snoc (l : List Cx) (x : Cx) : stCs (l ++ [x]) = stCs l ++ stC x := by
 induction l with
 | nil => simp [stCs]
 | cons y r ih => rw [List.cons_append, stCs, ih, stCs, List.append_assoc]

theorem bnC_le0 : ∀ (n : Nat) (c : Cx), c.tot ≤ n → (bnC c).length ≤ 2 * c.tot := by
 intro n
 induction n with
 | zero => intro c h; have := cx_tot_pos c; omega
 | succ n ih =>
  intro c h
  have ht := cx_tot_of c
  have hs := sz_pos c.ty
  have hk : ∀ l : List Cx, (∀ x, x ∈ l → x ∈ c.kids) → (bnCs l).length ≤ 2 * Cx.tots l := by
   intro l
   induction l with
   | nil => intro _; simp [bnCs]
   | cons x r ihr =>
    intro hl
    have hx := cx_tots_mem (hl x (List.mem_cons_self ..))
    have := ih x (by omega)
    have := ihr fun y hy => hl y (List.mem_cons_of_mem _ hy)
    simp only [bnCs, Cx.tots, List.length_append]; omega
  have := hk c.kids fun _ h => h
  rw [bnC_eq, List.length_append]
  split <;> simp only [List.length_cons, List.length_nil] <;> omega
theorem bnC_le (c : Cx) : (bnC c).length ≤ 2 * c.tot := bnC_le0 _ c (Nat.le_refl _)
theorem bnCs_le (l : List Cx) : (bnCs l).length ≤ 2 * Cx.tots l := by
 induction l with
 | nil => simp [bnCs]
 | cons x r ih => have := bnC_le x; simp only [bnCs, Cx.tots, List.length_append]; omega
theorem stC_le0 : ∀ (n : Nat) (c : Cx), c.tot ≤ n → (stC c).length ≤ 2 * c.tot := by
 intro n
 induction n with
 | zero => intro c h; have := cx_tot_pos c; omega
 | succ n ih =>
  intro c h
  have ht := cx_tot_of c
  have hs := sz_pos c.ty
  have hf := freeT_le _ c.ty (Nat.le_refl _) [] []
  simp only [List.length_nil, Nat.zero_add] at hf
  have hk : ∀ l : List Cx, (∀ x, x ∈ l → x ∈ c.kids) → (stCs l).length ≤ 2 * Cx.tots l := by
   intro l
   induction l with
   | nil => intro _; simp [stCs]
   | cons x r ihr =>
    intro hl
    have hx := cx_tots_mem (hl x (List.mem_cons_self ..))
    have := ih x (by omega)
    have := ihr fun y hy => hl y (List.mem_cons_of_mem _ hy)
    simp only [stCs, Cx.tots, List.length_append]; omega
  have := hk c.kids fun _ h => h
  rw [stC_eq, List.length_append, List.length_append]
  split <;> simp only [List.length_cons, List.length_nil] <;> omega
theorem stC_le (c : Cx) : (stC c).length ≤ 2 * c.tot := stC_le0 _ c (Nat.le_refl _)
theorem stCs_le (l : List Cx) : (stCs l).length ≤ 2 * Cx.tots l := by
 induction l with
 | nil => simp [stCs]
 | cons x r ih => have := stC_le x; simp only [stCs, Cx.tots, List.length_append]; omega

theorem r12binders_den : ∀ (n : Nat) (c : Cx), c.tot ≤ n → c.tot < 300000 → GC0 c → den E 53 [.agg (cxC c)] [] = some (.own 9 0 ((bnC c).map .str), []) := by
 intro n
 induction n with
 | zero => intro c h; have := cx_tot_pos c; omega
 | succ n ih =>
  intro c hn hb hg
  have ht := cx_tot_of c
  have hs := sz_pos c.ty
  have hkl := cx_tots_len c.kids
  have rl := cxsV_len c.kids
  have lp : ∀ i, i < c.kids.length → ∃ x, c.kids[i]? = some x ∧ (bnCs (c.kids.take i)).length ≤ 2 * Cx.tots c.kids ∧ (bnC x).length ≤ 2 * Cx.tots c.kids ∧ bnCs (c.kids.take (i + 1)) = bnCs (c.kids.take i) ++ bnC x ∧
   den E 53 [.agg (cxC x)] [] = some (.own 9 0 ((bnC x).map .str), []) := by
   intro i hi
   obtain ⟨x, hx⟩ := getS hi
   have hxs := cx_tots_mem (List.mem_of_getElem? hx)
   refine ⟨x, hx, ?_, ?_, ?_, ih x (by omega) (by omega) (hg.kid (List.mem_of_getElem? hx))⟩
   · have := bnCs_le (c.kids.take i); have := cx_tots_take c.kids i; omega
   · have := bnC_le x; omega
   · rw [take_snoc hx, bnCs_snoc]
  obtain ⟨fin, hfin⟩ : ∃ fin, fin = (some (.own 9 0 ((bnC c).map .str), []) : Option (AVal × Heap)) := ⟨_, rfl⟩
  rw [← hfin]
  rw [bnC_eq] at hfin
  rw [den_eq prim_53, body_53]
  cases k7 : c.kind == 7
  · rw [k7] at hfin
    simp only [Bool.false_eq_true, if_false, List.nil_append] at hfin
    obtain ⟨W, hW⟩ : ∃ W : Nat → List (List UInt8), ∀ i, W i = bnCs (c.kids.take i) := ⟨_, fun _ => rfl⟩
    have m0 : (W 0).map AVal.str = ([]).map AVal.str := by rw [hW, List.take_zero, bnCs_nil]; try rfl
    (try simp only [List.map_nil] at m0)
    have mE : fin = some (.own 9 0 ((W c.kids.length).map .str), []) := by rw [hfin, hW, List.take_length]
    simp only [go_sem, Tryz.f53, cxC_eq c, k7]
    refine run_for (fun i => ⟨[(1, .ptr (.loc 1) 0), (3, .own 9 0 ((W i).map .str)), (4, .int .i64 i)], [], [(1, cxC c)], 1⟩) c.kids.length ?_ ?_ ?_
    · simp only [go_sem, cxC_eq c, m0]
    · intro i hi h
      obtain ⟨x, hx, l1, l2, e, d⟩ := lp i hi
      have w1 : IntKind.i64.wrap ((i : Int) + 1) = ((i + 1 : Nat) : Int) := wrapN (i + 1) (by omega)
      have ap : (W i).length + (bnC x).length ≤ appMax := by rw [hW]; (try simp only [List.length_append, List.length_nil, List.length_cons]); unfold appMax; omega
      have m1 : (W (i + 1)).map AVal.str = (W i).map AVal.str ++ (bnC x).map AVal.str := by rw [hW, hW, e]; simp only [List.map_append]
      rw [m1] at h
      rw [cxC_eq] at d
      rcases headCase (bnC x) with hh | ⟨y, hh⟩ <;>
      (simp only [go_sem, natlt, decide_eq_true hi, rl, natge0, tonat, cxsV_get, hx, cxC_eq c, cxC_eq x, d, List.length_map, ap, hh]
       refine h _ ?_
       simp only [go_sem, w1, cxC_eq c])
    · simp only [go_sem, natlt, Nat.lt_irrefl, rl, cxC_eq c, mE]
  · rw [k7] at hfin
    simp only [if_true] at hfin
    obtain ⟨W, hW⟩ : ∃ W : Nat → List (List UInt8), ∀ i, W i = [c.name] ++ bnCs (c.kids.take i) := ⟨_, fun _ => rfl⟩
    have m0 : (W 0).map AVal.str = ([c.name]).map AVal.str := by rw [hW, List.take_zero, bnCs_nil, List.append_nil]; try rfl
    (try simp only [List.map_cons, List.map_nil] at m0)
    have mE : fin = some (.own 9 0 ((W c.kids.length).map .str), []) := by rw [hfin, hW, List.take_length]
    simp only [go_sem, Tryz.f53, cxC_eq c, k7]
    refine run_for (fun i => ⟨[(1, .ptr (.loc 1) 0), (3, .own 9 0 ((W i).map .str)), (4, .int .i64 i)], [], [(1, cxC c)], 1⟩) c.kids.length ?_ ?_ ?_
    · simp only [go_sem, cxC_eq c, m0]
    · intro i hi h
      obtain ⟨x, hx, l1, l2, e, d⟩ := lp i hi
      have w1 : IntKind.i64.wrap ((i : Int) + 1) = ((i + 1 : Nat) : Int) := wrapN (i + 1) (by omega)
      have ap : (W i).length + (bnC x).length ≤ appMax := by rw [hW]; (try simp only [List.length_append, List.length_nil, List.length_cons]); unfold appMax; omega
      have m1 : (W (i + 1)).map AVal.str = (W i).map AVal.str ++ (bnC x).map AVal.str := by rw [hW, hW, e]; simp only [List.map_append, List.append_assoc]
      rw [m1] at h
      rw [cxC_eq] at d
      rcases headCase (bnC x) with hh | ⟨y, hh⟩ <;>
      (simp only [go_sem, natlt, decide_eq_true hi, rl, natge0, tonat, cxsV_get, hx, cxC_eq c, cxC_eq x, d, List.length_map, ap, hh]
       refine h _ ?_
       simp only [go_sem, w1, cxC_eq c])
    · simp only [go_sem, natlt, Nat.lt_irrefl, rl, cxC_eq c, mE]

theorem stands_den : ∀ (n : Nat) (c : Cx), c.tot ≤ n → c.tot < 300000 → GC0 c → den E 21 [.agg (cxC c)] [] = some (.own 9 0 ((stC c).map .str), []) := by
 intro n
 induction n with
 | zero => intro c h; have := cx_tot_pos c; omega
 | succ n ih =>
  intro c hn hb hg
  have ht := cx_tot_of c
  have hs := sz_pos c.ty
  have hkl := cx_tots_len c.kids
  have rl := cxsV_len c.kids
  have lp : ∀ i, i < c.kids.length → ∃ x, c.kids[i]? = some x ∧ (stCs (c.kids.take i)).length ≤ 2 * Cx.tots c.kids ∧ (stC x).length ≤ 2 * Cx.tots c.kids ∧ stCs (c.kids.take (i + 1)) = stCs (c.kids.take i) ++ stC x ∧
   den E 21 [.agg (cxC x)] [] = some (.own 9 0 ((stC x).map .str), []) := by
   intro i hi
   obtain ⟨x, hx⟩ := getS hi
   have hxs := cx_tots_mem (List.mem_of_getElem? hx)
   refine ⟨x, hx, ?_, ?_, ?_, ih x (by omega) (by omega) (hg.kid (List.mem_of_getElem? hx))⟩
   · have := stCs_le (c.kids.take i); have := cx_tots_take c.kids i; omega
   · have := stC_le x; omega
   · rw [take_snoc hx, stCs_snoc]
  obtain ⟨fin, hfin⟩ : ∃ fin, fin = (some (.own 9 0 ((stC c).map .str), []) : Option (AVal × Heap)) := ⟨_, rfl⟩
  rw [← hfin]
  rw [stC_eq] at hfin
  rw [den_eq prim_21, body_21]
  have hf := freeT_le _ c.ty (Nat.le_refl _) [] []
  simp only [List.length_nil, Nat.zero_add] at hf
  have df := r2Free_den c.ty hg.typ (by omega)
  rw [tyV_eq] at df
  have a1 : (freeT c.ty [] []).length + 1 ≤ appMax := by unfold appMax; omega
  cases k1 : c.kind == 1
  · rw [k1] at hfin
    simp only [Bool.false_eq_true, if_false, List.append_nil] at hfin
    obtain ⟨W, hW⟩ : ∃ W : Nat → List (List UInt8), ∀ i, W i = freeT c.ty [] [] ++ stCs (c.kids.take i) := ⟨_, fun _ => rfl⟩
    have m0 : (W 0).map AVal.str = (freeT c.ty [] []).map AVal.str := by rw [hW, List.take_zero, stCs_nil, List.append_nil]; try rfl
    (try simp only [List.map_append, List.map_cons, List.map_nil] at m0)
    have mE : fin = some (.own 9 0 ((W c.kids.length).map .str), []) := by rw [hfin, hW, List.take_length]
    simp only [go_sem, Tryz.f21, cxC_eq c, k1, df]
    refine run_for (fun i => ⟨[(1, .ptr (.loc 1) 0), (3, .own 9 0 ((W i).map .str)), (4, .int .i64 i)], [], [(1, cxC c)], 1⟩) c.kids.length ?_ ?_ ?_
    · simp only [go_sem, cxC_eq c, m0]
    · intro i hi h
      obtain ⟨x, hx, l1, l2, e, d⟩ := lp i hi
      have w1 : IntKind.i64.wrap ((i : Int) + 1) = ((i + 1 : Nat) : Int) := wrapN (i + 1) (by omega)
      have ap : (W i).length + (stC x).length ≤ appMax := by rw [hW]; (try simp only [List.length_append]); unfold appMax; omega
      have m1 : (W (i + 1)).map AVal.str = (W i).map AVal.str ++ (stC x).map AVal.str := by rw [hW, hW, e]; simp only [List.map_append, List.append_assoc]
      rw [m1] at h
      rw [cxC_eq] at d
      rcases headCase (stC x) with hh | ⟨y, hh⟩ <;>
      (simp only [go_sem, natlt, decide_eq_true hi, rl, natge0, tonat, cxsV_get, hx, cxC_eq c, cxC_eq x, d, List.length_map, ap, hh]
       refine h _ ?_
       simp only [go_sem, w1, cxC_eq c])
    · simp only [go_sem, natlt, Nat.lt_irrefl, rl, cxC_eq c, mE]
  · rw [k1] at hfin
    simp only [if_true] at hfin
    obtain ⟨W, hW⟩ : ∃ W : Nat → List (List UInt8), ∀ i, W i = (freeT c.ty [] [] ++ [c.name]) ++ stCs (c.kids.take i) := ⟨_, fun _ => rfl⟩
    have m0 : (W 0).map AVal.str = ((freeT c.ty [] [] ++ [c.name])).map AVal.str := by rw [hW, List.take_zero, stCs_nil, List.append_nil]; try rfl
    (try simp only [List.map_append, List.map_cons, List.map_nil] at m0)
    have mE : fin = some (.own 9 0 ((W c.kids.length).map .str), []) := by rw [hfin, hW, List.take_length]
    simp only [go_sem, Tryz.f21, cxC_eq c, k1, df, List.length_map, a1]
    refine run_for (fun i => ⟨[(1, .ptr (.loc 1) 0), (3, .own 9 0 ((W i).map .str)), (4, .int .i64 i)], [], [(1, cxC c)], 1⟩) c.kids.length ?_ ?_ ?_
    · simp only [go_sem, cxC_eq c, m0]
    · intro i hi h
      obtain ⟨x, hx, l1, l2, e, d⟩ := lp i hi
      have w1 : IntKind.i64.wrap ((i : Int) + 1) = ((i + 1 : Nat) : Int) := wrapN (i + 1) (by omega)
      have ap : (W i).length + (stC x).length ≤ appMax := by rw [hW]; (try simp only [List.length_append, List.length_nil, List.length_cons]); unfold appMax; omega
      have m1 : (W (i + 1)).map AVal.str = (W i).map AVal.str ++ (stC x).map AVal.str := by rw [hW, hW, e]; simp only [List.map_append, List.append_assoc]
      rw [m1] at h
      rw [cxC_eq] at d
      rcases headCase (stC x) with hh | ⟨y, hh⟩ <;>
      (simp only [go_sem, natlt, decide_eq_true hi, rl, natge0, tonat, cxsV_get, hx, cxC_eq c, cxC_eq x, d, List.length_map, ap, hh]
       refine h _ ?_
       simp only [go_sem, w1, cxC_eq c])
    · simp only [go_sem, natlt, Nat.lt_irrefl, rl, cxC_eq c, mE]

inductive GM0 : Tm → Prop
 | mk (k : Int) (s : List UInt8) (t : Ty) (c : Cx) (ks : List Tm) (al : List Ta) : (GT t ∨ t = zTy) → GC0 c → (∀ x, x ∈ ks → GM0 x) → (∀ a, a ∈ al → GM0 a.body) → GM0 (.mk k s t c ks al)
theorem GM0.kid {t x : Tm} (h : GM0 t) (hx : x ∈ t.kids) : GM0 x := by cases h with | mk k s t c ks al _ _ h _ => exact h x hx
theorem GM0.alt {t : Tm} {a : Ta} (h : GM0 t) (hx : a ∈ t.alts) : GM0 a.body := by cases h with | mk k s t c ks al _ _ _ h => exact h a hx
theorem GM0.typ {t : Tm} (h : GM0 t) : GT t.ty ∨ t.ty = zTy := by cases h with | mk k s t c ks al h _ _ _ => exact h
theorem GM0.cox {t : Tm} (h : GM0 t) : GC0 t.co := by cases h with | mk k s t c ks al _ h _ _ => exact h

mutual
def vrM : Tm → List (List UInt8)
 | .mk k s t c ks al => (freeT t [] [] ++ stC c ++ if k == 1 then [s] else []) ++ vrMs ks ++ vrMas al
def vrMs : List Tm → List (List UInt8)
 | [] => []
 | x :: r => vrM x ++ vrMs r
def vrMas : List Ta → List (List UInt8)
 | [] => []
 | .mk _ _ _ _ e :: r => ((vrM e)) ++ vrMas r
end
def vrMa (a : Ta) : List (List UInt8) := vrM a.body
theorem vrM_eq (t : Tm) : vrM t = (freeT t.ty [] [] ++ stC t.co ++ if t.kind == 1 then [t.name] else []) ++ vrMs t.kids ++ vrMas t.alts := by cases t; simp only [vrM, Tm.kind, Tm.name, Tm.kids, Tm.ty, Tm.co, Tm.alts]; first | done | rfl
theorem vrMs_nil : vrMs [] = [] := by simp [vrMs]
theorem vrMas_nil : vrMas [] = [] := by simp [vrMas]
theorem vrMs_snoc (l : List Tm) (x : Tm) : vrMs (l ++ [x]) = vrMs l ++ vrM x := by
 induction l with
 | nil => simp [vrMs]
 | cons y r ih => rw [List.cons_append, vrMs, ih, vrMs, List.append_assoc]
theorem vrMas_cons (x : Ta) (r : List Ta) : vrMas (x :: r) = vrMa x ++ vrMas r := by cases x; simp [vrMas, vrMa, Ta.body]
theorem vrMas_snoc (l : List Ta) (x : Ta) : vrMas (l ++ [x]) = vrMas l ++ vrMa x := by
 induction l with
 | nil => simp [vrMas_cons, vrMas_nil]
 | cons y r ih => rw [List.cons_append, vrMas_cons, ih, vrMas_cons, List.append_assoc]
theorem vrM_le0 : ∀ (n : Nat) (t : Tm), t.tot ≤ n → (vrM t).length ≤ 4 * t.tot := by
 intro n
 induction n with
 | zero => intro t h; have := tm_tot_pos t; omega
 | succ n ih =>
  intro t h
  have ht := tm_tot_of t
  have hs := sz_pos t.ty
  have hc := cx_tot_pos t.co
  have hk : ∀ l : List Tm, (∀ x, x ∈ l → x ∈ t.kids) → (vrMs l).length ≤ 4 * Tm.tots l := by
   intro l
   induction l with
   | nil => intro _; simp [vrMs]
   | cons x r ihr =>
    intro hl
    have hx := tmT_mem (hl x (List.mem_cons_self ..))
    have := ih x (by omega)
    have := ihr fun y hy => hl y (List.mem_cons_of_mem _ hy)
    simp only [vrMs, Tm.tots, List.length_append]; omega
  have ha : ∀ l : List Ta, (∀ x, x ∈ l → x ∈ t.alts) → (vrMas l).length ≤ 4 * Ta.tots l := by
   intro l
   induction l with
   | nil => intro _; simp [vrMas]
   | cons x r ihr =>
    intro hl
    have hx := ta_tots_mem (hl x (List.mem_cons_self ..))
    have e := ta_tot_of x
    have := ih x.body (by omega)
    have := ihr fun y hy => hl y (List.mem_cons_of_mem _ hy)
    rw [vrMas_cons]
    simp only [vrMa, Ta.tots, List.length_append]; omega
  have := hk t.kids fun _ h => h
  have := ha t.alts fun _ h => h
  have := freeT_le _ t.ty (Nat.le_refl _) [] []
  have := stC_le t.co
  have := bnC_le t.co
  rw [vrM_eq, List.length_append, List.length_append]
  simp only [List.length_nil, Nat.zero_add] at *
  try rw [List.length_append]
  try rw [List.length_append]
  split <;> simp only [List.length_cons, List.length_nil] <;> omega
theorem vrM_le (t : Tm) : (vrM t).length ≤ 4 * t.tot := vrM_le0 _ t (Nat.le_refl _)
theorem vrMs_le (l : List Tm) : (vrMs l).length ≤ 4 * Tm.tots l := by
 induction l with
 | nil => simp [vrMs]
 | cons x r ih => have := vrM_le x; simp only [vrMs, Tm.tots, List.length_append]; omega
theorem vrMas_le (l : List Ta) : (vrMas l).length ≤ 4 * Ta.tots l := by
 induction l with
 | nil => simp [vrMas]
 | cons x r ih =>
  have := vrM_le x.body
  have := ta_tot_of x
  rw [vrMas_cons]; simp only [vrMa, Ta.tots, List.length_append]; omega

mutual
def bnM : Tm → List (List UInt8)
 | .mk k s _ c ks al => (bnC c ++ if k == 3 || k == 4 || k == 8 then [s] else []) ++ bnMs ks ++ bnMas al
def bnMs : List Tm → List (List UInt8)
 | [] => []
 | x :: r => bnM x ++ bnMs r
def bnMas : List Ta → List (List UInt8)
 | [] => []
 | .mk _ a b v e :: r => ((a ++ b ++ v ++ bnM e)) ++ bnMas r
end
def bnMa (a : Ta) : List (List UInt8) := a.types ++ a.cos ++ a.vars ++ bnM a.body
theorem bnM_eq (t : Tm) : bnM t = (bnC t.co ++ if t.kind == 3 || t.kind == 4 || t.kind == 8 then [t.name] else []) ++ bnMs t.kids ++ bnMas t.alts := by cases t; simp only [bnM, Tm.kind, Tm.name, Tm.kids, Tm.co, Tm.alts]; first | done | rfl
theorem bnMs_nil : bnMs [] = [] := by simp [bnMs]
theorem bnMas_nil : bnMas [] = [] := by simp [bnMas]
theorem bnMs_snoc (l : List Tm) (x : Tm) : bnMs (l ++ [x]) = bnMs l ++ bnM x := by
 induction l with
 | nil => simp [bnMs]
 | cons y r ih => rw [List.cons_append, bnMs, ih, bnMs, List.append_assoc]
theorem bnMas_cons (x : Ta) (r : List Ta) : bnMas (x :: r) = bnMa x ++ bnMas r := by cases x; simp [bnMas, bnMa, Ta.types, Ta.cos, Ta.vars, Ta.body]
theorem bnMas_snoc (l : List Ta) (x : Ta) : bnMas (l ++ [x]) = bnMas l ++ bnMa x := by
 induction l with
 | nil => simp [bnMas_cons, bnMas_nil]
 | cons y r ih => rw [List.cons_append, bnMas_cons, ih, bnMas_cons, List.append_assoc]
theorem bnM_le0 : ∀ (n : Nat) (t : Tm), t.tot ≤ n → (bnM t).length ≤ 4 * t.tot := by
 intro n
 induction n with
 | zero => intro t h; have := tm_tot_pos t; omega
 | succ n ih =>
  intro t h
  have ht := tm_tot_of t
  have hs := sz_pos t.ty
  have hc := cx_tot_pos t.co
  have hk : ∀ l : List Tm, (∀ x, x ∈ l → x ∈ t.kids) → (bnMs l).length ≤ 4 * Tm.tots l := by
   intro l
   induction l with
   | nil => intro _; simp [bnMs]
   | cons x r ihr =>
    intro hl
    have hx := tmT_mem (hl x (List.mem_cons_self ..))
    have := ih x (by omega)
    have := ihr fun y hy => hl y (List.mem_cons_of_mem _ hy)
    simp only [bnMs, Tm.tots, List.length_append]; omega
  have ha : ∀ l : List Ta, (∀ x, x ∈ l → x ∈ t.alts) → (bnMas l).length ≤ 4 * Ta.tots l := by
   intro l
   induction l with
   | nil => intro _; simp [bnMas]
   | cons x r ihr =>
    intro hl
    have hx := ta_tots_mem (hl x (List.mem_cons_self ..))
    have e := ta_tot_of x
    have := ih x.body (by omega)
    have := ihr fun y hy => hl y (List.mem_cons_of_mem _ hy)
    rw [bnMas_cons]
    simp only [bnMa, Ta.tots, List.length_append]; omega
  have := hk t.kids fun _ h => h
  have := ha t.alts fun _ h => h
  have := freeT_le _ t.ty (Nat.le_refl _) [] []
  have := stC_le t.co
  have := bnC_le t.co
  rw [bnM_eq, List.length_append, List.length_append]
  simp only [List.length_nil, Nat.zero_add] at *
  try rw [List.length_append]
  try rw [List.length_append]
  split <;> simp only [List.length_cons, List.length_nil] <;> omega
theorem bnM_le (t : Tm) : (bnM t).length ≤ 4 * t.tot := bnM_le0 _ t (Nat.le_refl _)
theorem bnMs_le (l : List Tm) : (bnMs l).length ≤ 4 * Tm.tots l := by
 induction l with
 | nil => simp [bnMs]
 | cons x r ih => have := bnM_le x; simp only [bnMs, Tm.tots, List.length_append]; omega
theorem bnMas_le (l : List Ta) : (bnMas l).length ≤ 4 * Ta.tots l := by
 induction l with
 | nil => simp [bnMas]
 | cons x r ih =>
  have := bnM_le x.body
  have := ta_tot_of x
  rw [bnMas_cons]; simp only [bnMa, Ta.tots, List.length_append]; omega

theorem vars_den : ∀ (n : Nat) (t : Tm), t.tot ≤ n → t.tot < 100000 → GM0 t → den E 13 [.agg (tmC t)] [] = some (.own 9 0 ((vrM t).map .str), []) := by
 intro n
 induction n with
 | zero => intro t h; have := tm_tot_pos t; omega
 | succ n ih =>
  intro t hn hb hg
  have ht := tm_tot_of t
  have hs := sz_pos t.ty
  have hc := cx_tot_pos t.co
  have hkl := tmT_len t.kids
  have hal := ta_tots_len t.alts
  have rl := tmsV_len t.kids
  have ra := tasV_len t.alts
  have hsl := vrMs_le t.kids
  have lp : ∀ i, i < t.kids.length → ∃ x, t.kids[i]? = some x ∧ (vrMs (t.kids.take i)).length ≤ 4 * Tm.tots t.kids ∧ (vrM x).length ≤ 4 * Tm.tots t.kids ∧ vrMs (t.kids.take (i + 1)) = vrMs (t.kids.take i) ++ vrM x ∧
   den E 13 [.agg (tmC x)] [] = some (.own 9 0 ((vrM x).map .str), []) := by
   intro i hi
   obtain ⟨x, hx⟩ := getS hi
   have hxs := tmT_mem (List.mem_of_getElem? hx)
   refine ⟨x, hx, ?_, ?_, ?_, ih x (by omega) (by omega) (hg.kid (List.mem_of_getElem? hx))⟩
   · have := vrMs_le (t.kids.take i); have := tm_tots_take t.kids i; omega
   · have := vrM_le x; omega
   · rw [take_snoc hx, vrMs_snoc]
  have lq : ∀ i, i < t.alts.length → ∃ x, t.alts[i]? = some x ∧ (vrMas (t.alts.take i)).length ≤ 4 * Ta.tots t.alts ∧ (vrMa x).length ≤ 4 * Ta.tots t.alts ∧ vrMas (t.alts.take (i + 1)) = vrMas (t.alts.take i) ++ vrMa x ∧
   den E 13 [.agg (tmC x.body)] [] = some (.own 9 0 ((vrM x.body).map .str), []) := by
   intro i hi
   obtain ⟨x, hx⟩ := getS hi
   have hxs := ta_tots_mem (List.mem_of_getElem? hx)
   have hto := ta_tot_of x
   refine ⟨x, hx, ?_, ?_, ?_, ih x.body (by omega) (by omega) (hg.alt (List.mem_of_getElem? hx))⟩
   · have := vrMas_le (t.alts.take i); have := ta_tots_take t.alts i; omega
   · have := vrM_le x.body; unfold vrMa; (try simp only [List.length_append]); omega
   · rw [take_snoc hx, vrMas_snoc]
  have hf := freeT_le _ t.ty (Nat.le_refl _) [] []
  simp only [List.length_nil, Nat.zero_add] at hf
  have df := r2Free_den t.ty hg.typ (by omega)
  have dc := stands_den _ t.co (Nat.le_refl _) (by omega) hg.cox
  have hcl := stC_le t.co
  rw [tyV_eq] at df
  rw [cxC_eq] at dc
  have a1 : (freeT t.ty [] []).length + (stC t.co).length ≤ appMax := by unfold appMax; omega
  have a2 : (freeT t.ty [] []).length + (stC t.co).length + 1 ≤ appMax := by unfold appMax; omega
  obtain ⟨fin, hfin⟩ : ∃ fin, fin = (some (.own 9 0 ((vrM t).map .str), []) : Option (AVal × Heap)) := ⟨_, rfl⟩
  rw [← hfin]
  rw [vrM_eq] at hfin
  rw [den_eq prim_13, body_13]
  cases k1 : t.kind == 1
  · rw [k1] at hfin
    simp only [Bool.false_eq_true, if_false, List.append_nil] at hfin
    obtain ⟨W, hW⟩ : ∃ W : Nat → List (List UInt8), ∀ i, W i = (freeT t.ty [] [] ++ stC t.co) ++ vrMs (t.kids.take i) := ⟨_, fun _ => rfl⟩
    obtain ⟨X, hX⟩ : ∃ X : Nat → List (List UInt8), ∀ i, X i = (freeT t.ty [] [] ++ stC t.co) ++ vrMs t.kids ++ vrMas (t.alts.take i) := ⟨_, fun _ => rfl⟩
    have m0 : (W 0).map AVal.str = ((freeT t.ty [] [] ++ stC t.co)).map AVal.str := by rw [hW, List.take_zero, vrMs_nil, List.append_nil]
    (try simp only [List.map_append] at m0)
    have mX : (X 0).map AVal.str = (W t.kids.length).map AVal.str := by rw [hW, hX, List.take_zero, vrMas_nil, List.append_nil, List.take_length]
    have mE : fin = some (.own 9 0 ((X t.alts.length).map .str), []) := by rw [hfin, hX, List.take_length]
    rcases headCase (stC t.co) with hc0 | ⟨yc, hc0⟩ <;>
    (simp only [go_sem, Tryz.f13, tmC_eq t, k1, df, dc, List.length_map, a1, hc0]
     refine run_for (fun i => ⟨[(1, .ptr (.loc 1) 0), (3, .own 9 0 ((W i).map .str)), (4, .int .i64 i)], [], [(1, tmC t)], 1⟩) t.kids.length ?_ ?_ ?_
     · simp only [go_sem, tmC_eq t, m0]
     · intro i hi h
       obtain ⟨x, hx, l1, l2, e, d⟩ := lp i hi
       have w1 : IntKind.i64.wrap ((i : Int) + 1) = ((i + 1 : Nat) : Int) := wrapN (i + 1) (by omega)
       have ap : (W i).length + (vrM x).length ≤ appMax := by rw [hW]; (try simp only [List.length_append]); unfold appMax; omega
       have m1 : (W (i + 1)).map AVal.str = (W i).map AVal.str ++ (vrM x).map AVal.str := by rw [hW, hW, e]; simp only [List.map_append, List.append_assoc]
       rw [m1] at h
       rw [tmC_eq] at d
       rcases headCase (vrM x) with hh | ⟨y, hh⟩ <;>
       (simp only [go_sem, natlt, decide_eq_true hi, rl, natge0, tonat, tmsV_get, hx, tmC_eq t, tmC_eq x, d, List.length_map, ap, hh]
        refine h _ ?_
        simp only [go_sem, w1, tmC_eq t])
     · simp only [go_sem, natlt, Nat.lt_irrefl, rl, tmC_eq t]
       refine run_for (fun i => ⟨[(1, .ptr (.loc 1) 0), (3, .own 9 0 ((X i).map .str)), (5, .int .i64 i)], [], [(1, tmC t)], 1⟩) t.alts.length ?_ ?_ ?_
       · simp only [go_sem, tmC_eq t, mX]
       · intro i hi h
         obtain ⟨x, hx, l1, l2, e, d⟩ := lq i hi
         have w1 : IntKind.i64.wrap ((i : Int) + 1) = ((i + 1 : Nat) : Int) := wrapN (i + 1) (by omega)
         unfold vrMa at e l2
         (try simp only [List.length_append] at l2)
         rw [tmC_eq] at d
         have ap : (X i).length + (vrM x.body).length ≤ appMax := by rw [hX]; (try simp only [List.length_append]); unfold appMax; omega
         have m1 : (X (i + 1)).map AVal.str = (X i).map AVal.str ++ (vrM x.body).map AVal.str := by rw [hX, hX, e]; simp only [List.map_append, List.append_assoc]
         rw [m1] at h
         rcases headCase (vrM x.body) with hh | ⟨y, hh⟩ <;>
         (simp only [go_sem, natlt, decide_eq_true hi, ra, natge0, tonat, tasV_get, hx, tmC_eq t, taV_c, taC_eq, d, List.length_map, ap, hh]
          refine h _ ?_
          simp only [go_sem, w1, tmC_eq t])
       · simp only [go_sem, natlt, Nat.lt_irrefl, ra, tmC_eq t, mE])
  · rw [k1] at hfin
    simp only [if_true] at hfin
    obtain ⟨W, hW⟩ : ∃ W : Nat → List (List UInt8), ∀ i, W i = (freeT t.ty [] [] ++ stC t.co ++ [t.name]) ++ vrMs (t.kids.take i) := ⟨_, fun _ => rfl⟩
    obtain ⟨X, hX⟩ : ∃ X : Nat → List (List UInt8), ∀ i, X i = (freeT t.ty [] [] ++ stC t.co ++ [t.name]) ++ vrMs t.kids ++ vrMas (t.alts.take i) := ⟨_, fun _ => rfl⟩
    have m0 : (W 0).map AVal.str = ((freeT t.ty [] [] ++ stC t.co ++ [t.name])).map AVal.str := by rw [hW, List.take_zero, vrMs_nil, List.append_nil]
    (try simp only [List.map_append, List.map_cons, List.map_nil] at m0)
    have mX : (X 0).map AVal.str = (W t.kids.length).map AVal.str := by rw [hW, hX, List.take_zero, vrMas_nil, List.append_nil, List.take_length]
    have mE : fin = some (.own 9 0 ((X t.alts.length).map .str), []) := by rw [hfin, hX, List.take_length]
    rcases headCase (stC t.co) with hc0 | ⟨yc, hc0⟩ <;>
    (simp only [go_sem, Tryz.f13, tmC_eq t, k1, df, dc, List.length_map, a1, a2, hc0, List.length_append]
     refine run_for (fun i => ⟨[(1, .ptr (.loc 1) 0), (3, .own 9 0 ((W i).map .str)), (4, .int .i64 i)], [], [(1, tmC t)], 1⟩) t.kids.length ?_ ?_ ?_
     · simp only [go_sem, tmC_eq t, m0]
     · intro i hi h
       obtain ⟨x, hx, l1, l2, e, d⟩ := lp i hi
       have w1 : IntKind.i64.wrap ((i : Int) + 1) = ((i + 1 : Nat) : Int) := wrapN (i + 1) (by omega)
       have ap : (W i).length + (vrM x).length ≤ appMax := by rw [hW]; (try simp only [List.length_append, List.length_nil, List.length_cons]); unfold appMax; omega
       have m1 : (W (i + 1)).map AVal.str = (W i).map AVal.str ++ (vrM x).map AVal.str := by rw [hW, hW, e]; simp only [List.map_append, List.append_assoc]
       rw [m1] at h
       rw [tmC_eq] at d
       rcases headCase (vrM x) with hh | ⟨y, hh⟩ <;>
       (simp only [go_sem, natlt, decide_eq_true hi, rl, natge0, tonat, tmsV_get, hx, tmC_eq t, tmC_eq x, d, List.length_map, ap, hh]
        refine h _ ?_
        simp only [go_sem, w1, tmC_eq t])
     · simp only [go_sem, natlt, Nat.lt_irrefl, rl, tmC_eq t]
       refine run_for (fun i => ⟨[(1, .ptr (.loc 1) 0), (3, .own 9 0 ((X i).map .str)), (5, .int .i64 i)], [], [(1, tmC t)], 1⟩) t.alts.length ?_ ?_ ?_
       · simp only [go_sem, tmC_eq t, mX]
       · intro i hi h
         obtain ⟨x, hx, l1, l2, e, d⟩ := lq i hi
         have w1 : IntKind.i64.wrap ((i : Int) + 1) = ((i + 1 : Nat) : Int) := wrapN (i + 1) (by omega)
         unfold vrMa at e l2
         (try simp only [List.length_append] at l2)
         rw [tmC_eq] at d
         have ap : (X i).length + (vrM x.body).length ≤ appMax := by rw [hX]; (try simp only [List.length_append, List.length_nil, List.length_cons]); unfold appMax; omega
         have m1 : (X (i + 1)).map AVal.str = (X i).map AVal.str ++ (vrM x.body).map AVal.str := by rw [hX, hX, e]; simp only [List.map_append, List.append_assoc]
         rw [m1] at h
         rcases headCase (vrM x.body) with hh | ⟨y, hh⟩ <;>
         (simp only [go_sem, natlt, decide_eq_true hi, ra, natge0, tonat, tasV_get, hx, tmC_eq t, taV_c, taC_eq, d, List.length_map, ap, hh]
          refine h _ ?_
          simp only [go_sem, w1, tmC_eq t])
       · simp only [go_sem, natlt, Nat.lt_irrefl, ra, tmC_eq t, mE])

theorem r12binds_den : ∀ (n : Nat) (t : Tm), t.tot ≤ n → t.tot < 100000 → GM0 t → den E 14 [.agg (tmC t)] [] = some (.own 9 0 ((bnM t).map .str), []) := by
 intro n
 induction n with
 | zero => intro t h; have := tm_tot_pos t; omega
 | succ n ih =>
  intro t hn hb hg
  have ht := tm_tot_of t
  have hs := sz_pos t.ty
  have hc := cx_tot_pos t.co
  have hkl := tmT_len t.kids
  have hal := ta_tots_len t.alts
  have rl := tmsV_len t.kids
  have ra := tasV_len t.alts
  have hsl := bnMs_le t.kids
  have lp : ∀ i, i < t.kids.length → ∃ x, t.kids[i]? = some x ∧ (bnMs (t.kids.take i)).length ≤ 4 * Tm.tots t.kids ∧ (bnM x).length ≤ 4 * Tm.tots t.kids ∧ bnMs (t.kids.take (i + 1)) = bnMs (t.kids.take i) ++ bnM x ∧
   den E 14 [.agg (tmC x)] [] = some (.own 9 0 ((bnM x).map .str), []) := by
   intro i hi
   obtain ⟨x, hx⟩ := getS hi
   have hxs := tmT_mem (List.mem_of_getElem? hx)
   refine ⟨x, hx, ?_, ?_, ?_, ih x (by omega) (by omega) (hg.kid (List.mem_of_getElem? hx))⟩
   · have := bnMs_le (t.kids.take i); have := tm_tots_take t.kids i; omega
   · have := bnM_le x; omega
   · rw [take_snoc hx, bnMs_snoc]
  have lq : ∀ i, i < t.alts.length → ∃ x, t.alts[i]? = some x ∧ (bnMas (t.alts.take i)).length ≤ 4 * Ta.tots t.alts ∧ (bnMa x).length ≤ 4 * Ta.tots t.alts ∧ bnMas (t.alts.take (i + 1)) = bnMas (t.alts.take i) ++ bnMa x ∧
   den E 14 [.agg (tmC x.body)] [] = some (.own 9 0 ((bnM x.body).map .str), []) := by
   intro i hi
   obtain ⟨x, hx⟩ := getS hi
   have hxs := ta_tots_mem (List.mem_of_getElem? hx)
   have hto := ta_tot_of x
   refine ⟨x, hx, ?_, ?_, ?_, ih x.body (by omega) (by omega) (hg.alt (List.mem_of_getElem? hx))⟩
   · have := bnMas_le (t.alts.take i); have := ta_tots_take t.alts i; omega
   · have := bnM_le x.body; unfold bnMa; (try simp only [List.length_append]); omega
   · rw [take_snoc hx, bnMas_snoc]
  have dc := r12binders_den _ t.co (Nat.le_refl _) (by omega) hg.cox
  have hcl := bnC_le t.co
  rw [cxC_eq] at dc
  have a1 : (bnC t.co).length + 1 ≤ appMax := by unfold appMax; omega
  obtain ⟨fin, hfin⟩ : ∃ fin, fin = (some (.own 9 0 ((bnM t).map .str), []) : Option (AVal × Heap)) := ⟨_, rfl⟩
  rw [← hfin]
  rw [bnM_eq] at hfin
  rw [den_eq prim_14, body_14]
  cases kq : (t.kind == 3 || t.kind == 4 || t.kind == 8)
  · rw [kq] at hfin
    simp only [Bool.false_eq_true, if_false, List.append_nil] at hfin
    simp only [Bool.or_eq_false_iff] at kq
    obtain ⟨⟨k3, k4⟩, k8⟩ := kq
    obtain ⟨W, hW⟩ : ∃ W : Nat → List (List UInt8), ∀ i, W i = bnC t.co ++ bnMs (t.kids.take i) := ⟨_, fun _ => rfl⟩
    obtain ⟨X, hX⟩ : ∃ X : Nat → List (List UInt8), ∀ i, X i = bnC t.co ++ bnMs t.kids ++ bnMas (t.alts.take i) := ⟨_, fun _ => rfl⟩
    have m0 : (W 0).map AVal.str = (bnC t.co).map AVal.str := by rw [hW, List.take_zero, bnMs_nil, List.append_nil]
    (try simp only [List.map_append, List.map_cons, List.map_nil] at m0)
    have mX : (X 0).map AVal.str = (W t.kids.length).map AVal.str := by rw [hW, hX, List.take_zero, bnMas_nil, List.append_nil, List.take_length]
    have mE : fin = some (.own 9 0 ((X t.alts.length).map .str), []) := by rw [hfin, hX, List.take_length]
    simp only [go_sem, Tryz.f14, tmC_eq t, k3, k4, k8, dc]
    refine run_for (fun i => ⟨[(1, .ptr (.loc 1) 0), (3, .own 9 0 ((W i).map .str)), (4, .int .i64 i)], [], [(1, tmC t)], 1⟩) t.kids.length ?_ ?_ ?_
    · simp only [go_sem, tmC_eq t, m0]
    · intro i hi h
      obtain ⟨x, hx, l1, l2, e, d⟩ := lp i hi
      have w1 : IntKind.i64.wrap ((i : Int) + 1) = ((i + 1 : Nat) : Int) := wrapN (i + 1) (by omega)
      have ap : (W i).length + (bnM x).length ≤ appMax := by rw [hW]; (try simp only [List.length_append]); unfold appMax; omega
      have m1 : (W (i + 1)).map AVal.str = (W i).map AVal.str ++ (bnM x).map AVal.str := by rw [hW, hW, e]; simp only [List.map_append, List.append_assoc]
      rw [m1] at h
      rw [tmC_eq] at d
      rcases headCase (bnM x) with hh | ⟨y, hh⟩ <;>
      (simp only [go_sem, natlt, decide_eq_true hi, rl, natge0, tonat, tmsV_get, hx, tmC_eq t, tmC_eq x, d, List.length_map, ap, hh]
       refine h _ ?_
       simp only [go_sem, w1, tmC_eq t])
    · simp only [go_sem, natlt, Nat.lt_irrefl, rl, tmC_eq t]
      refine run_for (fun i => ⟨[(1, .ptr (.loc 1) 0), (3, .own 9 0 ((X i).map .str)), (5, .int .i64 i)], [], [(1, tmC t)], 1⟩) t.alts.length ?_ ?_ ?_
      · simp only [go_sem, tmC_eq t, mX]
      · intro i hi h
        obtain ⟨x, hx, l1, l2, e, d⟩ := lq i hi
        have w1 : IntKind.i64.wrap ((i : Int) + 1) = ((i + 1 : Nat) : Int) := wrapN (i + 1) (by omega)
        unfold bnMa at e l2
        (try simp only [List.length_append] at l2)
        rw [tmC_eq] at d
        have lX : (X i).length + x.types.length + x.cos.length + x.vars.length + (bnM x.body).length ≤ appMax := by rw [hX]; (try simp only [List.length_append]); unfold appMax; omega
        have ap1 : (X i).length + x.types.length ≤ appMax := by omega
        have ap2 : (X i).length + x.types.length + x.cos.length ≤ appMax := by omega
        have ap3 : (X i).length + x.types.length + x.cos.length + x.vars.length ≤ appMax := by omega
        have ap2' : (X i).length + (x.types.length + x.cos.length) ≤ appMax := by omega
        have ap3' : (X i).length + (x.types.length + (x.cos.length + x.vars.length)) ≤ appMax := by omega
        have ap4' : (X i).length + (x.types.length + (x.cos.length + (x.vars.length + (bnM x.body).length))) ≤ appMax := by omega
        have m1 : (X (i + 1)).map AVal.str = (X i).map AVal.str ++ (x.types.map AVal.str ++ (x.cos.map AVal.str ++ (x.vars.map AVal.str ++ (bnM x.body).map AVal.str))) := by rw [hX, hX, e]; simp only [List.map_append, List.append_assoc]
        rw [m1] at h
        rcases headCase x.types with h1 | ⟨y1, h1⟩ <;> rcases headCase x.cos with h2 | ⟨y2, h2⟩ <;> rcases headCase x.vars with h3 | ⟨y3, h3⟩ <;> rcases headCase (bnM x.body) with h4 | ⟨y4, h4⟩ <;>
        (simp only [go_sem, natlt, decide_eq_true hi, ra, natge0, tonat, tasV_get, hx, tmC_eq t, taV_c, taC_eq, d, List.length_map, List.length_append, ap1, ap2, ap3, lX, h1, h2, h3, h4]
         refine h _ ?_
         simp only [go_sem, w1, tmC_eq t, List.append_assoc])
      · simp only [go_sem, natlt, Nat.lt_irrefl, ra, tmC_eq t, mE]
  · rw [kq] at hfin
    simp only [if_true] at hfin
    have kc : (t.kind == 3) = true ∨ (t.kind == 3) = false ∧ (t.kind == 4) = true ∨ (t.kind == 3) = false ∧ (t.kind == 4) = false ∧ (t.kind == 8) = true := by
     revert kq
     cases t.kind == 3 <;> cases t.kind == 4 <;> cases t.kind == 8 <;> simp
    rcases kc with k3 | ⟨k3, k4⟩ | ⟨k3, k4, k8⟩
    · obtain ⟨W, hW⟩ : ∃ W : Nat → List (List UInt8), ∀ i, W i = (bnC t.co ++ [t.name]) ++ bnMs (t.kids.take i) := ⟨_, fun _ => rfl⟩
      obtain ⟨X, hX⟩ : ∃ X : Nat → List (List UInt8), ∀ i, X i = (bnC t.co ++ [t.name]) ++ bnMs t.kids ++ bnMas (t.alts.take i) := ⟨_, fun _ => rfl⟩
      have m0 : (W 0).map AVal.str = ((bnC t.co ++ [t.name])).map AVal.str := by rw [hW, List.take_zero, bnMs_nil, List.append_nil]
      (try simp only [List.map_append, List.map_cons, List.map_nil] at m0)
      have mX : (X 0).map AVal.str = (W t.kids.length).map AVal.str := by rw [hW, hX, List.take_zero, bnMas_nil, List.append_nil, List.take_length]
      have mE : fin = some (.own 9 0 ((X t.alts.length).map .str), []) := by rw [hfin, hX, List.take_length]
      simp only [go_sem, Tryz.f14, tmC_eq t, k3, dc, List.length_map, a1]
      refine run_for (fun i => ⟨[(1, .ptr (.loc 1) 0), (3, .own 9 0 ((W i).map .str)), (4, .int .i64 i)], [], [(1, tmC t)], 1⟩) t.kids.length ?_ ?_ ?_
      · simp only [go_sem, tmC_eq t, m0]
      · intro i hi h
        obtain ⟨x, hx, l1, l2, e, d⟩ := lp i hi
        have w1 : IntKind.i64.wrap ((i : Int) + 1) = ((i + 1 : Nat) : Int) := wrapN (i + 1) (by omega)
        have ap : (W i).length + (bnM x).length ≤ appMax := by rw [hW]; (try simp only [List.length_append, List.length_nil, List.length_cons]); unfold appMax; omega
        have m1 : (W (i + 1)).map AVal.str = (W i).map AVal.str ++ (bnM x).map AVal.str := by rw [hW, hW, e]; simp only [List.map_append, List.append_assoc]
        rw [m1] at h
        rw [tmC_eq] at d
        rcases headCase (bnM x) with hh | ⟨y, hh⟩ <;>
        (simp only [go_sem, natlt, decide_eq_true hi, rl, natge0, tonat, tmsV_get, hx, tmC_eq t, tmC_eq x, d, List.length_map, ap, hh]
         refine h _ ?_
         simp only [go_sem, w1, tmC_eq t])
      · simp only [go_sem, natlt, Nat.lt_irrefl, rl, tmC_eq t]
        refine run_for (fun i => ⟨[(1, .ptr (.loc 1) 0), (3, .own 9 0 ((X i).map .str)), (5, .int .i64 i)], [], [(1, tmC t)], 1⟩) t.alts.length ?_ ?_ ?_
        · simp only [go_sem, tmC_eq t, mX]
        · intro i hi h
          obtain ⟨x, hx, l1, l2, e, d⟩ := lq i hi
          have w1 : IntKind.i64.wrap ((i : Int) + 1) = ((i + 1 : Nat) : Int) := wrapN (i + 1) (by omega)
          unfold bnMa at e l2
          (try simp only [List.length_append] at l2)
          rw [tmC_eq] at d
          have lX : (X i).length + x.types.length + x.cos.length + x.vars.length + (bnM x.body).length ≤ appMax := by rw [hX]; (try simp only [List.length_append, List.length_nil, List.length_cons]); unfold appMax; omega
          have ap1 : (X i).length + x.types.length ≤ appMax := by omega
          have ap2 : (X i).length + x.types.length + x.cos.length ≤ appMax := by omega
          have ap3 : (X i).length + x.types.length + x.cos.length + x.vars.length ≤ appMax := by omega
          have ap2' : (X i).length + (x.types.length + x.cos.length) ≤ appMax := by omega
          have ap3' : (X i).length + (x.types.length + (x.cos.length + x.vars.length)) ≤ appMax := by omega
          have ap4' : (X i).length + (x.types.length + (x.cos.length + (x.vars.length + (bnM x.body).length))) ≤ appMax := by omega
          have m1 : (X (i + 1)).map AVal.str = (X i).map AVal.str ++ (x.types.map AVal.str ++ (x.cos.map AVal.str ++ (x.vars.map AVal.str ++ (bnM x.body).map AVal.str))) := by rw [hX, hX, e]; simp only [List.map_append, List.append_assoc]
          rw [m1] at h
          rcases headCase x.types with h1 | ⟨y1, h1⟩ <;> rcases headCase x.cos with h2 | ⟨y2, h2⟩ <;> rcases headCase x.vars with h3 | ⟨y3, h3⟩ <;> rcases headCase (bnM x.body) with h4 | ⟨y4, h4⟩ <;>
          (simp only [go_sem, natlt, decide_eq_true hi, ra, natge0, tonat, tasV_get, hx, tmC_eq t, taV_c, taC_eq, d, List.length_map, List.length_append, ap1, ap2, ap3, lX, h1, h2, h3, h4]
           refine h _ ?_
           simp only [go_sem, w1, tmC_eq t, List.append_assoc])
        · simp only [go_sem, natlt, Nat.lt_irrefl, ra, tmC_eq t, mE]
    · obtain ⟨W, hW⟩ : ∃ W : Nat → List (List UInt8), ∀ i, W i = (bnC t.co ++ [t.name]) ++ bnMs (t.kids.take i) := ⟨_, fun _ => rfl⟩
      obtain ⟨X, hX⟩ : ∃ X : Nat → List (List UInt8), ∀ i, X i = (bnC t.co ++ [t.name]) ++ bnMs t.kids ++ bnMas (t.alts.take i) := ⟨_, fun _ => rfl⟩
      have m0 : (W 0).map AVal.str = ((bnC t.co ++ [t.name])).map AVal.str := by rw [hW, List.take_zero, bnMs_nil, List.append_nil]
      (try simp only [List.map_append, List.map_cons, List.map_nil] at m0)
      have mX : (X 0).map AVal.str = (W t.kids.length).map AVal.str := by rw [hW, hX, List.take_zero, bnMas_nil, List.append_nil, List.take_length]
      have mE : fin = some (.own 9 0 ((X t.alts.length).map .str), []) := by rw [hfin, hX, List.take_length]
      simp only [go_sem, Tryz.f14, tmC_eq t, k3, k4, dc, List.length_map, a1]
      refine run_for (fun i => ⟨[(1, .ptr (.loc 1) 0), (3, .own 9 0 ((W i).map .str)), (4, .int .i64 i)], [], [(1, tmC t)], 1⟩) t.kids.length ?_ ?_ ?_
      · simp only [go_sem, tmC_eq t, m0]
      · intro i hi h
        obtain ⟨x, hx, l1, l2, e, d⟩ := lp i hi
        have w1 : IntKind.i64.wrap ((i : Int) + 1) = ((i + 1 : Nat) : Int) := wrapN (i + 1) (by omega)
        have ap : (W i).length + (bnM x).length ≤ appMax := by rw [hW]; (try simp only [List.length_append, List.length_nil, List.length_cons]); unfold appMax; omega
        have m1 : (W (i + 1)).map AVal.str = (W i).map AVal.str ++ (bnM x).map AVal.str := by rw [hW, hW, e]; simp only [List.map_append, List.append_assoc]
        rw [m1] at h
        rw [tmC_eq] at d
        rcases headCase (bnM x) with hh | ⟨y, hh⟩ <;>
        (simp only [go_sem, natlt, decide_eq_true hi, rl, natge0, tonat, tmsV_get, hx, tmC_eq t, tmC_eq x, d, List.length_map, ap, hh]
         refine h _ ?_
         simp only [go_sem, w1, tmC_eq t])
      · simp only [go_sem, natlt, Nat.lt_irrefl, rl, tmC_eq t]
        refine run_for (fun i => ⟨[(1, .ptr (.loc 1) 0), (3, .own 9 0 ((X i).map .str)), (5, .int .i64 i)], [], [(1, tmC t)], 1⟩) t.alts.length ?_ ?_ ?_
        · simp only [go_sem, tmC_eq t, mX]
        · intro i hi h
          obtain ⟨x, hx, l1, l2, e, d⟩ := lq i hi
          have w1 : IntKind.i64.wrap ((i : Int) + 1) = ((i + 1 : Nat) : Int) := wrapN (i + 1) (by omega)
          unfold bnMa at e l2
          (try simp only [List.length_append] at l2)
          rw [tmC_eq] at d
          have lX : (X i).length + x.types.length + x.cos.length + x.vars.length + (bnM x.body).length ≤ appMax := by rw [hX]; (try simp only [List.length_append, List.length_nil, List.length_cons]); unfold appMax; omega
          have ap1 : (X i).length + x.types.length ≤ appMax := by omega
          have ap2 : (X i).length + x.types.length + x.cos.length ≤ appMax := by omega
          have ap3 : (X i).length + x.types.length + x.cos.length + x.vars.length ≤ appMax := by omega
          have ap2' : (X i).length + (x.types.length + x.cos.length) ≤ appMax := by omega
          have ap3' : (X i).length + (x.types.length + (x.cos.length + x.vars.length)) ≤ appMax := by omega
          have ap4' : (X i).length + (x.types.length + (x.cos.length + (x.vars.length + (bnM x.body).length))) ≤ appMax := by omega
          have m1 : (X (i + 1)).map AVal.str = (X i).map AVal.str ++ (x.types.map AVal.str ++ (x.cos.map AVal.str ++ (x.vars.map AVal.str ++ (bnM x.body).map AVal.str))) := by rw [hX, hX, e]; simp only [List.map_append, List.append_assoc]
          rw [m1] at h
          rcases headCase x.types with h1 | ⟨y1, h1⟩ <;> rcases headCase x.cos with h2 | ⟨y2, h2⟩ <;> rcases headCase x.vars with h3 | ⟨y3, h3⟩ <;> rcases headCase (bnM x.body) with h4 | ⟨y4, h4⟩ <;>
          (simp only [go_sem, natlt, decide_eq_true hi, ra, natge0, tonat, tasV_get, hx, tmC_eq t, taV_c, taC_eq, d, List.length_map, List.length_append, ap1, ap2, ap3, lX, h1, h2, h3, h4]
           refine h _ ?_
           simp only [go_sem, w1, tmC_eq t, List.append_assoc])
        · simp only [go_sem, natlt, Nat.lt_irrefl, ra, tmC_eq t, mE]
    · obtain ⟨W, hW⟩ : ∃ W : Nat → List (List UInt8), ∀ i, W i = (bnC t.co ++ [t.name]) ++ bnMs (t.kids.take i) := ⟨_, fun _ => rfl⟩
      obtain ⟨X, hX⟩ : ∃ X : Nat → List (List UInt8), ∀ i, X i = (bnC t.co ++ [t.name]) ++ bnMs t.kids ++ bnMas (t.alts.take i) := ⟨_, fun _ => rfl⟩
      have m0 : (W 0).map AVal.str = ((bnC t.co ++ [t.name])).map AVal.str := by rw [hW, List.take_zero, bnMs_nil, List.append_nil]
      (try simp only [List.map_append, List.map_cons, List.map_nil] at m0)
      have mX : (X 0).map AVal.str = (W t.kids.length).map AVal.str := by rw [hW, hX, List.take_zero, bnMas_nil, List.append_nil, List.take_length]
      have mE : fin = some (.own 9 0 ((X t.alts.length).map .str), []) := by rw [hfin, hX, List.take_length]
      simp only [go_sem, Tryz.f14, tmC_eq t, k3, k4, k8, dc, List.length_map, a1]
      refine run_for (fun i => ⟨[(1, .ptr (.loc 1) 0), (3, .own 9 0 ((W i).map .str)), (4, .int .i64 i)], [], [(1, tmC t)], 1⟩) t.kids.length ?_ ?_ ?_
      · simp only [go_sem, tmC_eq t, m0]
      · intro i hi h
        obtain ⟨x, hx, l1, l2, e, d⟩ := lp i hi
        have w1 : IntKind.i64.wrap ((i : Int) + 1) = ((i + 1 : Nat) : Int) := wrapN (i + 1) (by omega)
        have ap : (W i).length + (bnM x).length ≤ appMax := by rw [hW]; (try simp only [List.length_append, List.length_nil, List.length_cons]); unfold appMax; omega
        have m1 : (W (i + 1)).map AVal.str = (W i).map AVal.str ++ (bnM x).map AVal.str := by rw [hW, hW, e]; simp only [List.map_append, List.append_assoc]
        rw [m1] at h
        rw [tmC_eq] at d
        rcases headCase (bnM x) with hh | ⟨y, hh⟩ <;>
        (simp only [go_sem, natlt, decide_eq_true hi, rl, natge0, tonat, tmsV_get, hx, tmC_eq t, tmC_eq x, d, List.length_map, ap, hh]
         refine h _ ?_
         simp only [go_sem, w1, tmC_eq t])
      · simp only [go_sem, natlt, Nat.lt_irrefl, rl, tmC_eq t]
        refine run_for (fun i => ⟨[(1, .ptr (.loc 1) 0), (3, .own 9 0 ((X i).map .str)), (5, .int .i64 i)], [], [(1, tmC t)], 1⟩) t.alts.length ?_ ?_ ?_
        · simp only [go_sem, tmC_eq t, mX]
        · intro i hi h
          obtain ⟨x, hx, l1, l2, e, d⟩ := lq i hi
          have w1 : IntKind.i64.wrap ((i : Int) + 1) = ((i + 1 : Nat) : Int) := wrapN (i + 1) (by omega)
          unfold bnMa at e l2
          (try simp only [List.length_append] at l2)
          rw [tmC_eq] at d
          have lX : (X i).length + x.types.length + x.cos.length + x.vars.length + (bnM x.body).length ≤ appMax := by rw [hX]; (try simp only [List.length_append, List.length_nil, List.length_cons]); unfold appMax; omega
          have ap1 : (X i).length + x.types.length ≤ appMax := by omega
          have ap2 : (X i).length + x.types.length + x.cos.length ≤ appMax := by omega
          have ap3 : (X i).length + x.types.length + x.cos.length + x.vars.length ≤ appMax := by omega
          have ap2' : (X i).length + (x.types.length + x.cos.length) ≤ appMax := by omega
          have ap3' : (X i).length + (x.types.length + (x.cos.length + x.vars.length)) ≤ appMax := by omega
          have ap4' : (X i).length + (x.types.length + (x.cos.length + (x.vars.length + (bnM x.body).length))) ≤ appMax := by omega
          have m1 : (X (i + 1)).map AVal.str = (X i).map AVal.str ++ (x.types.map AVal.str ++ (x.cos.map AVal.str ++ (x.vars.map AVal.str ++ (bnM x.body).map AVal.str))) := by rw [hX, hX, e]; simp only [List.map_append, List.append_assoc]
          rw [m1] at h
          rcases headCase x.types with h1 | ⟨y1, h1⟩ <;> rcases headCase x.cos with h2 | ⟨y2, h2⟩ <;> rcases headCase x.vars with h3 | ⟨y3, h3⟩ <;> rcases headCase (bnM x.body) with h4 | ⟨y4, h4⟩ <;>
          (simp only [go_sem, natlt, decide_eq_true hi, ra, natge0, tonat, tasV_get, hx, tmC_eq t, taV_c, taC_eq, d, List.length_map, List.length_append, ap1, ap2, ap3, lX, h1, h2, h3, h4]
           refine h _ ?_
           simp only [go_sem, w1, tmC_eq t, List.append_assoc])
        · simp only [go_sem, natlt, Nat.lt_irrefl, ra, tmC_eq t, mE]
end Go.Proofs
