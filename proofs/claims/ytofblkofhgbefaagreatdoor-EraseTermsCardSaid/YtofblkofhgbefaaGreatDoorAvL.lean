/- What is left of terms and expressions; the laws without the document. -/
import Derived.Test.YtofblkofhgbefaaGreatDoorAvK
namespace Go.Proofs
open Go.Av
set_option maxHeartbeats 32000000
set_option maxRecDepth 100000
/-! what is left of an expression -/
mutual
def Ex.src : Ex → Ex
  | .mk k s _ _ ks al => if k == 7 then (Ex.srcs ks).headD zEx else .mk k s false zTy (Ex.srcs ks) (Al.srcs al)
def Ex.srcs : List Ex → List Ex
  | [] => []
  | e :: r => Ex.src e :: Ex.srcs r
def Al.src : Al → Al
  | .mk c v e => .mk c v (Ex.src e)
def Al.srcs : List Al → List Al
  | [] => []
  | a :: r => Al.src a :: Al.srcs r
end
theorem srcs_map (l : List Ex) : Ex.srcs l = l.map Ex.src := by induction l <;> simp_all [Ex.srcs]
theorem alsrcs_map (l : List Al) : Al.srcs l = l.map Al.src := by induction l <;> simp_all [Al.srcs]
theorem alsrc_eq (a : Al) : a.src = .mk a.con a.vars a.body.src := by cases a; simp [Al.src, Al.con, Al.vars, Al.body]
theorem src_eq (e : Ex) (h : (e.kind == 7) = false) : e.src = .mk e.kind e.name false zTy (e.kids.map Ex.src) (e.alts.map Al.src) := by
  cases e with
  | mk k s b t ks al =>
    simp only [exmk] at h ⊢
    simp only [Ex.src, h, Bool.false_eq_true, if_false, srcs_map, alsrcs_map]
theorem src_ann (t : Ty) (x : Ex) : (Ex.mk 7 [] false t [x] []).src = x.src := by simp [Ex.src, Ex.srcs]
theorem als_snoc (l : List Al) (a : Al) : alsV l ++ [alV a] = alsV (l ++ [a]) := by simp [alsV_map]
theorem eachE_den (g : FuncId) (F : Ex → Ex) (l : List Ex) (hl : l.length < 1000000) (h : ∀ x ∈ l, den E g [.agg (exC x)] [] = some (.agg (exC (F x)), [])) :
    den E 76 [.slice (exsV l), .func g [] []] [] = some (.slice (exsV (l.map F)), []) := by
  rw [den_eq prim_76, body_76]
  simp only [go_sem, ↓reduceIte, Nat.reduceEqDiff, Nat.reduceAdd, reduceCtorEq, Tryz.f76]
  refine run_for (fun i => ⟨[(1, .func g [] []), (5, .own 61 0 (exsV ((l.take i).map F))), (8, .slice (exsV l)), (9, .int .i64 l.length), (10, .int .i64 i)], [], [], 1⟩) l.length ?_ ?_ ?_
  · simp only [go_sem, ↓reduceIte, Nat.reduceEqDiff, Nat.zero_ne_one, reduceCtorEq, Int.cast_ofNat_Int, exsV_len, List.take_zero, List.map_nil, exsV_nil]
  · intro i hi hrun
    have hlt := natlt_t hi
    have hx : l[i]? = some l[i] := List.getElem?_eq_getElem hi
    have hg : (exsV l)[i]? = some (.agg (exC l[i])) := by rw [exsV_get, hx]; rfl
    have d := h l[i] (List.getElem_mem hi)
    have hw := wrapN (i + 1) (by omega)
    have hw' : IntKind.i64.wrap ((i : Int) + 1) = ((i + 1 : Nat) : Int) := hw
    have hap : (exsV ((l.take i).map F)).length + 1 ≤ appMax := by rw [exsV_len, List.length_map, List.length_take]; unfold appMax; omega
    have hsn : exsV ((l.take i).map F) ++ [.agg (exC (F l[i]))] = exsV ((l.take (i + 1)).map F) := by
      rw [take_snoc hx, List.map_append, exsV_append]; simp [exsV]
    simp only [exC_eq] at hg d hsn
    simp only [go_sem, ↓reduceIte, Nat.reduceEqDiff, Nat.reduceAdd, Nat.reduceMul, Nat.reduceLeDiff, Nat.reduceLT, decide_true, hlt, natge0, tonat, hg, d, hap, hsn]
    refine hrun _ ?_
    simp only [go_sem, ↓reduceIte, Nat.reduceEqDiff, hw']
  · have hlt := natlt_f (Nat.lt_irrefl l.length)
    simp only [go_sem, ↓reduceIte, Nat.reduceEqDiff, Nat.reduceAdd, beq_self_eq_true, hlt, List.take_length]
theorem eachA_den (g : FuncId) (F : Al → Al) (l : List Al) (hl : l.length < 1000000) (h : ∀ x ∈ l, den E g [alV x] [] = some (alV (F x), [])) :
    den E 77 [.slice (alsV l), .func g [] []] [] = some (.slice (alsV (l.map F)), []) := by
  rw [den_eq prim_77, body_77]
  simp only [go_sem, ↓reduceIte, Nat.reduceEqDiff, Nat.reduceAdd, reduceCtorEq, Tryz.f77]
  refine run_for (fun i => ⟨[(1, .func g [] []), (5, .own 121 0 (alsV ((l.take i).map F))), (8, .slice (alsV l)), (9, .int .i64 l.length), (10, .int .i64 i)], [], [], 1⟩) l.length ?_ ?_ ?_
  · simp only [go_sem, ↓reduceIte, Nat.reduceEqDiff, Nat.zero_ne_one, reduceCtorEq, Int.cast_ofNat_Int, alsV_len, List.take_zero, List.map_nil, alsV_nil]
  · intro i hi hrun
    have hlt := natlt_t hi
    have hx : l[i]? = some l[i] := List.getElem?_eq_getElem hi
    have hg : (alsV l)[i]? = some (alV l[i]) := by rw [alsV_get, hx]; rfl
    have d := h l[i] (List.getElem_mem hi)
    have hw := wrapN (i + 1) (by omega)
    have hw' : IntKind.i64.wrap ((i : Int) + 1) = ((i + 1 : Nat) : Int) := hw
    have hap : (alsV ((l.take i).map F)).length + 1 ≤ appMax := by rw [alsV_len, List.length_map, List.length_take]; unfold appMax; omega
    have hsn : alsV ((l.take i).map F) ++ [alV (F l[i])] = alsV ((l.take (i + 1)).map F) := by
      rw [take_snoc hx, List.map_append, als_snoc]; rfl
    simp only [alV_eq, exC_eq] at hg d hsn
    simp only [go_sem, ↓reduceIte, Nat.reduceEqDiff, Nat.reduceAdd, Nat.reduceMul, Nat.reduceLeDiff, Nat.reduceLT, decide_true, hlt, natge0, tonat, hg, d, hap, hsn]
    refine hrun _ ?_
    simp only [go_sem, ↓reduceIte, Nat.reduceEqDiff, hw']
  · have hlt := natlt_f (Nat.lt_irrefl l.length)
    simp only [go_sem, ↓reduceIte, Nat.reduceEqDiff, Nat.reduceAdd, beq_self_eq_true, hlt, List.take_length]
theorem esrc_step (e : Ex) (h7 : (e.kind == 7) = false) (hs : e.tot < 1000000) (hk : ∀ x ∈ e.kids, den E 28 [.agg (exC x)] [] = some (.agg (exC x.src), [])) (ha : ∀ a ∈ e.alts, den E 28 [.agg (exC a.body)] [] = some (.agg (exC a.body.src), [])) :
    den E 28 [.agg (exC e)] [] = some (.agg (exC e.src), []) := by
  have ht := tot_eq e
  have l1 := tots_len e.kids
  have l2 := altsLen e
  have a1 := eachE_den 28 Ex.src e.kids (by omega) hk
  have a2 := eachA_den 78 Al.src e.alts (by omega) (fun a hm => by
    have d := ha a hm
    rw [den_eq prim_78, body_78, alV_eq, alsrc_eq, alV_eq]
    simp only [Al.con, Al.vars, Al.body, exC_eq] at d ⊢
    simp only [go_sem, ↓reduceIte, Nat.reduceEqDiff, Nat.reduceAdd, Nat.reduceLeDiff, Nat.zero_ne_one, Nat.reduceLT, reduceCtorEq, Tryz.f78, d])
  rw [den_eq prim_28, body_28, src_eq e h7]
  rw [exC_eq]
  simp only [go_sem, ↓reduceIte, Nat.reduceEqDiff, Nat.reduceAdd, Nat.reduceLeDiff, Nat.zero_ne_one, Nat.one_ne_zero, Nat.reduceLT, reduceCtorEq, Tryz.f28, h7, a1, a2, exmk, exC_eq, exmk, tysV_nil, zTy_k, zTy_s, zTy_n, zTy_a]
theorem esrc_den {e : Ex} (h : GX e) : e.tot < 1000000 → den E 28 [.agg (exC e)] [] = some (.agg (exC e.src), []) := by
  induction h with
  | nam k s hk h1 =>
    intro hs
    exact esrc_step _ (by rcases hk with rfl | rfl <;> rfl) hs (by simp [exmk]) (by simp [exmk])
  | lam s x h1 hx ih =>
    intro hs
    rw [tot_mk, tots_one] at hs
    exact esrc_step _ rfl (by rw [tot_mk, tots_one]; exact hs) (by intro y hy; simp only [exmk, List.mem_singleton] at hy; subst hy; exact ih (by omega)) (by simp [exmk])
  | app x y hx hy ihx ihy =>
    intro hs
    rw [tot_mk, tots_two] at hs
    refine esrc_step _ rfl (by rw [tot_mk, tots_two]; exact hs) ?_ (by simp [exmk])
    intro z hz
    simp only [exmk, List.mem_cons, List.not_mem_nil, or_false] at hz
    rcases hz with rfl | rfl
    · exact ihx (by omega)
    · exact ihy (by omega)
  | lett s t x y h1 hT hx hy ihx ihy =>
    intro hs
    rw [tot_mk, tots_two] at hs
    refine esrc_step _ rfl (by rw [tot_mk, tots_two]; exact hs) ?_ (by simp [exmk])
    intro z hz
    simp only [exmk, List.mem_cons, List.not_mem_nil, or_false] at hz
    rcases hz with rfl | rfl
    · exact ihx (by omega)
    · exact ihy (by omega)
  | letu s x y h1 hx hy ihx ihy =>
    intro hs
    rw [tot_mk, tots_two] at hs
    refine esrc_step _ rfl (by rw [tot_mk, tots_two]; exact hs) ?_ (by simp [exmk])
    intro z hz
    simp only [exmk, List.mem_cons, List.not_mem_nil, or_false] at hz
    rcases hz with rfl | rfl
    · exact ihx (by omega)
    · exact ihy (by omega)
  | cas x al hx hb hn ihx ihb =>
    intro hs
    have hs' := hs
    rw [tot_mk, tots_one] at hs
    refine esrc_step _ rfl hs' ?_ ?_
    · intro z hz
      simp only [exmk, List.mem_singleton] at hz
      subst hz
      exact ihx (by omega)
    · intro a ha
      simp only [exmk] at ha
      have := al_vars ha
      exact ihb a ha (by omega)
  | ann x t hx hT ih =>
    intro hs
    rw [tot_mk, tots_one] at hs
    have d := ih (by omega)
    rw [den_eq prim_28, body_28, src_ann]
    simp only [exC_eq] at d ⊢
    simp only [go_sem, ↓reduceIte, Nat.reduceEqDiff, Nat.reduceAdd, Nat.reduceLeDiff, Nat.zero_ne_one, Nat.one_ne_zero, Nat.reduceLT, reduceCtorEq, beq_self_eq_true, Tryz.f28, exmk, exsV_cons, exsV_nil, exC_eq, Int.le_refl, Int.toNat_zero, d]
theorem src_GX {e : Ex} (h : GX e) : GX e.src ∧ e.src.tot ≤ e.tot := by
  have lz := zTy_sz
  induction h with
  | nam k s hk h1 =>
    rcases hk with rfl | rfl
    · exact ⟨.nam 1 s (.inl rfl) h1, Nat.le_refl _⟩
    · exact ⟨.nam 2 s (.inr rfl) h1, Nat.le_refl _⟩
  | lam s x h1 hx ih =>
    refine ⟨.lam s x.src h1 ih.1, ?_⟩
    show (Ex.mk 3 s false zTy [x.src] []).tot ≤ _
    rw [tot_mk, tot_mk, tots_one, tots_one]; have := ih.2; omega
  | app x y hx hy ihx ihy =>
    refine ⟨.app x.src y.src ihx.1 ihy.1, ?_⟩
    show (Ex.mk 4 [] false zTy [x.src, y.src] []).tot ≤ _
    rw [tot_mk, tot_mk, tots_two, tots_two]; have := ihx.2; have := ihy.2; omega
  | lett s t x y h1 hT hx hy ihx ihy =>
    refine ⟨.letu s x.src y.src h1 ihx.1 ihy.1, ?_⟩
    show (Ex.mk 5 s false zTy [x.src, y.src] []).tot ≤ _
    rw [tot_mk, tot_mk, tots_two, tots_two]; have := ihx.2; have := ihy.2; have := sz_pos t; omega
  | letu s x y h1 hx hy ihx ihy =>
    refine ⟨.letu s x.src y.src h1 ihx.1 ihy.1, ?_⟩
    show (Ex.mk 5 s false zTy [x.src, y.src] []).tot ≤ _
    rw [tot_mk, tot_mk, tots_two, tots_two]; have := ihx.2; have := ihy.2; omega
  | cas x al hx hb hn ihx ihb =>
    have hal : Al.tots (al.map Al.src) ≤ Al.tots al := by
      have : ∀ l : List Al, (∀ a, a ∈ l → a.body.src.tot ≤ a.body.tot) → Al.tots (l.map Al.src) ≤ Al.tots l := by
        intro l hl
        induction l with
        | nil => simp [Al.tots]
        | cons a l ihl =>
          have i1 := ihl (fun b hb => hl b (List.mem_cons_of_mem _ hb))
          have i2 := hl a (List.mem_cons_self ..)
          cases a with
          | mk c v e => simp only [List.map_cons, Al.tots, Al.src, Al.tot, Al.body] at i1 i2 ⊢; omega
      exact this al (fun a ha => (ihb a ha).2)
    have he : (Ex.mk 6 [] false zTy [x] al).src = .mk 6 [] false zTy [x.src] (al.map Al.src) := by rw [src_eq _ rfl]; rfl
    rw [he]
    refine ⟨.cas x.src _ ihx.1 ?_ ?_, ?_⟩
    · intro a ha
      obtain ⟨b, hb1, rfl⟩ := List.mem_map.1 ha
      rw [alsrc_eq]; exact (ihb b hb1).1
    · intro a ha
      obtain ⟨b, hb1, rfl⟩ := List.mem_map.1 ha
      rw [alsrc_eq]; exact hn b hb1
    · rw [tot_mk, tot_mk, tots_one, tots_one]; have := ihx.2; omega
  | ann x t hx hT ih =>
    rw [src_ann]
    refine ⟨ih.1, ?_⟩
    rw [tot_mk, tots_one]; have := ih.2; omega
end Go.Proofs
namespace Go.Proofs
open Go.Av
set_option maxHeartbeats 32000000
set_option maxRecDepth 100000
/-! the document's -/
def roB (k : Int) (s : List UInt8) (ks al : List AVal) : List AVal := [.int .i64 k, .str s, .bool false, .int .i64 0, .str [], .int .i64 0, .own 47 0 [], .own 66 0 ks, .own 128 0 al]
/-! what is left of a term -/
def kindE (k : Int) : Int := if k == 1 then 1 else if k == 2 then 2 else if k == 3 then 3 else if k == 5 then 4 else if k == 8 then 5 else if k == 9 then 6 else 0
def overK (k : Int) : Bool := k == 4 || (k == 6 || (k == 7 || k == 10))
mutual
def Tm.era : Tm → Ex
  | .mk k s _ _ ks al => if overK k then (Tm.eras ks).headD zEx else .mk (kindE k) s false zTy (Tm.eras ks) (Ta.eras al)
def Tm.eras : List Tm → List Ex
  | [] => []
  | e :: r => Tm.era e :: Tm.eras r
def Ta.era : Ta → Al
  | .mk c _ _ v e => .mk c v (Tm.era e)
def Ta.eras : List Ta → List Al
  | [] => []
  | a :: r => Ta.era a :: Ta.eras r
end
theorem eras_map (l : List Tm) : Tm.eras l = l.map Tm.era := by induction l <;> simp_all [Tm.eras]
theorem taeras_map (l : List Ta) : Ta.eras l = l.map Ta.era := by induction l <;> simp_all [Ta.eras]
theorem taera_eq (a : Ta) : a.era = .mk a.con a.vars a.body.era := by cases a; simp [Ta.era, Ta.con, Ta.vars, Ta.body]
theorem era_eq (e : Tm) (h : overK e.kind = false) : e.era = .mk (kindE e.kind) e.name false zTy (e.kids.map Tm.era) (e.alts.map Ta.era) := by
  cases e with
  | mk k s t c ks al =>
    simp only [tmk] at h ⊢
    simp only [Tm.era, h, Bool.false_eq_true, if_false, eras_map, taeras_map]
theorem era_over (k : Int) (s : List UInt8) (t : Ty) (c : Cx) (x : Tm) (h : overK k = true) : (Tm.mk k s t c [x] []).era = x.era := by simp [Tm.era, Tm.eras, h]
theorem eachM_den (g : FuncId) (F : Tm → Ex) (l : List Tm) (hl : l.length < 1000000) (h : ∀ x ∈ l, den E g [.agg (tmC x)] [] = some (.agg (exC (F x)), [])) :
    den E 64 [.slice (tmsV l), .func g [] []] [] = some (.slice (exsV (l.map F)), []) := by
  rw [den_eq prim_64, body_64]
  simp only [go_sem, ↓reduceIte, Nat.reduceEqDiff, Nat.reduceAdd, reduceCtorEq, Tryz.f64]
  refine run_for (fun i => ⟨[(1, .func g [] []), (5, .own 61 0 (exsV ((l.take i).map F))), (8, .slice (tmsV l)), (9, .int .i64 l.length), (10, .int .i64 i)], [], [], 1⟩) l.length ?_ ?_ ?_
  · simp only [go_sem, ↓reduceIte, Nat.reduceEqDiff, Nat.zero_ne_one, reduceCtorEq, Int.cast_ofNat_Int, tmsV_len, List.take_zero, List.map_nil, exsV_nil]
  · intro i hi hrun
    have hlt := natlt_t hi
    have hx : l[i]? = some l[i] := List.getElem?_eq_getElem hi
    have hg : (tmsV l)[i]? = some (.agg (tmC l[i])) := by rw [tmsV_get, hx]; rfl
    have d := h l[i] (List.getElem_mem hi)
    have hw := wrapN (i + 1) (by omega)
    have hw' : IntKind.i64.wrap ((i : Int) + 1) = ((i + 1 : Nat) : Int) := hw
    have hap : (exsV ((l.take i).map F)).length + 1 ≤ appMax := by rw [exsV_len, List.length_map, List.length_take]; unfold appMax; omega
    have hsn : exsV ((l.take i).map F) ++ [.agg (exC (F l[i]))] = exsV ((l.take (i + 1)).map F) := by
      rw [take_snoc hx, List.map_append, exsV_append]; simp [exsV]
    simp only [exC_eq, tmC_eq] at hg d hsn
    simp only [go_sem, ↓reduceIte, Nat.reduceEqDiff, Nat.reduceAdd, Nat.reduceMul, Nat.reduceLeDiff, Nat.reduceLT, decide_true, hlt, natge0, tonat, hg, d, hap, hsn]
    refine hrun _ ?_
    simp only [go_sem, ↓reduceIte, Nat.reduceEqDiff, hw']
  · have hlt := natlt_f (Nat.lt_irrefl l.length)
    simp only [go_sem, ↓reduceIte, Nat.reduceEqDiff, Nat.reduceAdd, beq_self_eq_true, hlt, List.take_length]
theorem eachN_den (g : FuncId) (F : Ta → Al) (l : List Ta) (hl : l.length < 1000000) (h : ∀ x ∈ l, den E g [taV x] [] = some (alV (F x), [])) :
    den E 65 [.slice (tasV l), .func g [] []] [] = some (.slice (alsV (l.map F)), []) := by
  rw [den_eq prim_65, body_65]
  simp only [go_sem, ↓reduceIte, Nat.reduceEqDiff, Nat.reduceAdd, reduceCtorEq, Tryz.f65]
  refine run_for (fun i => ⟨[(1, .func g [] []), (5, .own 121 0 (alsV ((l.take i).map F))), (8, .slice (tasV l)), (9, .int .i64 l.length), (10, .int .i64 i)], [], [], 1⟩) l.length ?_ ?_ ?_
  · simp only [go_sem, ↓reduceIte, Nat.reduceEqDiff, Nat.zero_ne_one, reduceCtorEq, Int.cast_ofNat_Int, tasV_len, List.take_zero, List.map_nil, alsV_nil]
  · intro i hi hrun
    have hlt := natlt_t hi
    have hx : l[i]? = some l[i] := List.getElem?_eq_getElem hi
    have hg : (tasV l)[i]? = some (taV l[i]) := by rw [tasV_get, hx]; rfl
    have d := h l[i] (List.getElem_mem hi)
    have hw := wrapN (i + 1) (by omega)
    have hw' : IntKind.i64.wrap ((i : Int) + 1) = ((i + 1 : Nat) : Int) := hw
    have hap : (alsV ((l.take i).map F)).length + 1 ≤ appMax := by rw [alsV_len, List.length_map, List.length_take]; unfold appMax; omega
    have hsn : alsV ((l.take i).map F) ++ [alV (F l[i])] = alsV ((l.take (i + 1)).map F) := by
      rw [take_snoc hx, List.map_append, als_snoc]; rfl
    simp only [alV_eq, exC_eq, taV_eq, tmC_eq] at hg d hsn
    simp only [go_sem, ↓reduceIte, Nat.reduceEqDiff, Nat.reduceAdd, Nat.reduceMul, Nat.reduceLeDiff, Nat.reduceLT, decide_true, hlt, natge0, tonat, hg, d, hap, hsn]
    refine hrun _ ?_
    simp only [go_sem, ↓reduceIte, Nat.reduceEqDiff, hw']
  · have hlt := natlt_f (Nat.lt_irrefl l.length)
    simp only [go_sem, ↓reduceIte, Nat.reduceEqDiff, Nat.reduceAdd, beq_self_eq_true, hlt, List.take_length]
end Go.Proofs
namespace Go.Proofs
open Go.Av
set_option maxHeartbeats 32000000
set_option maxRecDepth 100000
theorem etrm_step (e : Tm) (hk0 : e.kind = 1 ∨ e.kind = 2 ∨ e.kind = 3 ∨ e.kind = 5 ∨ e.kind = 8 ∨ e.kind = 9) (hs1 : e.kids.length < 1000000) (hs2 : e.alts.length < 1000000)
    (hk : ∀ x ∈ e.kids, den E 20 [.agg (tmC x)] [] = some (.agg (exC x.era), [])) (ha : ∀ a ∈ e.alts, den E 20 [.agg (tmC a.body)] [] = some (.agg (exC a.body.era), [])) :
    den E 20 [.agg (tmC e)] [] = some (.agg (exC e.era), []) := by
  have ho : overK e.kind = false := by rcases hk0 with h | h | h | h | h | h <;> rw [h] <;> rfl
  have a1 := eachM_den 20 Tm.era e.kids hs1 hk
  have a2 := eachN_den 63 Ta.era e.alts hs2 (fun a hm => by
    have d := ha a hm
    rw [den_eq prim_63, body_63, taV_eq, taera_eq, alV_eq]
    simp only [Al.con, Al.vars, Al.body, exC_eq, tmC_eq] at d ⊢
    simp only [go_sem, ↓reduceIte, Nat.reduceEqDiff, Nat.reduceAdd, Nat.reduceLeDiff, Nat.zero_ne_one, Nat.one_ne_zero, Nat.reduceLT, reduceCtorEq, Tryz.f63, d])
  rw [den_eq prim_20, body_20, era_eq e ho]
  rw [tmC_eq]
  rcases hk0 with h | h | h | h | h | h <;> simp only [go_sem, ↓reduceIte, Nat.reduceEqDiff, Nat.reduceAdd, Nat.reduceLeDiff, Nat.zero_ne_one, Nat.one_ne_zero, Nat.reduceLT, reduceCtorEq, beq_self_eq_true, Int.reduceBEq, Tryz.f20, h, a1, a2, exmk, kindE, exC_eq, exmk, tysV_nil, zTy_k, zTy_s, zTy_n, zTy_a]
theorem etrm_over (k : Int) (s : List UInt8) (t : Ty) (c : Cx) (x : Tm) (hk : k = 4 ∨ k = 6 ∨ k = 7 ∨ k = 10) (d : den E 20 [.agg (tmC x)] [] = some (.agg (exC x.era), [])) :
    den E 20 [.agg (tmC (.mk k s t c [x] []))] [] = some (.agg (exC (Tm.mk k s t c [x] []).era), []) := by
  rw [era_over k s t c x (by rcases hk with rfl | rfl | rfl | rfl <;> rfl)]
  rw [den_eq prim_20, body_20, tmC_mk, tmsV_cons, tmsV_nil]
  simp only [exC_eq, tmC_eq] at d ⊢
  rcases hk with rfl | rfl | rfl | rfl <;> simp only [go_sem, ↓reduceIte, Nat.reduceEqDiff, Nat.reduceAdd, Nat.reduceLeDiff, Nat.zero_ne_one, Nat.one_ne_zero, Nat.reduceLT, reduceCtorEq, beq_self_eq_true, Int.reduceBEq, Tryz.f20, d, Int.le_refl, Int.toNat_zero]
theorem ta_vars {l : List Ta} {a : Ta} (h : a ∈ l) : a.body.tot + 1 ≤ Ta.tots l := by
  induction l with
  | nil => cases h
  | cons b l ih =>
    rcases List.mem_cons.1 h with rfl | h
    · cases a with | mk c x y z e => simp only [Ta.tots, Ta.tot, Ta.body]; omega
    · have := ih h; simp only [Ta.tots]; omega
theorem ta_len (l : List Ta) : l.length ≤ Ta.tots l := by
  induction l with
  | nil => simp
  | cons b l ih => cases b with | mk c x y z e => simp only [Ta.tots, Ta.tot, List.length_cons]; omega
theorem etrm_den {e : Tm} (h : GM e) : e.tot < 1000000 → den E 20 [.agg (tmC e)] [] = some (.agg (exC e.era), []) := by
  induction h with
  | nam k s hk h1 =>
    intro hs
    exact etrm_step _ (by rcases hk with rfl | rfl <;> simp [tmk]) (by simp [tmk]) (by simp [tmk]) (by simp [tmk]) (by simp [tmk])
  | lam s t x h1 hT hx ih =>
    intro hs
    rw [tm_tot_mk, tm_tots_one] at hs
    exact etrm_step _ (by simp [tmk]) (by simp [tmk]) (by simp [tmk]) (by intro y hy; simp only [tmk, List.mem_singleton] at hy; subst hy; exact ih (by omega)) (by simp [tmk])
  | tlam s x h1 hx ih =>
    intro hs
    rw [tm_tot_mk, tm_tots_one] at hs
    exact etrm_over 4 _ _ _ _ (by decide) (ih (by omega))
  | app x y hx hy ihx ihy =>
    intro hs
    rw [tm_tot_mk, tm_tots_two] at hs
    refine etrm_step _ (by simp [tmk]) (by simp [tmk]) (by simp [tmk]) ?_ (by simp [tmk])
    intro z hz
    simp only [tmk, List.mem_cons, List.not_mem_nil, or_false] at hz
    rcases hz with rfl | rfl
    · exact ihx (by omega)
    · exact ihy (by omega)
  | tapp t x hT hx ih =>
    intro hs
    rw [tm_tot_mk, tm_tots_one] at hs
    exact etrm_over 6 _ _ _ _ (by decide) (ih (by omega))
  | capp c x hC hx ih =>
    intro hs
    rw [tm_tot_mk, tm_tots_one] at hs
    exact etrm_over 7 _ _ _ _ (by decide) (ih (by omega))
  | lett s t x y h1 hT hx hy ihx ihy =>
    intro hs
    rw [tm_tot_mk, tm_tots_two] at hs
    refine etrm_step _ (by simp [tmk]) (by simp [tmk]) (by simp [tmk]) ?_ (by simp [tmk])
    intro z hz
    simp only [tmk, List.mem_cons, List.not_mem_nil, or_false] at hz
    rcases hz with rfl | rfl
    · exact ihx (by omega)
    · exact ihy (by omega)
  | cas t x al hT hx hb hn ihx ihb =>
    intro hs
    rw [tm_tot_mk, tm_tots_one] at hs
    have := ta_len al
    refine etrm_step _ (by simp [tmk]) (by simp [tmk]) (by simp only [tmk]; omega) ?_ ?_
    · intro z hz
      simp only [tmk, List.mem_singleton] at hz
      subst hz
      exact ihx (by omega)
    · intro a ha
      simp only [tmk] at ha
      have := ta_vars ha
      exact ihb a ha (by omega)
  | cast c x hC hx ih =>
    intro hs
    rw [tm_tot_mk, tm_tots_one] at hs
    exact etrm_over 10 _ _ _ _ (by decide) (ih (by omega))
/-- what is left of a term is an expression as any that is read -/
theorem era_GX {e : Tm} (h : GM e) : GX e.era ∧ e.era.tot ≤ e.tot := by
  have lz := zTy_sz
  have lc := zCx_tot
  induction h with
  | nam k s hk h1 =>
    rcases hk with rfl | rfl
    · exact ⟨.nam 1 s (.inl rfl) h1, by show (Ex.mk 1 s false zTy [] []).tot ≤ _; rw [tot_mk, tm_tot_mk, tots_nil, altots_nil]; omega⟩
    · exact ⟨.nam 2 s (.inr rfl) h1, by show (Ex.mk 2 s false zTy [] []).tot ≤ _; rw [tot_mk, tm_tot_mk, tots_nil, altots_nil]; omega⟩
  | lam s t x h1 hT hx ih =>
    refine ⟨.lam s x.era h1 ih.1, ?_⟩
    show (Ex.mk 3 s false zTy [x.era] []).tot ≤ _
    rw [tot_mk, tm_tot_mk, tots_one, tm_tots_one, altots_nil]; have := ih.2; have := sz_pos t; omega
  | tlam s x h1 hx ih => rw [era_over _ _ _ _ _ rfl]; exact ⟨ih.1, by rw [tm_tot_mk, tm_tots_one]; have := ih.2; omega⟩
  | app x y hx hy ihx ihy =>
    refine ⟨.app x.era y.era ihx.1 ihy.1, ?_⟩
    show (Ex.mk 4 [] false zTy [x.era, y.era] []).tot ≤ _
    rw [tot_mk, tm_tot_mk, tots_two, tm_tots_two, altots_nil]; have := ihx.2; have := ihy.2; omega
  | tapp t x hT hx ih => rw [era_over _ _ _ _ _ rfl]; exact ⟨ih.1, by rw [tm_tot_mk, tm_tots_one]; have := ih.2; omega⟩
  | capp c x hC hx ih => rw [era_over _ _ _ _ _ rfl]; exact ⟨ih.1, by rw [tm_tot_mk, tm_tots_one]; have := ih.2; omega⟩
  | lett s t x y h1 hT hx hy ihx ihy =>
    refine ⟨.letu s x.era y.era h1 ihx.1 ihy.1, ?_⟩
    show (Ex.mk 5 s false zTy [x.era, y.era] []).tot ≤ _
    rw [tot_mk, tm_tot_mk, tots_two, tm_tots_two, altots_nil]; have := ihx.2; have := ihy.2; have := sz_pos t; omega
  | cas t x al hT hx hb hn ihx ihb =>
    have hal : Al.tots (al.map Ta.era) ≤ Ta.tots al := by
      have : ∀ l : List Ta, (∀ a, a ∈ l → a.body.era.tot ≤ a.body.tot) → Al.tots (l.map Ta.era) ≤ Ta.tots l := by
        intro l hl
        induction l with
        | nil => simp [Al.tots]
        | cons a l ihl =>
          have i1 := ihl (fun b hb => hl b (List.mem_cons_of_mem _ hb))
          have i2 := hl a (List.mem_cons_self ..)
          cases a with
          | mk c x y v e => simp only [List.map_cons, Al.tots, Ta.tots, Ta.era, Al.tot, Ta.tot, Ta.body] at i1 i2 ⊢; omega
      exact this al (fun a ha => (ihb a ha).2)
    have he : (Tm.mk 9 [] t zCx [x] al).era = .mk 6 [] false zTy [x.era] (al.map Ta.era) := by rw [era_eq _ rfl]; rfl
    rw [he]
    refine ⟨.cas x.era _ ihx.1 ?_ ?_, ?_⟩
    · intro a ha
      obtain ⟨b, hb1, rfl⟩ := List.mem_map.1 ha
      rw [taera_eq]; exact (ihb b hb1).1
    · intro a ha
      obtain ⟨b, hb1, rfl⟩ := List.mem_map.1 ha
      rw [taera_eq]; exact ⟨(hn b hb1).1, (hn b hb1).2.2.2⟩
    · rw [tot_mk, tm_tot_mk, tots_one, tm_tots_one]; have := ihx.2; have := sz_pos t; omega
  | cast c x hC hx ih => rw [era_over _ _ _ _ _ rfl]; exact ⟨ih.1, by rw [tm_tot_mk, tm_tots_one]; have := ih.2; omega⟩
/-! how deep: the program's -/
theorem maxI (a b : Nat) : (if ((b : Int) > a) then (b : Int) else a) = ((max a b : Nat) : Int) := max_if a b
theorem cdepth_den : ∀ (n : Nat) (c : Cx), c.tot ≤ n → c.tot < 1000000 → den E 89 [.agg (cxC c)] [] = some (.tup [.int .i64 c.within, .int .i64 c.tdep], []) := by
  intro n
  induction n with
  | zero => intro c h; have := cx_tot_pos c; omega
  | succ n ih =>
    intro c hn hs
    have ht : c.tot = c.ty.sz + Cx.tots c.kids := by cases c; simp [Cx.tot, Cx.ty, Cx.kids]
    have hl := cx_tots_len c.kids
    have hd := tdepth_den c.ty.sz c.ty (Nat.le_refl _) (by omega)
    have hwd : ∀ m : Nat, Cx.withins (c.kids.take m) ≤ 1000000 := by
      intro m
      have : ∀ l : List Cx, Cx.withins l ≤ Cx.tots l := by
        have key : ∀ k (x : Cx), x.tot ≤ k → x.within ≤ x.tot := by
          intro k
          induction k with
          | zero => intro x h; have := cx_tot_pos x; omega
          | succ k ihk =>
            intro x hx
            cases x with
            | mk a b d t ks =>
              have : ∀ l : List Cx, Cx.tots l ≤ k → Cx.withins l ≤ Cx.tots l := by
                intro l
                induction l with
                | nil => intro _; simp [Cx.withins]
                | cons y l ihl =>
                  intro hl
                  simp only [Cx.tots] at hl
                  have := ihk y (by omega)
                  have := ihl (by omega)
                  simp only [Cx.withins, Cx.tots]; omega
              rw [cx_tot_mk] at hx
              have h1 := this ks (by have := sz_pos t; omega)
              rw [cx_within_eq, cx_tot_mk]
              simp only [cxmk]
              have := sz_pos t
              omega
        intro l
        induction l with
        | nil => simp [Cx.withins]
        | cons y l ihl =>
          have := key y.tot y (Nat.le_refl _)
          simp only [Cx.withins, Cx.tots]; omega
      have h1 := this (c.kids.take m)
      have h2 : Cx.tots (c.kids.take m) ≤ Cx.tots c.kids := by
        have : ∀ (l : List Cx) (m : Nat), Cx.tots (l.take m) ≤ Cx.tots l := by
          intro l
          induction l with
          | nil => intro m; simp
          | cons y l ihl =>
            intro m
            cases m with
            | zero => simp [Cx.tots]
            | succ m => simp only [List.take_succ_cons, Cx.tots]; have := ihl m; omega
        exact this _ m
      omega
    rw [den_eq prim_89, body_89, cxC_eq, cx_within_eq, cx_tdep_eq]
    obtain ⟨d0, hd0⟩ : ∃ d0 : Nat, d0 = (if c.kind == 2 || c.kind == 9 then c.ty.depth else 0) := ⟨_, rfl⟩
    rw [← hd0]
    obtain ⟨fin, hfin⟩ : ∃ fin, fin = some (AVal.tup [.int .i64 ((Cx.withins c.kids + 1 : Nat) : Int), .int .i64 ((max d0 (Cx.tdeps c.kids) : Nat) : Int)], ([] : Heap)) := ⟨_, rfl⟩
    rw [← hfin]
    rw [tyV_eq] at hd
    have e1 : ((Cx.withins c.kids + 1 : Nat) : Int) = ((Cx.withins c.kids + 1 : Nat) : Int) := rfl
    cases k29 : (c.kind == 2 || c.kind == 9)
    · rw [k29] at hd0
      simp only [Bool.or_eq_false_iff] at k29
      simp only [Bool.false_eq_true, if_false] at hd0
      simp only [go_sem, ↓reduceIte, Nat.reduceEqDiff, Nat.reduceAdd, Nat.zero_ne_one, Nat.one_ne_zero, reduceCtorEq, beq_self_eq_true, Tryz.f89, k29.1, k29.2]
      refine run_for (fun i => ⟨[(2, .int .i64 ((Cx.withins (c.kids.take i) : Nat) : Int)), (3, .int .i64 ((max d0 (Cx.tdeps (c.kids.take i)) : Nat) : Int)), (20, .slice (cxsV c.kids)), (21, .int .i64 c.kids.length), (22, .int .i64 i)], [], [], 1⟩) c.kids.length ?_ ?_ ?_
      · simp only [go_sem, ↓reduceIte, Nat.reduceEqDiff, reduceCtorEq, Int.cast_ofNat_Int, cxsV_len, List.take_zero, Cx.withins, Cx.tdeps, Nat.max_zero, hd0]
      · intro i hi hrun
        have hlt := natlt_t hi
        have hx : c.kids[i]? = some c.kids[i] := List.getElem?_eq_getElem hi
        have hg : (cxsV c.kids)[i]? = some (.agg (cxC c.kids[i])) := by rw [cxsV_get, hx]; rfl
        have hm := cx_tots_mem (List.getElem_mem hi)
        have hp := sz_pos c.ty
        have d := ih c.kids[i] (by omega) (by omega)
        have hw := wrapN (i + 1) (by omega)
        have hw' : IntKind.i64.wrap ((i : Int) + 1) = ((i + 1 : Nat) : Int) := hw
        have m1 : (if (((c.kids[i]).within : Int) > ((Cx.withins (c.kids.take i) : Nat) : Int)) then (((c.kids[i]).within : Nat) : Int) else ((Cx.withins (c.kids.take i) : Nat) : Int)) = ((Cx.withins (c.kids.take (i + 1)) : Nat) : Int) := by rw [maxI, take_snoc hx, cx_withins_snoc]
        have m2 : (if (((c.kids[i]).tdep : Int) > ((max d0 (Cx.tdeps (c.kids.take i)) : Nat) : Int)) then (((c.kids[i]).tdep : Nat) : Int) else ((max d0 (Cx.tdeps (c.kids.take i)) : Nat) : Int)) = ((max d0 (Cx.tdeps (c.kids.take (i + 1))) : Nat) : Int) := by rw [maxI, take_snoc hx, cx_tdeps_snoc, Nat.max_assoc]
        simp only [cxC_eq] at hg d
        simp only [go_sem, ↓reduceIte, Nat.reduceEqDiff, Nat.reduceAdd, Nat.reduceLeDiff, Nat.reduceLT, hlt, natge0, tonat, hg, d, m1, m2]
        refine hrun _ ?_
        simp only [go_sem, ↓reduceIte, Nat.reduceEqDiff, hw']
      · have hlt := natlt_f (Nat.lt_irrefl c.kids.length)
        have hw0 := hwd c.kids.length
        rw [List.take_length] at hw0
        have hw := wrapN (Cx.withins c.kids + 1) (by omega)
        have hw' : IntKind.i64.wrap (((Cx.withins c.kids : Nat) : Int) + 1) = ((Cx.withins c.kids + 1 : Nat) : Int) := hw
        rw [hfin]
        simp only [go_sem, ↓reduceIte, Nat.reduceEqDiff, Nat.reduceAdd, beq_self_eq_true, hlt, List.take_length, hw']
    · rw [k29] at hd0
      simp only [if_true] at hd0
      cases k2 : c.kind == 2
      · rw [k2] at k29
        simp only [Bool.false_or] at k29
        simp only [go_sem, ↓reduceIte, Nat.reduceEqDiff, Nat.reduceAdd, Nat.reduceLeDiff, Nat.zero_ne_one, Nat.one_ne_zero, reduceCtorEq, beq_self_eq_true, Tryz.f89, k2, k29, hd]
        refine run_for (fun i => ⟨[(2, .int .i64 ((Cx.withins (c.kids.take i) : Nat) : Int)), (3, .int .i64 ((max d0 (Cx.tdeps (c.kids.take i)) : Nat) : Int)), (20, .slice (cxsV c.kids)), (21, .int .i64 c.kids.length), (22, .int .i64 i)], [], [], 1⟩) c.kids.length ?_ ?_ ?_
        · simp only [go_sem, ↓reduceIte, Nat.reduceEqDiff, reduceCtorEq, Int.cast_ofNat_Int, cxsV_len, List.take_zero, Cx.withins, Cx.tdeps, Nat.max_zero, hd0]
        · intro i hi hrun
          have hlt := natlt_t hi
          have hx : c.kids[i]? = some c.kids[i] := List.getElem?_eq_getElem hi
          have hg : (cxsV c.kids)[i]? = some (.agg (cxC c.kids[i])) := by rw [cxsV_get, hx]; rfl
          have hm := cx_tots_mem (List.getElem_mem hi)
          have hp := sz_pos c.ty
          have d := ih c.kids[i] (by omega) (by omega)
          have hw := wrapN (i + 1) (by omega)
          have hw' : IntKind.i64.wrap ((i : Int) + 1) = ((i + 1 : Nat) : Int) := hw
          have m1 : (if (((c.kids[i]).within : Int) > ((Cx.withins (c.kids.take i) : Nat) : Int)) then (((c.kids[i]).within : Nat) : Int) else ((Cx.withins (c.kids.take i) : Nat) : Int)) = ((Cx.withins (c.kids.take (i + 1)) : Nat) : Int) := by rw [maxI, take_snoc hx, cx_withins_snoc]
          have m2 : (if (((c.kids[i]).tdep : Int) > ((max d0 (Cx.tdeps (c.kids.take i)) : Nat) : Int)) then (((c.kids[i]).tdep : Nat) : Int) else ((max d0 (Cx.tdeps (c.kids.take i)) : Nat) : Int)) = ((max d0 (Cx.tdeps (c.kids.take (i + 1))) : Nat) : Int) := by rw [maxI, take_snoc hx, cx_tdeps_snoc, Nat.max_assoc]
          simp only [cxC_eq] at hg d
          simp only [go_sem, ↓reduceIte, Nat.reduceEqDiff, Nat.reduceAdd, Nat.reduceLeDiff, Nat.reduceLT, hlt, natge0, tonat, hg, d, m1, m2]
          refine hrun _ ?_
          simp only [go_sem, ↓reduceIte, Nat.reduceEqDiff, hw']
        · have hlt := natlt_f (Nat.lt_irrefl c.kids.length)
          have hw0 := hwd c.kids.length
          rw [List.take_length] at hw0
          have hw := wrapN (Cx.withins c.kids + 1) (by omega)
          have hw' : IntKind.i64.wrap (((Cx.withins c.kids : Nat) : Int) + 1) = ((Cx.withins c.kids + 1 : Nat) : Int) := hw
          rw [hfin]
          simp only [go_sem, ↓reduceIte, Nat.reduceEqDiff, Nat.reduceAdd, beq_self_eq_true, hlt, List.take_length, hw']
      · simp only [go_sem, ↓reduceIte, Nat.reduceEqDiff, Nat.reduceAdd, Nat.reduceLeDiff, Nat.zero_ne_one, Nat.one_ne_zero, reduceCtorEq, Tryz.f89, k2, hd]
        refine run_for (fun i => ⟨[(2, .int .i64 ((Cx.withins (c.kids.take i) : Nat) : Int)), (3, .int .i64 ((max d0 (Cx.tdeps (c.kids.take i)) : Nat) : Int)), (20, .slice (cxsV c.kids)), (21, .int .i64 c.kids.length), (22, .int .i64 i)], [], [], 1⟩) c.kids.length ?_ ?_ ?_
        · simp only [go_sem, ↓reduceIte, Nat.reduceEqDiff, reduceCtorEq, Int.cast_ofNat_Int, cxsV_len, List.take_zero, Cx.withins, Cx.tdeps, Nat.max_zero, hd0]
        · intro i hi hrun
          have hlt := natlt_t hi
          have hx : c.kids[i]? = some c.kids[i] := List.getElem?_eq_getElem hi
          have hg : (cxsV c.kids)[i]? = some (.agg (cxC c.kids[i])) := by rw [cxsV_get, hx]; rfl
          have hm := cx_tots_mem (List.getElem_mem hi)
          have hp := sz_pos c.ty
          have d := ih c.kids[i] (by omega) (by omega)
          have hw := wrapN (i + 1) (by omega)
          have hw' : IntKind.i64.wrap ((i : Int) + 1) = ((i + 1 : Nat) : Int) := hw
          have m1 : (if (((c.kids[i]).within : Int) > ((Cx.withins (c.kids.take i) : Nat) : Int)) then (((c.kids[i]).within : Nat) : Int) else ((Cx.withins (c.kids.take i) : Nat) : Int)) = ((Cx.withins (c.kids.take (i + 1)) : Nat) : Int) := by rw [maxI, take_snoc hx, cx_withins_snoc]
          have m2 : (if (((c.kids[i]).tdep : Int) > ((max d0 (Cx.tdeps (c.kids.take i)) : Nat) : Int)) then (((c.kids[i]).tdep : Nat) : Int) else ((max d0 (Cx.tdeps (c.kids.take i)) : Nat) : Int)) = ((max d0 (Cx.tdeps (c.kids.take (i + 1))) : Nat) : Int) := by rw [maxI, take_snoc hx, cx_tdeps_snoc, Nat.max_assoc]
          simp only [cxC_eq] at hg d
          simp only [go_sem, ↓reduceIte, Nat.reduceEqDiff, Nat.reduceAdd, Nat.reduceLeDiff, Nat.reduceLT, hlt, natge0, tonat, hg, d, m1, m2]
          refine hrun _ ?_
          simp only [go_sem, ↓reduceIte, Nat.reduceEqDiff, hw']
        · have hlt := natlt_f (Nat.lt_irrefl c.kids.length)
          have hw0 := hwd c.kids.length
          rw [List.take_length] at hw0
          have hw := wrapN (Cx.withins c.kids + 1) (by omega)
          have hw' : IntKind.i64.wrap (((Cx.withins c.kids : Nat) : Int) + 1) = ((Cx.withins c.kids + 1 : Nat) : Int) := hw
          rw [hfin]
          simp only [go_sem, ↓reduceIte, Nat.reduceEqDiff, Nat.reduceAdd, beq_self_eq_true, hlt, List.take_length, hw']
end Go.Proofs
namespace Go.Proofs
open Go.Av
set_option maxHeartbeats 32000000
set_option maxRecDepth 100000
/-! is a term too deep? the program's -/
theorem tm_tots_mem {l : List Tm} {x : Tm} (h : x ∈ l) : x.tot ≤ Tm.tots l := by
  induction l with
  | nil => cases h
  | cons y l ih =>
    simp only [Tm.tots]
    rcases List.mem_cons.1 h with rfl | h
    · omega
    · have := ih h; omega
theorem tm_tots_len (l : List Tm) : l.length ≤ Tm.tots l := by
  induction l with
  | nil => simp
  | cons y l ih => simp only [Tm.tots, List.length_cons]; have := tm_tot_pos y; omega
theorem tm_tot_eq (e : Tm) : e.tot = e.ty.sz + e.co.tot + Tm.tots e.kids + Ta.tots e.alts := by cases e; simp [Tm.tot, Tm.ty, Tm.co, Tm.kids, Tm.alts]
theorem fdeep_den : ∀ (n : Nat) (e : Tm) (a : Nat), e.tot ≤ n → e.tot < 1000000 → a ≤ 1000000 → den E 47 [.agg (tmC e), .int .i64 a] [] = some (.bool (e.deep a), []) := by
  intro n
  induction n with
  | zero => intro e a h; have := tm_tot_pos e; omega
  | succ n ih =>
    intro e a hn hs ha
    have ht := tm_tot_eq e
    have hl1 := tm_tots_len e.kids
    have hl2 := ta_len e.alts
    have hp1 := sz_pos e.ty
    have hp2 := cx_tot_pos e.co
    have c1 := cdepth_den _ e.co (Nat.le_refl _) (by omega)
    have c2 := tdepth_den _ e.ty (Nat.le_refl _) (by omega)
    rw [cxC_eq] at c1
    rw [tyV_eq] at c2
    rw [den_eq prim_47, body_47, tm_deep_eq, tm_deeps_any, ta_deeps_any]
    rw [tmC_eq]
    have g100 : decide ((a : Int) ≥ 100) = decide (100 ≤ a) := by simp; omega
    cases q0 : decide (100 ≤ a)
    · have h99 : ¬ 100 ≤ a := by simpa using q0
      cases q1 : decide (e.co.within > 50)
      · cases q2 : decide (e.co.tdep > 50)
        · cases q3 : decide (e.ty.depth > 50)
          · obtain ⟨fin, hfin⟩ : ∃ fin, fin = some (AVal.bool (e.kids.any (Tm.deep (a + 1)) || e.alts.any fun x => x.body.deep (a + 1)), ([] : Heap)) := ⟨_, rfl⟩
            simp only [Bool.false_or]
            rw [← hfin]
            have w0 : IntKind.i64.wrap ((a : Int) + 1) = ((a + 1 : Nat) : Int) := wrapN (a + 1) (by omega)
            simp only [go_sem, ↓reduceIte, Nat.reduceEqDiff, Nat.reduceAdd, Nat.reduceLeDiff, Nat.zero_ne_one, Nat.one_ne_zero, reduceCtorEq, beq_self_eq_true, Tryz.f47, c1, c2, g100, natDeep, q0, q1, q2, q3]
            refine run_ind (fun i : Nat => i ≤ e.kids.length ∧ (e.kids.take i).any (Tm.deep (a + 1)) = false) (fun i => ⟨[(1, .int .i64 a), (2, .ptr (.loc 2) 0), (34, .slice (tmsV e.kids)), (35, .int .i64 e.kids.length), (36, .int .i64 i)], [], [(2, tmC e)], 1⟩) (fun _ => fin) (fun i => e.kids.length - i) 0 ⟨Nat.zero_le _, by simp⟩ ?_ ?_
            · simp only [go_sem, ↓reduceIte, Nat.reduceEqDiff, Nat.zero_ne_one, reduceCtorEq, Int.cast_ofNat_Int, tmC_eq, tmsV_len]
            · rintro i ⟨hi, h0⟩ hrun
              by_cases hc : i < e.kids.length
              · have hlt := natlt_t hc
                have hx : e.kids[i]? = some e.kids[i] := List.getElem?_eq_getElem hc
                have hg : (tmsV e.kids)[i]? = some (.agg (tmC e.kids[i])) := by rw [tmsV_get, hx]; rfl
                have hm := tm_tots_mem (List.getElem_mem hc)
                have d := ih e.kids[i] (a + 1) (by omega) (by omega) (by omega)
                obtain ⟨ya, yb⟩ := any_take hx h0
                have w1 : IntKind.i64.wrap ((i : Int) + 1) = ((i + 1 : Nat) : Int) := wrapN (i + 1) (by omega)
                simp only [tmC_eq] at hg d
                cases hd : e.kids[i].deep (a + 1)
                · rw [hd] at d
                  simp only [go_sem, ↓reduceIte, Nat.reduceEqDiff, Nat.reduceAdd, Nat.reduceLeDiff, Nat.reduceLT, tmC_eq, hlt, natge0, tonat, hg, w0, d]
                  refine hrun (i + 1) _ ⟨hc, yb hd⟩ (by omega) ?_
                  simp only [go_sem, ↓reduceIte, Nat.reduceEqDiff, tmC_eq, w1]
                · rw [hd] at d
                  rw [hfin, ya hd]
                  simp only [go_sem, ↓reduceIte, Nat.reduceEqDiff, Nat.reduceAdd, Nat.reduceLeDiff, Nat.reduceLT, tmC_eq, hlt, natge0, tonat, hg, w0, d, Bool.true_or]
              · have hlt := natlt_f hc
                have hik : i = e.kids.length := by omega
                rw [hik, List.take_length] at h0
                rw [h0, Bool.false_or] at hfin
                simp only [go_sem, ↓reduceIte, Nat.reduceEqDiff, Nat.reduceAdd, Nat.one_ne_zero, beq_self_eq_true, tmC_eq, hlt]
                refine run_ind (fun i : Nat => i ≤ e.alts.length ∧ (e.alts.take i).any (fun x => x.body.deep (a + 1)) = false) (fun i => ⟨[(1, .int .i64 a), (46, .slice (tasV e.alts)), (47, .int .i64 e.alts.length), (48, .int .i64 i)], [], [], 1⟩) (fun _ => fin) (fun i => e.alts.length - i) 0 ⟨Nat.zero_le _, by simp⟩ ?_ ?_
                · simp only [go_sem, ↓reduceIte, Nat.reduceEqDiff, Int.cast_ofNat_Int, tasV_len]
                · rintro j ⟨hj, g0⟩ hrun2
                  by_cases hc2 : j < e.alts.length
                  · have hlt2 := natlt_t hc2
                    have hx2 : e.alts[j]? = some e.alts[j] := List.getElem?_eq_getElem hc2
                    have hg2 : (tasV e.alts)[j]? = some (taV e.alts[j]) := by rw [tasV_get, hx2]; rfl
                    have hm2 := ta_vars (List.getElem_mem hc2)
                    have d2 := ih e.alts[j].body (a + 1) (by omega) (by omega) (by omega)
                    obtain ⟨ya, yb⟩ := any_take hx2 g0
                    have w1 : IntKind.i64.wrap ((j : Int) + 1) = ((j + 1 : Nat) : Int) := wrapN (j + 1) (by omega)
                    simp only [taV_eq, tmC_eq] at hg2 d2
                    cases hd2 : e.alts[j].body.deep (a + 1)
                    · rw [hd2] at d2
                      simp only [go_sem, ↓reduceIte, Nat.reduceEqDiff, Nat.reduceAdd, Nat.reduceLeDiff, Nat.reduceLT, reduceCtorEq, hlt2, natge0, tonat, hg2, w0, d2]
                      refine hrun2 (j + 1) _ ⟨hc2, yb hd2⟩ (by omega) ?_
                      simp only [go_sem, ↓reduceIte, Nat.reduceEqDiff, w1]
                    · rw [hd2] at d2
                      rw [hfin, ya hd2]
                      simp only [go_sem, ↓reduceIte, Nat.reduceEqDiff, Nat.reduceAdd, Nat.reduceLeDiff, Nat.reduceLT, reduceCtorEq, hlt2, natge0, tonat, hg2, w0, d2]
                  · have hlt2 := natlt_f hc2
                    have hik2 : j = e.alts.length := by omega
                    rw [hik2, List.take_length] at g0
                    rw [hfin, g0]
                    simp only [go_sem, ↓reduceIte, Nat.reduceEqDiff, Nat.reduceAdd, beq_self_eq_true, hlt2]
          · simp only [go_sem, ↓reduceIte, Nat.reduceEqDiff, Nat.reduceAdd, Nat.reduceLeDiff, Nat.zero_ne_one, reduceCtorEq, beq_self_eq_true, Tryz.f47, c1, c2, g100, natDeep, q0, q1, q2, q3, Bool.true_or, Bool.or_true]
        · simp only [go_sem, ↓reduceIte, Nat.reduceEqDiff, Nat.reduceAdd, Nat.reduceLeDiff, Nat.zero_ne_one, reduceCtorEq, beq_self_eq_true, Tryz.f47, c1, g100, natDeep, q0, q1, q2, Bool.true_or, Bool.or_true]
      · simp only [go_sem, ↓reduceIte, Nat.reduceEqDiff, Nat.reduceAdd, Nat.reduceLeDiff, Nat.zero_ne_one, reduceCtorEq, beq_self_eq_true, Tryz.f47, c1, g100, natDeep, q0, q1, Bool.true_or, Bool.or_true]
    · simp only [go_sem, ↓reduceIte, Nat.reduceEqDiff, Nat.reduceAdd, Nat.reduceLeDiff, Nat.zero_ne_one, reduceCtorEq, Tryz.f47, c1, g100, q0, Bool.true_or]
/-- what the readers of terms hand back -/
def endM (x : Tm) (r : Rd) : Tm × Int := if r.bad || decide (0 < r.l.length) then (zTm, 120) else if x.deep 0 then (zTm, 3) else (x, 0)
def tmO (f : Nat) (s : List UInt8) : Option (Tm × Int) := if (scanO s).2 != 0 then some (zTm, (scanO s).2) else match trR f .term ⟨(scanO s).1, false⟩ with
  | none => none
  | some (x, r) => some (endM x r)
theorem tmRead_ok {f : Nat} {s : List UInt8} {x : Tm} {r : Rd} (h : trR f .term ⟨(scanO s).1, false⟩ = some (x, r)) (hg : r.bad = false) : GM x ∧ x.tot ≤ 12000 := by
  obtain ⟨h1, h2⟩ := scanO_F s
  have := trR_ok _ _ _ _ _ h2 h hg
  exact ⟨this.1, by have := this.2; simp only at this; omega⟩
theorem tmO_tot (s : List UInt8) : ∃ p, tmO F0 s = some p := by
  obtain ⟨h1, h2⟩ := scanO_F s
  unfold tmO
  split
  · exact ⟨_, rfl⟩
  · obtain ⟨⟨x, r⟩, h3⟩ := trR_tot F0 .term ⟨(scanO s).1, false⟩ h2 (needM_le (by unfold F0; omega) fun _ => by unfold F0; simp only [rankM]; omega)
    rw [h3]; exact ⟨_, rfl⟩
theorem tmO_good {f : Nat} {s : List UInt8} {p : Tm × Int} (h : tmO f s = some p) (h0 : p.2 = 0) : GM p.1 ∧ p.1.tot ≤ 12000 ∧ p.1.deep 0 = false := by
  unfold tmO at h
  split at h
  · rename_i he
    injection h with h; subst h
    simp only at h0
    rw [h0] at he
    exact absurd he (by decide)
  · split at h
    · cases h
    · rename_i x r hd
      injection h with h; subst h
      unfold endM at h0 ⊢
      cases hb : r.bad
      · have k := tmRead_ok hd hb
        rw [hb] at h0
        split at h0
        · exact absurd h0 (by decide)
        · split at h0
          · exact absurd h0 (by decide)
          · rename_i h3 h4
            rw [if_neg (by simpa using h3), if_neg h4]
            exact ⟨k.1, k.2, by simpa using h4⟩
      · rw [hb] at h0; simp at h0
theorem fpterm_den {f : Nat} {s : List UInt8} {p : Tm × Int} (h : tmO f s = some p) : den E 15 [.str s] [] = some (.tup [.agg (tmC p.1), .int .i64 p.2], []) := by
  rw [den_eq prim_15, body_15]
  obtain ⟨hlen, hok⟩ := scanO_F s
  have hgood : ∀ x r, trR f .term ⟨(scanO s).1, false⟩ = some (x, r) → r.bad = false → x.tot < 1000000 := fun x r h hg => by have := (tmRead_ok h hg).2; omega
  obtain ⟨pos, hT⟩ := scanO_T s
  have hsc := scanAll_den s
  rw [hT] at hsc
  unfold tmO at h
  generalize (scanO s).1 = l at *
  generalize (scanO s).2 = e at *
  cases he : e == 0
  · have he' : (e != 0) = true := by rw [bne_not, he]; rfl
    rw [he', if_pos rfl] at h
    injection h with h; subst h
    simp only [go_sem, ↓reduceIte, Nat.reduceEqDiff, Nat.reduceAdd, Nat.reduceLeDiff, Nat.reduceLT, reduceCtorEq, Tryz.f15, hsc, he', zTmC]
  · have he' : (e != 0) = false := by rw [bne_not, he]; rfl
    rw [he'] at h
    simp only [Bool.false_eq_true, if_false] at h
    split at h
    · cases h
    · rename_i x r hx
      injection h with h; subst h
      have d1 := trR_den f .term _ _ hok (by simp only; omega) hx
      simp only [MDenF, rdV, tmC_eq] at d1
      unfold endM
      cases hb : r.bad
      · rw [hb] at d1
        have hgt : decide (((toksV r.l).length : Int) > 0) = decide (0 < r.l.length) := by rw [toksV_len]; simp
        cases hn : decide (0 < r.l.length)
        · have ht := hgood x r hx hb
          have e2 := fdeep_den _ x 0 (Nat.le_refl _) ht (by omega)
          simp only [tmC_eq, Int.natCast_zero] at e2
          cases q1 : x.deep 0
          · rw [q1] at e2
            simp only [go_sem, ↓reduceIte, Nat.reduceEqDiff, Nat.reduceAdd, Nat.reduceLeDiff, Nat.one_ne_zero, Nat.reduceLT, reduceCtorEq, beq_self_eq_true, Tryz.f15, hsc, he', d1, hgt, hn, e2, tmC_eq, Bool.or_false]
          · rw [q1] at e2
            simp only [go_sem, ↓reduceIte, Nat.reduceEqDiff, Nat.reduceAdd, Nat.reduceLeDiff, Nat.one_ne_zero, Nat.reduceLT, reduceCtorEq, beq_self_eq_true, Tryz.f15, hsc, he', d1, hgt, hn, e2, zTmC, Bool.or_false]
        · simp only [go_sem, ↓reduceIte, Nat.reduceEqDiff, Nat.reduceAdd, Nat.reduceLeDiff, Nat.one_ne_zero, Nat.reduceLT, reduceCtorEq, beq_self_eq_true, Tryz.f15, hsc, he', d1, hgt, hn, zTmC, Bool.false_or]
      · rw [hb] at d1
        simp only [go_sem, ↓reduceIte, Nat.reduceEqDiff, Nat.reduceAdd, Nat.reduceLeDiff, Nat.one_ne_zero, Nat.reduceLT, reduceCtorEq, beq_self_eq_true, Tryz.f15, hsc, he', d1, zTmC, Bool.true_or]
/-! the laws of chapter 14 -/
theorem xprint_any {e : Ex} (h : GX e) (hs : e.tot ≤ 1000000) : ∃ t, (∀ F f, 3 * e.tot ≤ F → e.tot ≤ f → xpR F f e = some t) := by
  obtain ⟨t, _, h2⟩ := xpR_tot h hs
  exact ⟨t, h2⟩
def chkL (f : Nat) (s t : List UInt8) : Bool := match tmO f s with
  | some p => p.2 == 0 && xpR f f p.1.era == some t
  | none => false
theorem left_chk {f : Nat} {s t : List UInt8} (h : chkL f s t = true) : den E 62 [.str s] [] = some (.str t, []) := by
  unfold chkL at h
  split at h
  · rename_i p hp
    simp only [Bool.and_eq_true, beq_iff_eq] at h
    have h1 := fpterm_den hp
    have k := tmO_good hp h.1
    have hb : (p.2 != 0) = false := by rw [h.1]; rfl
    have d1 := etrm_den k.1 (by have := k.2.1; omega)
    have g := era_GX k.1
    have d2 := xprint_den f f p.1.era t (by have := g.2; have := k.2.1; omega) h.2
    rw [den_eq prim_62, body_62]
    simp only [tmC_eq, exC_eq] at h1 d1 d2
    simp only [go_sem, ↓reduceIte, Nat.reduceEqDiff, Nat.reduceAdd, Nat.reduceLeDiff, Nat.reduceLT, reduceCtorEq, Tryz.f62, h1, hb, d1, d2]
  · cases h
def chkS (f : Nat) (s t : List UInt8) : Bool := match pexO f s with
  | some p => p.2 == 0 && xpR f f p.1.src == some t
  | none => false
theorem lchk0 : chkL 200 [40, 33, 97, 46, 32, 40, 92, 120, 32, 58, 32, 69, 32, 97, 46, 32, 40, 99, 97, 115, 101, 32, 120, 32, 58, 32, 97, 32, 111, 102, 32, 123, 76, 32, 126, 99, 32, 121, 32, 45, 62, 32, 40, 121, 32, 124, 62, 32, 40, 83, 121, 109, 32, 99, 41, 41, 59, 32, 85, 32, 122, 32, 45, 62, 32, 122, 125, 41, 41, 41] [92, 120, 32, 45, 62, 32, 99, 97, 115, 101, 32, 120, 32, 111, 102, 32, 123, 76, 32, 121, 32, 45, 62, 32, 121, 59, 32, 85, 32, 122, 32, 45, 62, 32, 122, 125] = true := by kernel_rfl
theorem lchk1 : chkL 200 [40, 108, 101, 116, 32, 120, 32, 58, 32, 73, 110, 116, 32, 61, 32, 40, 40, 105, 100, 32, 64, 32, 73, 110, 116, 41, 32, 73, 41, 32, 105, 110, 32, 40, 74, 32, 120, 41, 41] [108, 101, 116, 32, 120, 32, 61, 32, 105, 100, 32, 73, 32, 105, 110, 32, 74, 32, 120] = true := by kernel_rfl
theorem lchk2 : chkS 200 [108, 101, 116, 32, 120, 32, 58, 32, 73, 110, 116, 32, 61, 32, 40, 73, 32, 58, 32, 73, 110, 116, 41, 32, 105, 110, 32, 40, 102, 32, 40, 120, 32, 58, 32, 73, 110, 116, 41, 32, 58, 32, 88, 41] [108, 101, 116, 32, 120, 32, 61, 32, 73, 32, 105, 110, 32, 102, 32, 120] = true := by kernel_rfl
theorem pex_one {f : Nat} {s : List UInt8} {p : Ex × Int} (hp : pexO f s = some p) : den E 26 [.str s] [] = some (pexV p, []) := by
  obtain ⟨h1, h2⟩ := scanO_ok s
  have ht : ∀ x r, exR f .expr ⟨(scanO s).1, false⟩ = some (x, r) → r.bad = false → x.tot < 1000000 := fun x r hx hg => by have := (xO_ok hx hg).2; omega
  exact pex_den f s p (tok1 h2) (by omega) ht hp
theorem awake_den : den E 19 [] [] = some (.bool true, []) := by
  have t0 := left_chk lchk0
  have t1 := left_chk lchk1
  dsimp only at t0 t1
  have h := lchk2
  unfold chkS at h
  split at h
  · rename_i p hp
    simp only [Bool.and_eq_true, beq_iff_eq] at h
    have h1 := pex_one hp
    have k := pex_good hp h.1
    have hb : (p.2 != 0) = false := by rw [h.1]; rfl
    have d1 := esrc_den k.1 (by have := k.2; omega)
    have g := src_GX k.1
    have d2 := xprint_den 200 200 p.1.src _ (by have := g.2; have := k.2; omega) h.2
    rw [den_eq prim_19, body_19]
    unfold pexV at h1
    simp only [exC_eq] at h1 d1 d2
    simp only [go_sem, ↓reduceIte, Nat.reduceEqDiff, Nat.reduceAdd, Nat.reduceLeDiff, Nat.zero_ne_one, Nat.reduceLT, reduceCtorEq, beq_self_eq_true, Tryz.f19, List.append_eq, List.cons_append, List.nil_append, t0, t1, h1, hb, d1, d2]
  · cases h
end Go.Proofs
namespace Go.Proofs
open Go.Av
set_option maxHeartbeats 32000000
set_option maxRecDepth 100000
/-! how many terms; whether none is of types or proofs alone -/
mutual
def Tm.plain : Tm → Bool
  | .mk k _ _ _ ks al => !overK k && (Tm.plains ks && Ta.plains al)
def Tm.plains : List Tm → Bool
  | [] => true
  | e :: r => Tm.plain e && Tm.plains r
def Ta.plain : Ta → Bool
  | .mk _ _ _ _ e => Tm.plain e
def Ta.plains : List Ta → Bool
  | [] => true
  | a :: r => Ta.plain a && Ta.plains r
end
/-! smaller, and as large if it is plain -/
end Go.Proofs
