/- A proof in the places of a name: the document. -/
import Derived.Test.YtjfghnkmladbkaaGreatDoorAvQ
import Derived.Test.YtjfghnkmladbkaaGreatDoorAvK
namespace Go.Proofs
open Go.Av
set_option maxHeartbeats 32000000
set_option maxRecDepth 100000
/-! the document's own putting: the coercion's part -/
def zCxR : List AVal := [.int .i64 0, .str [], .int .i64 0, .int .i64 0, .str [], .int .i64 0, .own 38 0 [], .own 41 0 []]
def zTmR : List AVal := [.int .i64 0, .str [], .int .i64 0, .str [], .int .i64 0, .own 38 0 [], .int .i64 0, .str [], .int .i64 0, .int .i64 0, .str [], .int .i64 0, .own 38 0 [], .own 41 0 [], .own 45 0 [], .own 130 0 []]
def pC (n : List UInt8) (c : Cx) : List AVal := [.str [], .int .i64 0, .str [], .int .i64 0, .slice [], .str n, .int .i64 c.kind, .str c.name, .int .i64 c.n, .int .i64 c.ty.kind, .str c.ty.name, .int .i64 c.ty.n, .slice (tysV c.ty.args), .slice (cxsV c.kids), .str [], .int .i64 0, .str [], .int .i64 0, .str [], .int .i64 0, .slice [], .int .i64 0, .str [], .int .i64 0, .int .i64 0, .str [], .int .i64 0, .slice [], .slice [], .slice [], .slice []]
theorem incoC_den (n : List UInt8) (c : Cx) (hn : n ≠ []) : ∀ (m : Nat) (e : Cx), e.tot ≤ m → e.tot < 1000000 → den E 63 [.agg (cxC e), .agg (pC n c)] [] = some (.agg (cxC (mapC n c e)), []) := by
 intro m
 induction m with
 | zero => intro e h; have := cx_tot_pos e; omega
 | succ m ih =>
  intro e hm hb
  have ht := cx_tot_of e
  have hs := sz_pos e.ty
  have hkl := cx_tots_len e.kids
  have rl := cxsV_len e.kids
  rw [den_eq prim_63, body_63]
  have hn1 : (n == []) = false := by simpa using hn
  have hn2 : (n != []) = true := by simpa [bne] using hn
  rw [mapC_eq]
  cases k1 : e.kind == 1
  · obtain ⟨ys, hys⟩ : ∃ ys, ys = (mapCs n c e.kids) := ⟨_, rfl⟩
    have hyl : ys.length = e.kids.length := by rw [hys, mapCs_map, List.length_map]
    have hyg : ∀ (i : Nat) (x : Cx), e.kids[i]? = some x → ys[i]? = some (mapC n c x) := by
     intro i x hx
     rw [hys, mapCs_map, List.getElem?_map, hx]; rfl
    obtain ⟨fin, hfin⟩ : ∃ fin, fin = (some (.agg (cxC (.mk e.kind e.name e.n e.ty ys)), []) : Option (AVal × Heap)) := ⟨_, rfl⟩
    have hgoal : (some (.agg (cxC (.mk e.kind e.name e.n e.ty (mapCs n c e.kids))), []) : Option (AVal × Heap)) = fin := by rw [hfin, hys]
    simp only [Bool.false_eq_true, if_false]
    rw [hgoal]
    rw [cxC_mk] at hfin
    simp only [go_sem, Tryz.f63, pC, cxC_eq e, k1]
    refine run_for (fun i => ⟨[(2, .ptr (.loc 2) 0), (3, .ptr (.loc 3) 0), (4, .ptr (.loc 4) 0), (5, .ptr (.loc 5) 0), (6, .int .i64 i)], [], [(2, cxC e), (3, pC n c), (4, zCxR), (5, [.int .i64 e.kind, .str e.name, .int .i64 e.n, .int .i64 e.ty.kind, .str e.ty.name, .int .i64 e.ty.n, .slice (tysV e.ty.args), .own 41 0 (cxsV (ys.take i))])], 1⟩) e.kids.length ?_ ?_ ?_
    · simp only [go_sem, cxC_eq e, pC, zCxR, List.take_zero, cxsV_nil]
    · intro i hi h
      obtain ⟨x, hx⟩ := getS hi
      have hy := hyg i x hx
      have hm2 := cx_tots_mem (List.mem_of_getElem? hx)
      have d := ih x (by omega) (by omega)
      have w1 : IntKind.i64.wrap ((i : Int) + 1) = ((i + 1 : Nat) : Int) := wrapN (i + 1) (by omega)
      have hap : (cxsV (ys.take i)).length + 1 ≤ appMax := by rw [cxsV_len, List.length_take]; unfold appMax; omega
      rw [take_snoc hy] at h
      rw [cxC_eq x, cxC_eq (mapC n c x)] at d
      unfold pC at d
      simp only [go_sem, natlt, decide_eq_true hi, rl, natge0, tonat, cxsV_get, hx, cxC_eq e, cxC_eq x, pC, d, hap]
      refine h _ ?_
      simp only [go_sem, w1, cxsV_append, cxsV_cons, cxsV_nil, cxC_eq e, cxC_eq (mapC n c x), pC, zCxR]
    · simp only [go_sem, natlt, Nat.lt_irrefl, rl, cxC_eq e, pC, zCxR, ← hyl, List.take_length, hfin]
  · simp only [if_true]
    rcases Bool.eq_false_or_eq_true (e.name == n) with na | na <;> simp only [na, if_true, Bool.false_eq_true, if_false] <;> rw [cxC_eq e]
    · rw [cxC_eq c]
      simp only [go_sem, Tryz.f63, pC, k1, hn1, na]
    · simp only [go_sem, Tryz.f63, pC, k1, hn1, na]
end Go.Proofs
namespace Go.Proofs
open Go.Av
set_option maxHeartbeats 32000000
set_option maxRecDepth 100000
/-! the document's own putting -/
theorem taV_mk (c : List UInt8) (a b v : List (List UInt8)) (e : Tm) : taV (.mk c a b v e) = .agg [.str c, .slice (a.map .str), .slice (b.map .str), .slice (v.map .str), .int .i64 e.kind, .str e.name, .int .i64 e.ty.kind, .str e.ty.name, .int .i64 e.ty.n, .slice (tysV e.ty.args), .int .i64 e.co.kind, .str e.co.name, .int .i64 e.co.n, .int .i64 e.co.ty.kind, .str e.co.ty.name, .int .i64 e.co.ty.n, .slice (tysV e.co.ty.args), .slice (cxsV e.co.kids), .slice (tmsV e.kids), .slice (tasV e.alts)] := by
 rw [taV_c, taC_eq]; rfl
theorem tmsV_append (a b : List Tm) : tmsV (a ++ b) = tmsV a ++ tmsV b := by simp [tmsV_map]
theorem inC_den (n : List UInt8) (c : Cx) (hn : n ≠ []) : ∀ (m : Nat) (t : Tm), t.tot ≤ m → t.tot < 1000000 → den E 17 [.agg (tmC t), .agg (pC n c)] [] = some (.agg (tmC (putC n c t)), []) := by
 intro m
 induction m with
 | zero => intro t h; have := tm_tot_pos t; omega
 | succ m ih0 =>
 intro t hm hb
 have ih : ∀ x : Tm, x.tot < t.tot → den E 17 [.agg (tmC x), .agg (pC n c)] [] = some (.agg (tmC (putC n c x)), []) := fun x h => ih0 x (by omega) (by omega)
 have ht := tm_tot_of t
 have hs := sz_pos t.ty
 have hc := cx_tot_pos t.co
 have hkn := tmT_len t.kids
 have han := ta_tots_len t.alts
 have rl := tmsV_len t.kids
 have ra := tasV_len t.alts
 have hn1 : (n == []) = false := by simpa using hn
 have hn2 : (n != []) = true := by simpa [bne] using hn
 obtain ⟨ks, hks⟩ : ∃ ks, ks = putCk n c t.kids := ⟨_, rfl⟩
 obtain ⟨al, hals⟩ : ∃ al, al = putCa n c t.alts := ⟨_, rfl⟩
 have hkl : ks.length = t.kids.length := by rw [hks, putCk_map, List.length_map]
 have hal : al.length = t.alts.length := by rw [hals, putCa_map, List.length_map]
 have hk : ∀ (i : Nat) (x : Tm), t.kids[i]? = some x → ∃ y, ks[i]? = some y ∧ den E 17 [.agg (tmC x), .agg (pC n c)] [] = some (.agg (tmC (putC n c x)), []) ∧ y = putC n c x := by
  intro i x hx
  have hm2 := tmT_mem (List.mem_of_getElem? hx)
  exact ⟨_, by rw [hks, putCk_map, List.getElem?_map, hx]; rfl, ih x (by omega), rfl⟩
 have ha : ∀ (i : Nat) (x : Ta), t.alts[i]? = some x → al[i]? = some (altC n c x) ∧ den E 17 [.agg (tmC x.body), .agg (pC n c)] [] = some (.agg (tmC (putC n c x.body)), []) ∧ den E 51 [.slice (x.vars.map .str), .str []] [] = some (.bool (x.vars.contains []), []) ∧ den E 51 [.slice (x.cos.map .str), .str n] [] = some (.bool (x.cos.contains n), []) ∧ den E 51 [.slice (x.types.map .str), .str []] [] = some (.bool (x.types.contains []), []) := by
  intro i x hx
  have hm2 := ta_tots_mem (List.mem_of_getElem? hx)
  have hm3 := ta_tot_of x
  have hp := tm_tot_pos x.body
  exact ⟨by rw [hals, putCa_map, List.getElem?_map, hx]; rfl, ih x.body (by omega), has_den _ _ (by omega), has_den _ _ (by omega), has_den _ _ (by omega)⟩
 have dco := incoC_den n c hn t.co.tot t.co (Nat.le_refl _) (by omega)
 rw [cxC_eq t.co, cxC_eq (mapC n c t.co)] at dco
 unfold pC at dco
 rw [putC_eq, ← hks, ← hals, den_eq prim_17, body_17]
 cases k7 : t.kind == 7
 · cases k10 : t.kind == 10
   · simp only [Bool.or_false, Bool.false_eq_true, if_false]
     obtain ⟨fin, hfin⟩ : ∃ fin, fin = (some (.agg (tmC (.mk t.kind t.name t.ty t.co ks al)), []) : Option (AVal × Heap)) := ⟨_, rfl⟩
     rw [← hfin]
     rw [tmC_mk] at hfin
     simp only [go_sem, Tryz.f17, tmC_eq t, pC, pC, k7, k10]
     refine run_for (fun i => ⟨[(2, .ptr (.loc 2) 0), (3, .ptr (.loc 3) 0), (4, .ptr (.loc 4) 0), (5, .ptr (.loc 5) 0), (6, .int .i64 i)], [], [(2, tmC t), (3, pC n c), (4, zTmR), (5, [.int .i64 t.kind, .str t.name, .int .i64 t.ty.kind, .str t.ty.name, .int .i64 t.ty.n, .slice (tysV t.ty.args), .int .i64 t.co.kind, .str t.co.name, .int .i64 t.co.n, .int .i64 t.co.ty.kind, .str t.co.ty.name, .int .i64 t.co.ty.n, .slice (tysV t.co.ty.args), .slice (cxsV t.co.kids), .own 45 0 (tmsV (ks.take i)), .own 130 0 ([])])], 1⟩) t.kids.length ?_ ?_ ?_
     · simp only [go_sem, tmC_eq t, pC, pC, zTmR, List.take_zero, tmsV_nil]
     · intro i hi h
       obtain ⟨x, hx⟩ := getS hi
       obtain ⟨y, hy, d, dy⟩ := hk i x hx
       have w1 : IntKind.i64.wrap ((i : Int) + 1) = ((i + 1 : Nat) : Int) := wrapN (i + 1) (by omega)
       have hap : (tmsV (ks.take i)).length + 1 ≤ appMax := by rw [tmsV_len, List.length_take]; unfold appMax; omega
       rw [take_snoc hy] at h
       rw [tmC_eq x, tmC_eq (putC n c x)] at d
       unfold pC at d
       rw [dy] at h
       simp only [go_sem, natlt, decide_eq_true hi, rl, natge0, tonat, tmsV_get, hx, tmC_eq t, pC, pC, tmC_eq x, hap, d]
       refine h _ ?_
       simp only [go_sem, w1, tmsV_append, tmsV_cons, tmsV_nil, tmC_eq t, pC, pC, tmC_eq (putC n c x), zTmR]
     · simp only [go_sem, natlt, Nat.lt_irrefl, rl, tmC_eq t, pC, pC, zTmR, ← hkl, List.take_length]
       refine run_for (fun i => ⟨[(2, .ptr (.loc 2) 0), (3, .ptr (.loc 3) 0), (4, .ptr (.loc 4) 0), (5, .ptr (.loc 5) 0), (7, .int .i64 i)], [], [(2, tmC t), (3, pC n c), (4, zTmR), (5, [.int .i64 t.kind, .str t.name, .int .i64 t.ty.kind, .str t.ty.name, .int .i64 t.ty.n, .slice (tysV t.ty.args), .int .i64 t.co.kind, .str t.co.name, .int .i64 t.co.n, .int .i64 t.co.ty.kind, .str t.co.ty.name, .int .i64 t.co.ty.n, .slice (tysV t.co.ty.args), .slice (cxsV t.co.kids), .own 45 0 (tmsV ks), .own 130 0 (tasV (al.take i))])], 1⟩) t.alts.length ?_ ?_ ?_
       · simp only [go_sem, tmC_eq t, pC, pC, zTmR, List.take_zero, tasV_nil]
       · intro i hi h
         obtain ⟨x, hx⟩ := getS hi
         obtain ⟨hy, d, e1, e2, e3⟩ := ha i x hx
         have w1 : IntKind.i64.wrap ((i : Int) + 1) = ((i + 1 : Nat) : Int) := wrapN (i + 1) (by omega)
         have hap : (tasV (al.take i)).length + 1 ≤ appMax := by rw [tasV_len, List.length_take]; unfold appMax; omega
         rw [take_snoc hy] at h
         obtain ⟨xc, xt, xo, xv, xb⟩ := x
         dsimp only [altC, Ta.con, Ta.types, Ta.cos, Ta.vars, Ta.body] at *
         rw [tmC_eq xb, tmC_eq (putC n c xb)] at d
         unfold pC at d
         rcases Bool.eq_false_or_eq_true (xo.contains n) with q1 | q1 <;> rw [q1] at e2 <;> simp only [q1, if_true, Bool.false_eq_true, if_false] at h
         · rcases Bool.eq_false_or_eq_true (xv.contains []) with q2 | q2 <;> rw [q2] at e1 <;> rcases Bool.eq_false_or_eq_true (xt.contains []) with q3 | q3 <;> rw [q3] at e3 <;>
           (simp only [go_sem, natlt, decide_eq_true hi, ra, natge0, tonat, tasV_get, hx, tmC_eq t, pC, pC, taV_mk, hn1, hap, e1, e2, e3]
            refine h _ ?_
            simp only [go_sem, w1, tasV_append, tasV_cons, tasV_nil, taV_mk, tmC_eq t, pC, pC, zTmR])
         · rcases Bool.eq_false_or_eq_true (xv.contains []) with q2 | q2 <;> rw [q2] at e1 <;> rcases Bool.eq_false_or_eq_true (xt.contains []) with q3 | q3 <;> rw [q3] at e3 <;>
           (simp only [go_sem, natlt, decide_eq_true hi, ra, natge0, tonat, tasV_get, hx, tmC_eq t, pC, pC, taV_mk, hap, e1, e2, e3, d]
            refine h _ ?_
            simp only [go_sem, w1, tasV_append, tasV_cons, tasV_nil, taV_mk, tmC_eq t, pC, pC, zTmR])
       · simp only [go_sem, natlt, Nat.lt_irrefl, ra, tmC_eq t, pC, pC, zTmR, ← hal, List.take_length, hfin]
   · simp only [Bool.or_true, if_true]
     obtain ⟨fin, hfin⟩ : ∃ fin, fin = (some (.agg (tmC (.mk t.kind t.name t.ty (mapC n c t.co) ks al)), []) : Option (AVal × Heap)) := ⟨_, rfl⟩
     rw [← hfin]
     rw [tmC_mk] at hfin
     simp only [go_sem, Tryz.f17, tmC_eq t, pC, pC, k7, k10, dco]
     refine run_for (fun i => ⟨[(2, .ptr (.loc 2) 0), (3, .ptr (.loc 3) 0), (4, .ptr (.loc 4) 0), (5, .ptr (.loc 5) 0), (6, .int .i64 i)], [], [(2, tmC t), (3, pC n c), (4, zTmR), (5, [.int .i64 t.kind, .str t.name, .int .i64 t.ty.kind, .str t.ty.name, .int .i64 t.ty.n, .slice (tysV t.ty.args), .int .i64 (mapC n c t.co).kind, .str (mapC n c t.co).name, .int .i64 (mapC n c t.co).n, .int .i64 (mapC n c t.co).ty.kind, .str (mapC n c t.co).ty.name, .int .i64 (mapC n c t.co).ty.n, .slice (tysV (mapC n c t.co).ty.args), .slice (cxsV (mapC n c t.co).kids), .own 45 0 (tmsV (ks.take i)), .own 130 0 ([])])], 1⟩) t.kids.length ?_ ?_ ?_
     · simp only [go_sem, tmC_eq t, pC, pC, zTmR, List.take_zero, tmsV_nil]
     · intro i hi h
       obtain ⟨x, hx⟩ := getS hi
       obtain ⟨y, hy, d, dy⟩ := hk i x hx
       have w1 : IntKind.i64.wrap ((i : Int) + 1) = ((i + 1 : Nat) : Int) := wrapN (i + 1) (by omega)
       have hap : (tmsV (ks.take i)).length + 1 ≤ appMax := by rw [tmsV_len, List.length_take]; unfold appMax; omega
       rw [take_snoc hy] at h
       rw [tmC_eq x, tmC_eq (putC n c x)] at d
       unfold pC at d
       rw [dy] at h
       simp only [go_sem, natlt, decide_eq_true hi, rl, natge0, tonat, tmsV_get, hx, tmC_eq t, pC, pC, tmC_eq x, hap, d]
       refine h _ ?_
       simp only [go_sem, w1, tmsV_append, tmsV_cons, tmsV_nil, tmC_eq t, pC, pC, tmC_eq (putC n c x), zTmR]
     · simp only [go_sem, natlt, Nat.lt_irrefl, rl, tmC_eq t, pC, pC, zTmR, ← hkl, List.take_length]
       refine run_for (fun i => ⟨[(2, .ptr (.loc 2) 0), (3, .ptr (.loc 3) 0), (4, .ptr (.loc 4) 0), (5, .ptr (.loc 5) 0), (7, .int .i64 i)], [], [(2, tmC t), (3, pC n c), (4, zTmR), (5, [.int .i64 t.kind, .str t.name, .int .i64 t.ty.kind, .str t.ty.name, .int .i64 t.ty.n, .slice (tysV t.ty.args), .int .i64 (mapC n c t.co).kind, .str (mapC n c t.co).name, .int .i64 (mapC n c t.co).n, .int .i64 (mapC n c t.co).ty.kind, .str (mapC n c t.co).ty.name, .int .i64 (mapC n c t.co).ty.n, .slice (tysV (mapC n c t.co).ty.args), .slice (cxsV (mapC n c t.co).kids), .own 45 0 (tmsV ks), .own 130 0 (tasV (al.take i))])], 1⟩) t.alts.length ?_ ?_ ?_
       · simp only [go_sem, tmC_eq t, pC, pC, zTmR, List.take_zero, tasV_nil]
       · intro i hi h
         obtain ⟨x, hx⟩ := getS hi
         obtain ⟨hy, d, e1, e2, e3⟩ := ha i x hx
         have w1 : IntKind.i64.wrap ((i : Int) + 1) = ((i + 1 : Nat) : Int) := wrapN (i + 1) (by omega)
         have hap : (tasV (al.take i)).length + 1 ≤ appMax := by rw [tasV_len, List.length_take]; unfold appMax; omega
         rw [take_snoc hy] at h
         obtain ⟨xc, xt, xo, xv, xb⟩ := x
         dsimp only [altC, Ta.con, Ta.types, Ta.cos, Ta.vars, Ta.body] at *
         rw [tmC_eq xb, tmC_eq (putC n c xb)] at d
         unfold pC at d
         rcases Bool.eq_false_or_eq_true (xo.contains n) with q1 | q1 <;> rw [q1] at e2 <;> simp only [q1, if_true, Bool.false_eq_true, if_false] at h
         · rcases Bool.eq_false_or_eq_true (xv.contains []) with q2 | q2 <;> rw [q2] at e1 <;> rcases Bool.eq_false_or_eq_true (xt.contains []) with q3 | q3 <;> rw [q3] at e3 <;>
           (simp only [go_sem, natlt, decide_eq_true hi, ra, natge0, tonat, tasV_get, hx, tmC_eq t, pC, pC, taV_mk, hn1, hap, e1, e2, e3]
            refine h _ ?_
            simp only [go_sem, w1, tasV_append, tasV_cons, tasV_nil, taV_mk, tmC_eq t, pC, pC, zTmR])
         · rcases Bool.eq_false_or_eq_true (xv.contains []) with q2 | q2 <;> rw [q2] at e1 <;> rcases Bool.eq_false_or_eq_true (xt.contains []) with q3 | q3 <;> rw [q3] at e3 <;>
           (simp only [go_sem, natlt, decide_eq_true hi, ra, natge0, tonat, tasV_get, hx, tmC_eq t, pC, pC, taV_mk, hap, e1, e2, e3, d]
            refine h _ ?_
            simp only [go_sem, w1, tasV_append, tasV_cons, tasV_nil, taV_mk, tmC_eq t, pC, pC, zTmR])
       · simp only [go_sem, natlt, Nat.lt_irrefl, ra, tmC_eq t, pC, pC, zTmR, ← hal, List.take_length, hfin]
 · have k10 : (t.kind == 10) = false := by have : t.kind = 7 := (by simpa using k7); rw [this]; rfl
   simp only [k10, Bool.or_false, if_true]
   obtain ⟨fin, hfin⟩ : ∃ fin, fin = (some (.agg (tmC (.mk t.kind t.name t.ty (mapC n c t.co) ks al)), []) : Option (AVal × Heap)) := ⟨_, rfl⟩
   rw [← hfin]
   rw [tmC_mk] at hfin
   simp only [go_sem, Tryz.f17, tmC_eq t, pC, pC, k7, dco]
   refine run_for (fun i => ⟨[(2, .ptr (.loc 2) 0), (3, .ptr (.loc 3) 0), (4, .ptr (.loc 4) 0), (5, .ptr (.loc 5) 0), (6, .int .i64 i)], [], [(2, tmC t), (3, pC n c), (4, zTmR), (5, [.int .i64 t.kind, .str t.name, .int .i64 t.ty.kind, .str t.ty.name, .int .i64 t.ty.n, .slice (tysV t.ty.args), .int .i64 (mapC n c t.co).kind, .str (mapC n c t.co).name, .int .i64 (mapC n c t.co).n, .int .i64 (mapC n c t.co).ty.kind, .str (mapC n c t.co).ty.name, .int .i64 (mapC n c t.co).ty.n, .slice (tysV (mapC n c t.co).ty.args), .slice (cxsV (mapC n c t.co).kids), .own 45 0 (tmsV (ks.take i)), .own 130 0 ([])])], 1⟩) t.kids.length ?_ ?_ ?_
   · simp only [go_sem, tmC_eq t, pC, pC, zTmR, List.take_zero, tmsV_nil]
   · intro i hi h
     obtain ⟨x, hx⟩ := getS hi
     obtain ⟨y, hy, d, dy⟩ := hk i x hx
     have w1 : IntKind.i64.wrap ((i : Int) + 1) = ((i + 1 : Nat) : Int) := wrapN (i + 1) (by omega)
     have hap : (tmsV (ks.take i)).length + 1 ≤ appMax := by rw [tmsV_len, List.length_take]; unfold appMax; omega
     rw [take_snoc hy] at h
     rw [tmC_eq x, tmC_eq (putC n c x)] at d
     unfold pC at d
     rw [dy] at h
     simp only [go_sem, natlt, decide_eq_true hi, rl, natge0, tonat, tmsV_get, hx, tmC_eq t, pC, pC, tmC_eq x, hap, d]
     refine h _ ?_
     simp only [go_sem, w1, tmsV_append, tmsV_cons, tmsV_nil, tmC_eq t, pC, pC, tmC_eq (putC n c x), zTmR]
   · simp only [go_sem, natlt, Nat.lt_irrefl, rl, tmC_eq t, pC, pC, zTmR, ← hkl, List.take_length]
     refine run_for (fun i => ⟨[(2, .ptr (.loc 2) 0), (3, .ptr (.loc 3) 0), (4, .ptr (.loc 4) 0), (5, .ptr (.loc 5) 0), (7, .int .i64 i)], [], [(2, tmC t), (3, pC n c), (4, zTmR), (5, [.int .i64 t.kind, .str t.name, .int .i64 t.ty.kind, .str t.ty.name, .int .i64 t.ty.n, .slice (tysV t.ty.args), .int .i64 (mapC n c t.co).kind, .str (mapC n c t.co).name, .int .i64 (mapC n c t.co).n, .int .i64 (mapC n c t.co).ty.kind, .str (mapC n c t.co).ty.name, .int .i64 (mapC n c t.co).ty.n, .slice (tysV (mapC n c t.co).ty.args), .slice (cxsV (mapC n c t.co).kids), .own 45 0 (tmsV ks), .own 130 0 (tasV (al.take i))])], 1⟩) t.alts.length ?_ ?_ ?_
     · simp only [go_sem, tmC_eq t, pC, pC, zTmR, List.take_zero, tasV_nil]
     · intro i hi h
       obtain ⟨x, hx⟩ := getS hi
       obtain ⟨hy, d, e1, e2, e3⟩ := ha i x hx
       have w1 : IntKind.i64.wrap ((i : Int) + 1) = ((i + 1 : Nat) : Int) := wrapN (i + 1) (by omega)
       have hap : (tasV (al.take i)).length + 1 ≤ appMax := by rw [tasV_len, List.length_take]; unfold appMax; omega
       rw [take_snoc hy] at h
       obtain ⟨xc, xt, xo, xv, xb⟩ := x
       dsimp only [altC, Ta.con, Ta.types, Ta.cos, Ta.vars, Ta.body] at *
       rw [tmC_eq xb, tmC_eq (putC n c xb)] at d
       unfold pC at d
       rcases Bool.eq_false_or_eq_true (xo.contains n) with q1 | q1 <;> rw [q1] at e2 <;> simp only [q1, if_true, Bool.false_eq_true, if_false] at h
       · rcases Bool.eq_false_or_eq_true (xv.contains []) with q2 | q2 <;> rw [q2] at e1 <;> rcases Bool.eq_false_or_eq_true (xt.contains []) with q3 | q3 <;> rw [q3] at e3 <;>
         (simp only [go_sem, natlt, decide_eq_true hi, ra, natge0, tonat, tasV_get, hx, tmC_eq t, pC, pC, taV_mk, hn1, hap, e1, e2, e3]
          refine h _ ?_
          simp only [go_sem, w1, tasV_append, tasV_cons, tasV_nil, taV_mk, tmC_eq t, pC, pC, zTmR])
       · rcases Bool.eq_false_or_eq_true (xv.contains []) with q2 | q2 <;> rw [q2] at e1 <;> rcases Bool.eq_false_or_eq_true (xt.contains []) with q3 | q3 <;> rw [q3] at e3 <;>
         (simp only [go_sem, natlt, decide_eq_true hi, ra, natge0, tonat, tasV_get, hx, tmC_eq t, pC, pC, taV_mk, hap, e1, e2, e3, d]
          refine h _ ?_
          simp only [go_sem, w1, tasV_append, tasV_cons, tasV_nil, taV_mk, tmC_eq t, pC, pC, zTmR])
     · simp only [go_sem, natlt, Nat.lt_irrefl, ra, tmC_eq t, pC, pC, zTmR, ← hal, List.take_length, hfin]
end Go.Proofs
