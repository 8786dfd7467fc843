/- A term in the places of a variable: the document. -/
import Derived.Test.YtjfghnkmladbkaaGreatDoorAvS
namespace Go.Proofs
open Go.Av
set_option maxHeartbeats 32000000
set_option maxRecDepth 100000
theorem inV_den (n : List UInt8) (u : Tm) (hn : n ≠ []) : ∀ (m : Nat) (t : Tm), t.tot ≤ m → t.tot < 1000000 → den E 17 [.agg (tmC t), .agg (pV n u)] [] = some (.agg (tmC (putV n u t)), []) := by
 intro m
 induction m with
 | zero => intro t h; have := tm_tot_pos t; omega
 | succ m ih0 =>
 intro t hm hb
 have ih : ∀ x : Tm, x.tot < t.tot → den E 17 [.agg (tmC x), .agg (pV n u)] [] = some (.agg (tmC (putV n u x)), []) := fun x h => ih0 x (by omega) (by omega)
 have ht := tm_tot_of t
 have hs := sz_pos t.ty
 have hc := cx_tot_pos t.co
 have hkn := tmT_len t.kids
 have han := ta_tots_len t.alts
 have rl := tmsV_len t.kids
 have ra := tasV_len t.alts
 have hn1 : (n == []) = false := by simpa using hn
 have hn2 : (n != []) = true := by simpa [bne] using hn
 obtain ⟨ks, hks⟩ : ∃ ks, ks = putVk n u (t.kind == 8 && t.name == n) 0 t.kids := ⟨_, rfl⟩
 obtain ⟨al, hals⟩ : ∃ al, al = putVa n u t.alts := ⟨_, rfl⟩
 have hkl : ks.length = t.kids.length := by rw [hks, putVk_len]
 have hal : al.length = t.alts.length := by rw [hals, putVa_map, List.length_map]
 have hk : ∀ (i : Nat) (x : Tm), t.kids[i]? = some x → ∃ y, ks[i]? = some y ∧ den E 17 [.agg (tmC x), .agg (pV n u)] [] = some (.agg (tmC (putV n u x)), []) ∧ y = (if (t.kind == 8 && t.name == n) && i == 1 then x else putV n u x) := by
  intro i x hx
  have hm2 := tmT_mem (List.mem_of_getElem? hx)
  exact ⟨_, by rw [hks, putVk_get, hx, Nat.zero_add]; rfl, ih x (by omega), rfl⟩
 have ha : ∀ (i : Nat) (x : Ta), t.alts[i]? = some x → al[i]? = some (altV n u x) ∧ den E 17 [.agg (tmC x.body), .agg (pV n u)] [] = some (.agg (tmC (putV n u x.body)), []) ∧ den E 51 [.slice (x.vars.map .str), .str n] [] = some (.bool (x.vars.contains n), []) ∧ den E 51 [.slice (x.cos.map .str), .str []] [] = some (.bool (x.cos.contains []), []) ∧ den E 51 [.slice (x.types.map .str), .str []] [] = some (.bool (x.types.contains []), []) := by
  intro i x hx
  have hm2 := ta_tots_mem (List.mem_of_getElem? hx)
  have hm3 := ta_tot_of x
  have hp := tm_tot_pos x.body
  exact ⟨by rw [hals, putVa_map, List.getElem?_map, hx]; rfl, ih x.body (by omega), has_den _ _ (by omega), has_den _ _ (by omega), has_den _ _ (by omega)⟩
 have dco := incoV_den n u t.co.tot t.co (Nat.le_refl _) (by omega)
 rw [cxC_eq t.co] at dco
 unfold pV at dco
 rw [putV_eq, ← hks, ← hals, den_eq prim_17, body_17]
 rcases Bool.eq_false_or_eq_true (t.name == n) with na | na
 · cases k1 : t.kind == 1
   · cases k3 : t.kind == 3
     · cases k7 : t.kind == 7
       · cases k10 : t.kind == 10
         · simp only [na, Bool.and_true, Bool.false_eq_true, if_false]
           obtain ⟨fin, hfin⟩ : ∃ fin, fin = (some (.agg (tmC (.mk t.kind t.name t.ty t.co ks al)), []) : Option (AVal × Heap)) := ⟨_, rfl⟩
           rw [← hfin]
           rw [tmC_mk] at hfin
           simp only [go_sem, Tryz.f17, tmC_eq t, pV, pV, hn1, k1, k3, k7, k10]
           refine run_for (fun i => ⟨[(2, .ptr (.loc 2) 0), (3, .ptr (.loc 3) 0), (4, .ptr (.loc 4) 0), (5, .ptr (.loc 5) 0), (6, .int .i64 i)], [], [(2, tmC t), (3, pV n u), (4, zTmR), (5, [.int .i64 t.kind, .str t.name, .int .i64 t.ty.kind, .str t.ty.name, .int .i64 t.ty.n, .slice (tysV t.ty.args), .int .i64 t.co.kind, .str t.co.name, .int .i64 t.co.n, .int .i64 t.co.ty.kind, .str t.co.ty.name, .int .i64 t.co.ty.n, .slice (tysV t.co.ty.args), .slice (cxsV t.co.kids), .own 45 0 (tmsV (ks.take i)), .own 130 0 ([])])], 1⟩) t.kids.length ?_ ?_ ?_
           · simp only [go_sem, tmC_eq t, pV, pV, zTmR, List.take_zero, tmsV_nil]
           · intro i hi h
             obtain ⟨x, hx⟩ := getS hi
             obtain ⟨y, hy, d, dy⟩ := hk i x hx
             have w1 : IntKind.i64.wrap ((i : Int) + 1) = ((i + 1 : Nat) : Int) := wrapN (i + 1) (by omega)
             have hap : (tmsV (ks.take i)).length + 1 ≤ appMax := by rw [tmsV_len, List.length_take]; unfold appMax; omega
             rw [take_snoc hy] at h
             rw [tmC_eq x, tmC_eq (putV n u x)] at d
             unfold pV at d
             cases k8 : t.kind == 8
             · have e : y = putV n u x := by rw [dy, k8]; rfl
               rw [e] at h
               simp only [go_sem, natlt, decide_eq_true hi, rl, natge0, tonat, tmsV_get, hx, tmC_eq t, pV, pV, tmC_eq x, hn1, hap, k8, d]
               refine h _ ?_
               simp only [go_sem, w1, tmsV_append, tmsV_cons, tmsV_nil, tmC_eq t, pV, pV, tmC_eq (putV n u x), zTmR]
             · cases b : i == 1
               · have e : y = putV n u x := by rw [dy, k8, b]; simp
                 rw [e] at h
                 simp only [go_sem, natlt, decide_eq_true hi, rl, natge0, tonat, tmsV_get, hx, tmC_eq t, pV, pV, tmC_eq x, hn1, hap, nat_eq1, k8, b, d]
                 refine h _ ?_
                 simp only [go_sem, w1, tmsV_append, tmsV_cons, tmsV_nil, tmC_eq t, pV, pV, tmC_eq (putV n u x), zTmR]
               · have e : y = x := by rw [dy, k8, b]; simp [na]
                 rw [e] at h
                 simp only [go_sem, natlt, decide_eq_true hi, rl, natge0, tonat, tmsV_get, hx, tmC_eq t, pV, pV, tmC_eq x, hn1, na, hap, nat_eq1, k8, b]
                 refine h _ ?_
                 simp only [go_sem, w1, tmsV_append, tmsV_cons, tmsV_nil, tmC_eq t, pV, pV, tmC_eq (x), zTmR]
           · simp only [go_sem, natlt, Nat.lt_irrefl, rl, tmC_eq t, pV, pV, zTmR, ← hkl, List.take_length]
             refine run_for (fun i => ⟨[(2, .ptr (.loc 2) 0), (3, .ptr (.loc 3) 0), (4, .ptr (.loc 4) 0), (5, .ptr (.loc 5) 0), (7, .int .i64 i)], [], [(2, tmC t), (3, pV n u), (4, zTmR), (5, [.int .i64 t.kind, .str t.name, .int .i64 t.ty.kind, .str t.ty.name, .int .i64 t.ty.n, .slice (tysV t.ty.args), .int .i64 t.co.kind, .str t.co.name, .int .i64 t.co.n, .int .i64 t.co.ty.kind, .str t.co.ty.name, .int .i64 t.co.ty.n, .slice (tysV t.co.ty.args), .slice (cxsV t.co.kids), .own 45 0 (tmsV ks), .own 130 0 (tasV (al.take i))])], 1⟩) t.alts.length ?_ ?_ ?_
             · simp only [go_sem, tmC_eq t, pV, pV, zTmR, List.take_zero, tasV_nil]
             · intro i hi h
               obtain ⟨x, hx⟩ := getS hi
               obtain ⟨hy, d, e1, e2, e3⟩ := ha i x hx
               have w1 : IntKind.i64.wrap ((i : Int) + 1) = ((i + 1 : Nat) : Int) := wrapN (i + 1) (by omega)
               have hap : (tasV (al.take i)).length + 1 ≤ appMax := by rw [tasV_len, List.length_take]; unfold appMax; omega
               rw [take_snoc hy] at h
               obtain ⟨xc, xt, xo, xv, xb⟩ := x
               dsimp only [altV, Ta.con, Ta.types, Ta.cos, Ta.vars, Ta.body] at *
               rw [tmC_eq xb, tmC_eq (putV n u xb)] at d
               unfold pV at d
               rcases Bool.eq_false_or_eq_true (xv.contains n) with q1 | q1 <;> rw [q1] at e1 <;> simp only [q1, if_true, Bool.false_eq_true, if_false] at h
               · rcases Bool.eq_false_or_eq_true (xo.contains []) with q2 | q2 <;> rw [q2] at e2 <;> rcases Bool.eq_false_or_eq_true (xt.contains []) with q3 | q3 <;> rw [q3] at e3 <;>
                 (simp only [go_sem, natlt, decide_eq_true hi, ra, natge0, tonat, tasV_get, hx, tmC_eq t, pV, pV, taV_mk, hn1, hap, e1, e2, e3]
                  refine h _ ?_
                  simp only [go_sem, w1, tasV_append, tasV_cons, tasV_nil, taV_mk, tmC_eq t, pV, pV, zTmR])
               · rcases Bool.eq_false_or_eq_true (xo.contains []) with q2 | q2 <;> rw [q2] at e2 <;> rcases Bool.eq_false_or_eq_true (xt.contains []) with q3 | q3 <;> rw [q3] at e3 <;>
                 (simp only [go_sem, natlt, decide_eq_true hi, ra, natge0, tonat, tasV_get, hx, tmC_eq t, pV, pV, taV_mk, hap, e1, e2, e3, d]
                  refine h _ ?_
                  simp only [go_sem, w1, tasV_append, tasV_cons, tasV_nil, taV_mk, tmC_eq t, pV, pV, zTmR])
             · simp only [go_sem, natlt, Nat.lt_irrefl, ra, tmC_eq t, pV, pV, zTmR, ← hal, List.take_length, hfin]
         · have k8 : (t.kind == 8) = false := by have : t.kind = 10 := (by simpa using k10); rw [this]; rfl
           simp only [na, Bool.and_true, Bool.false_eq_true, if_false]
           obtain ⟨fin, hfin⟩ : ∃ fin, fin = (some (.agg (tmC (.mk t.kind t.name t.ty t.co ks al)), []) : Option (AVal × Heap)) := ⟨_, rfl⟩
           rw [← hfin]
           rw [tmC_mk] at hfin
           simp only [go_sem, Tryz.f17, tmC_eq t, pV, pV, hn1, k1, k3, k7, k10, dco]
           refine run_for (fun i => ⟨[(2, .ptr (.loc 2) 0), (3, .ptr (.loc 3) 0), (4, .ptr (.loc 4) 0), (5, .ptr (.loc 5) 0), (6, .int .i64 i)], [], [(2, tmC t), (3, pV n u), (4, zTmR), (5, [.int .i64 t.kind, .str t.name, .int .i64 t.ty.kind, .str t.ty.name, .int .i64 t.ty.n, .slice (tysV t.ty.args), .int .i64 t.co.kind, .str t.co.name, .int .i64 t.co.n, .int .i64 t.co.ty.kind, .str t.co.ty.name, .int .i64 t.co.ty.n, .slice (tysV t.co.ty.args), .slice (cxsV t.co.kids), .own 45 0 (tmsV (ks.take i)), .own 130 0 ([])])], 1⟩) t.kids.length ?_ ?_ ?_
           · simp only [go_sem, tmC_eq t, pV, pV, zTmR, List.take_zero, tmsV_nil]
           · intro i hi h
             obtain ⟨x, hx⟩ := getS hi
             obtain ⟨y, hy, d, dy⟩ := hk i x hx
             have w1 : IntKind.i64.wrap ((i : Int) + 1) = ((i + 1 : Nat) : Int) := wrapN (i + 1) (by omega)
             have hap : (tmsV (ks.take i)).length + 1 ≤ appMax := by rw [tmsV_len, List.length_take]; unfold appMax; omega
             rw [take_snoc hy] at h
             rw [tmC_eq x, tmC_eq (putV n u x)] at d
             unfold pV at d
             have e : y = putV n u x := by rw [dy, k8]; rfl
             rw [e] at h
             simp only [go_sem, natlt, decide_eq_true hi, rl, natge0, tonat, tmsV_get, hx, tmC_eq t, pV, pV, tmC_eq x, hn1, k8, hap, d]
             refine h _ ?_
             simp only [go_sem, w1, tmsV_append, tmsV_cons, tmsV_nil, tmC_eq t, pV, pV, tmC_eq (putV n u x), zTmR]
           · simp only [go_sem, natlt, Nat.lt_irrefl, rl, tmC_eq t, pV, pV, zTmR, ← hkl, List.take_length]
             refine run_for (fun i => ⟨[(2, .ptr (.loc 2) 0), (3, .ptr (.loc 3) 0), (4, .ptr (.loc 4) 0), (5, .ptr (.loc 5) 0), (7, .int .i64 i)], [], [(2, tmC t), (3, pV n u), (4, zTmR), (5, [.int .i64 t.kind, .str t.name, .int .i64 t.ty.kind, .str t.ty.name, .int .i64 t.ty.n, .slice (tysV t.ty.args), .int .i64 t.co.kind, .str t.co.name, .int .i64 t.co.n, .int .i64 t.co.ty.kind, .str t.co.ty.name, .int .i64 t.co.ty.n, .slice (tysV t.co.ty.args), .slice (cxsV t.co.kids), .own 45 0 (tmsV ks), .own 130 0 (tasV (al.take i))])], 1⟩) t.alts.length ?_ ?_ ?_
             · simp only [go_sem, tmC_eq t, pV, pV, zTmR, List.take_zero, tasV_nil]
             · intro i hi h
               obtain ⟨x, hx⟩ := getS hi
               obtain ⟨hy, d, e1, e2, e3⟩ := ha i x hx
               have w1 : IntKind.i64.wrap ((i : Int) + 1) = ((i + 1 : Nat) : Int) := wrapN (i + 1) (by omega)
               have hap : (tasV (al.take i)).length + 1 ≤ appMax := by rw [tasV_len, List.length_take]; unfold appMax; omega
               rw [take_snoc hy] at h
               obtain ⟨xc, xt, xo, xv, xb⟩ := x
               dsimp only [altV, Ta.con, Ta.types, Ta.cos, Ta.vars, Ta.body] at *
               rw [tmC_eq xb, tmC_eq (putV n u xb)] at d
               unfold pV at d
               rcases Bool.eq_false_or_eq_true (xv.contains n) with q1 | q1 <;> rw [q1] at e1 <;> simp only [q1, if_true, Bool.false_eq_true, if_false] at h
               · rcases Bool.eq_false_or_eq_true (xo.contains []) with q2 | q2 <;> rw [q2] at e2 <;> rcases Bool.eq_false_or_eq_true (xt.contains []) with q3 | q3 <;> rw [q3] at e3 <;>
                 (simp only [go_sem, natlt, decide_eq_true hi, ra, natge0, tonat, tasV_get, hx, tmC_eq t, pV, pV, taV_mk, hn1, hap, e1, e2, e3]
                  refine h _ ?_
                  simp only [go_sem, w1, tasV_append, tasV_cons, tasV_nil, taV_mk, tmC_eq t, pV, pV, zTmR])
               · rcases Bool.eq_false_or_eq_true (xo.contains []) with q2 | q2 <;> rw [q2] at e2 <;> rcases Bool.eq_false_or_eq_true (xt.contains []) with q3 | q3 <;> rw [q3] at e3 <;>
                 (simp only [go_sem, natlt, decide_eq_true hi, ra, natge0, tonat, tasV_get, hx, tmC_eq t, pV, pV, taV_mk, hap, e1, e2, e3, d]
                  refine h _ ?_
                  simp only [go_sem, w1, tasV_append, tasV_cons, tasV_nil, taV_mk, tmC_eq t, pV, pV, zTmR])
             · simp only [go_sem, natlt, Nat.lt_irrefl, ra, tmC_eq t, pV, pV, zTmR, ← hal, List.take_length, hfin]
       · have k10 : (t.kind == 10) = false := by have : t.kind = 7 := (by simpa using k7); rw [this]; rfl
         have k8 : (t.kind == 8) = false := by have : t.kind = 7 := (by simpa using k7); rw [this]; rfl
         simp only [na, Bool.and_true, Bool.false_eq_true, if_false]
         obtain ⟨fin, hfin⟩ : ∃ fin, fin = (some (.agg (tmC (.mk t.kind t.name t.ty t.co ks al)), []) : Option (AVal × Heap)) := ⟨_, rfl⟩
         rw [← hfin]
         rw [tmC_mk] at hfin
         simp only [go_sem, Tryz.f17, tmC_eq t, pV, pV, hn1, k1, k3, k7, dco]
         refine run_for (fun i => ⟨[(2, .ptr (.loc 2) 0), (3, .ptr (.loc 3) 0), (4, .ptr (.loc 4) 0), (5, .ptr (.loc 5) 0), (6, .int .i64 i)], [], [(2, tmC t), (3, pV n u), (4, zTmR), (5, [.int .i64 t.kind, .str t.name, .int .i64 t.ty.kind, .str t.ty.name, .int .i64 t.ty.n, .slice (tysV t.ty.args), .int .i64 t.co.kind, .str t.co.name, .int .i64 t.co.n, .int .i64 t.co.ty.kind, .str t.co.ty.name, .int .i64 t.co.ty.n, .slice (tysV t.co.ty.args), .slice (cxsV t.co.kids), .own 45 0 (tmsV (ks.take i)), .own 130 0 ([])])], 1⟩) t.kids.length ?_ ?_ ?_
         · simp only [go_sem, tmC_eq t, pV, pV, zTmR, List.take_zero, tmsV_nil]
         · intro i hi h
           obtain ⟨x, hx⟩ := getS hi
           obtain ⟨y, hy, d, dy⟩ := hk i x hx
           have w1 : IntKind.i64.wrap ((i : Int) + 1) = ((i + 1 : Nat) : Int) := wrapN (i + 1) (by omega)
           have hap : (tmsV (ks.take i)).length + 1 ≤ appMax := by rw [tmsV_len, List.length_take]; unfold appMax; omega
           rw [take_snoc hy] at h
           rw [tmC_eq x, tmC_eq (putV n u x)] at d
           unfold pV at d
           have e : y = putV n u x := by rw [dy, k8]; rfl
           rw [e] at h
           simp only [go_sem, natlt, decide_eq_true hi, rl, natge0, tonat, tmsV_get, hx, tmC_eq t, pV, pV, tmC_eq x, hn1, k8, hap, d]
           refine h _ ?_
           simp only [go_sem, w1, tmsV_append, tmsV_cons, tmsV_nil, tmC_eq t, pV, pV, tmC_eq (putV n u x), zTmR]
         · simp only [go_sem, natlt, Nat.lt_irrefl, rl, tmC_eq t, pV, pV, zTmR, ← hkl, List.take_length]
           refine run_for (fun i => ⟨[(2, .ptr (.loc 2) 0), (3, .ptr (.loc 3) 0), (4, .ptr (.loc 4) 0), (5, .ptr (.loc 5) 0), (7, .int .i64 i)], [], [(2, tmC t), (3, pV n u), (4, zTmR), (5, [.int .i64 t.kind, .str t.name, .int .i64 t.ty.kind, .str t.ty.name, .int .i64 t.ty.n, .slice (tysV t.ty.args), .int .i64 t.co.kind, .str t.co.name, .int .i64 t.co.n, .int .i64 t.co.ty.kind, .str t.co.ty.name, .int .i64 t.co.ty.n, .slice (tysV t.co.ty.args), .slice (cxsV t.co.kids), .own 45 0 (tmsV ks), .own 130 0 (tasV (al.take i))])], 1⟩) t.alts.length ?_ ?_ ?_
           · simp only [go_sem, tmC_eq t, pV, pV, zTmR, List.take_zero, tasV_nil]
           · intro i hi h
             obtain ⟨x, hx⟩ := getS hi
             obtain ⟨hy, d, e1, e2, e3⟩ := ha i x hx
             have w1 : IntKind.i64.wrap ((i : Int) + 1) = ((i + 1 : Nat) : Int) := wrapN (i + 1) (by omega)
             have hap : (tasV (al.take i)).length + 1 ≤ appMax := by rw [tasV_len, List.length_take]; unfold appMax; omega
             rw [take_snoc hy] at h
             obtain ⟨xc, xt, xo, xv, xb⟩ := x
             dsimp only [altV, Ta.con, Ta.types, Ta.cos, Ta.vars, Ta.body] at *
             rw [tmC_eq xb, tmC_eq (putV n u xb)] at d
             unfold pV at d
             rcases Bool.eq_false_or_eq_true (xv.contains n) with q1 | q1 <;> rw [q1] at e1 <;> simp only [q1, if_true, Bool.false_eq_true, if_false] at h
             · rcases Bool.eq_false_or_eq_true (xo.contains []) with q2 | q2 <;> rw [q2] at e2 <;> rcases Bool.eq_false_or_eq_true (xt.contains []) with q3 | q3 <;> rw [q3] at e3 <;>
               (simp only [go_sem, natlt, decide_eq_true hi, ra, natge0, tonat, tasV_get, hx, tmC_eq t, pV, pV, taV_mk, hn1, hap, e1, e2, e3]
                refine h _ ?_
                simp only [go_sem, w1, tasV_append, tasV_cons, tasV_nil, taV_mk, tmC_eq t, pV, pV, zTmR])
             · rcases Bool.eq_false_or_eq_true (xo.contains []) with q2 | q2 <;> rw [q2] at e2 <;> rcases Bool.eq_false_or_eq_true (xt.contains []) with q3 | q3 <;> rw [q3] at e3 <;>
               (simp only [go_sem, natlt, decide_eq_true hi, ra, natge0, tonat, tasV_get, hx, tmC_eq t, pV, pV, taV_mk, hap, e1, e2, e3, d]
                refine h _ ?_
                simp only [go_sem, w1, tasV_append, tasV_cons, tasV_nil, taV_mk, tmC_eq t, pV, pV, zTmR])
           · simp only [go_sem, natlt, Nat.lt_irrefl, ra, tmC_eq t, pV, pV, zTmR, ← hal, List.take_length, hfin]
     · simp only [na, Bool.and_true, Bool.false_eq_true, if_false, if_true]
       rw [tmC_eq t]
       simp only [go_sem, Tryz.f17, pV, k1, k3, na, hn1]
   · simp only [na, Bool.and_true, if_true]
     rw [tmC_eq t, tmC_eq u]
     simp only [go_sem, Tryz.f17, pV, k1, na, hn1]
 · cases k1 : t.kind == 1
   · cases k3 : t.kind == 3
     · cases k7 : t.kind == 7
       · cases k10 : t.kind == 10
         · simp only [na, Bool.and_false, Bool.false_eq_true, if_false]
           obtain ⟨fin, hfin⟩ : ∃ fin, fin = (some (.agg (tmC (.mk t.kind t.name t.ty t.co ks al)), []) : Option (AVal × Heap)) := ⟨_, rfl⟩
           rw [← hfin]
           rw [tmC_mk] at hfin
           simp only [go_sem, Tryz.f17, tmC_eq t, pV, pV, hn1, k1, k3, k7, k10]
           refine run_for (fun i => ⟨[(2, .ptr (.loc 2) 0), (3, .ptr (.loc 3) 0), (4, .ptr (.loc 4) 0), (5, .ptr (.loc 5) 0), (6, .int .i64 i)], [], [(2, tmC t), (3, pV n u), (4, zTmR), (5, [.int .i64 t.kind, .str t.name, .int .i64 t.ty.kind, .str t.ty.name, .int .i64 t.ty.n, .slice (tysV t.ty.args), .int .i64 t.co.kind, .str t.co.name, .int .i64 t.co.n, .int .i64 t.co.ty.kind, .str t.co.ty.name, .int .i64 t.co.ty.n, .slice (tysV t.co.ty.args), .slice (cxsV t.co.kids), .own 45 0 (tmsV (ks.take i)), .own 130 0 ([])])], 1⟩) t.kids.length ?_ ?_ ?_
           · simp only [go_sem, tmC_eq t, pV, pV, zTmR, List.take_zero, tmsV_nil]
           · intro i hi h
             obtain ⟨x, hx⟩ := getS hi
             obtain ⟨y, hy, d, dy⟩ := hk i x hx
             have w1 : IntKind.i64.wrap ((i : Int) + 1) = ((i + 1 : Nat) : Int) := wrapN (i + 1) (by omega)
             have hap : (tmsV (ks.take i)).length + 1 ≤ appMax := by rw [tmsV_len, List.length_take]; unfold appMax; omega
             rw [take_snoc hy] at h
             rw [tmC_eq x, tmC_eq (putV n u x)] at d
             unfold pV at d
             have e : y = putV n u x := by rw [dy, na]; simp
             rw [e] at h
             cases k8 : t.kind == 8
             · simp only [go_sem, natlt, decide_eq_true hi, rl, natge0, tonat, tmsV_get, hx, tmC_eq t, pV, pV, tmC_eq x, hn1, hap, k8, d]
               refine h _ ?_
               simp only [go_sem, w1, tmsV_append, tmsV_cons, tmsV_nil, tmC_eq t, pV, pV, tmC_eq (putV n u x), zTmR]
             · cases b : i == 1
               · simp only [go_sem, natlt, decide_eq_true hi, rl, natge0, tonat, tmsV_get, hx, tmC_eq t, pV, pV, tmC_eq x, hn1, hap, nat_eq1, k8, b, d]
                 refine h _ ?_
                 simp only [go_sem, w1, tmsV_append, tmsV_cons, tmsV_nil, tmC_eq t, pV, pV, tmC_eq (putV n u x), zTmR]
               · simp only [go_sem, natlt, decide_eq_true hi, rl, natge0, tonat, tmsV_get, hx, tmC_eq t, pV, pV, tmC_eq x, hn1, na, hap, nat_eq1, k8, b, d]
                 refine h _ ?_
                 simp only [go_sem, w1, tmsV_append, tmsV_cons, tmsV_nil, tmC_eq t, pV, pV, tmC_eq (putV n u x), zTmR]
           · simp only [go_sem, natlt, Nat.lt_irrefl, rl, tmC_eq t, pV, pV, zTmR, ← hkl, List.take_length]
             refine run_for (fun i => ⟨[(2, .ptr (.loc 2) 0), (3, .ptr (.loc 3) 0), (4, .ptr (.loc 4) 0), (5, .ptr (.loc 5) 0), (7, .int .i64 i)], [], [(2, tmC t), (3, pV n u), (4, zTmR), (5, [.int .i64 t.kind, .str t.name, .int .i64 t.ty.kind, .str t.ty.name, .int .i64 t.ty.n, .slice (tysV t.ty.args), .int .i64 t.co.kind, .str t.co.name, .int .i64 t.co.n, .int .i64 t.co.ty.kind, .str t.co.ty.name, .int .i64 t.co.ty.n, .slice (tysV t.co.ty.args), .slice (cxsV t.co.kids), .own 45 0 (tmsV ks), .own 130 0 (tasV (al.take i))])], 1⟩) t.alts.length ?_ ?_ ?_
             · simp only [go_sem, tmC_eq t, pV, pV, zTmR, List.take_zero, tasV_nil]
             · intro i hi h
               obtain ⟨x, hx⟩ := getS hi
               obtain ⟨hy, d, e1, e2, e3⟩ := ha i x hx
               have w1 : IntKind.i64.wrap ((i : Int) + 1) = ((i + 1 : Nat) : Int) := wrapN (i + 1) (by omega)
               have hap : (tasV (al.take i)).length + 1 ≤ appMax := by rw [tasV_len, List.length_take]; unfold appMax; omega
               rw [take_snoc hy] at h
               obtain ⟨xc, xt, xo, xv, xb⟩ := x
               dsimp only [altV, Ta.con, Ta.types, Ta.cos, Ta.vars, Ta.body] at *
               rw [tmC_eq xb, tmC_eq (putV n u xb)] at d
               unfold pV at d
               rcases Bool.eq_false_or_eq_true (xv.contains n) with q1 | q1 <;> rw [q1] at e1 <;> simp only [q1, if_true, Bool.false_eq_true, if_false] at h
               · rcases Bool.eq_false_or_eq_true (xo.contains []) with q2 | q2 <;> rw [q2] at e2 <;> rcases Bool.eq_false_or_eq_true (xt.contains []) with q3 | q3 <;> rw [q3] at e3 <;>
                 (simp only [go_sem, natlt, decide_eq_true hi, ra, natge0, tonat, tasV_get, hx, tmC_eq t, pV, pV, taV_mk, hn1, hap, e1, e2, e3]
                  refine h _ ?_
                  simp only [go_sem, w1, tasV_append, tasV_cons, tasV_nil, taV_mk, tmC_eq t, pV, pV, zTmR])
               · rcases Bool.eq_false_or_eq_true (xo.contains []) with q2 | q2 <;> rw [q2] at e2 <;> rcases Bool.eq_false_or_eq_true (xt.contains []) with q3 | q3 <;> rw [q3] at e3 <;>
                 (simp only [go_sem, natlt, decide_eq_true hi, ra, natge0, tonat, tasV_get, hx, tmC_eq t, pV, pV, taV_mk, hap, e1, e2, e3, d]
                  refine h _ ?_
                  simp only [go_sem, w1, tasV_append, tasV_cons, tasV_nil, taV_mk, tmC_eq t, pV, pV, zTmR])
             · simp only [go_sem, natlt, Nat.lt_irrefl, ra, tmC_eq t, pV, pV, zTmR, ← hal, List.take_length, hfin]
         · have k8 : (t.kind == 8) = false := by have : t.kind = 10 := (by simpa using k10); rw [this]; rfl
           simp only [na, Bool.and_false, Bool.false_eq_true, if_false]
           obtain ⟨fin, hfin⟩ : ∃ fin, fin = (some (.agg (tmC (.mk t.kind t.name t.ty t.co ks al)), []) : Option (AVal × Heap)) := ⟨_, rfl⟩
           rw [← hfin]
           rw [tmC_mk] at hfin
           simp only [go_sem, Tryz.f17, tmC_eq t, pV, pV, hn1, k1, k3, k7, k10, dco]
           refine run_for (fun i => ⟨[(2, .ptr (.loc 2) 0), (3, .ptr (.loc 3) 0), (4, .ptr (.loc 4) 0), (5, .ptr (.loc 5) 0), (6, .int .i64 i)], [], [(2, tmC t), (3, pV n u), (4, zTmR), (5, [.int .i64 t.kind, .str t.name, .int .i64 t.ty.kind, .str t.ty.name, .int .i64 t.ty.n, .slice (tysV t.ty.args), .int .i64 t.co.kind, .str t.co.name, .int .i64 t.co.n, .int .i64 t.co.ty.kind, .str t.co.ty.name, .int .i64 t.co.ty.n, .slice (tysV t.co.ty.args), .slice (cxsV t.co.kids), .own 45 0 (tmsV (ks.take i)), .own 130 0 ([])])], 1⟩) t.kids.length ?_ ?_ ?_
           · simp only [go_sem, tmC_eq t, pV, pV, zTmR, List.take_zero, tmsV_nil]
           · intro i hi h
             obtain ⟨x, hx⟩ := getS hi
             obtain ⟨y, hy, d, dy⟩ := hk i x hx
             have w1 : IntKind.i64.wrap ((i : Int) + 1) = ((i + 1 : Nat) : Int) := wrapN (i + 1) (by omega)
             have hap : (tmsV (ks.take i)).length + 1 ≤ appMax := by rw [tmsV_len, List.length_take]; unfold appMax; omega
             rw [take_snoc hy] at h
             rw [tmC_eq x, tmC_eq (putV n u x)] at d
             unfold pV at d
             have e : y = putV n u x := by rw [dy, k8]; rfl
             rw [e] at h
             simp only [go_sem, natlt, decide_eq_true hi, rl, natge0, tonat, tmsV_get, hx, tmC_eq t, pV, pV, tmC_eq x, hn1, k8, hap, d]
             refine h _ ?_
             simp only [go_sem, w1, tmsV_append, tmsV_cons, tmsV_nil, tmC_eq t, pV, pV, tmC_eq (putV n u x), zTmR]
           · simp only [go_sem, natlt, Nat.lt_irrefl, rl, tmC_eq t, pV, pV, zTmR, ← hkl, List.take_length]
             refine run_for (fun i => ⟨[(2, .ptr (.loc 2) 0), (3, .ptr (.loc 3) 0), (4, .ptr (.loc 4) 0), (5, .ptr (.loc 5) 0), (7, .int .i64 i)], [], [(2, tmC t), (3, pV n u), (4, zTmR), (5, [.int .i64 t.kind, .str t.name, .int .i64 t.ty.kind, .str t.ty.name, .int .i64 t.ty.n, .slice (tysV t.ty.args), .int .i64 t.co.kind, .str t.co.name, .int .i64 t.co.n, .int .i64 t.co.ty.kind, .str t.co.ty.name, .int .i64 t.co.ty.n, .slice (tysV t.co.ty.args), .slice (cxsV t.co.kids), .own 45 0 (tmsV ks), .own 130 0 (tasV (al.take i))])], 1⟩) t.alts.length ?_ ?_ ?_
             · simp only [go_sem, tmC_eq t, pV, pV, zTmR, List.take_zero, tasV_nil]
             · intro i hi h
               obtain ⟨x, hx⟩ := getS hi
               obtain ⟨hy, d, e1, e2, e3⟩ := ha i x hx
               have w1 : IntKind.i64.wrap ((i : Int) + 1) = ((i + 1 : Nat) : Int) := wrapN (i + 1) (by omega)
               have hap : (tasV (al.take i)).length + 1 ≤ appMax := by rw [tasV_len, List.length_take]; unfold appMax; omega
               rw [take_snoc hy] at h
               obtain ⟨xc, xt, xo, xv, xb⟩ := x
               dsimp only [altV, Ta.con, Ta.types, Ta.cos, Ta.vars, Ta.body] at *
               rw [tmC_eq xb, tmC_eq (putV n u xb)] at d
               unfold pV at d
               rcases Bool.eq_false_or_eq_true (xv.contains n) with q1 | q1 <;> rw [q1] at e1 <;> simp only [q1, if_true, Bool.false_eq_true, if_false] at h
               · rcases Bool.eq_false_or_eq_true (xo.contains []) with q2 | q2 <;> rw [q2] at e2 <;> rcases Bool.eq_false_or_eq_true (xt.contains []) with q3 | q3 <;> rw [q3] at e3 <;>
                 (simp only [go_sem, natlt, decide_eq_true hi, ra, natge0, tonat, tasV_get, hx, tmC_eq t, pV, pV, taV_mk, hn1, hap, e1, e2, e3]
                  refine h _ ?_
                  simp only [go_sem, w1, tasV_append, tasV_cons, tasV_nil, taV_mk, tmC_eq t, pV, pV, zTmR])
               · rcases Bool.eq_false_or_eq_true (xo.contains []) with q2 | q2 <;> rw [q2] at e2 <;> rcases Bool.eq_false_or_eq_true (xt.contains []) with q3 | q3 <;> rw [q3] at e3 <;>
                 (simp only [go_sem, natlt, decide_eq_true hi, ra, natge0, tonat, tasV_get, hx, tmC_eq t, pV, pV, taV_mk, hap, e1, e2, e3, d]
                  refine h _ ?_
                  simp only [go_sem, w1, tasV_append, tasV_cons, tasV_nil, taV_mk, tmC_eq t, pV, pV, zTmR])
             · simp only [go_sem, natlt, Nat.lt_irrefl, ra, tmC_eq t, pV, pV, zTmR, ← hal, List.take_length, hfin]
       · have k10 : (t.kind == 10) = false := by have : t.kind = 7 := (by simpa using k7); rw [this]; rfl
         have k8 : (t.kind == 8) = false := by have : t.kind = 7 := (by simpa using k7); rw [this]; rfl
         simp only [na, Bool.and_false, Bool.false_eq_true, if_false]
         obtain ⟨fin, hfin⟩ : ∃ fin, fin = (some (.agg (tmC (.mk t.kind t.name t.ty t.co ks al)), []) : Option (AVal × Heap)) := ⟨_, rfl⟩
         rw [← hfin]
         rw [tmC_mk] at hfin
         simp only [go_sem, Tryz.f17, tmC_eq t, pV, pV, hn1, k1, k3, k7, dco]
         refine run_for (fun i => ⟨[(2, .ptr (.loc 2) 0), (3, .ptr (.loc 3) 0), (4, .ptr (.loc 4) 0), (5, .ptr (.loc 5) 0), (6, .int .i64 i)], [], [(2, tmC t), (3, pV n u), (4, zTmR), (5, [.int .i64 t.kind, .str t.name, .int .i64 t.ty.kind, .str t.ty.name, .int .i64 t.ty.n, .slice (tysV t.ty.args), .int .i64 t.co.kind, .str t.co.name, .int .i64 t.co.n, .int .i64 t.co.ty.kind, .str t.co.ty.name, .int .i64 t.co.ty.n, .slice (tysV t.co.ty.args), .slice (cxsV t.co.kids), .own 45 0 (tmsV (ks.take i)), .own 130 0 ([])])], 1⟩) t.kids.length ?_ ?_ ?_
         · simp only [go_sem, tmC_eq t, pV, pV, zTmR, List.take_zero, tmsV_nil]
         · intro i hi h
           obtain ⟨x, hx⟩ := getS hi
           obtain ⟨y, hy, d, dy⟩ := hk i x hx
           have w1 : IntKind.i64.wrap ((i : Int) + 1) = ((i + 1 : Nat) : Int) := wrapN (i + 1) (by omega)
           have hap : (tmsV (ks.take i)).length + 1 ≤ appMax := by rw [tmsV_len, List.length_take]; unfold appMax; omega
           rw [take_snoc hy] at h
           rw [tmC_eq x, tmC_eq (putV n u x)] at d
           unfold pV at d
           have e : y = putV n u x := by rw [dy, k8]; rfl
           rw [e] at h
           simp only [go_sem, natlt, decide_eq_true hi, rl, natge0, tonat, tmsV_get, hx, tmC_eq t, pV, pV, tmC_eq x, hn1, k8, hap, d]
           refine h _ ?_
           simp only [go_sem, w1, tmsV_append, tmsV_cons, tmsV_nil, tmC_eq t, pV, pV, tmC_eq (putV n u x), zTmR]
         · simp only [go_sem, natlt, Nat.lt_irrefl, rl, tmC_eq t, pV, pV, zTmR, ← hkl, List.take_length]
           refine run_for (fun i => ⟨[(2, .ptr (.loc 2) 0), (3, .ptr (.loc 3) 0), (4, .ptr (.loc 4) 0), (5, .ptr (.loc 5) 0), (7, .int .i64 i)], [], [(2, tmC t), (3, pV n u), (4, zTmR), (5, [.int .i64 t.kind, .str t.name, .int .i64 t.ty.kind, .str t.ty.name, .int .i64 t.ty.n, .slice (tysV t.ty.args), .int .i64 t.co.kind, .str t.co.name, .int .i64 t.co.n, .int .i64 t.co.ty.kind, .str t.co.ty.name, .int .i64 t.co.ty.n, .slice (tysV t.co.ty.args), .slice (cxsV t.co.kids), .own 45 0 (tmsV ks), .own 130 0 (tasV (al.take i))])], 1⟩) t.alts.length ?_ ?_ ?_
           · simp only [go_sem, tmC_eq t, pV, pV, zTmR, List.take_zero, tasV_nil]
           · intro i hi h
             obtain ⟨x, hx⟩ := getS hi
             obtain ⟨hy, d, e1, e2, e3⟩ := ha i x hx
             have w1 : IntKind.i64.wrap ((i : Int) + 1) = ((i + 1 : Nat) : Int) := wrapN (i + 1) (by omega)
             have hap : (tasV (al.take i)).length + 1 ≤ appMax := by rw [tasV_len, List.length_take]; unfold appMax; omega
             rw [take_snoc hy] at h
             obtain ⟨xc, xt, xo, xv, xb⟩ := x
             dsimp only [altV, Ta.con, Ta.types, Ta.cos, Ta.vars, Ta.body] at *
             rw [tmC_eq xb, tmC_eq (putV n u xb)] at d
             unfold pV at d
             rcases Bool.eq_false_or_eq_true (xv.contains n) with q1 | q1 <;> rw [q1] at e1 <;> simp only [q1, if_true, Bool.false_eq_true, if_false] at h
             · rcases Bool.eq_false_or_eq_true (xo.contains []) with q2 | q2 <;> rw [q2] at e2 <;> rcases Bool.eq_false_or_eq_true (xt.contains []) with q3 | q3 <;> rw [q3] at e3 <;>
               (simp only [go_sem, natlt, decide_eq_true hi, ra, natge0, tonat, tasV_get, hx, tmC_eq t, pV, pV, taV_mk, hn1, hap, e1, e2, e3]
                refine h _ ?_
                simp only [go_sem, w1, tasV_append, tasV_cons, tasV_nil, taV_mk, tmC_eq t, pV, pV, zTmR])
             · rcases Bool.eq_false_or_eq_true (xo.contains []) with q2 | q2 <;> rw [q2] at e2 <;> rcases Bool.eq_false_or_eq_true (xt.contains []) with q3 | q3 <;> rw [q3] at e3 <;>
               (simp only [go_sem, natlt, decide_eq_true hi, ra, natge0, tonat, tasV_get, hx, tmC_eq t, pV, pV, taV_mk, hap, e1, e2, e3, d]
                refine h _ ?_
                simp only [go_sem, w1, tasV_append, tasV_cons, tasV_nil, taV_mk, tmC_eq t, pV, pV, zTmR])
           · simp only [go_sem, natlt, Nat.lt_irrefl, ra, tmC_eq t, pV, pV, zTmR, ← hal, List.take_length, hfin]
     · have k7 : (t.kind == 7) = false := by have : t.kind = 3 := (by simpa using k3); rw [this]; rfl
       have k10 : (t.kind == 10) = false := by have : t.kind = 3 := (by simpa using k3); rw [this]; rfl
       have k8 : (t.kind == 8) = false := by have : t.kind = 3 := (by simpa using k3); rw [this]; rfl
       simp only [na, Bool.and_false, Bool.false_eq_true, if_false]
       obtain ⟨fin, hfin⟩ : ∃ fin, fin = (some (.agg (tmC (.mk t.kind t.name t.ty t.co ks al)), []) : Option (AVal × Heap)) := ⟨_, rfl⟩
       rw [← hfin]
       rw [tmC_mk] at hfin
       simp only [go_sem, Tryz.f17, tmC_eq t, pV, pV, hn1, k1, k3, k7, k10, na]
       refine run_for (fun i => ⟨[(2, .ptr (.loc 2) 0), (3, .ptr (.loc 3) 0), (4, .ptr (.loc 4) 0), (5, .ptr (.loc 5) 0), (6, .int .i64 i)], [], [(2, tmC t), (3, pV n u), (4, zTmR), (5, [.int .i64 t.kind, .str t.name, .int .i64 t.ty.kind, .str t.ty.name, .int .i64 t.ty.n, .slice (tysV t.ty.args), .int .i64 t.co.kind, .str t.co.name, .int .i64 t.co.n, .int .i64 t.co.ty.kind, .str t.co.ty.name, .int .i64 t.co.ty.n, .slice (tysV t.co.ty.args), .slice (cxsV t.co.kids), .own 45 0 (tmsV (ks.take i)), .own 130 0 ([])])], 1⟩) t.kids.length ?_ ?_ ?_
       · simp only [go_sem, tmC_eq t, pV, pV, zTmR, List.take_zero, tmsV_nil]
       · intro i hi h
         obtain ⟨x, hx⟩ := getS hi
         obtain ⟨y, hy, d, dy⟩ := hk i x hx
         have w1 : IntKind.i64.wrap ((i : Int) + 1) = ((i + 1 : Nat) : Int) := wrapN (i + 1) (by omega)
         have hap : (tmsV (ks.take i)).length + 1 ≤ appMax := by rw [tmsV_len, List.length_take]; unfold appMax; omega
         rw [take_snoc hy] at h
         rw [tmC_eq x, tmC_eq (putV n u x)] at d
         unfold pV at d
         have e : y = putV n u x := by rw [dy, k8]; rfl
         rw [e] at h
         simp only [go_sem, natlt, decide_eq_true hi, rl, natge0, tonat, tmsV_get, hx, tmC_eq t, pV, pV, tmC_eq x, hn1, k8, hap, d]
         refine h _ ?_
         simp only [go_sem, w1, tmsV_append, tmsV_cons, tmsV_nil, tmC_eq t, pV, pV, tmC_eq (putV n u x), zTmR]
       · simp only [go_sem, natlt, Nat.lt_irrefl, rl, tmC_eq t, pV, pV, zTmR, ← hkl, List.take_length]
         refine run_for (fun i => ⟨[(2, .ptr (.loc 2) 0), (3, .ptr (.loc 3) 0), (4, .ptr (.loc 4) 0), (5, .ptr (.loc 5) 0), (7, .int .i64 i)], [], [(2, tmC t), (3, pV n u), (4, zTmR), (5, [.int .i64 t.kind, .str t.name, .int .i64 t.ty.kind, .str t.ty.name, .int .i64 t.ty.n, .slice (tysV t.ty.args), .int .i64 t.co.kind, .str t.co.name, .int .i64 t.co.n, .int .i64 t.co.ty.kind, .str t.co.ty.name, .int .i64 t.co.ty.n, .slice (tysV t.co.ty.args), .slice (cxsV t.co.kids), .own 45 0 (tmsV ks), .own 130 0 (tasV (al.take i))])], 1⟩) t.alts.length ?_ ?_ ?_
         · simp only [go_sem, tmC_eq t, pV, pV, zTmR, List.take_zero, tasV_nil]
         · intro i hi h
           obtain ⟨x, hx⟩ := getS hi
           obtain ⟨hy, d, e1, e2, e3⟩ := ha i x hx
           have w1 : IntKind.i64.wrap ((i : Int) + 1) = ((i + 1 : Nat) : Int) := wrapN (i + 1) (by omega)
           have hap : (tasV (al.take i)).length + 1 ≤ appMax := by rw [tasV_len, List.length_take]; unfold appMax; omega
           rw [take_snoc hy] at h
           obtain ⟨xc, xt, xo, xv, xb⟩ := x
           dsimp only [altV, Ta.con, Ta.types, Ta.cos, Ta.vars, Ta.body] at *
           rw [tmC_eq xb, tmC_eq (putV n u xb)] at d
           unfold pV at d
           rcases Bool.eq_false_or_eq_true (xv.contains n) with q1 | q1 <;> rw [q1] at e1 <;> simp only [q1, if_true, Bool.false_eq_true, if_false] at h
           · rcases Bool.eq_false_or_eq_true (xo.contains []) with q2 | q2 <;> rw [q2] at e2 <;> rcases Bool.eq_false_or_eq_true (xt.contains []) with q3 | q3 <;> rw [q3] at e3 <;>
             (simp only [go_sem, natlt, decide_eq_true hi, ra, natge0, tonat, tasV_get, hx, tmC_eq t, pV, pV, taV_mk, hn1, hap, e1, e2, e3]
              refine h _ ?_
              simp only [go_sem, w1, tasV_append, tasV_cons, tasV_nil, taV_mk, tmC_eq t, pV, pV, zTmR])
           · rcases Bool.eq_false_or_eq_true (xo.contains []) with q2 | q2 <;> rw [q2] at e2 <;> rcases Bool.eq_false_or_eq_true (xt.contains []) with q3 | q3 <;> rw [q3] at e3 <;>
             (simp only [go_sem, natlt, decide_eq_true hi, ra, natge0, tonat, tasV_get, hx, tmC_eq t, pV, pV, taV_mk, hap, e1, e2, e3, d]
              refine h _ ?_
              simp only [go_sem, w1, tasV_append, tasV_cons, tasV_nil, taV_mk, tmC_eq t, pV, pV, zTmR])
         · simp only [go_sem, natlt, Nat.lt_irrefl, ra, tmC_eq t, pV, pV, zTmR, ← hal, List.take_length, hfin]
   · have k3 : (t.kind == 3) = false := by have : t.kind = 1 := (by simpa using k1); rw [this]; rfl
     have k7 : (t.kind == 7) = false := by have : t.kind = 1 := (by simpa using k1); rw [this]; rfl
     have k10 : (t.kind == 10) = false := by have : t.kind = 1 := (by simpa using k1); rw [this]; rfl
     have k8 : (t.kind == 8) = false := by have : t.kind = 1 := (by simpa using k1); rw [this]; rfl
     simp only [k3, na, Bool.and_false, Bool.false_eq_true, if_false]
     obtain ⟨fin, hfin⟩ : ∃ fin, fin = (some (.agg (tmC (.mk t.kind t.name t.ty t.co ks al)), []) : Option (AVal × Heap)) := ⟨_, rfl⟩
     rw [← hfin]
     rw [tmC_mk] at hfin
     simp only [go_sem, Tryz.f17, tmC_eq t, pV, pV, hn1, k1, k3, k7, k10, na]
     refine run_for (fun i => ⟨[(2, .ptr (.loc 2) 0), (3, .ptr (.loc 3) 0), (4, .ptr (.loc 4) 0), (5, .ptr (.loc 5) 0), (6, .int .i64 i)], [], [(2, tmC t), (3, pV n u), (4, zTmR), (5, [.int .i64 t.kind, .str t.name, .int .i64 t.ty.kind, .str t.ty.name, .int .i64 t.ty.n, .slice (tysV t.ty.args), .int .i64 t.co.kind, .str t.co.name, .int .i64 t.co.n, .int .i64 t.co.ty.kind, .str t.co.ty.name, .int .i64 t.co.ty.n, .slice (tysV t.co.ty.args), .slice (cxsV t.co.kids), .own 45 0 (tmsV (ks.take i)), .own 130 0 ([])])], 1⟩) t.kids.length ?_ ?_ ?_
     · simp only [go_sem, tmC_eq t, pV, pV, zTmR, List.take_zero, tmsV_nil]
     · intro i hi h
       obtain ⟨x, hx⟩ := getS hi
       obtain ⟨y, hy, d, dy⟩ := hk i x hx
       have w1 : IntKind.i64.wrap ((i : Int) + 1) = ((i + 1 : Nat) : Int) := wrapN (i + 1) (by omega)
       have hap : (tmsV (ks.take i)).length + 1 ≤ appMax := by rw [tmsV_len, List.length_take]; unfold appMax; omega
       rw [take_snoc hy] at h
       rw [tmC_eq x, tmC_eq (putV n u x)] at d
       unfold pV at d
       have e : y = putV n u x := by rw [dy, k8]; rfl
       rw [e] at h
       simp only [go_sem, natlt, decide_eq_true hi, rl, natge0, tonat, tmsV_get, hx, tmC_eq t, pV, pV, tmC_eq x, hn1, k8, hap, d]
       refine h _ ?_
       simp only [go_sem, w1, tmsV_append, tmsV_cons, tmsV_nil, tmC_eq t, pV, pV, tmC_eq (putV n u x), zTmR]
     · simp only [go_sem, natlt, Nat.lt_irrefl, rl, tmC_eq t, pV, pV, zTmR, ← hkl, List.take_length]
       refine run_for (fun i => ⟨[(2, .ptr (.loc 2) 0), (3, .ptr (.loc 3) 0), (4, .ptr (.loc 4) 0), (5, .ptr (.loc 5) 0), (7, .int .i64 i)], [], [(2, tmC t), (3, pV n u), (4, zTmR), (5, [.int .i64 t.kind, .str t.name, .int .i64 t.ty.kind, .str t.ty.name, .int .i64 t.ty.n, .slice (tysV t.ty.args), .int .i64 t.co.kind, .str t.co.name, .int .i64 t.co.n, .int .i64 t.co.ty.kind, .str t.co.ty.name, .int .i64 t.co.ty.n, .slice (tysV t.co.ty.args), .slice (cxsV t.co.kids), .own 45 0 (tmsV ks), .own 130 0 (tasV (al.take i))])], 1⟩) t.alts.length ?_ ?_ ?_
       · simp only [go_sem, tmC_eq t, pV, pV, zTmR, List.take_zero, tasV_nil]
       · intro i hi h
         obtain ⟨x, hx⟩ := getS hi
         obtain ⟨hy, d, e1, e2, e3⟩ := ha i x hx
         have w1 : IntKind.i64.wrap ((i : Int) + 1) = ((i + 1 : Nat) : Int) := wrapN (i + 1) (by omega)
         have hap : (tasV (al.take i)).length + 1 ≤ appMax := by rw [tasV_len, List.length_take]; unfold appMax; omega
         rw [take_snoc hy] at h
         obtain ⟨xc, xt, xo, xv, xb⟩ := x
         dsimp only [altV, Ta.con, Ta.types, Ta.cos, Ta.vars, Ta.body] at *
         rw [tmC_eq xb, tmC_eq (putV n u xb)] at d
         unfold pV at d
         rcases Bool.eq_false_or_eq_true (xv.contains n) with q1 | q1 <;> rw [q1] at e1 <;> simp only [q1, if_true, Bool.false_eq_true, if_false] at h
         · rcases Bool.eq_false_or_eq_true (xo.contains []) with q2 | q2 <;> rw [q2] at e2 <;> rcases Bool.eq_false_or_eq_true (xt.contains []) with q3 | q3 <;> rw [q3] at e3 <;>
           (simp only [go_sem, natlt, decide_eq_true hi, ra, natge0, tonat, tasV_get, hx, tmC_eq t, pV, pV, taV_mk, hn1, hap, e1, e2, e3]
            refine h _ ?_
            simp only [go_sem, w1, tasV_append, tasV_cons, tasV_nil, taV_mk, tmC_eq t, pV, pV, zTmR])
         · rcases Bool.eq_false_or_eq_true (xo.contains []) with q2 | q2 <;> rw [q2] at e2 <;> rcases Bool.eq_false_or_eq_true (xt.contains []) with q3 | q3 <;> rw [q3] at e3 <;>
           (simp only [go_sem, natlt, decide_eq_true hi, ra, natge0, tonat, tasV_get, hx, tmC_eq t, pV, pV, taV_mk, hap, e1, e2, e3, d]
            refine h _ ?_
            simp only [go_sem, w1, tasV_append, tasV_cons, tasV_nil, taV_mk, tmC_eq t, pV, pV, zTmR])
       · simp only [go_sem, natlt, Nat.lt_irrefl, ra, tmC_eq t, pV, pV, zTmR, ← hal, List.take_length, hfin]
end Go.Proofs
