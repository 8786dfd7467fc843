/- The writers of coercions and of terms of the program and of the document give the same. -/
import Derived.Test.YtofblkofhgbefaaGreatDoorAvL
import Derived.Test.YtofblkofhgbefaaGreatDoorAvO
namespace Go.Proofs
open Go.Av
set_option maxHeartbeats 16000000
set_option maxRecDepth 100000
/-! coercions, written: the program's -/
theorem itoa_den {n : Int} (h0 : 0 ≤ n) (h1 : n < 1000000000) : den E 110 [.int .i64 n] [] = some (.str (Lib.itoa n), []) := by
  rw [den_prim prim_110]
  simp only [itoaP]
  rw [if_pos ⟨by omega, by omega⟩]
theorem kkC {k a b : Int} (h1 : (k == a) = true) (h2 : a ≠ b) : (k == b) = false := by
  rw [beq_iff_eq] at h1; rw [h1, beq_eq_false_iff_ne]; exact h2
theorem cx_tot_kids (c : Cx) : c.tot = c.ty.sz + Cx.tots c.kids := by cases c; simp [Cx.tot, Cx.ty, Cx.kids]
/-- a rule's head, by its kind -/
theorem headW_cases {c : Cx} {hs : List (List UInt8)} (h : headW c = some hs) :
    ((c.kind == 5) = true ∧ (c.kind == 7) = false ∧ (c.kind == 8) = false ∧ hs = [wordC c.kind, c.name]) ∨ ((c.kind == 5) = false ∧ (c.kind == 7) = true ∧ (c.kind == 8) = false ∧ hs = [wordC c.kind, c.name]) ∨
    ((c.kind == 5) = false ∧ (c.kind == 7) = false ∧ (c.kind == 8) = true ∧ (0 ≤ c.n ∧ c.n < 1000000000) ∧ hs = [wordC c.kind, Lib.itoa c.n]) ∨ ((c.kind == 5) = false ∧ (c.kind == 7) = false ∧ (c.kind == 8) = false ∧ hs = [wordC c.kind]) := by
  unfold headW at h
  cases k5 : c.kind == 5
  · cases k7 : c.kind == 7
    · cases k8 : c.kind == 8
      · rw [k5, k7, k8] at h
        simp only [Bool.or_self, Bool.false_eq_true, if_false] at h
        injection h with h
        exact .inr (.inr (.inr ⟨rfl, rfl, rfl, h.symm⟩))
      · rw [k5, k7, k8] at h
        simp only [Bool.or_self, Bool.false_eq_true, if_false, if_true] at h
        split at h
        · rename_i hn
          injection h with h
          exact .inr (.inr (.inl ⟨rfl, rfl, rfl, hn, h.symm⟩))
        · cases h
    · rw [k5, k7] at h
      simp only [Bool.or_true, if_true] at h
      injection h with h
      exact .inr (.inl ⟨rfl, rfl, kkC k7 (by decide), h.symm⟩)
  · rw [k5] at h
    simp only [Bool.true_or, if_true] at h
    injection h with h
    exact .inl ⟨rfl, kkC k5 (by decide), kkC k5 (by decide), h.symm⟩
theorem cprint_den (F : Nat) : ∀ (f : Nat) (c : Cx) (s : List UInt8), c.tot < 1000000 → kpR F f c = some s → den E 59 [.agg (cxC c)] [] = some (.str s, []) := by
  intro f
  induction f with
  | zero => intro c s _ h; cases h
  | succ f ih =>
  intro c s ht h
  have htk := cx_tot_kids c
  have hszp := sz_pos c.ty
  simp only [kpR] at h
  rw [den_eq prim_59, body_59, cxC_eq]
  cases k1 : c.kind == 1
  · cases k2 : c.kind == 2
    · rw [k1, k2] at h
      simp only [Bool.false_eq_true, if_false] at h
      split at h
      · split at h
        · cases h
        · rename_i hs hhs
          split at h
          · cases h
          · rename_i ss hss
            obtain ⟨g1, g2⟩ := allR_get hss
            have hlk := cx_tots_len c.kids
            have w := cword_den c.kind
            have hw := headW_cases hhs
            have hsl : hs.length ≤ 2 := by rcases hw with h | h | h | h <;> simp [h]
            have hi : (c.kind == 8) = true → den E 110 [.int .i64 c.n] [] = some (.str (Lib.itoa c.n), []) := by
              intro k8
              rcases hw with h | h | h | h
              · rw [h.2.2.1] at k8; cases k8
              · rw [h.2.2.1] at k8; cases k8
              · exact itoa_den h.2.2.2.1.1 h.2.2.2.1.2
              · rw [h.2.2.1] at k8; cases k8
            cases k9 : c.kind == 9
            · rw [k9] at h
              simp only [Bool.false_eq_true, if_false] at h
              obtain ⟨rfl, hlen⟩ := short_some h
              unfold lim at hlen
              simp only [List.length_append, List.length_cons, List.length_nil] at hlen
              have dj := join_den (hs ++ ss) [32] (by omega) (by rw [List.length_append, g1]; omega)
              rw [List.map_append] at dj
              rcases hw with ⟨k5, k7, k8, hse⟩ | ⟨k5, k7, k8, hse⟩ | ⟨k5, k7, k8, hn, hse⟩ | ⟨k5, k7, k8, hse⟩
              all_goals (
                have hm := congrArg (List.map AVal.str) hse
                simp only [List.map_cons, List.map_nil] at hm
                try (have hi' := hi k8)
                first
                  | simp only [go_sem, ↓reduceIte, Nat.reduceEqDiff, Nat.reduceAdd, Nat.reduceMul, Nat.reduceLeDiff, Nat.zero_ne_one, Nat.one_ne_zero, Nat.reduceLT, reduceCtorEq, decide_true, Tryz.f59, k1, k2, k5, k7, k8, w, List.cons_append, List.nil_append, hi']
                  | simp only [go_sem, ↓reduceIte, Nat.reduceEqDiff, Nat.reduceAdd, Nat.reduceMul, Nat.reduceLeDiff, Nat.zero_ne_one, Nat.one_ne_zero, Nat.reduceLT, reduceCtorEq, decide_true, Tryz.f59, k1, k2, k5, k7, k8, w, cxsV_len, List.cons_append, List.nil_append]
                refine run_for (fun i => ⟨[(1, .ptr (.loc 1) 0), (3, .own 9 0 (hs.map .str ++ (ss.take i).map .str)), (42, .slice (cxsV c.kids)), (43, .int .i64 c.kids.length), (44, .int .i64 i)], [], [(1, [.int .i64 c.kind, .str c.name, .int .i64 c.n, .int .i64 c.ty.kind, .str c.ty.name, .int .i64 c.ty.n, .slice (tysV c.ty.args), .slice (cxsV c.kids)])], 1⟩) c.kids.length ?_ ?_ ?_
                · simp only [go_sem, ↓reduceIte, Nat.reduceEqDiff, Nat.reduceAdd, Nat.zero_ne_one, reduceCtorEq, Int.cast_ofNat_Int, hm, cxsV_len, List.take_zero, List.map_nil, List.append_nil]
                · intro i hi hr
                  obtain ⟨y, hy⟩ : ∃ y, c.kids[i]? = some y := ⟨c.kids[i], List.getElem?_eq_getElem hi⟩
                  have hyt := cx_tots_mem (List.mem_of_getElem? hy)
                  obtain ⟨b, hb, hsb⟩ := g2 i y hy
                  have d := ih y b (by omega) hb
                  have hg : (cxsV c.kids)[i]? = some (.agg (cxC y)) := by rw [cxsV_get, hy]; rfl
                  rw [cxC_eq] at d hg
                  have hw1 : IntKind.i64.wrap ((i : Int) + 1) = ((i + 1 : Nat) : Int) := wrapN (i + 1) (by omega)
                  have hlt := natlt_t hi
                  have hts : ((ss.take i).map AVal.str) ++ [.str b] = (ss.take (i + 1)).map AVal.str := by rw [take_snoc hsb]; simp
                  have hap : (hs.map AVal.str ++ (ss.take i).map AVal.str).length + 1 ≤ appMax := by rw [List.length_append, List.length_map, List.length_map, List.length_take]; unfold appMax; omega
                  simp only [go_sem, ↓reduceIte, Nat.reduceEqDiff, Nat.reduceAdd, Nat.reduceMul, Nat.reduceLeDiff, Nat.reduceLT, decide_true, hlt, natge0, tonat, hg, d, hap, List.append_assoc, hts]
                  refine hr _ ?_
                  simp only [go_sem, ↓reduceIte, Nat.reduceEqDiff, hw1]
                · have hlt := natlt_f (Nat.lt_irrefl c.kids.length)
                  have htk : ss.take c.kids.length = ss := by rw [← g1]; exact List.take_length
                  simp (disch := ((try simp only [List.length_append, List.length_cons, List.length_nil]); omega)) only [go_sem, ↓reduceIte, Nat.reduceEqDiff, Nat.reduceAdd, Nat.one_ne_zero, beq_self_eq_true, le_str, hlt, k9, htk, dj, List.length_cons, List.length_nil, List.cons_append, List.nil_append, Nat.add_assoc])
            · rw [k9] at h
              simp only [if_true] at h
              split at h
              · cases h
              · rename_i t hT
                obtain ⟨rfl, hlen⟩ := short_some h
                unfold lim at hlen
                have d9 := tprint_den F c.ty t (by omega) hT
                rw [tyV_eq] at d9
                simp only [List.length_append, List.length_cons, List.length_nil] at hlen
                have dj := join_den (hs ++ ss ++ [[60] ++ t ++ [62]]) [32] (by omega) (by rw [List.length_append, List.length_append, g1]; simp only [List.length_cons, List.length_nil]; omega)
                have htl : t.length ≤ 3000000000 := by
                  have := join_mem_len (l := hs ++ ss ++ [[60] ++ t ++ [62]]) (s := [60] ++ t ++ [62]) (sep := [32]) (by simp)
                  simp only [List.length_append, List.length_cons, List.length_nil] at this
                  omega
                obtain ⟨J, hJ⟩ : ∃ J, J = Lib.join (hs ++ ss ++ [[60] ++ t ++ [62]]) [32] := ⟨_, rfl⟩
                rw [← hJ] at dj hlen ⊢
                simp only [List.map_append, List.map_cons, List.map_nil, List.cons_append, List.nil_append, List.append_assoc] at dj
                have k5 := kkC (b := 5) k9 (by decide)
                have k7 := kkC (b := 7) k9 (by decide)
                have k8 := kkC (b := 8) k9 (by decide)
                have hse : hs = [wordC c.kind] := by
                  rcases hw with h | h | h | h
                  · rw [k5] at h; exact absurd h.1 (by decide)
                  · rw [k7] at h; exact absurd h.2.1 (by decide)
                  · rw [k8] at h; exact absurd h.2.2.1 (by decide)
                  · exact h.2.2.2
                have hm := congrArg (List.map AVal.str) hse
                simp only [List.map_cons, List.map_nil] at hm
                have hap9 : (hs.map AVal.str).length + ((ss.map AVal.str).length + 1) ≤ appMax := by rw [List.length_map, List.length_map]; unfold appMax; omega
                simp only [go_sem, ↓reduceIte, Nat.reduceEqDiff, Nat.reduceAdd, Nat.reduceMul, Nat.reduceLeDiff, Nat.zero_ne_one, Nat.one_ne_zero, Nat.reduceLT, reduceCtorEq, Tryz.f59, k1, k2, k5, k7, k8, w, cxsV_len, List.cons_append, List.nil_append]
                refine run_for (fun i => ⟨[(1, .ptr (.loc 1) 0), (3, .own 9 0 (hs.map .str ++ (ss.take i).map .str)), (42, .slice (cxsV c.kids)), (43, .int .i64 c.kids.length), (44, .int .i64 i)], [], [(1, [.int .i64 c.kind, .str c.name, .int .i64 c.n, .int .i64 c.ty.kind, .str c.ty.name, .int .i64 c.ty.n, .slice (tysV c.ty.args), .slice (cxsV c.kids)])], 1⟩) c.kids.length ?_ ?_ ?_
                · simp only [go_sem, ↓reduceIte, Nat.reduceEqDiff, Nat.zero_ne_one, reduceCtorEq, Int.cast_ofNat_Int, hm, List.take_zero, List.map_nil, List.append_nil]
                · intro i hi hr
                  obtain ⟨y, hy⟩ : ∃ y, c.kids[i]? = some y := ⟨c.kids[i], List.getElem?_eq_getElem hi⟩
                  have hyt := cx_tots_mem (List.mem_of_getElem? hy)
                  obtain ⟨b, hb, hsb⟩ := g2 i y hy
                  have d := ih y b (by omega) hb
                  have hg : (cxsV c.kids)[i]? = some (.agg (cxC y)) := by rw [cxsV_get, hy]; rfl
                  rw [cxC_eq] at d hg
                  have hw1 : IntKind.i64.wrap ((i : Int) + 1) = ((i + 1 : Nat) : Int) := wrapN (i + 1) (by omega)
                  have hlt := natlt_t hi
                  have hts : ((ss.take i).map AVal.str) ++ [.str b] = (ss.take (i + 1)).map AVal.str := by rw [take_snoc hsb]; simp
                  have hap : (hs.map AVal.str ++ (ss.take i).map AVal.str).length + 1 ≤ appMax := by rw [List.length_append, List.length_map, List.length_map, List.length_take]; unfold appMax; omega
                  simp only [go_sem, ↓reduceIte, Nat.reduceEqDiff, Nat.reduceAdd, Nat.reduceMul, Nat.reduceLeDiff, Nat.reduceLT, decide_true, hlt, natge0, tonat, hg, d, hap, List.append_assoc, hts]
                  refine hr _ ?_
                  simp only [go_sem, ↓reduceIte, Nat.reduceEqDiff, hw1]
                · have hlt := natlt_f (Nat.lt_irrefl c.kids.length)
                  have htk : ss.take c.kids.length = ss := by rw [← g1]; exact List.take_length
                  simp (disch := ((try simp only [List.length_append, List.length_cons, List.length_nil]); omega)) only [go_sem, ↓reduceIte, Nat.reduceEqDiff, Nat.reduceAdd, Nat.reduceMul, Nat.reduceLeDiff, Nat.one_ne_zero, Nat.reduceLT, reduceCtorEq, beq_self_eq_true, decide_true, le_str, hlt, k9, htk, d9, hap9, dj, List.length_append, List.length_cons, List.length_nil, List.cons_append, List.nil_append, Nat.add_assoc, Nat.zero_add, List.append_assoc]
      · cases h
    · rw [k1, k2] at h
      simp only [Bool.false_eq_true, if_false, if_true] at h
      split at h
      · cases h
      · rename_i t hT
        obtain ⟨rfl, hlen⟩ := short_some h
        unfold lim at hlen
        simp only [List.length_append, List.length_cons, List.length_nil] at hlen
        have d := tprint_den F c.ty t (by omega) hT
        rw [tyV_eq] at d
        simp (disch := ((try simp only [List.length_append, List.length_cons, List.length_nil]); omega)) only [go_sem, ↓reduceIte, Nat.reduceEqDiff, Nat.reduceAdd, Nat.reduceLeDiff, Nat.zero_ne_one, Nat.one_ne_zero, reduceCtorEq, le_str, Tryz.f59, k1, k2, d, List.length_cons, List.length_nil, Nat.zero_add, List.cons_append, List.nil_append]
  · rw [k1] at h
    simp only [if_true] at h
    obtain ⟨rfl, hlen⟩ := short_some h
    simp only [go_sem, ↓reduceIte, Nat.reduceEqDiff, Nat.reduceAdd, Nat.zero_ne_one, Nat.one_ne_zero, reduceCtorEq, Tryz.f59, k1]
end Go.Proofs
namespace Go.Proofs
open Go.Av
set_option maxHeartbeats 16000000
set_option maxRecDepth 100000
/-! terms, written: the program's -/
theorem mpR_cases {F f : Nat} {e : Tm} {s : List UInt8} (h : mpR F (f + 1) e = some s) : s.length ≤ lim ∧
    (((e.kind = 1 ∨ e.kind = 2) ∧ s = e.name) ∨
    (e.kind = 5 ∧ ∃ x y a b, e.kids = [x, y] ∧ mpR F f x = some a ∧ mpR F f y = some b ∧ s = [40] ++ a ++ [32] ++ b ++ [41]) ∨
    (e.kind = 8 ∧ ∃ x y t a b, e.kids = [x, y] ∧ prR F .pr e.ty = some t ∧ mpR F f x = some a ∧ mpR F f y = some b ∧ s = [40, 108, 101, 116, 32] ++ e.name ++ [32, 58, 32] ++ t ++ [32, 61, 32] ++ a ++ [32, 105, 110, 32] ++ b ++ [41]) ∨
    ∃ x a, e.kids = [x] ∧ mpR F f x = some a ∧
      ((e.kind = 3 ∧ ∃ t, prR F .pr e.ty = some t ∧ s = [40, 92] ++ e.name ++ [32, 58, 32] ++ t ++ [46, 32] ++ a ++ [41]) ∨
      (e.kind = 4 ∧ s = [40, 33] ++ e.name ++ [46, 32] ++ a ++ [41]) ∨
      (e.kind = 6 ∧ ∃ t, prR F .pr e.ty = some t ∧ s = [40] ++ a ++ [32, 64, 32] ++ t ++ [41]) ∨
      (e.kind = 7 ∧ ∃ c, kpR F F e.co = some c ∧ s = [40] ++ a ++ [32, 126, 32] ++ c ++ [41]) ∨
      (e.kind = 10 ∧ ∃ c, kpR F F e.co = some c ∧ s = [40] ++ a ++ [32, 124, 62, 32] ++ c ++ [41]) ∨
      (e.kind = 9 ∧ ∃ t ss, prR F .pr e.ty = some t ∧ altsM (mpR F f) e.alts = some ss ∧ s = [40, 99, 97, 115, 101, 32] ++ a ++ [32, 58, 32] ++ t ++ [32, 111, 102, 32, 123] ++ Lib.join ss [59, 32] ++ [125, 41]))) := by
  simp only [mpR] at h
  split at h
  · rename_i hk
    obtain ⟨rfl, hl⟩ := short_some h
    exact ⟨hl, .inl ⟨by simpa using hk, rfl⟩⟩
  · split at h
    · rename_i hk
      split at h
      · cases h
      · rename_i x y hxy
        have hk2 := kids2m_some hxy
        split at h
        · cases h
        · rename_i a ha
          split at h
          · cases h
          · rename_i b hb
            obtain ⟨rfl, hl⟩ := short_some h
            exact ⟨hl, .inr (.inl ⟨by simpa using hk, x, y, a, b, hk2, ha, hb, rfl⟩)⟩
    · split at h
      · rename_i hk
        split at h
        · cases h
        · rename_i x y hxy
          have hk2 := kids2m_some hxy
          split at h
          · cases h
          · rename_i t hT
            split at h
            · cases h
            · rename_i a ha
              split at h
              · cases h
              · rename_i b hb
                obtain ⟨rfl, hl⟩ := short_some h
                exact ⟨hl, .inr (.inr (.inl ⟨by simpa using hk, x, y, t, a, b, hk2, hT, ha, hb, rfl⟩))⟩
      · split at h
        · cases h
        · rename_i x hx
          have hk1 := kids1m_some hx
          split at h
          · cases h
          · rename_i a ha
            suffices hh : s.length ≤ lim ∧ _ from ⟨hh.1, .inr (.inr (.inr ⟨x, a, hk1, ha, hh.2⟩))⟩
            split at h
            · rename_i hk
              split at h
              · cases h
              · rename_i t hT
                obtain ⟨rfl, hl⟩ := short_some h
                exact ⟨hl, .inl ⟨by simpa using hk, t, hT, rfl⟩⟩
            · split at h
              · rename_i hk
                obtain ⟨rfl, hl⟩ := short_some h
                exact ⟨hl, .inr (.inl ⟨by simpa using hk, rfl⟩)⟩
              · split at h
                · rename_i hk
                  split at h
                  · cases h
                  · rename_i t hT
                    obtain ⟨rfl, hl⟩ := short_some h
                    exact ⟨hl, .inr (.inr (.inl ⟨by simpa using hk, t, hT, rfl⟩))⟩
                · split at h
                  · rename_i hk
                    split at h
                    · cases h
                    · rename_i c hC
                      obtain ⟨rfl, hl⟩ := short_some h
                      exact ⟨hl, .inr (.inr (.inr (.inl ⟨by simpa using hk, c, hC, rfl⟩)))⟩
                  · split at h
                    · rename_i hk
                      split at h
                      · cases h
                      · rename_i c hC
                        obtain ⟨rfl, hl⟩ := short_some h
                        exact ⟨hl, .inr (.inr (.inr (.inr (.inl ⟨by simpa using hk, c, hC, rfl⟩))))⟩
                    · split at h
                      · rename_i hk
                        split at h
                        · cases h
                        · rename_i t hT
                          split at h
                          · cases h
                          · rename_i ss hss
                            obtain ⟨rfl, hl⟩ := short_some h
                            exact ⟨hl, .inr (.inr (.inr (.inr (.inr ⟨by simpa using hk, t, ss, hT, hss, rfl⟩))))⟩
                      · cases h
theorem ta_tot_mem {l : List Ta} {a : Ta} (h : a ∈ l) : a.body.tot + a.types.length + a.cos.length + a.vars.length + 1 ≤ Ta.tots l := by
  induction l with
  | nil => cases h
  | cons b l ih =>
    rcases List.mem_cons.1 h with rfl | h
    · cases a with | mk c x y z e => simp only [Ta.tots, Ta.tot, Ta.body, Ta.types, Ta.cos, Ta.vars]; omega
    · have := ih h; simp only [Ta.tots]; omega
/-- an alternative's text, from the body's -/
theorem faprint_den (a : Ta) (s : List UInt8) (hd : den E 17 [.agg (tmC a.body)] [] = some (.str s, [])) (hl : (altM a s).length ≤ 4000000000) (hn : a.types.length + a.cos.length + a.vars.length < 1000000) :
    den E 60 [taV a] [] = some (.str (altM a s), []) := by
  have hlen := hl
  simp only [altM, List.length_append, List.length_cons, List.length_nil] at hlen
  have hwl : (altW a).length = 1 + a.types.length + a.cos.length + a.vars.length := by simp only [altW, List.length_append, List.length_map, List.length_cons, List.length_nil]
  have dj := join_den (altW a) [32] (by omega) (by omega)
  have t1 : ∀ (i : Nat) v, a.types[i]? = some v → v.length ≤ 3999999999 := by
    intro i v hv
    have := join_mem_len (l := altW a) (s := [64] ++ v) (sep := [32]) (by simp only [altW, List.mem_append, List.mem_map]; exact .inl (.inl (.inr ⟨v, List.mem_of_getElem? hv, rfl⟩)))
    simp only [List.length_append, List.length_cons, List.length_nil] at this; omega
  have t2 : ∀ (i : Nat) v, a.cos[i]? = some v → v.length ≤ 3999999999 := by
    intro i v hv
    have := join_mem_len (l := altW a) (s := [126] ++ v) (sep := [32]) (by simp only [altW, List.mem_append, List.mem_map]; exact .inl (.inr ⟨v, List.mem_of_getElem? hv, rfl⟩))
    simp only [List.length_append, List.length_cons, List.length_nil] at this; omega
  rw [den_eq prim_60, body_60, taV_eq]
  rw [tmC_eq] at hd ⊢
  obtain ⟨W0, hW0⟩ : ∃ W0 : List (List UInt8), W0 = [a.con] := ⟨_, rfl⟩
  have hm0 := congrArg (List.map AVal.str) hW0
  simp only [List.map_cons, List.map_nil] at hm0
  have hl0 : W0.length = 1 := by rw [hW0]; rfl
  obtain ⟨cs, hcs⟩ : ∃ cs : List AVal, cs = [.str a.con, .slice (a.types.map .str), .slice (a.cos.map .str), .slice (a.vars.map .str), .int .i64 a.body.kind, .str a.body.name, .int .i64 a.body.ty.kind, .str a.body.ty.name, .int .i64 a.body.ty.n, .slice (tysV a.body.ty.args), .int .i64 a.body.co.kind, .str a.body.co.name, .int .i64 a.body.co.n, .int .i64 a.body.co.ty.kind, .str a.body.co.ty.name, .int .i64 a.body.co.ty.n, .slice (tysV a.body.co.ty.args), .slice (cxsV a.body.co.kids), .slice (tmsV a.body.kids), .slice (tasV a.body.alts)] := ⟨_, rfl⟩
  simp only [go_sem, ↓reduceIte, Nat.reduceEqDiff, Nat.reduceAdd, Nat.reduceMul, Nat.reduceLeDiff, Nat.zero_ne_one, Nat.one_ne_zero, Nat.reduceLT, reduceCtorEq, Tryz.f60, List.length_map]
  refine run_for (fun i => ⟨[(1, .ptr (.loc 1) 0), (3, .own 9 0 ((W0 ++ (a.types.take i).map (64 :: ·)).map .str)), (12, .slice (a.types.map .str)), (13, .int .i64 a.types.length), (14, .int .i64 i)], [], [(1, cs)], 1⟩) a.types.length ?_ ?_ ?_
  · simp only [go_sem, ↓reduceIte, Nat.reduceEqDiff, Nat.zero_ne_one, reduceCtorEq, Int.cast_ofNat_Int, hm0, hcs, List.take_zero, List.map_nil, List.append_nil]
  · intro i hi hr
    obtain ⟨v, hv⟩ : ∃ v, a.types[i]? = some v := ⟨a.types[i], List.getElem?_eq_getElem hi⟩
    have hvl := t1 i v hv
    have hlt := natlt_t hi
    have w1 : IntKind.i64.wrap ((i : Int) + 1) = ((i + 1 : Nat) : Int) := wrapN (i + 1) (by omega)
    have hap : ((W0 ++ (a.types.take i).map (64 :: ·)).map AVal.str).length + 1 ≤ appMax := by simp only [List.length_map, List.length_append, List.length_take]; unfold appMax; omega
    have hts : (W0 ++ (a.types.take i).map (64 :: ·)).map AVal.str ++ [.str (64 :: v)] = (W0 ++ (a.types.take (i + 1)).map (64 :: ·)).map AVal.str := by rw [take_snoc hv]; simp
    simp (disch := ((try simp only [List.length_append, List.length_cons, List.length_nil]); omega)) only [go_sem, ↓reduceIte, Nat.reduceEqDiff, Nat.reduceAdd, Nat.reduceMul, Nat.reduceLeDiff, Nat.reduceLT, decide_true, le_str, hlt, natge0, tonat, strs_get, hv, hap, hts, List.length_cons, List.length_nil, Nat.zero_add, List.cons_append, List.nil_append]
    refine hr _ ?_
    simp only [go_sem, ↓reduceIte, Nat.reduceEqDiff, w1, hcs]
  · have hlt := natlt_f (Nat.lt_irrefl a.types.length)
    simp only [go_sem, ↓reduceIte, Nat.reduceEqDiff, Nat.reduceAdd, Nat.one_ne_zero, beq_self_eq_true, hlt, List.take_length, hcs, List.length_map]
    obtain ⟨W1, hW1⟩ : ∃ W1 : List (List UInt8), W1 = W0 ++ a.types.map (64 :: ·) := ⟨_, rfl⟩
    have hl1 : W1.length = 1 + a.types.length := by rw [hW1, List.length_append, List.length_map, hl0]
    rw [← hW1]
    refine run_for (fun i => ⟨[(1, .ptr (.loc 1) 0), (3, .own 9 0 ((W1 ++ (a.cos.take i).map (126 :: ·)).map .str)), (25, .slice (a.cos.map .str)), (26, .int .i64 a.cos.length), (27, .int .i64 i)], [], [(1, cs)], 1⟩) a.cos.length ?_ ?_ ?_
    · simp only [go_sem, ↓reduceIte, Nat.reduceEqDiff, Int.cast_ofNat_Int, hcs, List.take_zero, List.map_nil, List.append_nil]
    · intro i hi hr
      obtain ⟨v, hv⟩ : ∃ v, a.cos[i]? = some v := ⟨a.cos[i], List.getElem?_eq_getElem hi⟩
      have hvl := t2 i v hv
      have hlt := natlt_t hi
      have w1 : IntKind.i64.wrap ((i : Int) + 1) = ((i + 1 : Nat) : Int) := wrapN (i + 1) (by omega)
      have hap : ((W1 ++ (a.cos.take i).map (126 :: ·)).map AVal.str).length + 1 ≤ appMax := by simp only [List.length_map, List.length_append, List.length_take]; unfold appMax; omega
      have hts : (W1 ++ (a.cos.take i).map (126 :: ·)).map AVal.str ++ [.str (126 :: v)] = (W1 ++ (a.cos.take (i + 1)).map (126 :: ·)).map AVal.str := by rw [take_snoc hv]; simp
      simp (disch := ((try simp only [List.length_append, List.length_cons, List.length_nil]); omega)) only [go_sem, ↓reduceIte, Nat.reduceEqDiff, Nat.reduceAdd, Nat.reduceMul, Nat.reduceLeDiff, Nat.reduceLT, decide_true, le_str, hlt, natge0, tonat, strs_get, hv, hap, hts, List.length_cons, List.length_nil, Nat.zero_add, List.cons_append, List.nil_append]
      refine hr _ ?_
      simp only [go_sem, ↓reduceIte, Nat.reduceEqDiff, w1, hcs]
    · have hlt := natlt_f (Nat.lt_irrefl a.cos.length)
      obtain ⟨W2, hW2⟩ : ∃ W2 : List (List UInt8), W2 = W1 ++ a.cos.map (126 :: ·) := ⟨_, rfl⟩
      have hl2 : W2.length = 1 + a.types.length + a.cos.length := by rw [hW2, List.length_append, List.length_map, hl1]
      have hWW : altW a = W2 ++ a.vars := by rw [hW2, hW1, hW0]; rfl
      rw [hWW] at dj hlen
      rw [altM, hWW]
      rw [List.take_length, ← hW2]
      cases hv : a.vars with
      | nil =>
        rw [hv, List.append_nil] at dj hlen
        have hap : (W2.map AVal.str).length + 0 ≤ appMax := by rw [List.length_map]; unfold appMax; omega
        have hap' : (W2.map AVal.str).length ≤ appMax := hap
        simp (disch := ((try simp only [List.length_append, List.length_cons, List.length_nil]); omega)) only [go_sem, ↓reduceIte, Nat.reduceEqDiff, Nat.reduceAdd, Nat.reduceLeDiff, Nat.one_ne_zero, Nat.reduceLT, reduceCtorEq, beq_self_eq_true, decide_true, le_str, hlt, hcs, hv, List.map_nil, List.append_nil, hap', dj, hd, List.length_append, List.length_cons, List.length_nil, Nat.add_zero]
      | cons v vs =>
        rw [hv] at dj hlen
        rw [hv] at hn
        simp only [List.length_cons] at hn
        rw [List.map_append, List.map_cons] at dj
        have hap : (W2.map AVal.str).length + (vs.length + 1) ≤ appMax := by rw [List.length_map]; unfold appMax; omega
        simp (disch := ((try simp only [List.length_append, List.length_cons, List.length_nil]); omega)) only [go_sem, ↓reduceIte, Nat.reduceEqDiff, Nat.reduceAdd, Nat.reduceLeDiff, Nat.one_ne_zero, Nat.reduceLT, reduceCtorEq, beq_self_eq_true, decide_true, le_str, hlt, hcs, hv, List.map_cons, List.length_map, dj, hd, List.length_append, List.length_cons, List.length_nil, show W2.length + (vs.length + 1) ≤ appMax by unfold appMax; omega]
end Go.Proofs
namespace Go.Proofs
open Go.Av
set_option maxHeartbeats 32000000
set_option maxRecDepth 100000
theorem fprint_den (F : Nat) : ∀ (f : Nat) (e : Tm) (s : List UInt8), e.tot < 1000000 → mpR F f e = some s → den E 17 [.agg (tmC e)] [] = some (.str s, []) := by
  intro f
  induction f with
  | zero => intro e s _ h; cases h
  | succ f ih =>
  intro e s ht h
  have htk := tm_tot_eq e
  have hszp := sz_pos e.ty
  have hcp := cx_tot_pos e.co
  obtain ⟨hlen, hc⟩ := mpR_cases h
  unfold lim at hlen
  rw [den_eq prim_17, body_17, tmC_eq]
  rcases hc with ⟨hk, rfl⟩ | ⟨hk, x, y, a, b, hks, ha, hb, rfl⟩ | ⟨hk, x, y, t, a, b, hks, hT, ha, hb, rfl⟩ | ⟨x, a, hks, ha, hc⟩
  · rcases hk with hk | hk
    · simp only [go_sem, ↓reduceIte, Nat.reduceEqDiff, Nat.reduceAdd, Nat.zero_ne_one, Nat.one_ne_zero, reduceCtorEq, beq_self_eq_true, Tryz.f17, hk]
    · simp only [go_sem, ↓reduceIte, Nat.reduceEqDiff, Nat.reduceAdd, Nat.zero_ne_one, Nat.one_ne_zero, reduceCtorEq, beq_self_eq_true, Int.reduceBEq, Tryz.f17, hk]
  · rw [hks, tm_tots_two] at htk
    have d1 := ih x a (by omega) ha
    have d2 := ih y b (by omega) hb
    rw [tmC_eq] at d1 d2
    simp only [List.length_append, List.length_cons, List.length_nil] at hlen
    simp (disch := ((try simp only [List.length_append, List.length_cons, List.length_nil]); omega)) only [go_sem, ↓reduceIte, Nat.reduceEqDiff, Nat.reduceAdd, Nat.reduceLeDiff, Nat.zero_ne_one, Nat.one_ne_zero, reduceCtorEq, beq_self_eq_true, Int.reduceBEq, le_str, Tryz.f17, hk, hks, tmsV_cons, tmsV_nil, tmC_eq, Int.le_refl, Int.toNat_zero, Int.toNat_one, Int.zero_le_ofNat, d1, d2, List.length_append, List.length_cons, List.length_nil, Nat.zero_add, List.append_assoc, List.cons_append, List.nil_append]
  · rw [hks, tm_tots_two] at htk
    have d1 := ih x a (by omega) ha
    have d2 := ih y b (by omega) hb
    have d3 := tprint_den F e.ty t (by omega) hT
    rw [tmC_eq] at d1 d2
    rw [tyV_eq] at d3
    simp only [List.length_append, List.length_cons, List.length_nil] at hlen
    simp (disch := ((try simp only [List.length_append, List.length_cons, List.length_nil]); omega)) only [go_sem, ↓reduceIte, Nat.reduceEqDiff, Nat.reduceAdd, Nat.reduceLeDiff, Nat.zero_ne_one, Nat.one_ne_zero, reduceCtorEq, beq_self_eq_true, Int.reduceBEq, le_str, Tryz.f17, hk, hks, tmsV_cons, tmsV_nil, tmC_eq, Int.le_refl, Int.toNat_zero, Int.toNat_one, Int.zero_le_ofNat, d1, d2, d3, List.length_append, List.length_cons, List.length_nil, Nat.zero_add, List.append_assoc, List.cons_append, List.nil_append]
  · rw [hks, tm_tots_one] at htk
    have d1 := ih x a (by omega) ha
    rw [tmC_eq] at d1
    rcases hc with ⟨hk, t, hT, rfl⟩ | ⟨hk, rfl⟩ | ⟨hk, t, hT, rfl⟩ | ⟨hk, c, hC, rfl⟩ | ⟨hk, c, hC, rfl⟩ | ⟨hk, t, ss, hT, hss, rfl⟩
    · have d3 := tprint_den F e.ty t (by omega) hT
      rw [tyV_eq] at d3
      simp only [List.length_append, List.length_cons, List.length_nil] at hlen
      simp (disch := ((try simp only [List.length_append, List.length_cons, List.length_nil]); omega)) only [go_sem, ↓reduceIte, Nat.reduceEqDiff, Nat.reduceAdd, Nat.reduceLeDiff, Nat.zero_ne_one, Nat.one_ne_zero, reduceCtorEq, beq_self_eq_true, Int.reduceBEq, le_str, Tryz.f17, hk, hks, tmsV_cons, tmsV_nil, tmC_eq, Int.le_refl, Int.toNat_zero, d1, d3, List.length_append, List.length_cons, List.length_nil, Nat.zero_add, List.append_assoc, List.cons_append, List.nil_append]
    · simp only [List.length_append, List.length_cons, List.length_nil] at hlen
      simp (disch := ((try simp only [List.length_append, List.length_cons, List.length_nil]); omega)) only [go_sem, ↓reduceIte, Nat.reduceEqDiff, Nat.reduceAdd, Nat.reduceLeDiff, Nat.zero_ne_one, Nat.one_ne_zero, reduceCtorEq, beq_self_eq_true, Int.reduceBEq, le_str, Tryz.f17, hk, hks, tmsV_cons, tmsV_nil, tmC_eq, Int.le_refl, Int.toNat_zero, d1, List.length_append, List.length_cons, List.length_nil, Nat.zero_add, List.append_assoc, List.cons_append, List.nil_append]
    · have d3 := tprint_den F e.ty t (by omega) hT
      rw [tyV_eq] at d3
      simp only [List.length_append, List.length_cons, List.length_nil] at hlen
      simp (disch := ((try simp only [List.length_append, List.length_cons, List.length_nil]); omega)) only [go_sem, ↓reduceIte, Nat.reduceEqDiff, Nat.reduceAdd, Nat.reduceLeDiff, Nat.zero_ne_one, Nat.one_ne_zero, reduceCtorEq, beq_self_eq_true, Int.reduceBEq, le_str, Tryz.f17, hk, hks, tmsV_cons, tmsV_nil, tmC_eq, Int.le_refl, Int.toNat_zero, d1, d3, List.length_append, List.length_cons, List.length_nil, Nat.zero_add, List.append_assoc, List.cons_append, List.nil_append]
    · have d3 := cprint_den F F e.co c (by omega) hC
      rw [cxC_eq] at d3
      simp only [List.length_append, List.length_cons, List.length_nil] at hlen
      simp (disch := ((try simp only [List.length_append, List.length_cons, List.length_nil]); omega)) only [go_sem, ↓reduceIte, Nat.reduceEqDiff, Nat.reduceAdd, Nat.reduceLeDiff, Nat.zero_ne_one, Nat.one_ne_zero, reduceCtorEq, beq_self_eq_true, Int.reduceBEq, le_str, Tryz.f17, hk, hks, tmsV_cons, tmsV_nil, tmC_eq, Int.le_refl, Int.toNat_zero, d1, d3, List.length_append, List.length_cons, List.length_nil, Nat.zero_add, List.append_assoc, List.cons_append, List.nil_append]
    · have d3 := cprint_den F F e.co c (by omega) hC
      rw [cxC_eq] at d3
      simp only [List.length_append, List.length_cons, List.length_nil] at hlen
      simp (disch := ((try simp only [List.length_append, List.length_cons, List.length_nil]); omega)) only [go_sem, ↓reduceIte, Nat.reduceEqDiff, Nat.reduceAdd, Nat.reduceLeDiff, Nat.zero_ne_one, Nat.one_ne_zero, reduceCtorEq, beq_self_eq_true, Int.reduceBEq, le_str, Tryz.f17, hk, hks, tmsV_cons, tmsV_nil, tmC_eq, Int.le_refl, Int.toNat_zero, d1, d3, List.length_append, List.length_cons, List.length_nil, Nat.zero_add, List.append_assoc, List.cons_append, List.nil_append]
    · have d3 := tprint_den F e.ty t (by omega) hT
      rw [tyV_eq] at d3
      obtain ⟨g1, g2⟩ := altsM_get hss
      have hal := ta_len e.alts
      simp only [List.length_append, List.length_cons, List.length_nil] at hlen
      have dj := join_den ss [59, 32] (by omega) (by omega)
      obtain ⟨cs, hcs⟩ : ∃ cs : List AVal, cs = [.int .i64 e.kind, .str e.name, .int .i64 e.ty.kind, .str e.ty.name, .int .i64 e.ty.n, .slice (tysV e.ty.args), .int .i64 e.co.kind, .str e.co.name, .int .i64 e.co.n, .int .i64 e.co.ty.kind, .str e.co.ty.name, .int .i64 e.co.ty.n, .slice (tysV e.co.ty.args), .slice (cxsV e.co.kids), .slice (tmsV e.kids), .slice (tasV e.alts)] := ⟨_, rfl⟩
      simp only [go_sem, ↓reduceIte, Nat.reduceEqDiff, Nat.reduceAdd, Nat.zero_ne_one, Nat.one_ne_zero, reduceCtorEq, Int.reduceBEq, Tryz.f17, hk, tasV_len]
      refine run_for (fun i => ⟨[(1, .ptr (.loc 1) 0), (3, .own 9 0 ((ss.take i).map .str)), (128, .slice (tasV e.alts)), (129, .int .i64 e.alts.length), (130, .int .i64 i)], [], [(1, cs)], 1⟩) e.alts.length ?_ ?_ ?_
      · simp only [go_sem, ↓reduceIte, Nat.reduceEqDiff, Nat.zero_ne_one, reduceCtorEq, Int.cast_ofNat_Int, hcs, hk, List.take_zero, List.map_nil]
      · intro i hi hr
        obtain ⟨y, hy⟩ : ∃ y, e.alts[i]? = some y := ⟨e.alts[i], List.getElem?_eq_getElem hi⟩
        have hyt := ta_vars (List.mem_of_getElem? hy)
        obtain ⟨b, hb, hsb⟩ := g2 i y hy
        have hml := join_mem_len (sep := [59, 32]) (List.mem_of_getElem? hsb)
        have hyn : y.types.length + y.cos.length + y.vars.length < 1000000 := by
          have := ta_tot_mem (List.mem_of_getElem? hy)
          omega
        have d := faprint_den y b (ih y.body b (by omega) hb) (by omega) hyn
        have hg : (tasV e.alts)[i]? = some (taV y) := by rw [tasV_get, hy]; rfl
        have hlt := natlt_t hi
        have w1 : IntKind.i64.wrap ((i : Int) + 1) = ((i + 1 : Nat) : Int) := wrapN (i + 1) (by omega)
        have hap : ((ss.take i).map AVal.str).length + 1 ≤ appMax := by simp; unfold appMax; omega
        have hmap : (ss.take i).map AVal.str ++ [.str (altM y b)] = (ss.take (i + 1)).map AVal.str := by rw [take_snoc hsb]; simp
        rw [taV_eq, tmC_eq] at hg d
        simp only [go_sem, ↓reduceIte, Nat.reduceEqDiff, Nat.reduceAdd, Nat.reduceMul, Nat.reduceLeDiff, Nat.reduceLT, decide_true, hlt, natge0, tonat, hg, d, hap, hmap]
        refine hr _ ?_
        simp only [go_sem, ↓reduceIte, Nat.reduceEqDiff, w1, hcs, hk]
      · have hlt := natlt_f (Nat.lt_irrefl e.alts.length)
        have htk2 : ss.take e.alts.length = ss := by rw [← g1]; exact List.take_length
        simp (disch := ((try simp only [List.length_append, List.length_cons, List.length_nil]); omega)) only [go_sem, ↓reduceIte, Nat.reduceEqDiff, Nat.reduceAdd, Nat.reduceLeDiff, Nat.one_ne_zero, reduceCtorEq, beq_self_eq_true, le_str, hlt, hcs, htk2, hks, tmsV_cons, tmsV_nil, tmC_eq, Int.le_refl, Int.toNat_zero, d1, d3, dj, List.length_append, List.length_cons, List.length_nil, Nat.zero_add, List.append_assoc, List.cons_append, List.nil_append]
end Go.Proofs
namespace Go.Proofs
open Go.Av
set_option maxHeartbeats 32000000
set_option maxRecDepth 100000
/-! coercions, written: the document's -/
theorem joinTail_app (sep : List UInt8) (a b : List (List UInt8)) : Lib.joinTail sep (a ++ b) = Lib.joinTail sep a ++ Lib.joinTail sep b := by simp [Lib.joinTail]
theorem joinTail_one (sep x : List UInt8) : Lib.joinTail sep [x] = sep ++ x := by simp [Lib.joinTail]
theorem joinTail_nil (sep : List UInt8) : Lib.joinTail sep [] = [] := by simp [Lib.joinTail]
theorem join_app {a : List (List UInt8)} (h : a ≠ []) (b : List (List UInt8)) (sep : List UInt8) : Lib.join (a ++ b) sep = Lib.join a sep ++ Lib.joinTail sep b := by
  cases a with
  | nil => exact absurd rfl h
  | cons x r => rw [List.cons_append, Lib.join_cons, Lib.join_cons, joinTail_app, List.append_assoc]
def wordsC : List AVal := [.str [83, 121, 109], .str [84, 114, 97, 110, 115], .str [67, 111, 110], .str [70, 117, 110], .str [65, 108, 108], .str [78, 116, 104], .str [73, 110, 115, 116]]
theorem wordsC_get {k : Int} (h : 3 ≤ k ∧ k ≤ 9) : wordsC[(k - 3).toNat]? = some (.str (wordC k)) := by
  obtain ⟨h1, h2⟩ := h
  have : k = 3 ∨ k = 4 ∨ k = 5 ∨ k = 6 ∨ k = 7 ∨ k = 8 ∨ k = 9 := by omega
  rcases this with rfl | rfl | rfl | rfl | rfl | rfl | rfl <;> rfl
theorem r5print_den (F : Nat) : ∀ (f : Nat) (c : Cx) (s : List UInt8), c.tot < 1000000 → kpR F f c = some s → den E 61 [.agg (cxC c)] [] = some (.str s, []) := by
  intro f
  induction f with
  | zero => intro c s _ h; cases h
  | succ f ih =>
  intro c s ht h
  have htk := cx_tot_kids c
  have hszp := sz_pos c.ty
  simp only [kpR] at h
  rw [den_eq prim_61, body_61, cxC_eq]
  cases k1 : c.kind == 1
  · cases k2 : c.kind == 2
    · rw [k1, k2] at h
      simp only [Bool.false_eq_true, if_false] at h
      split at h
      · rename_i hk
        split at h
        · cases h
        · rename_i hs hhs
          split at h
          · cases h
          · rename_i ss hss
            obtain ⟨g1, g2⟩ := allR_get hss
            have hlk := cx_tots_len c.kids
            have hg3 := wordsC_get hk
            have hw3 : IntKind.i64.wrap (c.kind - 3) = c.kind - 3 := IntWalk.i64_in _ (by omega)
            have h03 : (0 ≤ c.kind - 3) = True := by simp; omega
            have hw := headW_cases hhs
            have hne : hs ≠ [] := by rcases hw with h | h | h | h <;> simp [h]
            have hd : (c.kind == 8) = true → den E 116 [.int .i64 c.n] [] = some (.str (Lib.itoa c.n), []) := by
              intro k8
              rcases hw with h | h | h | h
              · rw [h.2.2.1] at k8; cases k8
              · rw [h.2.2.1] at k8; cases k8
              · have := decimal_den c.n.toNat (by omega)
                rwa [show ((c.n.toNat : Nat) : Int) = c.n by omega] at this
              · rw [h.2.2.1] at k8; cases k8
            unfold wordsC at hg3
            obtain ⟨H, hH⟩ : ∃ H, H = [40] ++ Lib.join hs [32] := ⟨_, rfl⟩
            cases k9 : c.kind == 9
            · rw [k9] at h
              simp only [Bool.false_eq_true, if_false] at h
              obtain ⟨rfl, hlen⟩ := short_some h
              unfold lim at hlen
              rw [join_app hne, ← List.append_assoc, ← hH] at hlen ⊢
              have hHl := congrArg List.length hH
              simp only [List.length_append, List.length_cons, List.length_nil] at hlen hHl
              rcases hw with ⟨k5, k7, k8, hse⟩ | ⟨k5, k7, k8, hse⟩ | ⟨k5, k7, k8, hn, hse⟩ | ⟨k5, k7, k8, hse⟩
              all_goals (
                rw [hse] at hH
                simp only [Lib.join_cons, joinTail_one, joinTail_nil, List.append_nil, List.cons_append, List.nil_append] at hH
                have hHl2 := congrArg List.length hH
                simp only [List.length_append, List.length_cons] at hHl2
                try (have hd' := hd k8)
                first
                  | simp (disch := ((try simp only [List.length_append, List.length_cons, List.length_nil]); omega)) only [go_sem, ↓reduceIte, Nat.reduceEqDiff, Nat.reduceAdd, Nat.reduceMul, Nat.reduceLeDiff, Nat.zero_ne_one, Nat.one_ne_zero, Nat.reduceLT, reduceCtorEq, beq_self_eq_true, le_str, Tryz.f61, k1, k2, k5, k7, k8, hw3, h03, hg3, hd', List.length_append, List.length_cons, List.length_nil, Nat.zero_add, List.append_assoc, List.cons_append, List.nil_append]
                  | simp (disch := ((try simp only [List.length_append, List.length_cons, List.length_nil]); omega)) only [go_sem, ↓reduceIte, Nat.reduceEqDiff, Nat.reduceAdd, Nat.reduceMul, Nat.reduceLeDiff, Nat.zero_ne_one, Nat.one_ne_zero, Nat.reduceLT, reduceCtorEq, beq_self_eq_true, le_str, Tryz.f61, k1, k2, k5, k7, k8, hw3, h03, hg3, List.length_append, List.length_cons, List.length_nil, Nat.zero_add, List.append_assoc, List.cons_append, List.nil_append]
                refine run_for (fun i => ⟨[(1, .ptr (.loc 1) 0), (4, .str (H ++ Lib.joinTail [32] (ss.take i))), (5, .int .i64 i)], [], [(1, [.int .i64 c.kind, .str c.name, .int .i64 c.n, .int .i64 c.ty.kind, .str c.ty.name, .int .i64 c.ty.n, .slice (tysV c.ty.args), .slice (cxsV c.kids)])], 1⟩) c.kids.length ?_ ?_ ?_
                · simp only [go_sem, ↓reduceIte, Nat.reduceEqDiff, Nat.zero_ne_one, reduceCtorEq, Int.cast_ofNat_Int, hH, List.take_zero, joinTail_nil, List.append_nil]
                · intro i hi hr
                  obtain ⟨y, hy⟩ : ∃ y, c.kids[i]? = some y := ⟨c.kids[i], List.getElem?_eq_getElem hi⟩
                  have hyt := cx_tots_mem (List.mem_of_getElem? hy)
                  obtain ⟨b, hb, hsb⟩ := g2 i y hy
                  have d := ih y b (by omega) hb
                  have hg : (cxsV c.kids)[i]? = some (.agg (cxC y)) := by rw [cxsV_get, hy]; rfl
                  rw [cxC_eq] at d hg
                  have hw1 : IntKind.i64.wrap ((i : Int) + 1) = ((i + 1 : Nat) : Int) := wrapN (i + 1) (by omega)
                  have hlt := natlt_t hi
                  have hjt := Lib.joinTail_take_succ [32] ss i b hsb
                  have hjl := Lib.joinTail_take_le [32] ss (i + 1)
                  rw [hjt] at hjl
                  simp only [List.length_append, List.length_cons, List.length_nil] at hjl
                  simp (disch := ((try simp only [List.length_append, List.length_cons, List.length_nil]); omega)) only [go_sem, ↓reduceIte, Nat.reduceEqDiff, Nat.reduceAdd, Nat.reduceLeDiff, Nat.one_ne_zero, le_str, hlt, cxsV_len, natge0, tonat, hg, d, List.length_append, List.length_cons, List.length_nil]
                  refine hr _ ?_
                  simp only [go_sem, ↓reduceIte, Nat.reduceEqDiff, hw1, hjt, List.append_assoc]
                · have hlt := natlt_f (Nat.lt_irrefl c.kids.length)
                  have htk2 : ss.take c.kids.length = ss := by rw [← g1]; exact List.take_length
                  simp (disch := ((try simp only [List.length_append, List.length_cons, List.length_nil]); omega)) only [go_sem, ↓reduceIte, Nat.reduceEqDiff, Nat.reduceAdd, Nat.one_ne_zero, beq_self_eq_true, le_str, hlt, cxsV_len, k9, htk2, List.length_append, List.length_cons, List.length_nil, List.append_assoc])
            · rw [k9] at h
              simp only [if_true] at h
              split at h
              · cases h
              · rename_i t hT
                obtain ⟨rfl, hlen⟩ := short_some h
                unfold lim at hlen
                have d9 := rprint_den F c.ty t (by omega) hT
                rw [tyV_eq] at d9
                have hja : Lib.join (hs ++ ss ++ [[60] ++ t ++ [62]]) [32] = Lib.join hs [32] ++ (Lib.joinTail [32] ss ++ ([32] ++ ([60] ++ t ++ [62]))) := by rw [List.append_assoc, join_app hne, joinTail_app, joinTail_one]
                rw [hja, ← List.append_assoc [40], ← hH] at hlen ⊢
                have hHl := congrArg List.length hH
                simp only [List.length_append, List.length_cons, List.length_nil] at hlen hHl
                have k5 := kkC (b := 5) k9 (by decide)
                have k7 := kkC (b := 7) k9 (by decide)
                have k8 := kkC (b := 8) k9 (by decide)
                have hse : hs = [wordC c.kind] := by
                  rcases hw with h | h | h | h
                  · rw [k5] at h; exact absurd h.1 (by decide)
                  · rw [k7] at h; exact absurd h.2.1 (by decide)
                  · rw [k8] at h; exact absurd h.2.2.1 (by decide)
                  · exact h.2.2.2
                rw [hse] at hH
                simp only [Lib.join_cons, joinTail_nil, List.append_nil, List.cons_append, List.nil_append] at hH
                have hHl2 := congrArg List.length hH
                simp only [List.length_cons] at hHl2
                simp (disch := ((try simp only [List.length_append, List.length_cons, List.length_nil]); omega)) only [go_sem, ↓reduceIte, Nat.reduceEqDiff, Nat.reduceAdd, Nat.reduceMul, Nat.reduceLeDiff, Nat.zero_ne_one, Nat.one_ne_zero, Nat.reduceLT, reduceCtorEq, beq_self_eq_true, le_str, Tryz.f61, k1, k2, k5, k7, k8, hw3, h03, hg3, List.length_cons, List.length_nil, Nat.zero_add, List.append_assoc, List.cons_append, List.nil_append]
                refine run_for (fun i => ⟨[(1, .ptr (.loc 1) 0), (4, .str (H ++ Lib.joinTail [32] (ss.take i))), (5, .int .i64 i)], [], [(1, [.int .i64 c.kind, .str c.name, .int .i64 c.n, .int .i64 c.ty.kind, .str c.ty.name, .int .i64 c.ty.n, .slice (tysV c.ty.args), .slice (cxsV c.kids)])], 1⟩) c.kids.length ?_ ?_ ?_
                · simp only [go_sem, ↓reduceIte, Nat.reduceEqDiff, Nat.zero_ne_one, reduceCtorEq, Int.cast_ofNat_Int, hH, List.take_zero, joinTail_nil, List.append_nil]
                · intro i hi hr
                  obtain ⟨y, hy⟩ : ∃ y, c.kids[i]? = some y := ⟨c.kids[i], List.getElem?_eq_getElem hi⟩
                  have hyt := cx_tots_mem (List.mem_of_getElem? hy)
                  obtain ⟨b, hb, hsb⟩ := g2 i y hy
                  have d := ih y b (by omega) hb
                  have hg : (cxsV c.kids)[i]? = some (.agg (cxC y)) := by rw [cxsV_get, hy]; rfl
                  rw [cxC_eq] at d hg
                  have hw1 : IntKind.i64.wrap ((i : Int) + 1) = ((i + 1 : Nat) : Int) := wrapN (i + 1) (by omega)
                  have hlt := natlt_t hi
                  have hjt := Lib.joinTail_take_succ [32] ss i b hsb
                  have hjl := Lib.joinTail_take_le [32] ss (i + 1)
                  rw [hjt] at hjl
                  simp only [List.length_append, List.length_cons, List.length_nil] at hjl
                  simp (disch := ((try simp only [List.length_append, List.length_cons, List.length_nil]); omega)) only [go_sem, ↓reduceIte, Nat.reduceEqDiff, Nat.reduceAdd, Nat.reduceLeDiff, Nat.one_ne_zero, le_str, hlt, cxsV_len, natge0, tonat, hg, d, List.length_append, List.length_cons, List.length_nil]
                  refine hr _ ?_
                  simp only [go_sem, ↓reduceIte, Nat.reduceEqDiff, hw1, hjt, List.append_assoc]
                · have hlt := natlt_f (Nat.lt_irrefl c.kids.length)
                  have htk2 : ss.take c.kids.length = ss := by rw [← g1]; exact List.take_length
                  simp (disch := ((try simp only [List.length_append, List.length_cons, List.length_nil]); omega)) only [go_sem, ↓reduceIte, Nat.reduceEqDiff, Nat.reduceAdd, Nat.reduceLeDiff, Nat.one_ne_zero, reduceCtorEq, beq_self_eq_true, le_str, hlt, cxsV_len, k9, htk2, d9, List.length_append, List.length_cons, List.length_nil, List.append_assoc, List.cons_append, List.nil_append]
      · cases h
    · rw [k1, k2] at h
      simp only [Bool.false_eq_true, if_false, if_true] at h
      split at h
      · cases h
      · rename_i t hT
        obtain ⟨rfl, hlen⟩ := short_some h
        unfold lim at hlen
        simp only [List.length_append, List.length_cons, List.length_nil] at hlen
        have d := rprint_den F c.ty t (by omega) hT
        rw [tyV_eq] at d
        simp (disch := ((try simp only [List.length_append, List.length_cons, List.length_nil]); omega)) only [go_sem, ↓reduceIte, Nat.reduceEqDiff, Nat.reduceAdd, Nat.reduceLeDiff, Nat.zero_ne_one, Nat.one_ne_zero, reduceCtorEq, le_str, Tryz.f61, k1, k2, d, List.length_cons, List.length_nil, Nat.zero_add, List.cons_append, List.nil_append]
  · rw [k1] at h
    simp only [if_true] at h
    obtain ⟨rfl, hlen⟩ := short_some h
    simp only [go_sem, ↓reduceIte, Nat.reduceEqDiff, Nat.reduceAdd, Nat.zero_ne_one, Nat.one_ne_zero, reduceCtorEq, Tryz.f61, k1]
end Go.Proofs
namespace Go.Proofs
open Go.Av
set_option maxHeartbeats 32000000
set_option maxRecDepth 100000
/-! terms, written: the document's -/
theorem altW_join (y : Ta) : Lib.join (altW y) [32] = y.con ++ Lib.joinTail [32] (y.types.map (64 :: ·)) ++ Lib.joinTail [32] (y.cos.map (126 :: ·)) ++ Lib.joinTail [32] y.vars := by
  unfold altW
  rw [List.append_assoc, List.append_assoc, List.singleton_append, Lib.join_cons, joinTail_app, joinTail_app]
  simp only [List.append_assoc, List.cons_append, List.nil_append]
theorem map_get {α β : Type} (f : α → β) {l : List α} {i : Nat} {x : α} (h : l[i]? = some x) : (l.map f)[i]? = some (f x) := by simp [h]
theorem r12tprint_den (F : Nat) : ∀ (f : Nat) (e : Tm) (s : List UInt8), e.tot < 1000000 → mpR F f e = some s → den E 18 [.agg (tmC e)] [] = some (.str s, []) := by
  intro f
  induction f with
  | zero => intro e s _ h; cases h
  | succ f ih =>
  intro e s ht h
  have htk := tm_tot_eq e
  have hszp := sz_pos e.ty
  have hcp := cx_tot_pos e.co
  obtain ⟨hlen, hc⟩ := mpR_cases h
  unfold lim at hlen
  rw [den_eq prim_18, body_18, tmC_eq]
  rcases hc with ⟨hk, rfl⟩ | ⟨hk, x, y, a, b, hks, ha, hb, rfl⟩ | ⟨hk, x, y, t, a, b, hks, hT, ha, hb, rfl⟩ | ⟨x, a, hks, ha, hc⟩
  · rcases hk with hk | hk
    · simp only [go_sem, ↓reduceIte, Nat.reduceEqDiff, Nat.reduceAdd, Nat.zero_ne_one, Nat.one_ne_zero, reduceCtorEq, beq_self_eq_true, Tryz.f18, hk]
    · simp only [go_sem, ↓reduceIte, Nat.reduceEqDiff, Nat.reduceAdd, Nat.zero_ne_one, Nat.one_ne_zero, reduceCtorEq, beq_self_eq_true, Int.reduceBEq, Tryz.f18, hk]
  · rw [hks, tm_tots_two] at htk
    have d1 := ih x a (by omega) ha
    have d2 := ih y b (by omega) hb
    rw [tmC_eq] at d1 d2
    simp only [List.length_append, List.length_cons, List.length_nil] at hlen
    simp (disch := ((try simp only [List.length_append, List.length_cons, List.length_nil]); omega)) only [go_sem, ↓reduceIte, Nat.reduceEqDiff, Nat.reduceAdd, Nat.reduceLeDiff, Nat.zero_ne_one, Nat.one_ne_zero, reduceCtorEq, beq_self_eq_true, Int.reduceBEq, le_str, Tryz.f18, hk, hks, tmsV_cons, tmsV_nil, tmC_eq, Int.le_refl, Int.toNat_zero, Int.toNat_one, Int.zero_le_ofNat, d1, d2, List.length_append, List.length_cons, List.length_nil, Nat.zero_add, List.append_assoc, List.cons_append, List.nil_append]
  · rw [hks, tm_tots_two] at htk
    have d1 := ih x a (by omega) ha
    have d2 := ih y b (by omega) hb
    have d3 := rprint_den F e.ty t (by omega) hT
    rw [tmC_eq] at d1 d2
    rw [tyV_eq] at d3
    simp only [List.length_append, List.length_cons, List.length_nil] at hlen
    simp (disch := ((try simp only [List.length_append, List.length_cons, List.length_nil]); omega)) only [go_sem, ↓reduceIte, Nat.reduceEqDiff, Nat.reduceAdd, Nat.reduceLeDiff, Nat.zero_ne_one, Nat.one_ne_zero, reduceCtorEq, beq_self_eq_true, Int.reduceBEq, le_str, Tryz.f18, hk, hks, tmsV_cons, tmsV_nil, tmC_eq, Int.le_refl, Int.toNat_zero, Int.toNat_one, Int.zero_le_ofNat, d1, d2, d3, List.length_append, List.length_cons, List.length_nil, Nat.zero_add, List.append_assoc, List.cons_append, List.nil_append]
  · rw [hks, tm_tots_one] at htk
    have d1 := ih x a (by omega) ha
    rw [tmC_eq] at d1
    rcases hc with ⟨hk, t, hT, rfl⟩ | ⟨hk, rfl⟩ | ⟨hk, t, hT, rfl⟩ | ⟨hk, c, hC, rfl⟩ | ⟨hk, c, hC, rfl⟩ | ⟨hk, t, ss, hT, hss, rfl⟩
    · have d3 := rprint_den F e.ty t (by omega) hT
      rw [tyV_eq] at d3
      simp only [List.length_append, List.length_cons, List.length_nil] at hlen
      simp (disch := ((try simp only [List.length_append, List.length_cons, List.length_nil]); omega)) only [go_sem, ↓reduceIte, Nat.reduceEqDiff, Nat.reduceAdd, Nat.reduceLeDiff, Nat.zero_ne_one, Nat.one_ne_zero, reduceCtorEq, beq_self_eq_true, Int.reduceBEq, le_str, Tryz.f18, hk, hks, tmsV_cons, tmsV_nil, tmC_eq, Int.le_refl, Int.toNat_zero, d1, d3, List.length_append, List.length_cons, List.length_nil, Nat.zero_add, List.append_assoc, List.cons_append, List.nil_append]
    · simp only [List.length_append, List.length_cons, List.length_nil] at hlen
      simp (disch := ((try simp only [List.length_append, List.length_cons, List.length_nil]); omega)) only [go_sem, ↓reduceIte, Nat.reduceEqDiff, Nat.reduceAdd, Nat.reduceLeDiff, Nat.zero_ne_one, Nat.one_ne_zero, reduceCtorEq, beq_self_eq_true, Int.reduceBEq, le_str, Tryz.f18, hk, hks, tmsV_cons, tmsV_nil, tmC_eq, Int.le_refl, Int.toNat_zero, d1, List.length_append, List.length_cons, List.length_nil, Nat.zero_add, List.append_assoc, List.cons_append, List.nil_append]
    · have d3 := rprint_den F e.ty t (by omega) hT
      rw [tyV_eq] at d3
      simp only [List.length_append, List.length_cons, List.length_nil] at hlen
      simp (disch := ((try simp only [List.length_append, List.length_cons, List.length_nil]); omega)) only [go_sem, ↓reduceIte, Nat.reduceEqDiff, Nat.reduceAdd, Nat.reduceLeDiff, Nat.zero_ne_one, Nat.one_ne_zero, reduceCtorEq, beq_self_eq_true, Int.reduceBEq, le_str, Tryz.f18, hk, hks, tmsV_cons, tmsV_nil, tmC_eq, Int.le_refl, Int.toNat_zero, d1, d3, List.length_append, List.length_cons, List.length_nil, Nat.zero_add, List.append_assoc, List.cons_append, List.nil_append]
    · have d3 := r5print_den F F e.co c (by omega) hC
      rw [cxC_eq] at d3
      simp only [List.length_append, List.length_cons, List.length_nil] at hlen
      simp (disch := ((try simp only [List.length_append, List.length_cons, List.length_nil]); omega)) only [go_sem, ↓reduceIte, Nat.reduceEqDiff, Nat.reduceAdd, Nat.reduceLeDiff, Nat.zero_ne_one, Nat.one_ne_zero, reduceCtorEq, beq_self_eq_true, Int.reduceBEq, le_str, Tryz.f18, hk, hks, tmsV_cons, tmsV_nil, tmC_eq, Int.le_refl, Int.toNat_zero, d1, d3, List.length_append, List.length_cons, List.length_nil, Nat.zero_add, List.append_assoc, List.cons_append, List.nil_append]
    · have d3 := r5print_den F F e.co c (by omega) hC
      rw [cxC_eq] at d3
      simp only [List.length_append, List.length_cons, List.length_nil] at hlen
      simp (disch := ((try simp only [List.length_append, List.length_cons, List.length_nil]); omega)) only [go_sem, ↓reduceIte, Nat.reduceEqDiff, Nat.reduceAdd, Nat.reduceLeDiff, Nat.zero_ne_one, Nat.one_ne_zero, reduceCtorEq, beq_self_eq_true, Int.reduceBEq, le_str, Tryz.f18, hk, hks, tmsV_cons, tmsV_nil, tmC_eq, Int.le_refl, Int.toNat_zero, d1, d3, List.length_append, List.length_cons, List.length_nil, Nat.zero_add, List.append_assoc, List.cons_append, List.nil_append]
    · have d3 := rprint_den F e.ty t (by omega) hT
      rw [tyV_eq] at d3
      obtain ⟨g1, g2⟩ := altsM_get hss
      have hal := ta_len e.alts
      obtain ⟨H, hH⟩ : ∃ H, H = [40, 99, 97, 115, 101, 32] ++ a ++ [32, 58, 32] ++ t ++ [32, 111, 102, 32, 123] := ⟨_, rfl⟩
      rw [← hH] at hlen ⊢
      have hHl := congrArg List.length hH
      simp only [List.length_append, List.length_cons, List.length_nil] at hlen hHl
      simp only [List.append_assoc, List.nil_append, List.cons_append] at hH
      obtain ⟨cs, hcs⟩ : ∃ cs : List AVal, cs = [.int .i64 e.kind, .str e.name, .int .i64 e.ty.kind, .str e.ty.name, .int .i64 e.ty.n, .slice (tysV e.ty.args), .int .i64 e.co.kind, .str e.co.name, .int .i64 e.co.n, .int .i64 e.co.ty.kind, .str e.co.ty.name, .int .i64 e.co.ty.n, .slice (tysV e.co.ty.args), .slice (cxsV e.co.kids), .slice (tmsV e.kids), .slice (tasV e.alts)] := ⟨_, rfl⟩
      simp (disch := ((try simp only [List.length_append, List.length_cons, List.length_nil]); omega)) only [go_sem, ↓reduceIte, Nat.reduceEqDiff, Nat.reduceAdd, Nat.reduceLeDiff, Nat.zero_ne_one, Nat.one_ne_zero, reduceCtorEq, Int.reduceBEq, le_str, Tryz.f18, hk, hks, tmsV_cons, tmsV_nil, tmC_eq, Int.le_refl, Int.toNat_zero, d1, d3, List.length_append, List.length_cons, List.length_nil, Nat.zero_add, List.append_assoc, List.cons_append, List.nil_append]
      refine run_for (fun i => ⟨[(1, .ptr (.loc 1) 0), (3, .str (H ++ Lib.join (ss.take i) [59, 32])), (4, .int .i64 i)], [], [(1, cs)], 1⟩) e.alts.length ?_ ?_ ?_
      · simp only [go_sem, ↓reduceIte, Nat.reduceEqDiff, Nat.zero_ne_one, reduceCtorEq, Int.cast_ofNat_Int, hcs, hk, hks, tmsV_cons, tmsV_nil, tmC_eq, hH, List.take_zero, Lib.join_nil, List.append_nil]
      · intro i hi hr
        obtain ⟨y, hy⟩ : ∃ y, e.alts[i]? = some y := ⟨e.alts[i], List.getElem?_eq_getElem hi⟩
        have hyt := ta_tot_mem (List.mem_of_getElem? hy)
        obtain ⟨b, hb, hsb⟩ := g2 i y hy
        have d2 := ih y.body b (by omega) hb
        have hg : (tasV e.alts)[i]? = some (taV y) := by rw [tasV_get, hy]; rfl
        rw [taV_eq, tmC_eq] at hg
        rw [tmC_eq] at d2
        have hlt := natlt_t hi
        have w1 : IntKind.i64.wrap ((i : Int) + 1) = ((i + 1 : Nat) : Int) := wrapN (i + 1) (by omega)
        have hjl := join_take_le ss [59, 32] (i + 1)
        obtain ⟨Q, hQ⟩ : ∃ Q, Q = H ++ Lib.join (ss.take i) [59, 32] ++ (if decide (0 < i) then [59, 32] else []) := ⟨_, rfl⟩
        obtain ⟨r1, hr1⟩ : ∃ r1, r1 = y.types.map (64 :: ·) := ⟨_, rfl⟩
        obtain ⟨r2, hr2⟩ : ∃ r2, r2 = y.cos.map (126 :: ·) := ⟨_, rfl⟩
        have hfin : H ++ Lib.join (ss.take (i + 1)) [59, 32] = Q ++ y.con ++ Lib.joinTail [32] r1 ++ Lib.joinTail [32] r2 ++ Lib.joinTail [32] y.vars ++ [32, 45, 62, 32] ++ b := by
          rw [join_step [59, 32] hsb, hQ, altM, altW_join, hr1, hr2]
          simp only [List.append_assoc]
        have hfl := congrArg List.length hfin
        simp only [List.length_append, List.length_cons, List.length_nil] at hfl
        have hQl := congrArg List.length hQ
        have gt0 := natgt0 i
        obtain ⟨ys, hys⟩ : ∃ ys : List AVal, ys = [.str y.con, .slice (y.types.map .str), .slice (y.cos.map .str), .slice (y.vars.map .str), .int .i64 y.body.kind, .str y.body.name, .int .i64 y.body.ty.kind, .str y.body.ty.name, .int .i64 y.body.ty.n, .slice (tysV y.body.ty.args), .int .i64 y.body.co.kind, .str y.body.co.name, .int .i64 y.body.co.n, .int .i64 y.body.co.ty.kind, .str y.body.co.ty.name, .int .i64 y.body.co.ty.n, .slice (tysV y.body.co.ty.args), .slice (cxsV y.body.co.kids), .slice (tmsV y.body.kids), .slice (tasV y.body.alts)] := ⟨_, rfl⟩
        cases hb0 : decide (0 < i) <;> rw [hb0] at hQ gt0 hQl
        all_goals (
          simp only [Bool.false_eq_true, if_false, if_true, List.append_nil] at hQ hQl
          simp only [List.length_append, List.length_cons, List.length_nil] at hQl
          simp (disch := ((try simp only [List.length_append, List.length_cons, List.length_nil]); omega)) only [go_sem, ↓reduceIte, Nat.reduceEqDiff, Nat.reduceAdd, Nat.reduceLeDiff, Nat.one_ne_zero, Nat.reduceLT, le_str, hcs, hlt, tasV_len, natge0, tonat, hg, gt0, ← hQ, List.length_append, List.length_cons, List.length_nil]
          refine run_for (fun j => ⟨[(1, .ptr (.loc 1) 0), (3, .str (Q ++ y.con ++ Lib.joinTail [32] (r1.take j))), (4, .int .i64 i), (5, .ptr (.loc 5) 0), (6, .int .i64 j)], [], [(1, cs), (5, ys)], 1⟩) y.types.length ?_ ?_ ?_
          · simp only [go_sem, ↓reduceIte, Nat.reduceEqDiff, Int.cast_ofNat_Int, hcs, hys, List.take_zero, joinTail_nil, List.append_nil]
          · intro j hj hr2'
            obtain ⟨v, hv⟩ : ∃ v, y.types[j]? = some v := ⟨y.types[j], List.getElem?_eq_getElem hj⟩
            have hlt2 := natlt_t hj
            have w2 : IntKind.i64.wrap ((j : Int) + 1) = ((j + 1 : Nat) : Int) := wrapN (j + 1) (by omega)
            have hjt := Lib.joinTail_take_succ [32] r1 j (64 :: v) (by rw [hr1]; exact map_get _ hv)
            have hjl2 := Lib.joinTail_take_le [32] r1 (j + 1)
            rw [hjt] at hjl2
            simp only [List.length_append, List.length_cons, List.length_nil] at hjl2
            simp (disch := ((try simp only [List.length_append, List.length_cons, List.length_nil]); omega)) only [go_sem, ↓reduceIte, Nat.reduceEqDiff, Nat.reduceAdd, Nat.one_ne_zero, le_str, hys, List.length_map, hlt2, natge0, tonat, strs_get, hv, List.length_append, List.length_cons, List.length_nil]
            refine hr2' _ ?_
            simp only [go_sem, ↓reduceIte, Nat.reduceEqDiff, hcs, hys, w2, hjt, List.append_assoc, List.cons_append, List.nil_append]
          · have hlt2 := natlt_f (Nat.lt_irrefl y.types.length)
            have htk3 : r1.take y.types.length = r1 := by rw [hr1, ← List.length_map (f := (64 :: ·)), List.take_length]
            simp (disch := ((try simp only [List.length_append, List.length_cons, List.length_nil]); omega)) only [go_sem, ↓reduceIte, Nat.reduceEqDiff, Nat.reduceAdd, Nat.one_ne_zero, beq_self_eq_true, hys, List.length_map, hlt2, htk3]
            refine run_for (fun j => ⟨[(1, .ptr (.loc 1) 0), (3, .str (Q ++ y.con ++ Lib.joinTail [32] r1 ++ Lib.joinTail [32] (r2.take j))), (4, .int .i64 i), (5, .ptr (.loc 5) 0), (7, .int .i64 j)], [], [(1, cs), (5, ys)], 1⟩) y.cos.length ?_ ?_ ?_
            · simp only [go_sem, ↓reduceIte, Nat.reduceEqDiff, Int.cast_ofNat_Int, hcs, hys, List.take_zero, joinTail_nil, List.append_nil]
            · intro j hj hr2'
              obtain ⟨v, hv⟩ : ∃ v, y.cos[j]? = some v := ⟨y.cos[j], List.getElem?_eq_getElem hj⟩
              have hlt2 := natlt_t hj
              have w2 : IntKind.i64.wrap ((j : Int) + 1) = ((j + 1 : Nat) : Int) := wrapN (j + 1) (by omega)
              have hjt := Lib.joinTail_take_succ [32] r2 j (126 :: v) (by rw [hr2]; exact map_get _ hv)
              have hjl2 := Lib.joinTail_take_le [32] r2 (j + 1)
              rw [hjt] at hjl2
              simp only [List.length_append, List.length_cons, List.length_nil] at hjl2
              simp (disch := ((try simp only [List.length_append, List.length_cons, List.length_nil]); omega)) only [go_sem, ↓reduceIte, Nat.reduceEqDiff, Nat.reduceAdd, Nat.one_ne_zero, le_str, hys, List.length_map, hlt2, natge0, tonat, strs_get, hv, List.length_append, List.length_cons, List.length_nil]
              refine hr2' _ ?_
              simp only [go_sem, ↓reduceIte, Nat.reduceEqDiff, hcs, hys, w2, hjt, List.append_assoc, List.cons_append, List.nil_append]
            · have hlt3 := natlt_f (Nat.lt_irrefl y.cos.length)
              have htk4 : r2.take y.cos.length = r2 := by rw [hr2, ← List.length_map (f := (126 :: ·)), List.take_length]
              simp (disch := ((try simp only [List.length_append, List.length_cons, List.length_nil]); omega)) only [go_sem, ↓reduceIte, Nat.reduceEqDiff, Nat.reduceAdd, Nat.one_ne_zero, beq_self_eq_true, hys, List.length_map, hlt3, htk4]
              refine run_for (fun j => ⟨[(1, .ptr (.loc 1) 0), (3, .str (Q ++ y.con ++ Lib.joinTail [32] r1 ++ Lib.joinTail [32] r2 ++ Lib.joinTail [32] (y.vars.take j))), (4, .int .i64 i), (5, .ptr (.loc 5) 0), (8, .int .i64 j)], [], [(1, cs), (5, ys)], 1⟩) y.vars.length ?_ ?_ ?_
              · simp only [go_sem, ↓reduceIte, Nat.reduceEqDiff, Int.cast_ofNat_Int, hcs, hys, List.take_zero, joinTail_nil, List.append_nil]
              · intro j hj hr2'
                obtain ⟨v, hv⟩ : ∃ v, y.vars[j]? = some v := ⟨y.vars[j], List.getElem?_eq_getElem hj⟩
                have hlt2 := natlt_t hj
                have w2 : IntKind.i64.wrap ((j : Int) + 1) = ((j + 1 : Nat) : Int) := wrapN (j + 1) (by omega)
                have hjt := Lib.joinTail_take_succ [32] y.vars j v hv
                have hjl2 := Lib.joinTail_take_le [32] y.vars (j + 1)
                rw [hjt] at hjl2
                simp only [List.length_append, List.length_cons, List.length_nil] at hjl2
                simp (disch := ((try simp only [List.length_append, List.length_cons, List.length_nil]); omega)) only [go_sem, ↓reduceIte, Nat.reduceEqDiff, Nat.reduceAdd, Nat.one_ne_zero, le_str, hys, List.length_map, hlt2, natge0, tonat, strs_get, hv, List.length_append, List.length_cons, List.length_nil]
                refine hr2' _ ?_
                simp only [go_sem, ↓reduceIte, Nat.reduceEqDiff, hcs, hys, w2, hjt, List.append_assoc, List.cons_append, List.nil_append]
              · have hlt4 := natlt_f (Nat.lt_irrefl y.vars.length)
                simp (disch := ((try simp only [List.length_append, List.length_cons, List.length_nil]); omega)) only [go_sem, ↓reduceIte, Nat.reduceEqDiff, Nat.reduceAdd, Nat.reduceLeDiff, Nat.one_ne_zero, reduceCtorEq, beq_self_eq_true, le_str, hys, List.length_map, hlt4, List.take_length, d2, List.length_append, List.length_cons, List.length_nil]
                refine hr _ ?_
                simp only [go_sem, ↓reduceIte, Nat.reduceEqDiff, hcs, w1, hfin])
      · have hlt := natlt_f (Nat.lt_irrefl e.alts.length)
        have htk2 : ss.take e.alts.length = ss := by rw [← g1]; exact List.take_length
        simp (disch := ((try simp only [List.length_append, List.length_cons, List.length_nil]); omega)) only [go_sem, ↓reduceIte, Nat.reduceEqDiff, Nat.reduceAdd, Nat.one_ne_zero, beq_self_eq_true, le_str, hcs, tasV_len, hlt, htk2, List.length_append, List.length_cons, List.length_nil, List.append_assoc]
end Go.Proofs
