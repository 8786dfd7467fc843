/- The writers of the program and of the document; definitions; the examples of the chapter. -/
import Derived.Test.YtjfghnkmladbkaaGreatDoorAvL
import Derived.Test.YtjfghnkmladbkaaGreatDoorAvM
import Derived.Test.YtjfghnkmladbkaaGreatDoorAvJ
namespace Go.Proofs
open Go.Av
set_option maxHeartbeats 16000000
set_option maxRecDepth 100000
/-! coercions, written: the program's -/
theorem itoa_den {n : Int} (h0 : 0 ≤ n) (h1 : n < 1000000000) : den E 120 [.int .i64 n] [] = some (.str (Lib.itoa n), []) := by
 rw [den_prim prim_120]
 simp only [itoaP]
 rw [if_pos ⟨by omega, by omega⟩]
theorem kkC {k a b : Int} (h1 : (k == a) = true) (h2 : a ≠ b) : (k == b) = false := by
 rw [beq_iff_eq] at h1; rw [h1, beq_eq_false_iff_ne]; exact h2
theorem cx_tot_kids (c : Cx) : c.tot = c.ty.sz + Cx.tots c.kids := by cases c; simp [Cx.tot, Cx.ty, Cx.kids]
/-- a rule's head, by its kind -/
theorem headW_cases {c : Cx} {hs : List (List UInt8)} (h : headW c = some hs) :
 ((c.kind == 5) = true ∧ (c.kind == 7) = false ∧ (c.kind == 8) = false ∧ hs = [wordC c.kind, c.name]) ∨ ((c.kind == 5) = false ∧ (c.kind == 7) = true ∧ (c.kind == 8) = false ∧ hs = [wordC c.kind, c.name]) ∨
 ((c.kind == 5) = false ∧ (c.kind == 7) = false ∧ (c.kind == 8) = true ∧ (0 ≤ c.n ∧ c.n < 1000000000) ∧ hs = [wordC c.kind, Lib.itoa c.n]) ∨ ((c.kind == 5) = false ∧ (c.kind == 7) = false ∧ (c.kind == 8) = false ∧ hs = [wordC c.kind]) := by
 unfold headW at h
 cases k5 : c.kind == 5
 · cases k7 : c.kind == 7
   · cases k8 : c.kind == 8
     · rw [k5, k7, k8] at h
       simp only [Bool.or_self, Bool.false_eq_true, if_false] at h
       injection h with h
       exact .inr (.inr (.inr ⟨rfl, rfl, rfl, h.symm⟩))
     · rw [k5, k7, k8] at h
       simp only [Bool.or_self, Bool.false_eq_true, if_false, if_true] at h
       split at h
       · rename_i hn
         injection h with h
         exact .inr (.inr (.inl ⟨rfl, rfl, rfl, hn, h.symm⟩))
       · cases h
   · rw [k5, k7] at h
     simp only [Bool.or_true, if_true] at h
     injection h with h
     exact .inr (.inl ⟨rfl, rfl, kkC k7 (by decide), h.symm⟩)
 · rw [k5] at h
   simp only [Bool.true_or, if_true] at h
   injection h with h
   exact .inl ⟨rfl, kkC k5 (by decide), kkC k5 (by decide), h.symm⟩
theorem cprint_den (F : Nat) : ∀ (f : Nat) (c : Cx) (s : List UInt8), c.tot < 1000000 → kpR F f c = some s → den E 59 [.agg (cxC c)] [] = some (.str s, []) := by
 intro f
 induction f with
 | zero => intro c s _ h; cases h
 | succ f ih =>
 intro c s ht h
 have htk := cx_tot_kids c
 have hszp := sz_pos c.ty
 simp only [kpR] at h
 rw [den_eq prim_59, body_59, cxC_eq]
 cases k1 : c.kind == 1
 · cases k2 : c.kind == 2
   · rw [k1, k2] at h
     simp only [Bool.false_eq_true, if_false] at h
     split at h
     · split at h
       · cases h
       · rename_i hs hhs
         split at h
         · cases h
         · rename_i ss hss
           obtain ⟨g1, g2⟩ := allR_get hss
           have hlk := cx_tots_len c.kids
           have h2m : 2 ≤ appMax := by unfold appMax; omega
           have w := cword_den c.kind
           have hw := headW_cases hhs
           have hsl : hs.length ≤ 2 := by rcases hw with h | h | h | h <;> simp [h]
           have hi : (c.kind == 8) = true → den E 120 [.int .i64 c.n] [] = some (.str (Lib.itoa c.n), []) := by
            intro k8
            rcases hw with h | h | h | h
            · rw [h.2.2.1] at k8; cases k8
            · rw [h.2.2.1] at k8; cases k8
            · exact itoa_den h.2.2.2.1.1 h.2.2.2.1.2
            · rw [h.2.2.1] at k8; cases k8
           cases k9 : c.kind == 9
           · rw [k9] at h
             simp only [Bool.false_eq_true, if_false] at h
             obtain ⟨rfl, hlen⟩ := short_some h
             unfold lim at hlen
             simp only [List.length_append, List.length_cons, List.length_nil] at hlen
             have dj := join_den (hs ++ ss) [32] (by omega) (by rw [List.length_append, g1]; omega)
             rw [List.map_append] at dj
             rcases hw with ⟨k5, k7, k8, hse⟩ | ⟨k5, k7, k8, hse⟩ | ⟨k5, k7, k8, hn, hse⟩ | ⟨k5, k7, k8, hse⟩
             all_goals (
              have hm := congrArg (List.map AVal.str) hse
              simp only [List.map_cons, List.map_nil] at hm
              try (have hi' := hi k8)
              first
               | simp only [go_sem, Tryz.f59, k1, k2, k5, k7, k8, w, cxsV_len, List.cons_append, List.nil_append, hi', h2m]
               | simp only [go_sem, Tryz.f59, k1, k2, k5, k7, k8, w, cxsV_len, List.cons_append, List.nil_append, h2m]
              refine run_for (fun i => ⟨[(1, .ptr (.loc 1) 0), (3, .own 9 0 (hs.map .str ++ (ss.take i).map .str)), (42, .slice (cxsV c.kids)), (43, .int .i64 c.kids.length), (44, .int .i64 i)], [], [(1, [.int .i64 c.kind, .str c.name, .int .i64 c.n, .int .i64 c.ty.kind, .str c.ty.name, .int .i64 c.ty.n, .slice (tysV c.ty.args), .slice (cxsV c.kids)])], 1⟩) c.kids.length ?_ ?_ ?_
              · simp only [go_sem, hm, List.take_zero, List.map_nil, List.append_nil]
              · intro i hi hr
                obtain ⟨y, hy⟩ : ∃ y, c.kids[i]? = some y := ⟨c.kids[i], List.getElem?_eq_getElem hi⟩
                have hyt := cx_tots_mem (List.mem_of_getElem? hy)
                obtain ⟨b, hb, hsb⟩ := g2 i y hy
                have d := ih y b (by omega) hb
                have hg : (cxsV c.kids)[i]? = some (.agg (cxC y)) := by rw [cxsV_get, hy]; rfl
                rw [cxC_eq] at d hg
                have hw1 : IntKind.i64.wrap ((i : Int) + 1) = ((i + 1 : Nat) : Int) := wrapN (i + 1) (by omega)
                have hlt := natlt_t hi
                have hts : ((ss.take i).map AVal.str) ++ [.str b] = (ss.take (i + 1)).map AVal.str := by rw [take_snoc hsb]; simp
                have hap : (hs.map AVal.str ++ (ss.take i).map AVal.str).length + 1 ≤ appMax := by rw [List.length_append, List.length_map, List.length_map, List.length_take]; unfold appMax; omega
                simp only [go_sem, hlt, natge0, tonat, hg, d, hap, List.append_assoc, hts]
                refine hr _ ?_
                simp only [go_sem, hw1]
              · have hlt := natlt_f (Nat.lt_irrefl c.kids.length)
                have htk : ss.take c.kids.length = ss := by rw [← g1]; exact List.take_length
                simp (disch := ((try simp only [List.length_append, List.length_cons, List.length_nil]); omega)) only [go_sem, ↓reduceIte, Nat.reduceEqDiff, Nat.reduceAdd, Nat.one_ne_zero, beq_self_eq_true, le_str, hlt, k9, htk, dj, List.length_cons, List.length_nil, List.cons_append, List.nil_append, Nat.add_assoc])
           · rw [k9] at h
             simp only [if_true] at h
             split at h
             · cases h
             · rename_i t hT
               obtain ⟨rfl, hlen⟩ := short_some h
               unfold lim at hlen
               have d9 := tprint_den F c.ty t (by omega) hT
               rw [tyV_eq] at d9
               simp only [List.length_append, List.length_cons, List.length_nil] at hlen
               have dj := join_den (hs ++ ss ++ [[60] ++ t ++ [62]]) [32] (by omega) (by rw [List.length_append, List.length_append, g1]; simp only [List.length_cons, List.length_nil]; omega)
               have htl : t.length ≤ 3000000000 := by
                have := join_mem_len (l := hs ++ ss ++ [[60] ++ t ++ [62]]) (s := [60] ++ t ++ [62]) (sep := [32]) (by simp)
                simp only [List.length_append, List.length_cons, List.length_nil] at this
                omega
               obtain ⟨J, hJ⟩ : ∃ J, J = Lib.join (hs ++ ss ++ [[60] ++ t ++ [62]]) [32] := ⟨_, rfl⟩
               rw [← hJ] at dj hlen ⊢
               simp only [List.map_append, List.map_cons, List.map_nil, List.cons_append, List.nil_append, List.append_assoc] at dj
               have k5 := kkC (b := 5) k9 (by decide)
               have k7 := kkC (b := 7) k9 (by decide)
               have k8 := kkC (b := 8) k9 (by decide)
               have hse : hs = [wordC c.kind] := by
                rcases hw with h | h | h | h
                · rw [k5] at h; exact absurd h.1 (by decide)
                · rw [k7] at h; exact absurd h.2.1 (by decide)
                · rw [k8] at h; exact absurd h.2.2.1 (by decide)
                · exact h.2.2.2
               have hm := congrArg (List.map AVal.str) hse
               simp only [List.map_cons, List.map_nil] at hm
               have hap9 : (hs.map AVal.str).length + ((ss.map AVal.str).length + 1) ≤ appMax := by rw [List.length_map, List.length_map]; unfold appMax; omega
               simp only [go_sem, Tryz.f59, k1, k2, k5, k7, k8, w, cxsV_len, List.cons_append, List.nil_append]
               refine run_for (fun i => ⟨[(1, .ptr (.loc 1) 0), (3, .own 9 0 (hs.map .str ++ (ss.take i).map .str)), (42, .slice (cxsV c.kids)), (43, .int .i64 c.kids.length), (44, .int .i64 i)], [], [(1, [.int .i64 c.kind, .str c.name, .int .i64 c.n, .int .i64 c.ty.kind, .str c.ty.name, .int .i64 c.ty.n, .slice (tysV c.ty.args), .slice (cxsV c.kids)])], 1⟩) c.kids.length ?_ ?_ ?_
               · simp only [go_sem, hm, List.take_zero, List.map_nil, List.append_nil]
               · intro i hi hr
                 obtain ⟨y, hy⟩ : ∃ y, c.kids[i]? = some y := ⟨c.kids[i], List.getElem?_eq_getElem hi⟩
                 have hyt := cx_tots_mem (List.mem_of_getElem? hy)
                 obtain ⟨b, hb, hsb⟩ := g2 i y hy
                 have d := ih y b (by omega) hb
                 have hg : (cxsV c.kids)[i]? = some (.agg (cxC y)) := by rw [cxsV_get, hy]; rfl
                 rw [cxC_eq] at d hg
                 have hw1 : IntKind.i64.wrap ((i : Int) + 1) = ((i + 1 : Nat) : Int) := wrapN (i + 1) (by omega)
                 have hlt := natlt_t hi
                 have hts : ((ss.take i).map AVal.str) ++ [.str b] = (ss.take (i + 1)).map AVal.str := by rw [take_snoc hsb]; simp
                 have hap : (hs.map AVal.str ++ (ss.take i).map AVal.str).length + 1 ≤ appMax := by rw [List.length_append, List.length_map, List.length_map, List.length_take]; unfold appMax; omega
                 simp only [go_sem, hlt, natge0, tonat, hg, d, hap, List.append_assoc, hts]
                 refine hr _ ?_
                 simp only [go_sem, hw1]
               · have hlt := natlt_f (Nat.lt_irrefl c.kids.length)
                 have htk : ss.take c.kids.length = ss := by rw [← g1]; exact List.take_length
                 simp (disch := ((try simp only [List.length_append, List.length_cons, List.length_nil]); omega)) only [go_sem, ↓reduceIte, Nat.reduceEqDiff, Nat.reduceAdd, Nat.reduceMul, Nat.reduceLeDiff, Nat.one_ne_zero, Nat.reduceLT, reduceCtorEq, beq_self_eq_true, decide_true, le_str, hlt, k9, htk, d9, hap9, dj, List.length_append, List.length_cons, List.length_nil, List.cons_append, List.nil_append, Nat.add_assoc, Nat.zero_add, List.append_assoc]
     · cases h
   · rw [k1, k2] at h
     simp only [Bool.false_eq_true, if_false, if_true] at h
     split at h
     · cases h
     · rename_i t hT
       obtain ⟨rfl, hlen⟩ := short_some h
       unfold lim at hlen
       simp only [List.length_append, List.length_cons, List.length_nil] at hlen
       have d := tprint_den F c.ty t (by omega) hT
       rw [tyV_eq] at d
       simp (disch := ((try simp only [List.length_append, List.length_cons, List.length_nil]); omega)) only [go_sem, ↓reduceIte, Nat.reduceEqDiff, Nat.reduceAdd, Nat.reduceLeDiff, Nat.zero_ne_one, Nat.one_ne_zero, reduceCtorEq, le_str, Tryz.f59, k1, k2, d, List.length_cons, List.length_nil, Nat.zero_add, List.cons_append, List.nil_append]
 · rw [k1] at h
   simp only [if_true] at h
   obtain ⟨rfl, hlen⟩ := short_some h
   simp only [go_sem, Tryz.f59, k1]
end Go.Proofs
namespace Go.Proofs
open Go.Av
set_option maxHeartbeats 16000000
set_option maxRecDepth 100000
/-! terms, written: the program's -/
theorem mpR_cases {F f : Nat} {e : Tm} {s : List UInt8} (h : mpR F (f + 1) e = some s) : s.length ≤ lim ∧
 (((e.kind = 1 ∨ e.kind = 2) ∧ s = e.name) ∨
 (e.kind = 5 ∧ ∃ x y a b, e.kids = [x, y] ∧ mpR F f x = some a ∧ mpR F f y = some b ∧ s = [40] ++ a ++ [32] ++ b ++ [41]) ∨
 (e.kind = 8 ∧ ∃ x y t a b, e.kids = [x, y] ∧ prR F .pr e.ty = some t ∧ mpR F f x = some a ∧ mpR F f y = some b ∧ s = [40, 108, 101, 116, 32] ++ e.name ++ [32, 58, 32] ++ t ++ [32, 61, 32] ++ a ++ [32, 105, 110, 32] ++ b ++ [41]) ∨
 ∃ x a, e.kids = [x] ∧ mpR F f x = some a ∧
  ((e.kind = 3 ∧ ∃ t, prR F .pr e.ty = some t ∧ s = [40, 92] ++ e.name ++ [32, 58, 32] ++ t ++ [46, 32] ++ a ++ [41]) ∨
  (e.kind = 4 ∧ s = [40, 33] ++ e.name ++ [46, 32] ++ a ++ [41]) ∨
  (e.kind = 6 ∧ ∃ t, prR F .pr e.ty = some t ∧ s = [40] ++ a ++ [32, 64, 32] ++ t ++ [41]) ∨
  (e.kind = 7 ∧ ∃ c, kpR F F e.co = some c ∧ s = [40] ++ a ++ [32, 126, 32] ++ c ++ [41]) ∨
  (e.kind = 10 ∧ ∃ c, kpR F F e.co = some c ∧ s = [40] ++ a ++ [32, 124, 62, 32] ++ c ++ [41]) ∨
  (e.kind = 9 ∧ ∃ t ss, prR F .pr e.ty = some t ∧ altsM (mpR F f) e.alts = some ss ∧ s = [40, 99, 97, 115, 101, 32] ++ a ++ [32, 58, 32] ++ t ++ [32, 111, 102, 32, 123] ++ Lib.join ss [59, 32] ++ [125, 41]))) := by
 simp only [mpR] at h
 split at h
 · rename_i hk
   obtain ⟨rfl, hl⟩ := short_some h
   exact ⟨hl, .inl ⟨by simpa using hk, rfl⟩⟩
 · split at h
   · rename_i hk
     split at h
     · cases h
     · rename_i x y hxy
       have hk2 := kids2m_some hxy
       split at h
       · cases h
       · rename_i a ha
         split at h
         · cases h
         · rename_i b hb
           obtain ⟨rfl, hl⟩ := short_some h
           exact ⟨hl, .inr (.inl ⟨by simpa using hk, x, y, a, b, hk2, ha, hb, rfl⟩)⟩
   · split at h
     · rename_i hk
       split at h
       · cases h
       · rename_i x y hxy
         have hk2 := kids2m_some hxy
         split at h
         · cases h
         · rename_i t hT
           split at h
           · cases h
           · rename_i a ha
             split at h
             · cases h
             · rename_i b hb
               obtain ⟨rfl, hl⟩ := short_some h
               exact ⟨hl, .inr (.inr (.inl ⟨by simpa using hk, x, y, t, a, b, hk2, hT, ha, hb, rfl⟩))⟩
     · split at h
       · cases h
       · rename_i x hx
         have hk1 := kids1m_some hx
         split at h
         · cases h
         · rename_i a ha
           suffices hh : s.length ≤ lim ∧ _ from ⟨hh.1, .inr (.inr (.inr ⟨x, a, hk1, ha, hh.2⟩))⟩
           split at h
           · rename_i hk
             split at h
             · cases h
             · rename_i t hT
               obtain ⟨rfl, hl⟩ := short_some h
               exact ⟨hl, .inl ⟨by simpa using hk, t, hT, rfl⟩⟩
           · split at h
             · rename_i hk
               obtain ⟨rfl, hl⟩ := short_some h
               exact ⟨hl, .inr (.inl ⟨by simpa using hk, rfl⟩)⟩
             · split at h
               · rename_i hk
                 split at h
                 · cases h
                 · rename_i t hT
                   obtain ⟨rfl, hl⟩ := short_some h
                   exact ⟨hl, .inr (.inr (.inl ⟨by simpa using hk, t, hT, rfl⟩))⟩
               · split at h
                 · rename_i hk
                   split at h
                   · cases h
                   · rename_i c hC
                     obtain ⟨rfl, hl⟩ := short_some h
                     exact ⟨hl, .inr (.inr (.inr (.inl ⟨by simpa using hk, c, hC, rfl⟩)))⟩
                 · split at h
                   · rename_i hk
                     split at h
                     · cases h
                     · rename_i c hC
                       obtain ⟨rfl, hl⟩ := short_some h
                       exact ⟨hl, .inr (.inr (.inr (.inr (.inl ⟨by simpa using hk, c, hC, rfl⟩))))⟩
                   · split at h
                     · rename_i hk
                       split at h
                       · cases h
                       · rename_i t hT
                         split at h
                         · cases h
                         · rename_i ss hss
                           obtain ⟨rfl, hl⟩ := short_some h
                           exact ⟨hl, .inr (.inr (.inr (.inr (.inr ⟨by simpa using hk, t, ss, hT, hss, rfl⟩))))⟩
                     · cases h
theorem ta_tot_mem {l : List Ta} {a : Ta} (h : a ∈ l) : a.body.tot + a.types.length + a.cos.length + a.vars.length + 1 ≤ Ta.tots l := by
 induction l with
 | nil => cases h
 | cons b l ih =>
  rcases List.mem_cons.1 h with rfl | h
  · cases a with | mk c x y z e => simp only [Ta.tots, Ta.tot, Ta.body, Ta.types, Ta.cos, Ta.vars]; omega
  · have := ih h; simp only [Ta.tots]; omega
/-- an alternative's text, from the body's -/
theorem faprint_den (a : Ta) (s : List UInt8) (hd : den E 16 [.agg (tmC a.body)] [] = some (.str s, [])) (hl : (altM a s).length ≤ 4000000000) (hn : a.types.length + a.cos.length + a.vars.length < 1000000) :
 den E 60 [taV a] [] = some (.str (altM a s), []) := by
 have hlen := hl
 simp only [altM, List.length_append, List.length_cons, List.length_nil] at hlen
 have hwl : (altW a).length = 1 + a.types.length + a.cos.length + a.vars.length := by simp only [altW, List.length_append, List.length_map, List.length_cons, List.length_nil]
 have dj := join_den (altW a) [32] (by omega) (by omega)
 have t1 : ∀ (i : Nat) v, a.types[i]? = some v → v.length ≤ 3999999999 := by
  intro i v hv
  have := join_mem_len (l := altW a) (s := [64] ++ v) (sep := [32]) (by simp only [altW, List.mem_append, List.mem_map]; exact .inl (.inl (.inr ⟨v, List.mem_of_getElem? hv, rfl⟩)))
  simp only [List.length_append, List.length_cons, List.length_nil] at this; omega
 have t2 : ∀ (i : Nat) v, a.cos[i]? = some v → v.length ≤ 3999999999 := by
  intro i v hv
  have := join_mem_len (l := altW a) (s := [126] ++ v) (sep := [32]) (by simp only [altW, List.mem_append, List.mem_map]; exact .inl (.inr ⟨v, List.mem_of_getElem? hv, rfl⟩))
  simp only [List.length_append, List.length_cons, List.length_nil] at this; omega
 rw [den_eq prim_60, body_60, taV_eq]
 rw [tmC_eq] at hd ⊢
 obtain ⟨W0, hW0⟩ : ∃ W0 : List (List UInt8), W0 = [a.con] := ⟨_, rfl⟩
 have hm0 := congrArg (List.map AVal.str) hW0
 simp only [List.map_cons, List.map_nil] at hm0
 have hl0 : W0.length = 1 := by rw [hW0]; rfl
 obtain ⟨cs, hcs⟩ : ∃ cs : List AVal, cs = [.str a.con, .slice (a.types.map .str), .slice (a.cos.map .str), .slice (a.vars.map .str), .int .i64 a.body.kind, .str a.body.name, .int .i64 a.body.ty.kind, .str a.body.ty.name, .int .i64 a.body.ty.n, .slice (tysV a.body.ty.args), .int .i64 a.body.co.kind, .str a.body.co.name, .int .i64 a.body.co.n, .int .i64 a.body.co.ty.kind, .str a.body.co.ty.name, .int .i64 a.body.co.ty.n, .slice (tysV a.body.co.ty.args), .slice (cxsV a.body.co.kids), .slice (tmsV a.body.kids), .slice (tasV a.body.alts)] := ⟨_, rfl⟩
 simp only [go_sem, Tryz.f60, List.length_map]
 refine run_for (fun i => ⟨[(1, .ptr (.loc 1) 0), (3, .own 9 0 ((W0 ++ (a.types.take i).map (64 :: ·)).map .str)), (12, .slice (a.types.map .str)), (13, .int .i64 a.types.length), (14, .int .i64 i)], [], [(1, cs)], 1⟩) a.types.length ?_ ?_ ?_
 · simp only [go_sem, hm0, hcs, List.take_zero, List.map_nil, List.append_nil]
 · intro i hi hr
   obtain ⟨v, hv⟩ : ∃ v, a.types[i]? = some v := ⟨a.types[i], List.getElem?_eq_getElem hi⟩
   have hvl := t1 i v hv
   have hlt := natlt_t hi
   have w1 : IntKind.i64.wrap ((i : Int) + 1) = ((i + 1 : Nat) : Int) := wrapN (i + 1) (by omega)
   have hap : ((W0 ++ (a.types.take i).map (64 :: ·)).map AVal.str).length + 1 ≤ appMax := by simp only [List.length_map, List.length_append, List.length_take]; unfold appMax; omega
   have hts : (W0 ++ (a.types.take i).map (64 :: ·)).map AVal.str ++ [.str (64 :: v)] = (W0 ++ (a.types.take (i + 1)).map (64 :: ·)).map AVal.str := by rw [take_snoc hv]; simp
   simp (disch := ((try simp only [List.length_append, List.length_cons, List.length_nil]); omega)) only [go_sem, ↓reduceIte, Nat.reduceEqDiff, Nat.reduceAdd, Nat.reduceMul, Nat.reduceLeDiff, Nat.reduceLT, decide_true, le_str, hlt, natge0, tonat, strs_get, hv, hap, hts, List.length_cons, List.length_nil, Nat.zero_add, List.cons_append, List.nil_append]
   refine hr _ ?_
   simp only [go_sem, w1, hcs]
 · have hlt := natlt_f (Nat.lt_irrefl a.types.length)
   simp only [go_sem, hlt, List.take_length, hcs, List.length_map]
   obtain ⟨W1, hW1⟩ : ∃ W1 : List (List UInt8), W1 = W0 ++ a.types.map (64 :: ·) := ⟨_, rfl⟩
   have hl1 : W1.length = 1 + a.types.length := by rw [hW1, List.length_append, List.length_map, hl0]
   rw [← hW1]
   refine run_for (fun i => ⟨[(1, .ptr (.loc 1) 0), (3, .own 9 0 ((W1 ++ (a.cos.take i).map (126 :: ·)).map .str)), (25, .slice (a.cos.map .str)), (26, .int .i64 a.cos.length), (27, .int .i64 i)], [], [(1, cs)], 1⟩) a.cos.length ?_ ?_ ?_
   · simp only [go_sem, hcs, List.take_zero, List.map_nil, List.append_nil]
   · intro i hi hr
     obtain ⟨v, hv⟩ : ∃ v, a.cos[i]? = some v := ⟨a.cos[i], List.getElem?_eq_getElem hi⟩
     have hvl := t2 i v hv
     have hlt := natlt_t hi
     have w1 : IntKind.i64.wrap ((i : Int) + 1) = ((i + 1 : Nat) : Int) := wrapN (i + 1) (by omega)
     have hap : ((W1 ++ (a.cos.take i).map (126 :: ·)).map AVal.str).length + 1 ≤ appMax := by simp only [List.length_map, List.length_append, List.length_take]; unfold appMax; omega
     have hts : (W1 ++ (a.cos.take i).map (126 :: ·)).map AVal.str ++ [.str (126 :: v)] = (W1 ++ (a.cos.take (i + 1)).map (126 :: ·)).map AVal.str := by rw [take_snoc hv]; simp
     simp (disch := ((try simp only [List.length_append, List.length_cons, List.length_nil]); omega)) only [go_sem, ↓reduceIte, Nat.reduceEqDiff, Nat.reduceAdd, Nat.reduceMul, Nat.reduceLeDiff, Nat.reduceLT, decide_true, le_str, hlt, natge0, tonat, strs_get, hv, hap, hts, List.length_cons, List.length_nil, Nat.zero_add, List.cons_append, List.nil_append]
     refine hr _ ?_
     simp only [go_sem, w1, hcs]
   · have hlt := natlt_f (Nat.lt_irrefl a.cos.length)
     obtain ⟨W2, hW2⟩ : ∃ W2 : List (List UInt8), W2 = W1 ++ a.cos.map (126 :: ·) := ⟨_, rfl⟩
     have hl2 : W2.length = 1 + a.types.length + a.cos.length := by rw [hW2, List.length_append, List.length_map, hl1]
     have hWW : altW a = W2 ++ a.vars := by rw [hW2, hW1, hW0]; rfl
     rw [hWW] at dj hlen
     rw [altM, hWW]
     rw [List.take_length, ← hW2]
     cases hv : a.vars with
     | nil =>
      rw [hv, List.append_nil] at dj hlen
      have hap : (W2.map AVal.str).length + 0 ≤ appMax := by rw [List.length_map]; unfold appMax; omega
      have hap' : (W2.map AVal.str).length ≤ appMax := hap
      simp (disch := ((try simp only [List.length_append, List.length_cons, List.length_nil]); omega)) only [go_sem, ↓reduceIte, Nat.reduceEqDiff, Nat.reduceAdd, Nat.reduceLeDiff, Nat.one_ne_zero, Nat.reduceLT, reduceCtorEq, beq_self_eq_true, decide_true, le_str, hlt, hcs, hv, List.map_nil, List.append_nil, hap', dj, hd, List.length_append, List.length_cons, List.length_nil, Nat.add_zero]
     | cons v vs =>
      rw [hv] at dj hlen
      rw [hv] at hn
      simp only [List.length_cons] at hn
      rw [List.map_append, List.map_cons] at dj
      have hap : (W2.map AVal.str).length + (vs.length + 1) ≤ appMax := by rw [List.length_map]; unfold appMax; omega
      simp (disch := ((try simp only [List.length_append, List.length_cons, List.length_nil]); omega)) only [go_sem, ↓reduceIte, Nat.reduceEqDiff, Nat.reduceAdd, Nat.reduceLeDiff, Nat.one_ne_zero, Nat.reduceLT, reduceCtorEq, beq_self_eq_true, decide_true, le_str, hlt, hcs, hv, List.map_cons, List.length_map, dj, hd, List.length_append, List.length_cons, List.length_nil, show W2.length + (vs.length + 1) ≤ appMax by unfold appMax; omega]
end Go.Proofs
namespace Go.Proofs
open Go.Av
set_option maxHeartbeats 32000000
set_option maxRecDepth 100000
theorem fprint_den (F : Nat) : ∀ (f : Nat) (e : Tm) (s : List UInt8), e.tot < 1000000 → mpR F f e = some s → den E 16 [.agg (tmC e)] [] = some (.str s, []) := by
 intro f
 induction f with
 | zero => intro e s _ h; cases h
 | succ f ih =>
 intro e s ht h
 have htk := tm_tot_eq e
 have hszp := sz_pos e.ty
 have hcp := cx_tot_pos e.co
 obtain ⟨hlen, hc⟩ := mpR_cases h
 unfold lim at hlen
 rw [den_eq prim_16, body_16, tmC_eq]
 rcases hc with ⟨hk, rfl⟩ | ⟨hk, x, y, a, b, hks, ha, hb, rfl⟩ | ⟨hk, x, y, t, a, b, hks, hT, ha, hb, rfl⟩ | ⟨x, a, hks, ha, hc⟩
 · rcases hk with hk | hk
   · simp only [go_sem, Tryz.f16, hk]
   · simp only [go_sem, Int.reduceBEq, Tryz.f16, hk]
 · rw [hks, tm_tots_two] at htk
   have d1 := ih x a (by omega) ha
   have d2 := ih y b (by omega) hb
   rw [tmC_eq] at d1 d2
   simp only [List.length_append, List.length_cons, List.length_nil] at hlen
   simp (disch := ((try simp only [List.length_append, List.length_cons, List.length_nil]); omega)) only [go_sem, ↓reduceIte, Nat.reduceEqDiff, Nat.reduceAdd, Nat.reduceLeDiff, Nat.zero_ne_one, Nat.one_ne_zero, reduceCtorEq, beq_self_eq_true, Int.reduceBEq, le_str, Tryz.f16, hk, hks, tmsV_cons, tmsV_nil, tmC_eq, Int.le_refl, Int.toNat_zero, Int.toNat_one, Int.zero_le_ofNat, d1, d2, List.length_append, List.length_cons, List.length_nil, Nat.zero_add, List.append_assoc, List.cons_append, List.nil_append]
 · rw [hks, tm_tots_two] at htk
   have d1 := ih x a (by omega) ha
   have d2 := ih y b (by omega) hb
   have d3 := tprint_den F e.ty t (by omega) hT
   rw [tmC_eq] at d1 d2
   rw [tyV_eq] at d3
   simp only [List.length_append, List.length_cons, List.length_nil] at hlen
   simp (disch := ((try simp only [List.length_append, List.length_cons, List.length_nil]); omega)) only [go_sem, ↓reduceIte, Nat.reduceEqDiff, Nat.reduceAdd, Nat.reduceLeDiff, Nat.zero_ne_one, Nat.one_ne_zero, reduceCtorEq, beq_self_eq_true, Int.reduceBEq, le_str, Tryz.f16, hk, hks, tmsV_cons, tmsV_nil, tmC_eq, Int.le_refl, Int.toNat_zero, Int.toNat_one, Int.zero_le_ofNat, d1, d2, d3, List.length_append, List.length_cons, List.length_nil, Nat.zero_add, List.append_assoc, List.cons_append, List.nil_append]
 · rw [hks, tm_tots_one] at htk
   have d1 := ih x a (by omega) ha
   rw [tmC_eq] at d1
   rcases hc with ⟨hk, t, hT, rfl⟩ | ⟨hk, rfl⟩ | ⟨hk, t, hT, rfl⟩ | ⟨hk, c, hC, rfl⟩ | ⟨hk, c, hC, rfl⟩ | ⟨hk, t, ss, hT, hss, rfl⟩
   · have d3 := tprint_den F e.ty t (by omega) hT
     rw [tyV_eq] at d3
     simp only [List.length_append, List.length_cons, List.length_nil] at hlen
     simp (disch := ((try simp only [List.length_append, List.length_cons, List.length_nil]); omega)) only [go_sem, ↓reduceIte, Nat.reduceEqDiff, Nat.reduceAdd, Nat.reduceLeDiff, Nat.zero_ne_one, Nat.one_ne_zero, reduceCtorEq, beq_self_eq_true, Int.reduceBEq, le_str, Tryz.f16, hk, hks, tmsV_cons, tmsV_nil, tmC_eq, Int.le_refl, Int.toNat_zero, d1, d3, List.length_append, List.length_cons, List.length_nil, Nat.zero_add, List.append_assoc, List.cons_append, List.nil_append]
   · simp only [List.length_append, List.length_cons, List.length_nil] at hlen
     simp (disch := ((try simp only [List.length_append, List.length_cons, List.length_nil]); omega)) only [go_sem, ↓reduceIte, Nat.reduceEqDiff, Nat.reduceAdd, Nat.reduceLeDiff, Nat.zero_ne_one, Nat.one_ne_zero, reduceCtorEq, beq_self_eq_true, Int.reduceBEq, le_str, Tryz.f16, hk, hks, tmsV_cons, tmsV_nil, tmC_eq, Int.le_refl, Int.toNat_zero, d1, List.length_append, List.length_cons, List.length_nil, Nat.zero_add, List.append_assoc, List.cons_append, List.nil_append]
   · have d3 := tprint_den F e.ty t (by omega) hT
     rw [tyV_eq] at d3
     simp only [List.length_append, List.length_cons, List.length_nil] at hlen
     simp (disch := ((try simp only [List.length_append, List.length_cons, List.length_nil]); omega)) only [go_sem, ↓reduceIte, Nat.reduceEqDiff, Nat.reduceAdd, Nat.reduceLeDiff, Nat.zero_ne_one, Nat.one_ne_zero, reduceCtorEq, beq_self_eq_true, Int.reduceBEq, le_str, Tryz.f16, hk, hks, tmsV_cons, tmsV_nil, tmC_eq, Int.le_refl, Int.toNat_zero, d1, d3, List.length_append, List.length_cons, List.length_nil, Nat.zero_add, List.append_assoc, List.cons_append, List.nil_append]
   · have d3 := cprint_den F F e.co c (by omega) hC
     rw [cxC_eq] at d3
     simp only [List.length_append, List.length_cons, List.length_nil] at hlen
     simp (disch := ((try simp only [List.length_append, List.length_cons, List.length_nil]); omega)) only [go_sem, ↓reduceIte, Nat.reduceEqDiff, Nat.reduceAdd, Nat.reduceLeDiff, Nat.zero_ne_one, Nat.one_ne_zero, reduceCtorEq, beq_self_eq_true, Int.reduceBEq, le_str, Tryz.f16, hk, hks, tmsV_cons, tmsV_nil, tmC_eq, Int.le_refl, Int.toNat_zero, d1, d3, List.length_append, List.length_cons, List.length_nil, Nat.zero_add, List.append_assoc, List.cons_append, List.nil_append]
   · have d3 := cprint_den F F e.co c (by omega) hC
     rw [cxC_eq] at d3
     simp only [List.length_append, List.length_cons, List.length_nil] at hlen
     simp (disch := ((try simp only [List.length_append, List.length_cons, List.length_nil]); omega)) only [go_sem, ↓reduceIte, Nat.reduceEqDiff, Nat.reduceAdd, Nat.reduceLeDiff, Nat.zero_ne_one, Nat.one_ne_zero, reduceCtorEq, beq_self_eq_true, Int.reduceBEq, le_str, Tryz.f16, hk, hks, tmsV_cons, tmsV_nil, tmC_eq, Int.le_refl, Int.toNat_zero, d1, d3, List.length_append, List.length_cons, List.length_nil, Nat.zero_add, List.append_assoc, List.cons_append, List.nil_append]
   · have d3 := tprint_den F e.ty t (by omega) hT
     rw [tyV_eq] at d3
     obtain ⟨g1, g2⟩ := altsM_get hss
     have hal := ta_len e.alts
     simp only [List.length_append, List.length_cons, List.length_nil] at hlen
     have dj := join_den ss [59, 32] (by omega) (by omega)
     obtain ⟨cs, hcs⟩ : ∃ cs : List AVal, cs = [.int .i64 e.kind, .str e.name, .int .i64 e.ty.kind, .str e.ty.name, .int .i64 e.ty.n, .slice (tysV e.ty.args), .int .i64 e.co.kind, .str e.co.name, .int .i64 e.co.n, .int .i64 e.co.ty.kind, .str e.co.ty.name, .int .i64 e.co.ty.n, .slice (tysV e.co.ty.args), .slice (cxsV e.co.kids), .slice (tmsV e.kids), .slice (tasV e.alts)] := ⟨_, rfl⟩
     simp only [go_sem, Int.reduceBEq, Tryz.f16, hk, tasV_len]
     refine run_for (fun i => ⟨[(1, .ptr (.loc 1) 0), (3, .own 9 0 ((ss.take i).map .str)), (128, .slice (tasV e.alts)), (129, .int .i64 e.alts.length), (130, .int .i64 i)], [], [(1, cs)], 1⟩) e.alts.length ?_ ?_ ?_
     · simp only [go_sem, hcs, hk, List.take_zero, List.map_nil]
     · intro i hi hr
       obtain ⟨y, hy⟩ : ∃ y, e.alts[i]? = some y := ⟨e.alts[i], List.getElem?_eq_getElem hi⟩
       have hyt := ta_vars (List.mem_of_getElem? hy)
       obtain ⟨b, hb, hsb⟩ := g2 i y hy
       have hml := join_mem_len (sep := [59, 32]) (List.mem_of_getElem? hsb)
       have hyn : y.types.length + y.cos.length + y.vars.length < 1000000 := by
        have := ta_tot_mem (List.mem_of_getElem? hy)
        omega
       have d := faprint_den y b (ih y.body b (by omega) hb) (by omega) hyn
       have hg : (tasV e.alts)[i]? = some (taV y) := by rw [tasV_get, hy]; rfl
       have hlt := natlt_t hi
       have w1 : IntKind.i64.wrap ((i : Int) + 1) = ((i + 1 : Nat) : Int) := wrapN (i + 1) (by omega)
       have hap : ((ss.take i).map AVal.str).length + 1 ≤ appMax := by simp; unfold appMax; omega
       have hmap : (ss.take i).map AVal.str ++ [.str (altM y b)] = (ss.take (i + 1)).map AVal.str := by rw [take_snoc hsb]; simp
       rw [taV_eq, tmC_eq] at hg d
       simp only [go_sem, hlt, natge0, tonat, hg, d, hap, hmap]
       refine hr _ ?_
       simp only [go_sem, w1, hcs, hk]
     · have hlt := natlt_f (Nat.lt_irrefl e.alts.length)
       have htk2 : ss.take e.alts.length = ss := by rw [← g1]; exact List.take_length
       simp (disch := ((try simp only [List.length_append, List.length_cons, List.length_nil]); omega)) only [go_sem, ↓reduceIte, Nat.reduceEqDiff, Nat.reduceAdd, Nat.reduceLeDiff, Nat.one_ne_zero, reduceCtorEq, beq_self_eq_true, le_str, hlt, hcs, htk2, hks, tmsV_cons, tmsV_nil, tmC_eq, Int.le_refl, Int.toNat_zero, d1, d3, dj, List.length_append, List.length_cons, List.length_nil, Nat.zero_add, List.append_assoc, List.cons_append, List.nil_append]
end Go.Proofs
namespace Go.Proofs
open Go.Av
set_option maxHeartbeats 32000000
set_option maxRecDepth 100000
/-! coercions, written: the document's -/
theorem joinTail_app (sep : List UInt8) (a b : List (List UInt8)) : Lib.joinTail sep (a ++ b) = Lib.joinTail sep a ++ Lib.joinTail sep b := by simp [Lib.joinTail]
theorem joinTail_one (sep x : List UInt8) : Lib.joinTail sep [x] = sep ++ x := by simp [Lib.joinTail]
theorem joinTail_nil (sep : List UInt8) : Lib.joinTail sep [] = [] := by simp [Lib.joinTail]
theorem join_app {a : List (List UInt8)} (h : a ≠ []) (b : List (List UInt8)) (sep : List UInt8) : Lib.join (a ++ b) sep = Lib.join a sep ++ Lib.joinTail sep b := by
 cases a with
 | nil => exact absurd rfl h
 | cons x r => rw [List.cons_append, Lib.join_cons, Lib.join_cons, joinTail_app, List.append_assoc]
def wordsC : List AVal := [.str [83, 121, 109], .str [84, 114, 97, 110, 115], .str [67, 111, 110], .str [70, 117, 110], .str [65, 108, 108], .str [78, 116, 104], .str [73, 110, 115, 116]]
theorem wordsC_get {k : Int} (h : 3 ≤ k ∧ k ≤ 9) : wordsC[(k - 3).toNat]? = some (.str (wordC k)) := by
 obtain ⟨h1, h2⟩ := h
 have : k = 3 ∨ k = 4 ∨ k = 5 ∨ k = 6 ∨ k = 7 ∨ k = 8 ∨ k = 9 := by omega
 rcases this with rfl | rfl | rfl | rfl | rfl | rfl | rfl <;> rfl
theorem r5print_den (F : Nat) : ∀ (f : Nat) (c : Cx) (s : List UInt8), c.tot < 1000000 → kpR F f c = some s → den E 65 [.agg (cxC c)] [] = some (.str s, []) := by
 intro f
 induction f with
 | zero => intro c s _ h; cases h
 | succ f ih =>
 intro c s ht h
 have htk := cx_tot_kids c
 have hszp := sz_pos c.ty
 simp only [kpR] at h
 rw [den_eq prim_65, body_65, cxC_eq]
 cases k1 : c.kind == 1
 · cases k2 : c.kind == 2
   · rw [k1, k2] at h
     simp only [Bool.false_eq_true, if_false] at h
     split at h
     · rename_i hk
       split at h
       · cases h
       · rename_i hs hhs
         split at h
         · cases h
         · rename_i ss hss
           obtain ⟨g1, g2⟩ := allR_get hss
           have hlk := cx_tots_len c.kids
           have hg3 := wordsC_get hk
           have hw3 : IntKind.i64.wrap (c.kind - 3) = c.kind - 3 := IntWalk.i64_in _ (by omega)
           have h03 : (0 ≤ c.kind - 3) = True := by simp; omega
           have hw := headW_cases hhs
           have hne : hs ≠ [] := by rcases hw with h | h | h | h <;> simp [h]
           have hd : (c.kind == 8) = true → den E 84 [.int .i64 c.n] [] = some (.str (Lib.itoa c.n), []) := by
            intro k8
            rcases hw with h | h | h | h
            · rw [h.2.2.1] at k8; cases k8
            · rw [h.2.2.1] at k8; cases k8
            · have := decimal_den c.n.toNat (by omega)
              rwa [show ((c.n.toNat : Nat) : Int) = c.n by omega] at this
            · rw [h.2.2.1] at k8; cases k8
           unfold wordsC at hg3
           obtain ⟨H, hH⟩ : ∃ H, H = [40] ++ Lib.join hs [32] := ⟨_, rfl⟩
           cases k9 : c.kind == 9
           · rw [k9] at h
             simp only [Bool.false_eq_true, if_false] at h
             obtain ⟨rfl, hlen⟩ := short_some h
             unfold lim at hlen
             rw [join_app hne, ← List.append_assoc, ← hH] at hlen ⊢
             have hHl := congrArg List.length hH
             simp only [List.length_append, List.length_cons, List.length_nil] at hlen hHl
             rcases hw with ⟨k5, k7, k8, hse⟩ | ⟨k5, k7, k8, hse⟩ | ⟨k5, k7, k8, hn, hse⟩ | ⟨k5, k7, k8, hse⟩
             all_goals (
              rw [hse] at hH
              simp only [Lib.join_cons, joinTail_one, joinTail_nil, List.append_nil, List.cons_append, List.nil_append] at hH
              have hHl2 := congrArg List.length hH
              simp only [List.length_append, List.length_cons] at hHl2
              try (have hd' := hd k8)
              first
               | simp (disch := ((try simp only [List.length_append, List.length_cons, List.length_nil]); omega)) only [go_sem, ↓reduceIte, Nat.reduceEqDiff, Nat.reduceAdd, Nat.reduceMul, Nat.reduceLeDiff, Nat.zero_ne_one, Nat.one_ne_zero, Nat.reduceLT, reduceCtorEq, beq_self_eq_true, le_str, Tryz.f65, k1, k2, k5, k7, k8, hw3, h03, hg3, hd', List.length_append, List.length_cons, List.length_nil, Nat.zero_add, List.append_assoc, List.cons_append, List.nil_append]
               | simp (disch := ((try simp only [List.length_append, List.length_cons, List.length_nil]); omega)) only [go_sem, ↓reduceIte, Nat.reduceEqDiff, Nat.reduceAdd, Nat.reduceMul, Nat.reduceLeDiff, Nat.zero_ne_one, Nat.one_ne_zero, Nat.reduceLT, reduceCtorEq, beq_self_eq_true, le_str, Tryz.f65, k1, k2, k5, k7, k8, hw3, h03, hg3, List.length_append, List.length_cons, List.length_nil, Nat.zero_add, List.append_assoc, List.cons_append, List.nil_append]
              refine run_for (fun i => ⟨[(1, .ptr (.loc 1) 0), (4, .str (H ++ Lib.joinTail [32] (ss.take i))), (5, .int .i64 i)], [], [(1, [.int .i64 c.kind, .str c.name, .int .i64 c.n, .int .i64 c.ty.kind, .str c.ty.name, .int .i64 c.ty.n, .slice (tysV c.ty.args), .slice (cxsV c.kids)])], 1⟩) c.kids.length ?_ ?_ ?_
              · simp only [go_sem, hH, List.take_zero, joinTail_nil, List.append_nil]
              · intro i hi hr
                obtain ⟨y, hy⟩ : ∃ y, c.kids[i]? = some y := ⟨c.kids[i], List.getElem?_eq_getElem hi⟩
                have hyt := cx_tots_mem (List.mem_of_getElem? hy)
                obtain ⟨b, hb, hsb⟩ := g2 i y hy
                have d := ih y b (by omega) hb
                have hg : (cxsV c.kids)[i]? = some (.agg (cxC y)) := by rw [cxsV_get, hy]; rfl
                rw [cxC_eq] at d hg
                have hw1 : IntKind.i64.wrap ((i : Int) + 1) = ((i + 1 : Nat) : Int) := wrapN (i + 1) (by omega)
                have hlt := natlt_t hi
                have hjt := Lib.joinTail_take_succ [32] ss i b hsb
                have hjl := Lib.joinTail_take_le [32] ss (i + 1)
                rw [hjt] at hjl
                simp only [List.length_append, List.length_cons, List.length_nil] at hjl
                simp (disch := ((try simp only [List.length_append, List.length_cons, List.length_nil]); omega)) only [go_sem, ↓reduceIte, Nat.reduceEqDiff, Nat.reduceAdd, Nat.reduceLeDiff, Nat.one_ne_zero, le_str, hlt, cxsV_len, natge0, tonat, hg, d, List.length_append, List.length_cons, List.length_nil]
                refine hr _ ?_
                simp only [go_sem, hw1, hjt, List.append_assoc]
              · have hlt := natlt_f (Nat.lt_irrefl c.kids.length)
                have htk2 : ss.take c.kids.length = ss := by rw [← g1]; exact List.take_length
                simp (disch := ((try simp only [List.length_append, List.length_cons, List.length_nil]); omega)) only [go_sem, ↓reduceIte, Nat.reduceEqDiff, Nat.reduceAdd, Nat.one_ne_zero, beq_self_eq_true, le_str, hlt, cxsV_len, k9, htk2, List.length_append, List.length_cons, List.length_nil, List.append_assoc])
           · rw [k9] at h
             simp only [if_true] at h
             split at h
             · cases h
             · rename_i t hT
               obtain ⟨rfl, hlen⟩ := short_some h
               unfold lim at hlen
               have d9 := rprint_den F c.ty t (by omega) hT
               rw [tyV_eq] at d9
               have hja : Lib.join (hs ++ ss ++ [[60] ++ t ++ [62]]) [32] = Lib.join hs [32] ++ (Lib.joinTail [32] ss ++ ([32] ++ ([60] ++ t ++ [62]))) := by rw [List.append_assoc, join_app hne, joinTail_app, joinTail_one]
               rw [hja, ← List.append_assoc [40], ← hH] at hlen ⊢
               have hHl := congrArg List.length hH
               simp only [List.length_append, List.length_cons, List.length_nil] at hlen hHl
               have k5 := kkC (b := 5) k9 (by decide)
               have k7 := kkC (b := 7) k9 (by decide)
               have k8 := kkC (b := 8) k9 (by decide)
               have hse : hs = [wordC c.kind] := by
                rcases hw with h | h | h | h
                · rw [k5] at h; exact absurd h.1 (by decide)
                · rw [k7] at h; exact absurd h.2.1 (by decide)
                · rw [k8] at h; exact absurd h.2.2.1 (by decide)
                · exact h.2.2.2
               rw [hse] at hH
               simp only [Lib.join_cons, joinTail_nil, List.append_nil, List.cons_append, List.nil_append] at hH
               have hHl2 := congrArg List.length hH
               simp only [List.length_cons] at hHl2
               simp (disch := ((try simp only [List.length_append, List.length_cons, List.length_nil]); omega)) only [go_sem, ↓reduceIte, Nat.reduceEqDiff, Nat.reduceAdd, Nat.reduceMul, Nat.reduceLeDiff, Nat.zero_ne_one, Nat.one_ne_zero, Nat.reduceLT, reduceCtorEq, beq_self_eq_true, le_str, Tryz.f65, k1, k2, k5, k7, k8, hw3, h03, hg3, List.length_cons, List.length_nil, Nat.zero_add, List.append_assoc, List.cons_append, List.nil_append]
               refine run_for (fun i => ⟨[(1, .ptr (.loc 1) 0), (4, .str (H ++ Lib.joinTail [32] (ss.take i))), (5, .int .i64 i)], [], [(1, [.int .i64 c.kind, .str c.name, .int .i64 c.n, .int .i64 c.ty.kind, .str c.ty.name, .int .i64 c.ty.n, .slice (tysV c.ty.args), .slice (cxsV c.kids)])], 1⟩) c.kids.length ?_ ?_ ?_
               · simp only [go_sem, hH, List.take_zero, joinTail_nil, List.append_nil]
               · intro i hi hr
                 obtain ⟨y, hy⟩ : ∃ y, c.kids[i]? = some y := ⟨c.kids[i], List.getElem?_eq_getElem hi⟩
                 have hyt := cx_tots_mem (List.mem_of_getElem? hy)
                 obtain ⟨b, hb, hsb⟩ := g2 i y hy
                 have d := ih y b (by omega) hb
                 have hg : (cxsV c.kids)[i]? = some (.agg (cxC y)) := by rw [cxsV_get, hy]; rfl
                 rw [cxC_eq] at d hg
                 have hw1 : IntKind.i64.wrap ((i : Int) + 1) = ((i + 1 : Nat) : Int) := wrapN (i + 1) (by omega)
                 have hlt := natlt_t hi
                 have hjt := Lib.joinTail_take_succ [32] ss i b hsb
                 have hjl := Lib.joinTail_take_le [32] ss (i + 1)
                 rw [hjt] at hjl
                 simp only [List.length_append, List.length_cons, List.length_nil] at hjl
                 simp (disch := ((try simp only [List.length_append, List.length_cons, List.length_nil]); omega)) only [go_sem, ↓reduceIte, Nat.reduceEqDiff, Nat.reduceAdd, Nat.reduceLeDiff, Nat.one_ne_zero, le_str, hlt, cxsV_len, natge0, tonat, hg, d, List.length_append, List.length_cons, List.length_nil]
                 refine hr _ ?_
                 simp only [go_sem, hw1, hjt, List.append_assoc]
               · have hlt := natlt_f (Nat.lt_irrefl c.kids.length)
                 have htk2 : ss.take c.kids.length = ss := by rw [← g1]; exact List.take_length
                 simp (disch := ((try simp only [List.length_append, List.length_cons, List.length_nil]); omega)) only [go_sem, ↓reduceIte, Nat.reduceEqDiff, Nat.reduceAdd, Nat.reduceLeDiff, Nat.one_ne_zero, reduceCtorEq, beq_self_eq_true, le_str, hlt, cxsV_len, k9, htk2, d9, List.length_append, List.length_cons, List.length_nil, List.append_assoc, List.cons_append, List.nil_append]
     · cases h
   · rw [k1, k2] at h
     simp only [Bool.false_eq_true, if_false, if_true] at h
     split at h
     · cases h
     · rename_i t hT
       obtain ⟨rfl, hlen⟩ := short_some h
       unfold lim at hlen
       simp only [List.length_append, List.length_cons, List.length_nil] at hlen
       have d := rprint_den F c.ty t (by omega) hT
       rw [tyV_eq] at d
       simp (disch := ((try simp only [List.length_append, List.length_cons, List.length_nil]); omega)) only [go_sem, ↓reduceIte, Nat.reduceEqDiff, Nat.reduceAdd, Nat.reduceLeDiff, Nat.zero_ne_one, Nat.one_ne_zero, reduceCtorEq, le_str, Tryz.f65, k1, k2, d, List.length_cons, List.length_nil, Nat.zero_add, List.cons_append, List.nil_append]
 · rw [k1] at h
   simp only [if_true] at h
   obtain ⟨rfl, hlen⟩ := short_some h
   simp only [go_sem, Tryz.f65, k1]
end Go.Proofs
namespace Go.Proofs
open Go.Av
set_option maxHeartbeats 32000000
set_option maxRecDepth 100000
/-! terms, written: the document's -/
theorem altW_join (y : Ta) : Lib.join (altW y) [32] = y.con ++ Lib.joinTail [32] (y.types.map (64 :: ·)) ++ Lib.joinTail [32] (y.cos.map (126 :: ·)) ++ Lib.joinTail [32] y.vars := by
 unfold altW
 rw [List.append_assoc, List.append_assoc, List.singleton_append, Lib.join_cons, joinTail_app, joinTail_app]
 simp only [List.append_assoc, List.cons_append, List.nil_append]
theorem map_get {α β : Type} (f : α → β) {l : List α} {i : Nat} {x : α} (h : l[i]? = some x) : (l.map f)[i]? = some (f x) := by simp [h]
theorem r12tprint_den (F : Nat) : ∀ (f : Nat) (e : Tm) (s : List UInt8), e.tot < 1000000 → mpR F f e = some s → den E 18 [.agg (tmC e)] [] = some (.str s, []) := by
 intro f
 induction f with
 | zero => intro e s _ h; cases h
 | succ f ih =>
 intro e s ht h
 have htk := tm_tot_eq e
 have hszp := sz_pos e.ty
 have hcp := cx_tot_pos e.co
 obtain ⟨hlen, hc⟩ := mpR_cases h
 unfold lim at hlen
 rw [den_eq prim_18, body_18, tmC_eq]
 rcases hc with ⟨hk, rfl⟩ | ⟨hk, x, y, a, b, hks, ha, hb, rfl⟩ | ⟨hk, x, y, t, a, b, hks, hT, ha, hb, rfl⟩ | ⟨x, a, hks, ha, hc⟩
 · rcases hk with hk | hk
   · simp only [go_sem, Tryz.f18, hk]
   · simp only [go_sem, Int.reduceBEq, Tryz.f18, hk]
 · rw [hks, tm_tots_two] at htk
   have d1 := ih x a (by omega) ha
   have d2 := ih y b (by omega) hb
   rw [tmC_eq] at d1 d2
   simp only [List.length_append, List.length_cons, List.length_nil] at hlen
   simp (disch := ((try simp only [List.length_append, List.length_cons, List.length_nil]); omega)) only [go_sem, ↓reduceIte, Nat.reduceEqDiff, Nat.reduceAdd, Nat.reduceLeDiff, Nat.zero_ne_one, Nat.one_ne_zero, reduceCtorEq, beq_self_eq_true, Int.reduceBEq, le_str, Tryz.f18, hk, hks, tmsV_cons, tmsV_nil, tmC_eq, Int.le_refl, Int.toNat_zero, Int.toNat_one, Int.zero_le_ofNat, d1, d2, List.length_append, List.length_cons, List.length_nil, Nat.zero_add, List.append_assoc, List.cons_append, List.nil_append]
 · rw [hks, tm_tots_two] at htk
   have d1 := ih x a (by omega) ha
   have d2 := ih y b (by omega) hb
   have d3 := rprint_den F e.ty t (by omega) hT
   rw [tmC_eq] at d1 d2
   rw [tyV_eq] at d3
   simp only [List.length_append, List.length_cons, List.length_nil] at hlen
   simp (disch := ((try simp only [List.length_append, List.length_cons, List.length_nil]); omega)) only [go_sem, ↓reduceIte, Nat.reduceEqDiff, Nat.reduceAdd, Nat.reduceLeDiff, Nat.zero_ne_one, Nat.one_ne_zero, reduceCtorEq, beq_self_eq_true, Int.reduceBEq, le_str, Tryz.f18, hk, hks, tmsV_cons, tmsV_nil, tmC_eq, Int.le_refl, Int.toNat_zero, Int.toNat_one, Int.zero_le_ofNat, d1, d2, d3, List.length_append, List.length_cons, List.length_nil, Nat.zero_add, List.append_assoc, List.cons_append, List.nil_append]
 · rw [hks, tm_tots_one] at htk
   have d1 := ih x a (by omega) ha
   rw [tmC_eq] at d1
   rcases hc with ⟨hk, t, hT, rfl⟩ | ⟨hk, rfl⟩ | ⟨hk, t, hT, rfl⟩ | ⟨hk, c, hC, rfl⟩ | ⟨hk, c, hC, rfl⟩ | ⟨hk, t, ss, hT, hss, rfl⟩
   · have d3 := rprint_den F e.ty t (by omega) hT
     rw [tyV_eq] at d3
     simp only [List.length_append, List.length_cons, List.length_nil] at hlen
     simp (disch := ((try simp only [List.length_append, List.length_cons, List.length_nil]); omega)) only [go_sem, ↓reduceIte, Nat.reduceEqDiff, Nat.reduceAdd, Nat.reduceLeDiff, Nat.zero_ne_one, Nat.one_ne_zero, reduceCtorEq, beq_self_eq_true, Int.reduceBEq, le_str, Tryz.f18, hk, hks, tmsV_cons, tmsV_nil, tmC_eq, Int.le_refl, Int.toNat_zero, d1, d3, List.length_append, List.length_cons, List.length_nil, Nat.zero_add, List.append_assoc, List.cons_append, List.nil_append]
   · simp only [List.length_append, List.length_cons, List.length_nil] at hlen
     simp (disch := ((try simp only [List.length_append, List.length_cons, List.length_nil]); omega)) only [go_sem, ↓reduceIte, Nat.reduceEqDiff, Nat.reduceAdd, Nat.reduceLeDiff, Nat.zero_ne_one, Nat.one_ne_zero, reduceCtorEq, beq_self_eq_true, Int.reduceBEq, le_str, Tryz.f18, hk, hks, tmsV_cons, tmsV_nil, tmC_eq, Int.le_refl, Int.toNat_zero, d1, List.length_append, List.length_cons, List.length_nil, Nat.zero_add, List.append_assoc, List.cons_append, List.nil_append]
   · have d3 := rprint_den F e.ty t (by omega) hT
     rw [tyV_eq] at d3
     simp only [List.length_append, List.length_cons, List.length_nil] at hlen
     simp (disch := ((try simp only [List.length_append, List.length_cons, List.length_nil]); omega)) only [go_sem, ↓reduceIte, Nat.reduceEqDiff, Nat.reduceAdd, Nat.reduceLeDiff, Nat.zero_ne_one, Nat.one_ne_zero, reduceCtorEq, beq_self_eq_true, Int.reduceBEq, le_str, Tryz.f18, hk, hks, tmsV_cons, tmsV_nil, tmC_eq, Int.le_refl, Int.toNat_zero, d1, d3, List.length_append, List.length_cons, List.length_nil, Nat.zero_add, List.append_assoc, List.cons_append, List.nil_append]
   · have d3 := r5print_den F F e.co c (by omega) hC
     rw [cxC_eq] at d3
     simp only [List.length_append, List.length_cons, List.length_nil] at hlen
     simp (disch := ((try simp only [List.length_append, List.length_cons, List.length_nil]); omega)) only [go_sem, ↓reduceIte, Nat.reduceEqDiff, Nat.reduceAdd, Nat.reduceLeDiff, Nat.zero_ne_one, Nat.one_ne_zero, reduceCtorEq, beq_self_eq_true, Int.reduceBEq, le_str, Tryz.f18, hk, hks, tmsV_cons, tmsV_nil, tmC_eq, Int.le_refl, Int.toNat_zero, d1, d3, List.length_append, List.length_cons, List.length_nil, Nat.zero_add, List.append_assoc, List.cons_append, List.nil_append]
   · have d3 := r5print_den F F e.co c (by omega) hC
     rw [cxC_eq] at d3
     simp only [List.length_append, List.length_cons, List.length_nil] at hlen
     simp (disch := ((try simp only [List.length_append, List.length_cons, List.length_nil]); omega)) only [go_sem, ↓reduceIte, Nat.reduceEqDiff, Nat.reduceAdd, Nat.reduceLeDiff, Nat.zero_ne_one, Nat.one_ne_zero, reduceCtorEq, beq_self_eq_true, Int.reduceBEq, le_str, Tryz.f18, hk, hks, tmsV_cons, tmsV_nil, tmC_eq, Int.le_refl, Int.toNat_zero, d1, d3, List.length_append, List.length_cons, List.length_nil, Nat.zero_add, List.append_assoc, List.cons_append, List.nil_append]
   · have d3 := rprint_den F e.ty t (by omega) hT
     rw [tyV_eq] at d3
     obtain ⟨g1, g2⟩ := altsM_get hss
     have hal := ta_len e.alts
     obtain ⟨H, hH⟩ : ∃ H, H = [40, 99, 97, 115, 101, 32] ++ a ++ [32, 58, 32] ++ t ++ [32, 111, 102, 32, 123] := ⟨_, rfl⟩
     rw [← hH] at hlen ⊢
     have hHl := congrArg List.length hH
     simp only [List.length_append, List.length_cons, List.length_nil] at hlen hHl
     simp only [List.append_assoc, List.nil_append, List.cons_append] at hH
     obtain ⟨cs, hcs⟩ : ∃ cs : List AVal, cs = [.int .i64 e.kind, .str e.name, .int .i64 e.ty.kind, .str e.ty.name, .int .i64 e.ty.n, .slice (tysV e.ty.args), .int .i64 e.co.kind, .str e.co.name, .int .i64 e.co.n, .int .i64 e.co.ty.kind, .str e.co.ty.name, .int .i64 e.co.ty.n, .slice (tysV e.co.ty.args), .slice (cxsV e.co.kids), .slice (tmsV e.kids), .slice (tasV e.alts)] := ⟨_, rfl⟩
     simp (disch := ((try simp only [List.length_append, List.length_cons, List.length_nil]); omega)) only [go_sem, ↓reduceIte, Nat.reduceEqDiff, Nat.reduceAdd, Nat.reduceLeDiff, Nat.zero_ne_one, Nat.one_ne_zero, reduceCtorEq, Int.reduceBEq, le_str, Tryz.f18, hk, hks, tmsV_cons, tmsV_nil, tmC_eq, Int.le_refl, Int.toNat_zero, d1, d3, List.length_append, List.length_cons, List.length_nil, Nat.zero_add, List.append_assoc, List.cons_append, List.nil_append]
     refine run_for (fun i => ⟨[(1, .ptr (.loc 1) 0), (3, .str (H ++ Lib.join (ss.take i) [59, 32])), (4, .int .i64 i)], [], [(1, cs)], 1⟩) e.alts.length ?_ ?_ ?_
     · simp only [go_sem, hcs, hk, hks, tmsV_cons, tmsV_nil, tmC_eq, hH, List.take_zero, Lib.join_nil, List.append_nil]
     · intro i hi hr
       obtain ⟨y, hy⟩ : ∃ y, e.alts[i]? = some y := ⟨e.alts[i], List.getElem?_eq_getElem hi⟩
       have hyt := ta_tot_mem (List.mem_of_getElem? hy)
       obtain ⟨b, hb, hsb⟩ := g2 i y hy
       have d2 := ih y.body b (by omega) hb
       have hg : (tasV e.alts)[i]? = some (taV y) := by rw [tasV_get, hy]; rfl
       rw [taV_eq, tmC_eq] at hg
       rw [tmC_eq] at d2
       have hlt := natlt_t hi
       have w1 : IntKind.i64.wrap ((i : Int) + 1) = ((i + 1 : Nat) : Int) := wrapN (i + 1) (by omega)
       have hjl := join_take_le ss [59, 32] (i + 1)
       obtain ⟨Q, hQ⟩ : ∃ Q, Q = H ++ Lib.join (ss.take i) [59, 32] ++ (if decide (0 < i) then [59, 32] else []) := ⟨_, rfl⟩
       obtain ⟨r1, hr1⟩ : ∃ r1, r1 = y.types.map (64 :: ·) := ⟨_, rfl⟩
       obtain ⟨r2, hr2⟩ : ∃ r2, r2 = y.cos.map (126 :: ·) := ⟨_, rfl⟩
       have hfin : H ++ Lib.join (ss.take (i + 1)) [59, 32] = Q ++ y.con ++ Lib.joinTail [32] r1 ++ Lib.joinTail [32] r2 ++ Lib.joinTail [32] y.vars ++ [32, 45, 62, 32] ++ b := by
        rw [join_step [59, 32] hsb, hQ, altM, altW_join, hr1, hr2]
        simp only [List.append_assoc]
       have hfl := congrArg List.length hfin
       simp only [List.length_append, List.length_cons, List.length_nil] at hfl
       have hQl := congrArg List.length hQ
       have gt0 := natgt0 i
       obtain ⟨ys, hys⟩ : ∃ ys : List AVal, ys = [.str y.con, .slice (y.types.map .str), .slice (y.cos.map .str), .slice (y.vars.map .str), .int .i64 y.body.kind, .str y.body.name, .int .i64 y.body.ty.kind, .str y.body.ty.name, .int .i64 y.body.ty.n, .slice (tysV y.body.ty.args), .int .i64 y.body.co.kind, .str y.body.co.name, .int .i64 y.body.co.n, .int .i64 y.body.co.ty.kind, .str y.body.co.ty.name, .int .i64 y.body.co.ty.n, .slice (tysV y.body.co.ty.args), .slice (cxsV y.body.co.kids), .slice (tmsV y.body.kids), .slice (tasV y.body.alts)] := ⟨_, rfl⟩
       cases hb0 : decide (0 < i) <;> rw [hb0] at hQ gt0 hQl
       all_goals (
        simp only [Bool.false_eq_true, if_false, if_true, List.append_nil] at hQ hQl
        simp only [List.length_append, List.length_cons, List.length_nil] at hQl
        simp (disch := ((try simp only [List.length_append, List.length_cons, List.length_nil]); omega)) only [go_sem, ↓reduceIte, Nat.reduceEqDiff, Nat.reduceAdd, Nat.reduceLeDiff, Nat.one_ne_zero, Nat.reduceLT, le_str, hcs, hlt, tasV_len, natge0, tonat, hg, gt0, ← hQ, List.length_append, List.length_cons, List.length_nil]
        refine run_for (fun j => ⟨[(1, .ptr (.loc 1) 0), (3, .str (Q ++ y.con ++ Lib.joinTail [32] (r1.take j))), (4, .int .i64 i), (5, .ptr (.loc 5) 0), (6, .int .i64 j)], [], [(1, cs), (5, ys)], 1⟩) y.types.length ?_ ?_ ?_
        · simp only [go_sem, hcs, hys, List.take_zero, joinTail_nil, List.append_nil]
        · intro j hj hr2'
          obtain ⟨v, hv⟩ : ∃ v, y.types[j]? = some v := ⟨y.types[j], List.getElem?_eq_getElem hj⟩
          have hlt2 := natlt_t hj
          have w2 : IntKind.i64.wrap ((j : Int) + 1) = ((j + 1 : Nat) : Int) := wrapN (j + 1) (by omega)
          have hjt := Lib.joinTail_take_succ [32] r1 j (64 :: v) (by rw [hr1]; exact map_get _ hv)
          have hjl2 := Lib.joinTail_take_le [32] r1 (j + 1)
          rw [hjt] at hjl2
          simp only [List.length_append, List.length_cons, List.length_nil] at hjl2
          simp (disch := ((try simp only [List.length_append, List.length_cons, List.length_nil]); omega)) only [go_sem, ↓reduceIte, Nat.reduceEqDiff, Nat.reduceAdd, Nat.one_ne_zero, le_str, hys, List.length_map, hlt2, natge0, tonat, strs_get, hv, List.length_append, List.length_cons, List.length_nil]
          refine hr2' _ ?_
          simp only [go_sem, hcs, hys, w2, hjt, List.append_assoc, List.cons_append, List.nil_append]
        · have hlt2 := natlt_f (Nat.lt_irrefl y.types.length)
          have htk3 : r1.take y.types.length = r1 := by rw [hr1, ← List.length_map (f := (64 :: ·)), List.take_length]
          simp (disch := ((try simp only [List.length_append, List.length_cons, List.length_nil]); omega)) only [go_sem, ↓reduceIte, Nat.reduceEqDiff, Nat.reduceAdd, Nat.one_ne_zero, beq_self_eq_true, hys, List.length_map, hlt2, htk3]
          refine run_for (fun j => ⟨[(1, .ptr (.loc 1) 0), (3, .str (Q ++ y.con ++ Lib.joinTail [32] r1 ++ Lib.joinTail [32] (r2.take j))), (4, .int .i64 i), (5, .ptr (.loc 5) 0), (7, .int .i64 j)], [], [(1, cs), (5, ys)], 1⟩) y.cos.length ?_ ?_ ?_
          · simp only [go_sem, hcs, hys, List.take_zero, joinTail_nil, List.append_nil]
          · intro j hj hr2'
            obtain ⟨v, hv⟩ : ∃ v, y.cos[j]? = some v := ⟨y.cos[j], List.getElem?_eq_getElem hj⟩
            have hlt2 := natlt_t hj
            have w2 : IntKind.i64.wrap ((j : Int) + 1) = ((j + 1 : Nat) : Int) := wrapN (j + 1) (by omega)
            have hjt := Lib.joinTail_take_succ [32] r2 j (126 :: v) (by rw [hr2]; exact map_get _ hv)
            have hjl2 := Lib.joinTail_take_le [32] r2 (j + 1)
            rw [hjt] at hjl2
            simp only [List.length_append, List.length_cons, List.length_nil] at hjl2
            simp (disch := ((try simp only [List.length_append, List.length_cons, List.length_nil]); omega)) only [go_sem, ↓reduceIte, Nat.reduceEqDiff, Nat.reduceAdd, Nat.one_ne_zero, le_str, hys, List.length_map, hlt2, natge0, tonat, strs_get, hv, List.length_append, List.length_cons, List.length_nil]
            refine hr2' _ ?_
            simp only [go_sem, hcs, hys, w2, hjt, List.append_assoc, List.cons_append, List.nil_append]
          · have hlt3 := natlt_f (Nat.lt_irrefl y.cos.length)
            have htk4 : r2.take y.cos.length = r2 := by rw [hr2, ← List.length_map (f := (126 :: ·)), List.take_length]
            simp (disch := ((try simp only [List.length_append, List.length_cons, List.length_nil]); omega)) only [go_sem, ↓reduceIte, Nat.reduceEqDiff, Nat.reduceAdd, Nat.one_ne_zero, beq_self_eq_true, hys, List.length_map, hlt3, htk4]
            refine run_for (fun j => ⟨[(1, .ptr (.loc 1) 0), (3, .str (Q ++ y.con ++ Lib.joinTail [32] r1 ++ Lib.joinTail [32] r2 ++ Lib.joinTail [32] (y.vars.take j))), (4, .int .i64 i), (5, .ptr (.loc 5) 0), (8, .int .i64 j)], [], [(1, cs), (5, ys)], 1⟩) y.vars.length ?_ ?_ ?_
            · simp only [go_sem, hcs, hys, List.take_zero, joinTail_nil, List.append_nil]
            · intro j hj hr2'
              obtain ⟨v, hv⟩ : ∃ v, y.vars[j]? = some v := ⟨y.vars[j], List.getElem?_eq_getElem hj⟩
              have hlt2 := natlt_t hj
              have w2 : IntKind.i64.wrap ((j : Int) + 1) = ((j + 1 : Nat) : Int) := wrapN (j + 1) (by omega)
              have hjt := Lib.joinTail_take_succ [32] y.vars j v hv
              have hjl2 := Lib.joinTail_take_le [32] y.vars (j + 1)
              rw [hjt] at hjl2
              simp only [List.length_append, List.length_cons, List.length_nil] at hjl2
              simp (disch := ((try simp only [List.length_append, List.length_cons, List.length_nil]); omega)) only [go_sem, ↓reduceIte, Nat.reduceEqDiff, Nat.reduceAdd, Nat.one_ne_zero, le_str, hys, List.length_map, hlt2, natge0, tonat, strs_get, hv, List.length_append, List.length_cons, List.length_nil]
              refine hr2' _ ?_
              simp only [go_sem, hcs, hys, w2, hjt, List.append_assoc, List.cons_append, List.nil_append]
            · have hlt4 := natlt_f (Nat.lt_irrefl y.vars.length)
              simp (disch := ((try simp only [List.length_append, List.length_cons, List.length_nil]); omega)) only [go_sem, ↓reduceIte, Nat.reduceEqDiff, Nat.reduceAdd, Nat.reduceLeDiff, Nat.one_ne_zero, reduceCtorEq, beq_self_eq_true, le_str, hys, List.length_map, hlt4, List.take_length, d2, List.length_append, List.length_cons, List.length_nil]
              refine hr _ ?_
              simp only [go_sem, hcs, w1, hfin])
     · have hlt := natlt_f (Nat.lt_irrefl e.alts.length)
       have htk2 : ss.take e.alts.length = ss := by rw [← g1]; exact List.take_length
       simp (disch := ((try simp only [List.length_append, List.length_cons, List.length_nil]); omega)) only [go_sem, ↓reduceIte, Nat.reduceEqDiff, Nat.reduceAdd, Nat.one_ne_zero, beq_self_eq_true, le_str, hcs, tasV_len, hlt, htk2, List.length_append, List.length_cons, List.length_nil, List.append_assoc]
end Go.Proofs
namespace Go.Proofs
open Go.Av
set_option maxHeartbeats 32000000
set_option maxRecDepth 100000
/-! definitions: the program's reader -/
structure Df where
 name : List UInt8
 ty : Ty
 tm : Tm
def dfC (d : Df) : List AVal := .str d.name :: .int .i64 d.ty.kind :: .str d.ty.name :: .int .i64 d.ty.n :: .slice (tysV d.ty.args) :: tmC d.tm
def dfsV (l : List Df) : List AVal := l.map fun d => .agg (dfC d)
theorem dfsV_len (l : List Df) : (dfsV l).length = l.length := by simp [dfsV]
theorem dfsV_get (l : List Df) (i : Nat) : (dfsV l)[i]? = (l[i]?).map fun d => .agg (dfC d) := by simp [dfsV]
theorem dfsV_nil : dfsV [] = [] := rfl
theorem dfsV_snoc (l : List Df) (n : List UInt8) (t : Ty) (x : Tm) : dfsV l ++ [.agg (.str n :: .int .i64 t.kind :: .str t.name :: .int .i64 t.n :: .slice (tysV t.args) :: tmC x)] = dfsV (l ++ [⟨n, t, x⟩]) := by simp [dfsV, dfC]
def dsR : Nat → List Df → Rd → Option (List Df × Rd)
 | 0, _, _ => none
 | f + 1, acc, r => match nameR f r with
  | none => none
  | some (t, r3) => match trR f .term (takeR r3 6 [61]) with
   | none => none
   | some (x, r5) => if seesR r5 6 [59] then dsR f (acc ++ [⟨wordR r 1 [], t, x⟩]) (takesR r5 6 [59]) else some (acc ++ [⟨wordR r 1 [], t, x⟩], r5)
def GDf (d : Df) : Prop := d.name.length ≤ 16 ∧ GT d.ty ∧ GM d.tm
def Df.tots (l : List Df) : Nat := (l.map fun d => 3 * d.ty.sz + d.tm.tot + 1).sum
theorem dftots_snoc (l : List Df) (d : Df) : Df.tots (l ++ [d]) = Df.tots l + (3 * d.ty.sz + d.tm.tot + 1) := by simp [Df.tots]
theorem dftots_mem {l : List Df} {d : Df} (h : d ∈ l) : 3 * d.ty.sz + d.tm.tot + 1 ≤ Df.tots l := by
 induction l with
 | nil => cases h
 | cons y l ih =>
  simp only [Df.tots, List.map_cons, List.sum_cons] at ih ⊢
  rcases List.mem_cons.1 h with rfl | h
  · omega
  · have := ih h; omega
theorem df_len (l : List Df) : l.length ≤ Df.tots l := by
 induction l with
 | nil => simp
 | cons y l ih => simp only [Df.tots, List.map_cons, List.sum_cons, List.length_cons] at ih ⊢; omega
theorem dsR_ok : ∀ (f : Nat) (acc : List Df) (r : Rd) (l : List Df) (r' : Rd), (∀ t ∈ r.l, tokF t) → dsR f acc r = some (l, r') → r'.bad = false → (∀ d, d ∈ acc → GDf d) →
 (∀ d, d ∈ l → GDf d) ∧ Df.tots l + 3 * r'.l.length ≤ Df.tots acc + 3 * r.l.length
 | 0, _, _, _, _, _, h, _, _ => by cases h
 | f + 1, acc, r, l, r', hl, h, hg, ha => by
  simp only [dsR] at h
  split at h
  · cases h
  · rename_i t r3 h3
    split at h
    · cases h
    · rename_i x r5 h5
      have l3 := (takeR_suf r3 6 [61]).trans (nameR_suf h3)
      have l5 := (trR_suf _ _ _ _ _ h5).trans l3
      have key : r5.bad = false → GDf ⟨wordR r 1 [], t, x⟩ ∧ 3 * t.sz + x.tot + 1 + 3 * r5.l.length + 4 ≤ 3 * r.l.length := by
       intro g5
       have g4 := takeR_len (trR_good h5 g5)
       have i3 := nameR_ok hl h3 g4.2
       have i5 := trR_ok _ _ _ _ _ (memF hl l3) h5 g5
       refine ⟨⟨wordR_ok (tok3 hl) _ _, i3.2.1, i5.1⟩, ?_⟩
       have := i3.2.2
       have := i5.2
       omega
      have snoc : r5.bad = false → ∀ d, d ∈ acc ++ [⟨wordR r 1 [], t, x⟩] → GDf d := by
       intro g5 d hd
       rcases List.mem_append.1 hd with hd | hd
       · exact ha d hd
       · rw [List.mem_singleton.1 hd]; exact (key g5).1
      split at h
      · rename_i hs
        have k := takesR_len hs
        have i := dsR_ok f _ _ _ _ (memF hl ((takesR_suf _ _ _).trans l5)) h hg (snoc k.2.2)
        refine ⟨i.1, ?_⟩
        have h1 := i.2
        rw [dftots_snoc] at h1
        have := (key k.2.2).2
        simp only at h1
        omega
      · injection h with h; injection h with h1 h2; subst h1 h2
        refine ⟨snoc hg, ?_⟩
        rw [dftots_snoc]
        have := (key hg).2
        simp only
        omega
def deepF (d : Df) : Bool := decide (d.ty.depth > 50) || d.tm.deep 0
def endD (l : List Df) (r : Rd) : List Df × Int := if r.bad || decide (0 < r.l.length) then ([], 120) else if l.any deepF then ([], 3) else (l, 0)
def defO (f : Nat) (s : List UInt8) : Option (List Df × Int) := if (scanO s).2 != 0 then some ([], (scanO s).2) else
 if decide (0 < (scanO s).1.length) then (match dsR f [] ⟨(scanO s).1, false⟩ with
  | none => none
  | some (l, r) => some (endD l r)) else some ([], 0)
theorem defO_good {f : Nat} {s : List UInt8} {p : List Df × Int} (h : defO f s = some p) (h0 : p.2 = 0) : (∀ d, d ∈ p.1 → GDf d) ∧ Df.tots p.1 ≤ 12000 ∧ p.1.any deepF = false := by
 obtain ⟨hlen, hok⟩ := scanO_F s
 unfold defO at h
 split at h
 · rename_i he
   injection h with h; subst h
   simp only at h0
   rw [h0] at he
   exact absurd he (by decide)
 · split at h
   · split at h
     · cases h
     · rename_i x r hd
       injection h with h; subst h
       unfold endD at h0 ⊢
       cases hb : r.bad
       · have k := dsR_ok _ _ _ _ _ hok hd hb (fun d hd => by cases hd)
         rw [hb] at h0
         split at h0
         · exact absurd h0 (by decide)
         · split at h0
           · exact absurd h0 (by decide)
           · rename_i h3 h4
             rw [if_neg (by simpa using h3), if_neg h4]
             refine ⟨k.1, ?_, by simpa using h4⟩
             have := k.2
             simp only [Df.tots, List.map_nil, List.sum_nil] at this
             simp only [Df.tots]
             omega
       · rw [hb] at h0; simp at h0
   · injection h with h; subst h
     exact ⟨fun d hd => (by cases hd), by simp [Df.tots], rfl⟩
end Go.Proofs
namespace Go.Proofs
open Go.Av
set_option maxHeartbeats 32000000
set_option maxRecDepth 100000
theorem dfC_eq (d : Df) : dfC d = [.str d.name, .int .i64 d.ty.kind, .str d.ty.name, .int .i64 d.ty.n, .slice (tysV d.ty.args), .int .i64 d.tm.kind, .str d.tm.name, .int .i64 d.tm.ty.kind, .str d.tm.ty.name, .int .i64 d.tm.ty.n, .slice (tysV d.tm.ty.args), .int .i64 d.tm.co.kind, .str d.tm.co.name, .int .i64 d.tm.co.n, .int .i64 d.tm.co.ty.kind, .str d.tm.co.ty.name, .int .i64 d.tm.co.ty.n, .slice (tysV d.tm.co.ty.args), .slice (cxsV d.tm.co.kids), .slice (tmsV d.tm.kids), .slice (tasV d.tm.alts)] := by rw [dfC, tmC_eq]
theorem fparse_den {f : Nat} {s : List UInt8} {p : List Df × Int} (h : defO f s = some p) : den E 42 [.str s] [] = some (.tup [.slice (dfsV p.1), .int .i64 p.2], []) := by
 rw [den_eq prim_42, body_42]
 obtain ⟨hlen, hok⟩ := scanO_F s
 obtain ⟨pos, hT⟩ := scanO_T s
 have hsc := scanAll_den s
 rw [hT] at hsc
 unfold defO at h
 generalize (scanO s).1 = l at *
 generalize (scanO s).2 = e at *
 cases he : e == 0
 · have he' : (e != 0) = true := by rw [bne_not, he]; rfl
   rw [he', if_pos rfl] at h
   injection h with h; subst h
   simp only [go_sem, Tryz.f42, hsc, he', dfsV_nil]
 · have he' : (e != 0) = false := by rw [bne_not, he]; rfl
   rw [he'] at h
   simp only [Bool.false_eq_true, if_false] at h
   have hgt : ∀ l : List Tok, decide (((toksV l).length : Int) > 0) = decide (0 < l.length) := fun l => by rw [toksV_len]; simp
   obtain ⟨y, hy, hyp⟩ : ∃ y : List Df × Rd, (if decide (0 < l.length) then dsR f [] ⟨l, false⟩ else some ([], ⟨l, false⟩)) = some y ∧ p = endD y.1 y.2 := by
    cases hl : decide (0 < l.length)
    · rw [hl] at h
      simp only [Bool.false_eq_true, if_false] at h ⊢
      injection h with h
      refine ⟨_, rfl, ?_⟩
      rw [← h]
      simp only [endD, hl, Bool.or_self, Bool.false_eq_true, if_false, List.any_nil]
    · rw [hl] at h
      simp only [if_true] at h ⊢
      split at h
      · cases h
      · rename_i x r hx
        injection h with h
        exact ⟨(x, r), hx, h.symm⟩
   have hgood : y.2.bad = false → Df.tots y.1 ≤ 12000 := by
    intro hg
    cases hl : decide (0 < l.length)
    · rw [hl] at hy
      simp only [Bool.false_eq_true, if_false] at hy
      injection hy with hy; subst hy
      simp [Df.tots]
    · rw [hl] at hy
      simp only [if_true] at hy
      have := (dsR_ok _ _ _ _ _ hok (show dsR f [] ⟨l, false⟩ = some (y.1, y.2) from hy) hg (fun d hd => by cases hd)).2
      simp only [Df.tots, List.map_nil, List.sum_nil] at this ⊢
      omega
   obtain ⟨fin, hfin⟩ : ∃ fin, fin = some (AVal.tup [.slice (dfsV p.1), .int .i64 p.2], ([] : Heap)) := ⟨_, rfl⟩
   rw [← hfin]
   simp only [go_sem, Tryz.f42, hsc, he', hgt]
   refine run_ind (fun x : Nat × List Df × Rd × Bool => x.2.2.1.l <:+ l ∧ (x.2.2.2 = true → x.2.1.length + x.2.2.1.l.length ≤ l.length) ∧ x.2.1.length ≤ l.length + 1 ∧ (if x.2.2.2 then dsR x.1 x.2.1 x.2.2.1 else some (x.2.1, x.2.2.1)) = some y)
    (fun x => ⟨[(7, .ptr (.loc 25) 0), (8, .own 202 0 (dfsV x.2.1)), (9, .bool x.2.2.2)], [], [(25, rdV x.2.2.1)], 1⟩) (fun _ => fin) (fun x => x.1) (f, [], ⟨l, false⟩, decide (0 < l.length)) ⟨List.suffix_refl _, fun _ => by simp, by simp, hy⟩ ?_ ?_
   · simp only [go_sem, rdV, dfsV_nil]
   · rintro ⟨g, acc, r, more⟩ ⟨hs, hac, hac2, hr⟩ hrun
     simp only at hs hac hac2 hr hrun ⊢
     cases more
     · simp only [Bool.false_eq_true, if_false] at hr
       injection hr with hr; subst hr
       simp only at hgood hyp
       have hend := hgt r.l
       unfold endD at hyp
       cases hb : r.bad
       · rw [hb] at hyp
         cases hn : decide (0 < r.l.length)
         · rw [hn] at hyp
           simp only [Bool.or_self, Bool.false_eq_true, if_false] at hyp
           have hg2 := hgood hb
           have hdl := df_len acc
           simp only [go_sem, rdV, hb, hgt, hn, dfsV_len]
           refine run_ind (fun i : Nat => i ≤ acc.length ∧ (acc.take i).any deepF = false) (fun i => ⟨[(8, .own 202 0 (dfsV acc)), (59, .slice (dfsV acc)), (60, .int .i64 acc.length), (61, .int .i64 i)], [], [], 1⟩) (fun _ => fin) (fun i => acc.length - i) 0 ⟨Nat.zero_le _, by simp⟩ ?_ ?_
           · simp only [go_sem]
           · rintro i ⟨hi, h0⟩ hrun2
             by_cases hc : i < acc.length
             · have hlt := natlt_t hc
               have hx : acc[i]? = some acc[i] := List.getElem?_eq_getElem hc
               have hg : (dfsV acc)[i]? = some (.agg (dfC acc[i])) := by rw [dfsV_get, hx]; rfl
               have hm := dftots_mem (List.getElem_mem hc)
               have d1 := tdepth_den _ acc[i].ty (Nat.le_refl _) (by omega)
               have d2 := fdeep_den _ acc[i].tm 0 (Nat.le_refl _) (by omega) (by omega)
               obtain ⟨ya, yb⟩ := any_take hx h0
               have w1 : IntKind.i64.wrap ((i : Int) + 1) = ((i + 1 : Nat) : Int) := wrapN (i + 1) (by omega)
               rw [dfC_eq] at hg
               rw [tyV_eq] at d1
               rw [tmC_eq, Int.natCast_zero] at d2
               have hdf : deepF acc[i] = (decide (acc[i].ty.depth > 50) || acc[i].tm.deep 0) := rfl
               cases q1 : decide (acc[i].ty.depth > 50)
               · cases q2 : acc[i].tm.deep 0
                 · rw [q2] at d2
                   simp only [go_sem, hlt, natge0, tonat, hg, d1, natDeep, q1, d2]
                   refine hrun2 (i + 1) _ ⟨hc, yb (by rw [hdf, q1, q2]; rfl)⟩ (by omega) ?_
                   simp only [go_sem, w1]
                 · rw [q2] at d2
                   rw [ya (by rw [hdf, q1, q2]; rfl), if_pos rfl] at hyp
                   rw [hfin, hyp]
                   simp only [go_sem, hlt, natge0, tonat, hg, d1, natDeep, q1, d2, dfsV_nil]
               · rw [ya (by rw [hdf, q1]; rfl), if_pos rfl] at hyp
                 rw [hfin, hyp]
                 simp only [go_sem, hlt, natge0, tonat, hg, d1, natDeep, q1, dfsV_nil]
             · have hlt := natlt_f hc
               have hik : i = acc.length := by omega
               rw [hik, List.take_length] at h0
               rw [h0] at hyp
               simp only [Bool.false_eq_true, if_false] at hyp
               rw [hfin, hyp]
               simp only [go_sem, hlt]
         · rw [hn] at hyp
           simp only [Bool.false_or, if_true] at hyp
           rw [hfin, hyp]
           simp only [go_sem, rdV, hb, hgt, hn, dfsV_nil]
       · rw [hb] at hyp
         simp only [Bool.true_or, if_true] at hyp
         rw [hfin, hyp]
         simp only [go_sem, rdV, hb, dfsV_nil]
     · simp only [if_true] at hr
       cases g with
       | zero => cases hr
       | succ g =>
        simp only [dsR] at hr
        split at hr
        · cases hr
        · rename_i t r3 h3
          split at hr
          · cases hr
          · rename_i x r5 h5
            have l3 := (takeR_suf r3 6 [61]).trans (nameR_suf h3)
            have l5 := (trR_suf _ _ _ _ _ h5).trans l3
            have hle := hs.length_le
            have d3 := fname_den g r (t, r3) (memF hok hs) (by omega) h3
            have d4 := ftake_den r3 6 [61]
            have d5 := trR_den g .term _ (x, r5) (memF hok (l3.trans hs)) (by have := l3.length_le; omega) h5
            have d6 := ftakes_den r5 [59]
            simp only [MDenF] at d5
            have hap : (dfsV acc).length + 1 ≤ appMax := by rw [dfsV_len]; unfold appMax; omega
            have hsn := dfsV_snoc acc (wordR r 1 []) t x
            simp only [rdV, tyV_eq, tmC_eq] at d3 d4 d5 d6 hsn
            have inv : (takesR r5 6 [59]).l <:+ l ∧ (seesR r5 6 [59] = true → (acc ++ [(⟨wordR r 1 [], t, x⟩ : Df)]).length + (takesR r5 6 [59]).l.length ≤ l.length) ∧ (acc ++ [(⟨wordR r 1 [], t, x⟩ : Df)]).length ≤ l.length + 1 ∧
             (if seesR r5 6 [59] then dsR g (acc ++ [⟨wordR r 1 [], t, x⟩]) (takesR r5 6 [59]) else some (acc ++ [⟨wordR r 1 [], t, x⟩], takesR r5 6 [59])) = some y := by
             refine ⟨(takesR_suf r5 6 [59]).trans (l5.trans hs), fun hse => ?_, ?_, ?_⟩
             · have k := takesR_len hse
               have := l5.length_le
               have := hac rfl
               rw [List.length_append, List.length_singleton]; omega
             · have := hac rfl
               rw [List.length_append, List.length_singleton]; omega
             · cases hse : seesR r5 6 [59]
               · rw [hse] at hr
                 simp only [Bool.false_eq_true, if_false] at hr ⊢
                 have : takesR r5 6 [59] = r5 := by unfold takesR; rw [hse]; rfl
                 rw [this]; exact hr
               · rw [hse] at hr
                 simpa using hr
            simp only [go_sem, rdV, d3, d4, d5, d6, hap, hsn]
            refine hrun (g, acc ++ [⟨wordR r 1 [], t, x⟩], takesR r5 6 [59], seesR r5 6 [59]) _ inv (by simp) ?_
            simp only [go_sem, rdV]
end Go.Proofs
namespace Go.Proofs
open Go.Av
set_option maxHeartbeats 32000000
set_option maxRecDepth 100000
/-! definitions: the document's reader -/
end Go.Proofs
namespace Go.Proofs
open Go.Av
set_option maxHeartbeats 32000000
set_option maxRecDepth 100000
/-! definitions, written -/
def defT (d : Df) (t x : List UInt8) : List UInt8 := d.name ++ [32, 58, 32] ++ t ++ [32, 61, 32] ++ x
def dlR (F : Nat) : List Df → Option (List (List UInt8))
 | [] => some []
 | d :: r => match prR F .pr d.ty with
  | none => none
  | some t => match mpR F F d.tm with
   | none => none
   | some x => match dlR F r with
    | none => none
    | some ss => some (defT d t x :: ss)
theorem dlR_get {F : Nat} : ∀ {l : List Df} {ss : List (List UInt8)}, dlR F l = some ss → ss.length = l.length ∧ ∀ (i : Nat) (d : Df), l[i]? = some d → ∃ t x, prR F .pr d.ty = some t ∧ mpR F F d.tm = some x ∧ ss[i]? = some (defT d t x)
 | [], ss, h => by simp only [dlR, Option.some.injEq] at h; subst h; exact ⟨rfl, fun i d hd => by simp at hd⟩
 | d :: r, ss, h => by
  simp only [dlR] at h
  split at h
  · cases h
  · rename_i t ht
    split at h
    · cases h
    · rename_i x hx
      split at h
      · cases h
      · rename_i sr hr
        simp only [Option.some.injEq] at h; subst h
        have ih := dlR_get hr
        refine ⟨by simp [ih.1], fun i y hy => ?_⟩
        cases i with
        | zero => simp only [List.getElem?_cons_zero, Option.some.injEq] at hy; subst hy; exact ⟨t, x, ht, hx, rfl⟩
        | succ i => simpa using ih.2 i y (by simpa using hy)
theorem fdprint_den {F : Nat} {l : List Df} {ss : List (List UInt8)} (h : dlR F l = some ss) (hl : (Lib.join ss [59, 32]).length ≤ 3000000000) (ht : Df.tots l < 1000000) : den E 43 [.slice (dfsV l)] [] = some (.str (Lib.join ss [59, 32]), []) := by
 obtain ⟨g1, g2⟩ := dlR_get h
 have hdl := df_len l
 have dj := join_den ss [59, 32] (by omega) (by omega)
 rw [den_eq prim_43, body_43]
 simp only [go_sem, Tryz.f43, dfsV_len]
 refine run_for (fun i => ⟨[(3, .own 9 0 ((ss.take i).map .str)), (6, .slice (dfsV l)), (7, .int .i64 l.length), (8, .int .i64 i)], [], [], 1⟩) l.length ?_ ?_ ?_
 · simp only [go_sem, List.take_zero, List.map_nil]
 · intro i hi hr
   obtain ⟨y, hy⟩ : ∃ y, l[i]? = some y := ⟨l[i], List.getElem?_eq_getElem hi⟩
   have hyt := dftots_mem (List.mem_of_getElem? hy)
   obtain ⟨t, x, h1, h2, hsb⟩ := g2 i y hy
   have d1 := tprint_den F y.ty t (by omega) h1
   have d2 := fprint_den F F y.tm x (by omega) h2
   have hml := join_mem_len (sep := [59, 32]) (List.mem_of_getElem? hsb)
   simp only [defT, List.length_append, List.length_cons, List.length_nil] at hml
   have hg : (dfsV l)[i]? = some (.agg (dfC y)) := by rw [dfsV_get, hy]; rfl
   have hlt := natlt_t hi
   have w1 : IntKind.i64.wrap ((i : Int) + 1) = ((i + 1 : Nat) : Int) := wrapN (i + 1) (by omega)
   have hap : ((ss.take i).map AVal.str).length + 1 ≤ appMax := by simp; unfold appMax; omega
   have hmap : (ss.take i).map AVal.str ++ [.str (y.name ++ 32 :: 58 :: 32 :: (t ++ 32 :: 61 :: 32 :: x))] = (ss.take (i + 1)).map AVal.str := by rw [take_snoc hsb]; simp [defT]
   rw [dfC_eq] at hg
   rw [tyV_eq] at d1
   rw [tmC_eq] at d2
   simp (disch := ((try simp only [List.length_append, List.length_cons, List.length_nil]); omega)) only [go_sem, ↓reduceIte, Nat.reduceEqDiff, Nat.reduceAdd, Nat.reduceMul, Nat.reduceLeDiff, Nat.one_ne_zero, Nat.reduceLT, reduceCtorEq, decide_true, le_str, hlt, natge0, tonat, hg, d1, d2, hap, List.append_assoc, List.cons_append, List.nil_append, List.length_append, List.length_cons, List.length_nil]
   rw [List.length_map] at hap
   simp (disch := ((try simp only [List.length_append, List.length_cons, List.length_nil]); omega)) only [go_sem, hmap]
   refine hr _ ?_
   simp only [go_sem, w1]
 · have hlt := natlt_f (Nat.lt_irrefl l.length)
   have htk : ss.take l.length = ss := by rw [← g1]; exact List.take_length
   simp (disch := ((try simp only [List.length_append, List.length_cons, List.length_nil]); omega)) only [go_sem, ↓reduceIte, Nat.reduceEqDiff, Nat.reduceAdd, beq_self_eq_true, hlt, htk, dj]
end Go.Proofs
namespace Go.Proofs
open Go.Av
set_option maxHeartbeats 32000000
set_option maxRecDepth 100000
/-! the laws of chapter 12: the examples, and terms -/
def chkX (f : Nat) (s t : List UInt8) : Bool := match tmO f s with
 | some p => if p.2 == 0 then mpR f f p.1 == some t else t == [110, 111, 110, 101]
 | none => false
theorem text_chk {f : Nat} {s t : List UInt8} (h : chkX f s t = true) : den E 44 [.str s] [] = some (.str t, []) := by
 unfold chkX at h
 split at h
 · rename_i p hp
   have h1 := fpterm_den hp
   rw [den_eq prim_44, body_44]
   split at h
   · rename_i h0
     simp only [beq_iff_eq] at h h0
     have k := tmO_good hp h0
     have hb : (p.2 != 0) = false := by rw [h0]; rfl
     have d2 := fprint_den f f p.1 t (by have := k.2.1; omega) h
     simp only [tmC_eq] at h1 d2
     simp only [go_sem, Tryz.f44, h1, hb, d2]
   · rename_i h0
     have hb : (p.2 != 0) = true := by simpa [bne] using h0
     have e : t = [110, 111, 110, 101] := by simpa using h
     subst e
     simp only [tmC_eq] at h1
     simp only [go_sem, Tryz.f44, h1, hb]
 · cases h
def chkF (f : Nat) (s t : List UInt8) : Bool := match defO f s with
 | some p => p.2 == 0 && (match dlR f p.1 with
  | some ss => Lib.join ss [59, 32] == t && decide (t.length ≤ 1000)
  | none => false)
 | none => false
theorem defs_chk {f : Nat} {s t : List UInt8} (h : chkF f s t = true) : ∃ l, den E 42 [.str s] [] = some (.tup [.slice (dfsV l), .int .i64 0], []) ∧ den E 43 [.slice (dfsV l)] [] = some (.str t, []) := by
 unfold chkF at h
 split at h
 · rename_i p hp
   simp only [Bool.and_eq_true, beq_iff_eq] at h
   obtain ⟨h0, h⟩ := h
   split at h
   · rename_i ss hss
     simp only [Bool.and_eq_true, beq_iff_eq, decide_eq_true_eq] at h
     have k := defO_good hp h0
     have h1 := fparse_den hp
     rw [h0] at h1
     have h2 := fdprint_den hss (by rw [h.1]; omega) (by have := k.2.1; omega)
     rw [h.1] at h2
     exact ⟨p.1, h1, h2⟩
   · cases h
 · cases h
theorem xchk0 : chkF 300 [105, 100, 58, 102, 111, 114, 97, 108, 108, 32, 97, 46, 97, 45, 62, 97, 61, 40, 33, 97, 46, 40, 92, 120, 58, 97, 46, 120, 41, 41] [105, 100, 32, 58, 32, 102, 111, 114, 97, 108, 108, 32, 97, 46, 32, 97, 32, 45, 62, 32, 97, 32, 61, 32, 40, 33, 97, 46, 32, 40, 92, 120, 32, 58, 32, 97, 46, 32, 120, 41, 41] = true := by kernel_rfl
theorem xchk1 : chkX 300 [40, 99, 97, 115, 101, 32, 120, 58, 84, 32, 111, 102, 123, 75, 32, 64, 98, 32, 126, 99, 32, 121, 45, 62, 40, 121, 124, 62, 40, 83, 121, 109, 32, 99, 41, 41, 59, 76, 45, 62, 122, 125, 41] [40, 99, 97, 115, 101, 32, 120, 32, 58, 32, 84, 32, 111, 102, 32, 123, 75, 32, 64, 98, 32, 126, 99, 32, 121, 32, 45, 62, 32, 40, 121, 32, 124, 62, 32, 40, 83, 121, 109, 32, 99, 41, 41, 59, 32, 76, 32, 45, 62, 32, 122, 125, 41] = true := by kernel_rfl
theorem xchk2 : chkX 300 [40, 40, 75, 32, 64, 32, 73, 110, 116, 41, 32, 126, 32, 60, 73, 110, 116, 62, 41] [40, 40, 75, 32, 64, 32, 73, 110, 116, 41, 32, 126, 32, 60, 73, 110, 116, 62, 41] = true := by kernel_rfl
theorem xchk3 : chkX 300 [40, 102, 32, 120, 32, 121, 41] [110, 111, 110, 101] = true := by kernel_rfl
theorem xchk4 : chkX 300 [92, 120, 32, 58, 32, 97, 46, 32, 120] [110, 111, 110, 101] = true := by kernel_rfl
theorem xchk5 : chkX 300 [40, 102, 41] [110, 111, 110, 101] = true := by kernel_rfl
theorem xchk6 : chkX 300 [40, 108, 101, 116, 32, 120, 32, 58, 32, 84, 32, 61, 32, 121, 32, 105, 110, 32, 120, 41] [40, 108, 101, 116, 32, 120, 32, 58, 32, 84, 32, 61, 32, 121, 32, 105, 110, 32, 120, 41] = true := by kernel_rfl
theorem awake12_den : den E 9 [] [] = some (.bool true, []) := by
 obtain ⟨l, h1, h2⟩ := defs_chk xchk0
 have t1 := text_chk xchk1
 have t2 := text_chk xchk2
 have t3 := text_chk xchk3
 have t4 := text_chk xchk4
 have t5 := text_chk xchk5
 have t6 := text_chk xchk6
 dsimp only at h1 h2 t1 t2 t3 t4 t5 t6
 rw [den_eq prim_9, body_9]
 simp only [go_sem, Tryz.f9, List.cons_append, List.nil_append, h1, h2, t1, t2, t3, t4, t5, t6]
end Go.Proofs
