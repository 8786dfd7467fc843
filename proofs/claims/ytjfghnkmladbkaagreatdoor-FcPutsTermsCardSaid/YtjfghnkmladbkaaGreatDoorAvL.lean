/- The readers of coercions and terms of the program. -/
import Derived.Test.YtjfghnkmladbkaaGreatDoorAvJ
namespace Go.Proofs
open Go.Av
set_option maxHeartbeats 16000000
set_option maxRecDepth 100000
/-! the program's reader of coercions -/
theorem cnext_den (r : Rd) (kind : Int) (text : List UInt8) : den E 185 [.ptr (.par 0) 0, .int .i64 kind, .str text] [rdV r] = some (.str (nextW r kind text), [rdV (nextR r kind text)]) := by
 rw [den_eq prim_185, body_185]
 obtain ⟨l, bad⟩ := r
 unfold rdV nextW nextR
 simp only
 cases l with
 | nil => simp only [go_sem, Tryz.f185, toksV_nil, seesT, List.length_nil, show ((0 : Int) == 0) = true from rfl]
 | cons t q =>
  have hl : ((((toksV q).length + 1 : Nat) : Int) == 0) = false := by simp; omega
  cases h1 : t.kind == kind
  · have h1' : (t.kind != kind) = true := by rw [bne_not, h1]; rfl
    simp only [go_sem, Tryz.f185, toksV_cons, hl, seesT, h1, h1', Int.le_refl, Int.toNat_zero, List.length_cons]
  · have h1' : (t.kind != kind) = false := by rw [bne_not, h1]; rfl
    cases h2 : text == []
    · cases h3 : t.text == text <;> simp only [go_sem, Tryz.f185, toksV_cons, hl, seesT, h1, h1', h2, h3, textT, Int.le_refl, Int.toNat_zero, List.tail_cons, List.length_cons, Nat.le_refl, Int.toNat_one, Nat.le_add_left, Int.zero_le_ofNat, List.take_length]
    · simp only [go_sem, Tryz.f185, toksV_cons, hl, seesT, h1, h1', h2, textT, Int.le_refl, Int.toNat_zero, List.tail_cons, List.length_cons, Nat.le_refl, Int.toNat_one, Nat.le_add_left, Int.zero_le_ofNat, List.take_length]
theorem csees_den (r : Rd) (text : List UInt8) (ht : (text == []) = false) : den E 183 [.ptr (.par 0) 0, .str text] [rdV r] = some (.bool (seesT r.l 6 text), [rdV r]) := by
 rw [den_eq prim_183, body_183]
 obtain ⟨l, bad⟩ := r
 unfold rdV
 simp only
 cases l with
 | nil => simp only [go_sem, Tryz.f183, toksV_nil, seesT, List.length_nil, show decide ((0 : Int) > 0) = false from rfl]
 | cons t q =>
  have hl : decide ((((toksV q).length + 1 : Nat) : Int) > 0) = true := by simp
  cases h1 : t.kind == 6
  · simp only [go_sem, Tryz.f183, toksV_cons, hl, seesT, h1, Int.le_refl, Int.toNat_zero, List.length_cons]
  · cases h3 : t.text == text <;> simp only [go_sem, Tryz.f183, toksV_cons, hl, seesT, h1, ht, h3, Int.le_refl, Int.toNat_zero, List.length_cons]
theorem ctyp_den (f : Nat) (r : Rd) (x : Ty × Rd) (hok : ∀ t ∈ r.l, tokF t) (hlen : r.l.length < 1000000) (h : typK f r = some x) : den E 184 [.ptr (.par 0) 0] [rdV r] = some (tyV x.1, [rdV x.2]) := by
 rw [den_eq prim_184, body_184]
 have a1 := cnext_den r 6 [60]
 have s1 := nextR_suf r 6 [60]
 unfold typK at h
 split at h
 · cases h
 · rename_i t ok l' ht
   have hd := tread_den (nextR r 6 [60]).l f _ (tok1 (tok3 (memF hok s1))) (Nat.lt_of_le_of_lt s1.length_le hlen) ht
   simp only [rdV] at a1 ⊢
   cases ok
   · simp only [Bool.false_eq_true, if_false] at h hd
     injection h with h; subst h
     rw [zTyV] at hd
     simp only [go_sem, Tryz.f184, a1, hd, zTyV]
   · simp only [if_true] at h hd
     injection h with h; subst h
     have a2 := cnext_den ⟨l', (nextR r 6 [60]).bad⟩ 6 [62]
     simp only [rdV] at a2
     rw [tyV_eq] at hd
     simp only [go_sem, Tryz.f184, a1, hd, a2, tyV_eq]
theorem cword_den (k : Int) : den E 123 [.int .i64 k] [] = some (.str (wordC k), []) := by
 rw [den_eq prim_123, body_123]
 unfold wordC
 cases h3 : k == 3
 · cases h4 : k == 4
   · cases h5 : k == 5
     · cases h6 : k == 6
       · cases h7 : k == 7
         · cases h8 : k == 8 <;> simp only [go_sem, Tryz.f123, h3, h4, h5, h6, h7, h8]
         · simp only [go_sem, Tryz.f123, h3, h4, h5, h6, h7]
       · simp only [go_sem, Tryz.f123, h3, h4, h5, h6]
     · simp only [go_sem, Tryz.f123, h3, h4, h5]
   · simp only [go_sem, Tryz.f123, h3, h4]
 · simp only [go_sem, Tryz.f123, h3]
/-- the kind, as far as it was looked for -/
def kU (s : List UInt8) : Nat → Int
 | 0 => 0
 | i + 1 => if wordC (3 + (i : Int)) == s then 3 + (i : Int) else kU s i
theorem kU7 (s : List UInt8) : kU s 7 = kindC s := by
 have hw : ∀ w : List UInt8, (w == s) = (s == w) := fun w => by rw [Bool.beq_comm]
 simp only [kU, hw]
 by_cases h3 : s = [83, 121, 109]
 · subst h3; decide
 · by_cases h4 : s = [84, 114, 97, 110, 115]
   · subst h4; decide
   · by_cases h5 : s = [67, 111, 110]
     · subst h5; decide
     · by_cases h6 : s = [70, 117, 110]
       · subst h6; decide
       · by_cases h7 : s = [65, 108, 108]
         · subst h7; decide
         · by_cases h8 : s = [78, 116, 104]
           · subst h8; decide
           · by_cases h9 : s = [73, 110, 115, 116]
             · subst h9; decide
             · simp [kindC, wordC, h3, h4, h5, h6, h7, h8, h9]
/-- a rule, behind its bracket -/
def ruleR (f : Nat) (r : Rd) : Option (Cx × Rd) :=
 if kindC (nextW r 2 []) == 0 then some (zCx, ⟨(nextR r 2 []).l, true⟩)
 else match cxR f (if kindC (nextW r 2 []) == 5 then .con [] else .kids (if kindC (nextW r 2 []) == 4 || kindC (nextW r 2 []) == 6 then 2 else 1) []) (headC (kindC (nextW r 2 [])) (nextR r 2 [])).2.2 with
  | none => none
  | some (x, r4) => if kindC (nextW r 2 []) == 9 && !r4.bad then (match typK f r4 with
   | none => none
   | some (t, r5) => some (.mk (kindC (nextW r 2 [])) [] 0 t x.kids, r5))
   else some (.mk (kindC (nextW r 2 [])) (headC (kindC (nextW r 2 [])) (nextR r 2 [])).1 (headC (kindC (nextW r 2 [])) (nextR r 2 [])).2.1 zTy x.kids, r4)
theorem cxR_co (f : Nat) (r : Rd) : cxR (f + 1) .co r = (if r.bad then some (zCx, r) else if seesT r.l 6 [60] then (match typK f r with
        | none => none
        | some (t, r') => some (.mk 2 [] 0 t [], r'))
 else if seesT r.l 6 [40] then (match ruleR f (nextR r 6 [40]) with
  | none => none
  | some (c, r5) => some (c, nextR r5 6 [41]))
 else some (.mk 1 (nextW r 1 []) 0 zTy [], nextR r 1 [])) := by
 simp only [cxR, ruleR]
 split
 · rfl
 · split
   · rfl
   · split
     · split
       · rfl
       · split
         · rename_i h; simp only [h]
         · rename_i x r4 h
           simp only [h]
           split
           · split
             · rename_i h2; simp only [h2]
             · rename_i t r5 h2; simp only [h2]
           · rfl
     · rfl
def kB (k : Int) (s : List UInt8) (n : Int) (es : List AVal) : List AVal := [.int .i64 k, .str s, .int .i64 n, .int .i64 0, .str [], .int .i64 0, .own 25 0 [], .own 28 0 es]
end Go.Proofs
namespace Go.Proofs
open Go.Av
set_option maxHeartbeats 32000000
set_option maxRecDepth 100000
theorem cxs_snoc (l : List Cx) (x : Cx) : cxsV l ++ [.agg [.int .i64 x.kind, .str x.name, .int .i64 x.n, .int .i64 x.ty.kind, .str x.ty.name, .int .i64 x.ty.n, .slice (tysV x.ty.args), .slice (cxsV x.kids)]] = cxsV (l ++ [x]) := by
 rw [cxsV_append, cxsV_cons, cxsV_nil, cxC_eq]
theorem natlt_f {i n : Nat} (h : ¬ i < n) : decide ((i : Int) < (n : Int)) = false := by simp; omega
theorem natlt_t {i n : Nat} (h : i < n) : decide ((i : Int) < (n : Int)) = true := by simp; omega
theorem atoi_ok {s : List UInt8} {n : Int} (hl : s.length ≤ 18) (h : Lib.atoi s = some n) (hne : s ≠ []) : atoiP [.str s] [] = some (.tup [.int .i64 n, .nilf], []) := by simp [atoiP, hl, h, hne]
/-- the reading of a rule -/
theorem rule_den (f : Nat) (r : Rd) (x : Cx × Rd) (hok : ∀ t ∈ r.l, tokF t) (hlen : r.l.length < 1000000) (hr : r.bad = false)
 (IH : ∀ g, g ≤ f → ∀ q y, q.l <:+ r.l → cxR g .co q = some y → den E 129 [.ptr (.par 0) 0] [rdV q] = some (.agg (cxC y.1), [rdV y.2])) (h : ruleR f r = some x) :
 den E 186 [.ptr (.par 0) 0] [rdV r] = some (.agg (cxC x.1), [rdV x.2]) := by
 rw [den_eq prim_186, body_186]
 have a1 := cnext_den r 2 []
 have sq := nextR_suf r 2 []
 have hgood : kindC (nextW r 2 []) ≠ 0 → (nextR r 2 []).bad = false := by
  unfold nextW nextR
  split
  · intro _; exact hr
  · intro h0; exact absurd rfl h0
 unfold ruleR at h
 generalize nextW r 2 [] = nm at a1 h hgood
 generalize nextR r 2 [] = q at a1 h sq hgood
 obtain ⟨fin, hfin⟩ : ∃ fin, fin = some (AVal.agg (cxC x.1), [rdV x.2]) := ⟨_, rfl⟩
 rw [← hfin]
 unfold rdV
 simp only [rdV] at a1
 simp only [go_sem, Tryz.f186, a1]
 refine run_for (fun i : Nat => ⟨[(0, .ptr (.par 0) 0), (2, .ptr (.loc 2) 0), (3, .ptr (.loc 3) 0), (4, .str nm), (5, .int .i64 (3 + (i : Int)))], [rdV q], [(2, kB 0 [] 0 []), (3, kB (kU nm i) [] 0 [])], 1⟩) 7 ?_ ?_ ?_
 · simp only [go_sem, rdV, kB, kU, Int.add_zero]
 · intro i hi hrun
   have hle : decide ((3 : Int) + (i : Int) ≤ 9) = true := by simp; omega
   have hw : IntKind.i64.wrap (3 + (i : Int) + 1) = 3 + ((i + 1 : Nat) : Int) := by
    have := wrapN (3 + i + 1) (by omega)
    rw [show (3 : Int) + (i : Int) + 1 = ((3 + i + 1 : Nat) : Int) by omega, this]; omega
   have b1 := cword_den (3 + (i : Int))
   cases hc : (wordC (3 + (i : Int)) == nm)
   · have hk : kU nm (i + 1) = kU nm i := by simp only [kU, hc, Bool.false_eq_true, if_false]
     simp only [go_sem, rdV, kB, hle, b1, hc]
     refine hrun _ ?_
     simp only [go_sem, rdV, kB, hw, hk]
   · have hk : kU nm (i + 1) = 3 + (i : Int) := by simp only [kU, hc, if_true]
     simp only [go_sem, rdV, kB, hle, b1, hc]
     refine hrun _ ?_
     simp only [go_sem, rdV, kB, hw, hk]
 · have hle : decide ((3 : Int) + ((7 : Nat) : Int) ≤ 9) = false := by decide
   rw [kU7]
   generalize hk : kindC nm = k at h
   have hkc := kindC_cases nm
   rw [hk] at hkc
   rcases hkc with rfl | rfl | rfl | rfl | rfl | rfl | rfl | rfl
   · -- no rule
     simp only [beq_self_eq_true, if_true] at h
     injection h with h; subst h
     simp only [go_sem, rdV, kB]
     refine run_for (fun _ : Nat => ⟨[(0, .ptr (.par 0) 0), (2, .ptr (.loc 2) 0), (3, .ptr (.loc 3) 0), (6, .int .i64 1), (7, .int .i64 0)], [[.slice (toksV q.l), .bool true]], [(2, kB 0 [] 0 []), (3, kB 0 [] 0 [])], 1⟩) 0 ?_ ?_ ?_
     · simp only [go_sem, kB]
     · intro i hi; omega
     · rw [hfin]
       simp only [go_sem, Int.reduceBEq, rdV, kB, zCx, cxC_eq, cxmk, cxsV_nil, tysV_nil, zTy_k, zTy_s, zTy_n, zTy_a]
   · -- kind 3
     simp only [headC, Int.reduceBEq, Bool.false_and, Bool.false_eq_true, Bool.or_self, if_false] at h
     split at h
     · cases h
     · rename_i x1 r4 hx
       simp only [go_sem, Int.reduceBEq, rdV, kB]
       refine run_ind (fun z : Nat × Nat × List Cx × Rd => z.1 ≤ f ∧ z.2.1 ≤ 1 ∧ z.2.2.2.l <:+ r.l ∧ z.2.2.1.length = z.2.1 ∧ cxR z.1 (.kids (1 - z.2.1) z.2.2.1) z.2.2.2 = some (x1, r4))
        (fun z => ⟨[(0, .ptr (.par 0) 0), (2, .ptr (.loc 2) 0), (3, .ptr (.loc 3) 0), (6, .int .i64 1), (7, .int .i64 (z.2.1 : Int))], [rdV z.2.2.2], [(2, kB 0 [] 0 []), (3, kB 3 [] 0 (cxsV z.2.2.1))], 1⟩)
        (fun _ => fin) (fun z => 1 - z.2.1) (f, 0, [], q) ⟨Nat.le_refl _, by simp, sq, rfl, by simpa using hx⟩ ?_ ?_
       · simp only [go_sem, rdV, kB, cxsV_nil]
       · rintro ⟨g, i, acc, q'⟩ ⟨hg, hi, hs, ha, he⟩ hrun
         simp only at hg hi hs ha he hrun ⊢
         by_cases hc : i < 1 ∧ q'.bad = false
         · have hlt : decide ((i : Int) < 1) = true := by have := natlt_t hc.1; simpa using this
           cases g with
           | zero => cases he
           | succ g =>
            rw [show 1 - i = (1 - (i + 1)) + 1 by omega] at he
            simp only [cxR, hc.2, Bool.false_eq_true, if_false] at he
            split at he
            · cases he
            · rename_i y r' hy
              have d := IH g (by omega) q' (y, r') hs hy
              have hap : (cxsV acc).length + 1 ≤ appMax := by rw [cxsV_len]; unfold appMax; omega
              have hw := wrapN (i + 1) (by omega)
              have hw' : IntKind.i64.wrap ((i : Int) + 1) = ((i + 1 : Nat) : Int) := hw
              simp only [rdV, cxC_eq, hc.2] at d
              simp only [go_sem, rdV, kB, hlt, hc.2, d, hap, cxs_snoc]
              refine hrun (g, i + 1, acc ++ [y], r') _ ⟨by simp only; omega, by simp only; omega, (cxR_suf _ _ _ _ _ hy).trans hs, by simp [ha], he⟩ (by simp only; omega) ?_
              simp only [go_sem, rdV, kB, hw']
         · have hexit : x1.kids = acc ∧ r4 = q' := by
            cases g with
            | zero => cases he
            | succ g =>
             by_cases hi' : i < 1
             · rw [show 1 - i = (1 - (i + 1)) + 1 by omega] at he
               have hb : q'.bad = true := by cases hb : q'.bad; exact absurd ⟨hi', hb⟩ hc; rfl
               simp only [cxR, hb, if_true] at he
               injection he with he; injection he with he1 he2
               rw [← he1]; exact ⟨rfl, he2.symm⟩
             · rw [show 1 - i = 0 by omega] at he
               simp only [cxR] at he
               injection he with he; injection he with he1 he2
               rw [← he1]; exact ⟨rfl, he2.symm⟩
           obtain ⟨e1, rfl⟩ := hexit
           rw [e1] at h
           injection h with h; subst h
           by_cases hlt : i < 1
           · have hl1 : decide ((i : Int) < 1) = true := by have := natlt_t hlt; simpa using this
             have hb : r4.bad = true := by cases hb : r4.bad; exact absurd ⟨hlt, hb⟩ hc; rfl
             rw [hfin]; simp only [go_sem, Int.reduceBEq, rdV, kB, hl1, hb, cxC_eq, cxmk, tysV_nil, zTy_k, zTy_s, zTy_n, zTy_a]
           · have hl1 : decide ((i : Int) < 1) = false := by have := natlt_f hlt; simpa using this
             rw [hfin]; simp only [go_sem, Int.reduceBEq, rdV, kB, hl1, cxC_eq, cxmk, tysV_nil, zTy_k, zTy_s, zTy_n, zTy_a]
   · -- kind 4
     simp only [headC, Int.reduceBEq, Bool.false_and, Bool.false_eq_true, Bool.or_false, if_false, if_true] at h
     split at h
     · cases h
     · rename_i x1 r4 hx
       simp only [go_sem, Int.reduceBEq, rdV, kB]
       refine run_ind (fun z : Nat × Nat × List Cx × Rd => z.1 ≤ f ∧ z.2.1 ≤ 2 ∧ z.2.2.2.l <:+ r.l ∧ z.2.2.1.length = z.2.1 ∧ cxR z.1 (.kids (2 - z.2.1) z.2.2.1) z.2.2.2 = some (x1, r4))
        (fun z => ⟨[(0, .ptr (.par 0) 0), (2, .ptr (.loc 2) 0), (3, .ptr (.loc 3) 0), (6, .int .i64 2), (7, .int .i64 (z.2.1 : Int))], [rdV z.2.2.2], [(2, kB 0 [] 0 []), (3, kB 4 [] 0 (cxsV z.2.2.1))], 1⟩)
        (fun _ => fin) (fun z => 2 - z.2.1) (f, 0, [], q) ⟨Nat.le_refl _, by simp, sq, rfl, by simpa using hx⟩ ?_ ?_
       · simp only [go_sem, rdV, kB, cxsV_nil]
       · rintro ⟨g, i, acc, q'⟩ ⟨hg, hi, hs, ha, he⟩ hrun
         simp only at hg hi hs ha he hrun ⊢
         by_cases hc : i < 2 ∧ q'.bad = false
         · have hlt : decide ((i : Int) < 2) = true := by have := natlt_t hc.1; simpa using this
           cases g with
           | zero => cases he
           | succ g =>
            rw [show 2 - i = (2 - (i + 1)) + 1 by omega] at he
            simp only [cxR, hc.2, Bool.false_eq_true, if_false] at he
            split at he
            · cases he
            · rename_i y r' hy
              have d := IH g (by omega) q' (y, r') hs hy
              have hap : (cxsV acc).length + 1 ≤ appMax := by rw [cxsV_len]; unfold appMax; omega
              have hw := wrapN (i + 1) (by omega)
              have hw' : IntKind.i64.wrap ((i : Int) + 1) = ((i + 1 : Nat) : Int) := hw
              simp only [rdV, cxC_eq, hc.2] at d
              simp only [go_sem, rdV, kB, hlt, hc.2, d, hap, cxs_snoc]
              refine hrun (g, i + 1, acc ++ [y], r') _ ⟨by simp only; omega, by simp only; omega, (cxR_suf _ _ _ _ _ hy).trans hs, by simp [ha], he⟩ (by simp only; omega) ?_
              simp only [go_sem, rdV, kB, hw']
         · have hexit : x1.kids = acc ∧ r4 = q' := by
            cases g with
            | zero => cases he
            | succ g =>
             by_cases hi' : i < 2
             · rw [show 2 - i = (2 - (i + 1)) + 1 by omega] at he
               have hb : q'.bad = true := by cases hb : q'.bad; exact absurd ⟨hi', hb⟩ hc; rfl
               simp only [cxR, hb, if_true] at he
               injection he with he; injection he with he1 he2
               rw [← he1]; exact ⟨rfl, he2.symm⟩
             · rw [show 2 - i = 0 by omega] at he
               simp only [cxR] at he
               injection he with he; injection he with he1 he2
               rw [← he1]; exact ⟨rfl, he2.symm⟩
           obtain ⟨e1, rfl⟩ := hexit
           rw [e1] at h
           injection h with h; subst h
           by_cases hlt : i < 2
           · have hl1 : decide ((i : Int) < 2) = true := by have := natlt_t hlt; simpa using this
             have hb : r4.bad = true := by cases hb : r4.bad; exact absurd ⟨hlt, hb⟩ hc; rfl
             rw [hfin]; simp only [go_sem, Int.reduceBEq, rdV, kB, hl1, hb, cxC_eq, cxmk, tysV_nil, zTy_k, zTy_s, zTy_n, zTy_a]
           · have hl1 : decide ((i : Int) < 2) = false := by have := natlt_f hlt; simpa using this
             rw [hfin]; simp only [go_sem, Int.reduceBEq, rdV, kB, hl1, cxC_eq, cxmk, tysV_nil, zTy_k, zTy_s, zTy_n, zTy_a]
   · -- kind 5
     simp only [headC, Int.reduceBEq, Bool.false_and, Bool.false_eq_true, if_false, if_true] at h
     split at h
     · cases h
     · rename_i x1 r4 hx
       injection h with h; subst h
       have b1 := cnext_den q 2 []
       have s5 := (nextR_suf q 2 []).trans sq
       generalize nextW q 2 [] = nw at b1 hfin
       generalize nextR q 2 [] = q5 at b1 hx s5
       simp only [rdV] at b1
       simp only [go_sem, Int.reduceBEq, rdV, kB, b1]
       refine run_ind (fun z : Nat × List Cx × Rd => z.1 ≤ f ∧ (z.2.2.bad = false → z.2.1.length + z.2.2.l.length ≤ 1000000) ∧ z.2.2.l <:+ r.l ∧ cxR z.1 (.con z.2.1) z.2.2 = some (x1, r4))
        (fun z => ⟨[(0, .ptr (.par 0) 0), (2, .ptr (.loc 2) 0), (3, .ptr (.loc 3) 0), (6, .int .i64 0)], [rdV z.2.2], [(2, kB 0 [] 0 []), (3, kB 5 nw 0 (cxsV z.2.1))], 1⟩)
        (fun _ => fin) (fun z => z.1) (f, [], q5) ⟨Nat.le_refl _, fun _ => by have := s5.length_le; simp only [List.length_nil]; omega, s5, hx⟩ ?_ ?_
       · simp only [go_sem, rdV, kB, cxsV_nil]
       · rintro ⟨g, acc, q'⟩ ⟨hg, hn, hs, he⟩ hrun
         simp only at hg hn hs he hrun ⊢
         have hsee := csees_den q' [41] rfl
         have hlenI : decide (((toksV q'.l).length : Int) > 0) = decide (0 < q'.l.length) := by rw [toksV_len]; simp
         cases g with
         | zero => cases he
         | succ g =>
          simp only [cxR] at he
          cases hb : q'.bad
          · cases hp : decide (0 < q'.l.length)
            · simp only [hb, hp, Bool.not_false, Bool.true_and, Bool.false_and, Bool.false_eq_true, if_false] at he
              injection he with he; injection he with he1 he2
              subst he1 he2
              simp only [go_sem, rdV, kB, hb, hlenI, hp]
              refine run_for (fun _ : Nat => ⟨[(0, .ptr (.par 0) 0), (2, .ptr (.loc 2) 0), (3, .ptr (.loc 3) 0), (6, .int .i64 0), (7, .int .i64 0)], [[.slice (toksV q'.l), .bool false]], [(2, kB 0 [] 0 []), (3, kB 5 nw 0 (cxsV acc))], 1⟩) 0 ?_ ?_ ?_
              · simp only [go_sem, kB]
              · intro i hi; omega
              · rw [hfin]; simp only [go_sem, Int.reduceBEq, rdV, kB, hb, cxC_eq, cxmk, tysV_nil, zTy_k, zTy_s, zTy_n, zTy_a]
            · cases hc : seesT q'.l 6 [41]
              · simp only [hb, hp, hc, Bool.not_false, Bool.and_self, if_true] at he
                rw [hc] at hsee
                split at he
                · cases he
                · rename_i y r' hy
                  have d := IH g (by omega) q' (y, r') hs hy
                  have hn' := hn hb
                  have hap : (cxsV acc).length + 1 ≤ appMax := by rw [cxsV_len]; unfold appMax; omega
                  simp only [rdV, cxC_eq, hb] at d hsee
                  simp only [go_sem, rdV, kB, hb, hlenI, hp, hsee, d, hap, cxs_snoc]
                  refine hrun (g, acc ++ [y], r') _ ⟨by simp only; omega, ?_, (cxR_suf _ _ _ _ _ hy).trans hs, he⟩ (by simp only; omega) ?_
                  · simp only [List.length_append, List.length_singleton]
                    intro hb2
                    have i2 := (cxR_ok _ _ _ _ _ (memF hok hs) hy hb2).2
                    have := cx_tot_pos y
                    have := hn hb
                    omega
                  · simp only [go_sem, rdV, kB]
              · simp only [hb, hp, hc, Bool.not_false, Bool.not_true, Bool.and_false, Bool.false_eq_true, if_false] at he
                rw [hc] at hsee
                injection he with he; injection he with he1 he2
                subst he1 he2
                simp only [rdV, hb] at hsee
                simp only [go_sem, rdV, kB, hb, hlenI, hp, hsee]
                refine run_for (fun _ : Nat => ⟨[(0, .ptr (.par 0) 0), (2, .ptr (.loc 2) 0), (3, .ptr (.loc 3) 0), (6, .int .i64 0), (7, .int .i64 0)], [[.slice (toksV q'.l), .bool false]], [(2, kB 0 [] 0 []), (3, kB 5 nw 0 (cxsV acc))], 1⟩) 0 ?_ ?_ ?_
                · simp only [go_sem, kB]
                · intro i hi; omega
                · rw [hfin]; simp only [go_sem, Int.reduceBEq, rdV, kB, hb, cxC_eq, cxmk, tysV_nil, zTy_k, zTy_s, zTy_n, zTy_a]
          · simp only [hb, Bool.not_true, Bool.false_and, Bool.false_eq_true, if_false] at he
            injection he with he; injection he with he1 he2
            subst he1 he2
            simp only [go_sem, rdV, kB, hb]
            refine run_for (fun _ : Nat => ⟨[(0, .ptr (.par 0) 0), (2, .ptr (.loc 2) 0), (3, .ptr (.loc 3) 0), (6, .int .i64 0), (7, .int .i64 0)], [[.slice (toksV q'.l), .bool true]], [(2, kB 0 [] 0 []), (3, kB 5 nw 0 (cxsV acc))], 1⟩) 0 ?_ ?_ ?_
            · simp only [go_sem, kB]
            · intro i hi; omega
            · rw [hfin]; simp only [go_sem, Int.reduceBEq, rdV, kB, hb, cxC_eq, cxmk, tysV_nil, zTy_k, zTy_s, zTy_n, zTy_a]
   · -- kind 6
     simp only [headC, Int.reduceBEq, Bool.false_and, Bool.false_eq_true, Bool.false_or, if_false, if_true] at h
     split at h
     · cases h
     · rename_i x1 r4 hx
       simp only [go_sem, Int.reduceBEq, rdV, kB]
       refine run_ind (fun z : Nat × Nat × List Cx × Rd => z.1 ≤ f ∧ z.2.1 ≤ 2 ∧ z.2.2.2.l <:+ r.l ∧ z.2.2.1.length = z.2.1 ∧ cxR z.1 (.kids (2 - z.2.1) z.2.2.1) z.2.2.2 = some (x1, r4))
        (fun z => ⟨[(0, .ptr (.par 0) 0), (2, .ptr (.loc 2) 0), (3, .ptr (.loc 3) 0), (6, .int .i64 2), (7, .int .i64 (z.2.1 : Int))], [rdV z.2.2.2], [(2, kB 0 [] 0 []), (3, kB 6 [] 0 (cxsV z.2.2.1))], 1⟩)
        (fun _ => fin) (fun z => 2 - z.2.1) (f, 0, [], q) ⟨Nat.le_refl _, by simp, sq, rfl, by simpa using hx⟩ ?_ ?_
       · simp only [go_sem, rdV, kB, cxsV_nil]
       · rintro ⟨g, i, acc, q'⟩ ⟨hg, hi, hs, ha, he⟩ hrun
         simp only at hg hi hs ha he hrun ⊢
         by_cases hc : i < 2 ∧ q'.bad = false
         · have hlt : decide ((i : Int) < 2) = true := by have := natlt_t hc.1; simpa using this
           cases g with
           | zero => cases he
           | succ g =>
            rw [show 2 - i = (2 - (i + 1)) + 1 by omega] at he
            simp only [cxR, hc.2, Bool.false_eq_true, if_false] at he
            split at he
            · cases he
            · rename_i y r' hy
              have d := IH g (by omega) q' (y, r') hs hy
              have hap : (cxsV acc).length + 1 ≤ appMax := by rw [cxsV_len]; unfold appMax; omega
              have hw := wrapN (i + 1) (by omega)
              have hw' : IntKind.i64.wrap ((i : Int) + 1) = ((i + 1 : Nat) : Int) := hw
              simp only [rdV, cxC_eq, hc.2] at d
              simp only [go_sem, rdV, kB, hlt, hc.2, d, hap, cxs_snoc]
              refine hrun (g, i + 1, acc ++ [y], r') _ ⟨by simp only; omega, by simp only; omega, (cxR_suf _ _ _ _ _ hy).trans hs, by simp [ha], he⟩ (by simp only; omega) ?_
              simp only [go_sem, rdV, kB, hw']
         · have hexit : x1.kids = acc ∧ r4 = q' := by
            cases g with
            | zero => cases he
            | succ g =>
             by_cases hi' : i < 2
             · rw [show 2 - i = (2 - (i + 1)) + 1 by omega] at he
               have hb : q'.bad = true := by cases hb : q'.bad; exact absurd ⟨hi', hb⟩ hc; rfl
               simp only [cxR, hb, if_true] at he
               injection he with he; injection he with he1 he2
               rw [← he1]; exact ⟨rfl, he2.symm⟩
             · rw [show 2 - i = 0 by omega] at he
               simp only [cxR] at he
               injection he with he; injection he with he1 he2
               rw [← he1]; exact ⟨rfl, he2.symm⟩
           obtain ⟨e1, rfl⟩ := hexit
           rw [e1] at h
           injection h with h; subst h
           by_cases hlt : i < 2
           · have hl1 : decide ((i : Int) < 2) = true := by have := natlt_t hlt; simpa using this
             have hb : r4.bad = true := by cases hb : r4.bad; exact absurd ⟨hlt, hb⟩ hc; rfl
             rw [hfin]; simp only [go_sem, Int.reduceBEq, rdV, kB, hl1, hb, cxC_eq, cxmk, tysV_nil, zTy_k, zTy_s, zTy_n, zTy_a]
           · have hl1 : decide ((i : Int) < 2) = false := by have := natlt_f hlt; simpa using this
             rw [hfin]; simp only [go_sem, Int.reduceBEq, rdV, kB, hl1, cxC_eq, cxmk, tysV_nil, zTy_k, zTy_s, zTy_n, zTy_a]
   · -- kind 7
     simp only [headC, Int.reduceBEq, Bool.false_and, Bool.false_eq_true, Bool.or_self, if_false, if_true] at h
     split at h
     · cases h
     · rename_i x1 r4 hx
       have b1 := cnext_den q 1 []
       simp only [rdV] at b1
       simp only [go_sem, Int.reduceBEq, rdV, kB, b1]
       refine run_ind (fun z : Nat × Nat × List Cx × Rd => z.1 ≤ f ∧ z.2.1 ≤ 1 ∧ z.2.2.2.l <:+ r.l ∧ z.2.2.1.length = z.2.1 ∧ cxR z.1 (.kids (1 - z.2.1) z.2.2.1) z.2.2.2 = some (x1, r4))
        (fun z => ⟨[(0, .ptr (.par 0) 0), (2, .ptr (.loc 2) 0), (3, .ptr (.loc 3) 0), (6, .int .i64 1), (7, .int .i64 (z.2.1 : Int))], [rdV z.2.2.2], [(2, kB 0 [] 0 []), (3, kB 7 (nextW q 1 []) 0 (cxsV z.2.2.1))], 1⟩)
        (fun _ => fin) (fun z => 1 - z.2.1) (f, 0, [], (nextR q 1 [])) ⟨Nat.le_refl _, by simp, (nextR_suf q 1 []).trans sq, rfl, by simpa using hx⟩ ?_ ?_
       · simp only [go_sem, rdV, kB, cxsV_nil]
       · rintro ⟨g, i, acc, q'⟩ ⟨hg, hi, hs, ha, he⟩ hrun
         simp only at hg hi hs ha he hrun ⊢
         by_cases hc : i < 1 ∧ q'.bad = false
         · have hlt : decide ((i : Int) < 1) = true := by have := natlt_t hc.1; simpa using this
           cases g with
           | zero => cases he
           | succ g =>
            rw [show 1 - i = (1 - (i + 1)) + 1 by omega] at he
            simp only [cxR, hc.2, Bool.false_eq_true, if_false] at he
            split at he
            · cases he
            · rename_i y r' hy
              have d := IH g (by omega) q' (y, r') hs hy
              have hap : (cxsV acc).length + 1 ≤ appMax := by rw [cxsV_len]; unfold appMax; omega
              have hw := wrapN (i + 1) (by omega)
              have hw' : IntKind.i64.wrap ((i : Int) + 1) = ((i + 1 : Nat) : Int) := hw
              simp only [rdV, cxC_eq, hc.2] at d
              simp only [go_sem, rdV, kB, hlt, hc.2, d, hap, cxs_snoc]
              refine hrun (g, i + 1, acc ++ [y], r') _ ⟨by simp only; omega, by simp only; omega, (cxR_suf _ _ _ _ _ hy).trans hs, by simp [ha], he⟩ (by simp only; omega) ?_
              simp only [go_sem, rdV, kB, hw']
         · have hexit : x1.kids = acc ∧ r4 = q' := by
            cases g with
            | zero => cases he
            | succ g =>
             by_cases hi' : i < 1
             · rw [show 1 - i = (1 - (i + 1)) + 1 by omega] at he
               have hb : q'.bad = true := by cases hb : q'.bad; exact absurd ⟨hi', hb⟩ hc; rfl
               simp only [cxR, hb, if_true] at he
               injection he with he; injection he with he1 he2
               rw [← he1]; exact ⟨rfl, he2.symm⟩
             · rw [show 1 - i = 0 by omega] at he
               simp only [cxR] at he
               injection he with he; injection he with he1 he2
               rw [← he1]; exact ⟨rfl, he2.symm⟩
           obtain ⟨e1, rfl⟩ := hexit
           rw [e1] at h
           injection h with h; subst h
           by_cases hlt : i < 1
           · have hl1 : decide ((i : Int) < 1) = true := by have := natlt_t hlt; simpa using this
             have hb : r4.bad = true := by cases hb : r4.bad; exact absurd ⟨hlt, hb⟩ hc; rfl
             rw [hfin]; simp only [go_sem, Int.reduceBEq, rdV, kB, hl1, hb, cxC_eq, cxmk, tysV_nil, zTy_k, zTy_s, zTy_n, zTy_a]
           · have hl1 : decide ((i : Int) < 1) = false := by have := natlt_f hlt; simpa using this
             rw [hfin]; simp only [go_sem, Int.reduceBEq, rdV, kB, hl1, cxC_eq, cxmk, tysV_nil, zTy_k, zTy_s, zTy_n, zTy_a]
   · -- kind 8
     simp only [headC, Int.reduceBEq, Bool.false_and, Bool.false_eq_true, Bool.or_self, if_false, if_true] at h
     split at h
     · cases h
     · rename_i x1 r4 hx
       have b1 := cnext_den q 4 []
       have b2 : den E 229 [.str (nextW q 4 [])] [] = some (.tup [.int .i64 (numC (nextW q 4 [])), .nilf], []) := by
        rw [den_prim prim_229]
        cases hb : (nextR q 4 []).bad
        · have n1 := (numC_ok (memF hok sq) hb).2.2
          obtain ⟨g1, g2, g3, g4⟩ := nextR_good hb
          have hl := nextW_ok (tok3 (memF hok sq)) 4 []
          have hne : nextW q 4 [] ≠ [] := fun h0 => by rw [h0] at n1; cases n1
          exact atoi_ok (by omega) n1 hne
        · have hq := hgood (by rw [hk]; decide)
          have h0 : nextW q 4 [] = [] := by
           unfold nextR at hb
           unfold nextW
           split at hb
           · rw [hq] at hb; cases hb
           · rename_i h0; rw [if_neg h0]
          rw [h0]; rfl
       simp only [rdV] at b1
       simp only [go_sem, Int.reduceBEq, rdV, kB, b1, b2]
       refine run_ind (fun z : Nat × Nat × List Cx × Rd => z.1 ≤ f ∧ z.2.1 ≤ 1 ∧ z.2.2.2.l <:+ r.l ∧ z.2.2.1.length = z.2.1 ∧ cxR z.1 (.kids (1 - z.2.1) z.2.2.1) z.2.2.2 = some (x1, r4))
        (fun z => ⟨[(0, .ptr (.par 0) 0), (2, .ptr (.loc 2) 0), (3, .ptr (.loc 3) 0), (6, .int .i64 1), (7, .int .i64 (z.2.1 : Int))], [rdV z.2.2.2], [(2, kB 0 [] 0 []), (3, kB 8 [] (numC (nextW q 4 [])) (cxsV z.2.2.1))], 1⟩)
        (fun _ => fin) (fun z => 1 - z.2.1) (f, 0, [], (nextR q 4 [])) ⟨Nat.le_refl _, by simp, (nextR_suf q 4 []).trans sq, rfl, by simpa using hx⟩ ?_ ?_
       · simp only [go_sem, rdV, kB, cxsV_nil]
       · rintro ⟨g, i, acc, q'⟩ ⟨hg, hi, hs, ha, he⟩ hrun
         simp only at hg hi hs ha he hrun ⊢
         by_cases hc : i < 1 ∧ q'.bad = false
         · have hlt : decide ((i : Int) < 1) = true := by have := natlt_t hc.1; simpa using this
           cases g with
           | zero => cases he
           | succ g =>
            rw [show 1 - i = (1 - (i + 1)) + 1 by omega] at he
            simp only [cxR, hc.2, Bool.false_eq_true, if_false] at he
            split at he
            · cases he
            · rename_i y r' hy
              have d := IH g (by omega) q' (y, r') hs hy
              have hap : (cxsV acc).length + 1 ≤ appMax := by rw [cxsV_len]; unfold appMax; omega
              have hw := wrapN (i + 1) (by omega)
              have hw' : IntKind.i64.wrap ((i : Int) + 1) = ((i + 1 : Nat) : Int) := hw
              simp only [rdV, cxC_eq, hc.2] at d
              simp only [go_sem, rdV, kB, hlt, hc.2, d, hap, cxs_snoc]
              refine hrun (g, i + 1, acc ++ [y], r') _ ⟨by simp only; omega, by simp only; omega, (cxR_suf _ _ _ _ _ hy).trans hs, by simp [ha], he⟩ (by simp only; omega) ?_
              simp only [go_sem, rdV, kB, hw']
         · have hexit : x1.kids = acc ∧ r4 = q' := by
            cases g with
            | zero => cases he
            | succ g =>
             by_cases hi' : i < 1
             · rw [show 1 - i = (1 - (i + 1)) + 1 by omega] at he
               have hb : q'.bad = true := by cases hb : q'.bad; exact absurd ⟨hi', hb⟩ hc; rfl
               simp only [cxR, hb, if_true] at he
               injection he with he; injection he with he1 he2
               rw [← he1]; exact ⟨rfl, he2.symm⟩
             · rw [show 1 - i = 0 by omega] at he
               simp only [cxR] at he
               injection he with he; injection he with he1 he2
               rw [← he1]; exact ⟨rfl, he2.symm⟩
           obtain ⟨e1, rfl⟩ := hexit
           rw [e1] at h
           injection h with h; subst h
           by_cases hlt : i < 1
           · have hl1 : decide ((i : Int) < 1) = true := by have := natlt_t hlt; simpa using this
             have hb : r4.bad = true := by cases hb : r4.bad; exact absurd ⟨hlt, hb⟩ hc; rfl
             rw [hfin]; simp only [go_sem, Int.reduceBEq, rdV, kB, hl1, hb, cxC_eq, cxmk, tysV_nil, zTy_k, zTy_s, zTy_n, zTy_a]
           · have hl1 : decide ((i : Int) < 1) = false := by have := natlt_f hlt; simpa using this
             rw [hfin]; simp only [go_sem, Int.reduceBEq, rdV, kB, hl1, cxC_eq, cxmk, tysV_nil, zTy_k, zTy_s, zTy_n, zTy_a]
   · -- kind 9
     simp only [headC, Int.reduceBEq, Bool.true_and, Bool.false_eq_true, Bool.or_self, if_false] at h
     split at h
     · cases h
     · rename_i x1 r4 hx
       simp only [go_sem, Int.reduceBEq, rdV, kB]
       refine run_ind (fun z : Nat × Nat × List Cx × Rd => z.1 ≤ f ∧ z.2.1 ≤ 1 ∧ z.2.2.2.l <:+ r.l ∧ z.2.2.1.length = z.2.1 ∧ cxR z.1 (.kids (1 - z.2.1) z.2.2.1) z.2.2.2 = some (x1, r4))
        (fun z => ⟨[(0, .ptr (.par 0) 0), (2, .ptr (.loc 2) 0), (3, .ptr (.loc 3) 0), (6, .int .i64 1), (7, .int .i64 (z.2.1 : Int))], [rdV z.2.2.2], [(2, kB 0 [] 0 []), (3, kB 9 [] 0 (cxsV z.2.2.1))], 1⟩)
        (fun _ => fin) (fun z => 1 - z.2.1) (f, 0, [], q) ⟨Nat.le_refl _, by simp, sq, rfl, by simpa using hx⟩ ?_ ?_
       · simp only [go_sem, rdV, kB, cxsV_nil]
       · rintro ⟨g, i, acc, q'⟩ ⟨hg, hi, hs, ha, he⟩ hrun
         simp only at hg hi hs ha he hrun ⊢
         by_cases hc : i < 1 ∧ q'.bad = false
         · have hlt : decide ((i : Int) < 1) = true := by have := natlt_t hc.1; simpa using this
           cases g with
           | zero => cases he
           | succ g =>
            rw [show 1 - i = (1 - (i + 1)) + 1 by omega] at he
            simp only [cxR, hc.2, Bool.false_eq_true, if_false] at he
            split at he
            · cases he
            · rename_i y r' hy
              have d := IH g (by omega) q' (y, r') hs hy
              have hap : (cxsV acc).length + 1 ≤ appMax := by rw [cxsV_len]; unfold appMax; omega
              have hw := wrapN (i + 1) (by omega)
              have hw' : IntKind.i64.wrap ((i : Int) + 1) = ((i + 1 : Nat) : Int) := hw
              simp only [rdV, cxC_eq, hc.2] at d
              simp only [go_sem, rdV, kB, hlt, hc.2, d, hap, cxs_snoc]
              refine hrun (g, i + 1, acc ++ [y], r') _ ⟨by simp only; omega, by simp only; omega, (cxR_suf _ _ _ _ _ hy).trans hs, by simp [ha], he⟩ (by simp only; omega) ?_
              simp only [go_sem, rdV, kB, hw']
         · have hexit : x1.kids = acc ∧ r4 = q' := by
            cases g with
            | zero => cases he
            | succ g =>
             by_cases hi' : i < 1
             · rw [show 1 - i = (1 - (i + 1)) + 1 by omega] at he
               have hb : q'.bad = true := by cases hb : q'.bad; exact absurd ⟨hi', hb⟩ hc; rfl
               simp only [cxR, hb, if_true] at he
               injection he with he; injection he with he1 he2
               rw [← he1]; exact ⟨rfl, he2.symm⟩
             · rw [show 1 - i = 0 by omega] at he
               simp only [cxR] at he
               injection he with he; injection he with he1 he2
               rw [← he1]; exact ⟨rfl, he2.symm⟩
           obtain ⟨e1, rfl⟩ := hexit
           rw [e1] at h
           by_cases hlt : i < 1
           · have hl1 : decide ((i : Int) < 1) = true := by have := natlt_t hlt; simpa using this
             have hb : r4.bad = true := by cases hb : r4.bad; exact absurd ⟨hlt, hb⟩ hc; rfl
             simp only [hb, Bool.not_true, Bool.false_eq_true, if_false] at h
             injection h with h; subst h
             rw [hfin]; simp only [go_sem, rdV, kB, hl1, hb, cxC_eq, cxmk, tysV_nil, zTy_k, zTy_s, zTy_n, zTy_a]
           · have hl1 : decide ((i : Int) < 1) = false := by have := natlt_f hlt; simpa using this
             cases hb : r4.bad
             · simp only [hb, Bool.not_false, if_true] at h
               split at h
               · cases h
               · rename_i t r5 h5
                 injection h with h; subst h
                 have c1 := ctyp_den f r4 (t, r5) (memF hok hs) (Nat.lt_of_le_of_lt hs.length_le hlen) h5
                 simp only [rdV, tyV_eq, hb] at c1
                 rw [hfin]; simp only [go_sem, rdV, kB, hl1, hb, c1, cxC_eq, cxmk]
             · simp only [hb, Bool.not_true, Bool.false_eq_true, if_false] at h
               injection h with h; subst h
               rw [hfin]; simp only [go_sem, rdV, kB, hl1, hb, cxC_eq, cxmk, tysV_nil, zTy_k, zTy_s, zTy_n, zTy_a]
end Go.Proofs
namespace Go.Proofs
open Go.Av
set_option maxHeartbeats 16000000
set_option maxRecDepth 100000
theorem zCxC : cxC zCx = [.int .i64 0, .str [], .int .i64 0, .int .i64 0, .str [], .int .i64 0, .slice [], .slice []] := by
 rw [cxC_eq]; unfold zCx; simp [cxmk, zTy_k, zTy_s, zTy_n, zTy_a, tysV_nil, cxsV_nil]
theorem co_den : ∀ (f : Nat) (r : Rd) (x : Cx × Rd), (∀ t ∈ r.l, tokF t) → r.l.length < 1000000 → cxR f .co r = some x → den E 129 [.ptr (.par 0) 0] [rdV r] = some (.agg (cxC x.1), [rdV x.2]) := by
 intro f
 induction f using Nat.strongRecOn with
 | _ f ih =>
 intro r x hok hlen h
 cases f with
 | zero => cases h
 | succ f =>
 rw [cxR_co] at h
 rw [den_eq prim_129, body_129]
 have s1 := csees_den r [60] rfl
 have s2 := csees_den r [40] rfl
 cases hb : r.bad
 · simp only [hb, Bool.false_eq_true, if_false] at h
   cases h1 : seesT r.l 6 [60]
   · rw [h1] at h s1
     simp only [Bool.false_eq_true, if_false] at h
     cases h2 : seesT r.l 6 [40]
     · rw [h2] at h s2
       simp only [Bool.false_eq_true, if_false] at h
       injection h with h; subst h
       have a1 := cnext_den r 1 []
       simp only [rdV, hb] at s1 s2 a1 ⊢
       simp only [go_sem, Tryz.f129, s1, s2, a1, cxC_eq, cxmk, cxsV_nil, tysV_nil, zTy_k, zTy_s, zTy_n, zTy_a]
     · rw [h2] at h s2
       simp only [if_true] at h
       split at h
       · cases h
       · rename_i c r5 h5
         injection h with h; subst h
         have a1 := cnext_den r 6 [40]
         have sq := nextR_suf r 6 [40]
         have hg : (nextR r 6 [40]).bad = false := by unfold nextR; rw [if_pos h2]; exact hb
         have d := rule_den f (nextR r 6 [40]) (c, r5) (memF hok sq) (Nat.lt_of_le_of_lt sq.length_le hlen) hg
          (fun g hg q y hq hy => ih g (by omega) q y (memF hok (hq.trans sq)) (Nat.lt_of_le_of_lt (hq.trans sq).length_le hlen) hy) h5
         have a2 := cnext_den r5 6 [41]
         simp only [rdV, cxC_eq, hb] at s1 s2 a1 a2 d ⊢
         simp only [go_sem, Tryz.f129, s1, s2, a1, d, a2]
   · rw [h1] at h s1
     simp only [if_true] at h
     split at h
     · cases h
     · rename_i t r1 h3
       injection h with h; subst h
       have a1 := ctyp_den f r (t, r1) hok hlen h3
       simp only [rdV, tyV_eq, hb] at s1 a1 ⊢
       simp only [go_sem, Tryz.f129, s1, a1, cxC_eq, cxmk, cxsV_nil]
 · simp only [hb, if_true] at h
   injection h with h; subst h
   unfold rdV
   simp only [go_sem, Tryz.f129, hb, zCxC]
theorem cread_den (f : Nat) (l : List Tok) (x : Cx × Rd) (hok : ∀ t ∈ l, tokF t) (hlen : l.length < 1000000) (h : cxR f .co ⟨l, false⟩ = some x) :
 den E 66 [.slice (toksV l)] [] = some (if x.2.bad then .tup [.agg (cxC zCx), .slice [], .bool false] else .tup [.agg (cxC x.1), .slice (toksV x.2.l), .bool true], []) := by
 rw [den_eq prim_66, body_66]
 have d := co_den f ⟨l, false⟩ x hok hlen h
 cases hb : x.2.bad
 · simp only [rdV, cxC_eq, hb] at d ⊢
   simp only [go_sem, Tryz.f66, d]
 · simp only [rdV, cxC_eq, hb] at d
   rw [zCxC]
   simp only [go_sem, Tryz.f66, d]
theorem fco_den (f : Nat) (r : Rd) (x : Cx × Rd) (hok : ∀ t ∈ r.l, tokF t) (hlen : r.l.length < 1000000) (h : coR2 f r = some x) : den E 172 [.ptr (.par 0) 0] [rdV r] = some (.agg (cxC x.1), [rdV x.2]) := by
 rw [den_eq prim_172, body_172]
 unfold coR2 at h
 cases hb : r.bad
 · rw [hb] at h
   simp only [Bool.false_eq_true, if_false] at h
   split at h
   · cases h
   · rename_i c r1 h1
     have hr : (⟨r.l, false⟩ : Rd) = r := by rw [← hb]
     have d := cread_den f r.l (c, r1) hok hlen (by rw [hr]; exact h1)
     cases hb1 : r1.bad
     · rw [hb1] at h
       simp only [Bool.false_eq_true, if_false] at h
       injection h with h; subst h
       simp only [hb1, Bool.false_eq_true, if_false, cxC_eq] at d
       simp only [rdV, hb, hb1, cxC_eq]
       simp only [go_sem, Tryz.f172, d]
     · rw [hb1] at h
       simp only [if_true] at h
       injection h with h; subst h
       simp only [hb1, if_true, zCxC] at d
       simp only [rdV, hb, zCxC]
       simp only [go_sem, Tryz.f172, d, toksV_nil]
 · rw [hb] at h
   simp only [if_true] at h
   injection h with h; subst h
   unfold rdV
   simp only [go_sem, Tryz.f172, hb, zCxC]
end Go.Proofs
namespace Go.Proofs
open Go.Av
set_option maxHeartbeats 16000000
set_option maxRecDepth 100000
/-! the program's reader of terms: its small parts -/
theorem fsees_den (r : Rd) (kind : Int) (text : List UInt8) : den E 111 [.ptr (.par 0) 0, .int .i64 kind, .str text] [rdV r] = some (.bool (seesR r kind text), [rdV r]) := by
 rw [den_eq prim_111, body_111]
 obtain ⟨l, bad⟩ := r
 unfold seesR rdV
 simp only
 cases bad
 · cases l with
   | nil => simp only [go_sem, Tryz.f111, toksV_nil, seesT, show decide ((0 : Int) > 0) = false from rfl]
   | cons t r =>
    have hl : decide ((((toksV r).length + 1 : Nat) : Int) > 0) = true := by simp
    cases h1 : t.kind == kind
    · simp only [go_sem, Tryz.f111, toksV_cons, hl, seesT, h1, Int.le_refl, Int.toNat_zero, List.length_cons]
    · cases h2 : text == []
      · cases h3 : t.text == text <;> simp only [go_sem, Tryz.f111, toksV_cons, hl, seesT, h1, h2, h3, Int.le_refl, Int.toNat_zero, List.length_cons]
      · simp only [go_sem, Tryz.f111, toksV_cons, hl, seesT, h1, h2, Int.le_refl, Int.toNat_zero, List.length_cons]
 · simp only [go_sem, Tryz.f111]
theorem ftake_den (r : Rd) (kind : Int) (text : List UInt8) : den E 107 [.ptr (.par 0) 0, .int .i64 kind, .str text] [rdV r] = some (.str (wordR r kind text), [rdV (takeR r kind text)]) := by
 rw [den_eq prim_107, body_107]
 have hs := fsees_den r kind text
 unfold wordR takeR
 cases h : seesR r kind text
 · rw [h] at hs
   unfold rdV at hs ⊢
   simp only [go_sem, Tryz.f107, hs]
 · obtain ⟨hb, t, q, hl⟩ := seesR_cons h
   rw [h] at hs
   unfold rdV at hs ⊢
   rw [hl, toksV_cons, hb] at hs
   rw [hl, hb]
   simp only [go_sem, Tryz.f107, hs, toksV_cons, textT, Int.le_refl, Int.toNat_zero, List.tail_cons, List.length_cons, Nat.le_refl, Int.toNat_one, Nat.le_add_left, Int.zero_le_ofNat, List.take_length]
theorem ftyp_den (f : Nat) (r : Rd) (x : Ty × Rd) (hok : ∀ t ∈ r.l, tokOK t) (hlen : r.l.length < 1000000) (h : typR f r = some x) : den E 161 [.ptr (.par 0) 0] [rdV r] = some (tyV x.1, [rdV x.2]) := by
 rw [den_eq prim_161, body_161]
 unfold typR at h
 unfold rdV
 cases hb : r.bad
 · rw [hb] at h
   simp only [Bool.false_eq_true, if_false] at h
   split at h
   · cases h
   · rename_i t ok l' ht
     have hd := tread_den r.l f _ hok hlen ht
     cases ok
     · simp only [Bool.false_eq_true, if_false] at h hd
       injection h with h; subst h
       rw [zTyV] at hd
       simp only [go_sem, Tryz.f161, hd, zTyV, toksV_nil]
     · simp only [if_true] at h hd
       injection h with h; subst h
       rw [tyV_eq] at hd
       simp only [go_sem, Tryz.f161, hd, tyV_eq]
 · rw [hb] at h
   simp only [if_true] at h
   injection h with h; subst h
   simp only [go_sem, Tryz.f161, hb, zTyV]
theorem ftakes_den (r : Rd) (text : List UInt8) : den E 105 [.ptr (.par 0) 0, .str text] [rdV r] = some (.bool (seesR r 6 text), [rdV (takesR r 6 text)]) := by
 rw [den_eq prim_105, body_105]
 have hs := fsees_den r 6 text
 unfold takesR
 cases h : seesR r 6 text
 · rw [h] at hs
   unfold rdV at hs ⊢
   simp only [go_sem, Tryz.f105, hs]
 · obtain ⟨hb, t, q, hl⟩ := seesR_cons h
   rw [h] at hs
   unfold rdV at hs ⊢
   rw [hl, toksV_cons, hb] at hs
   rw [hl, hb]
   simp only [go_sem, Tryz.f105, hs, toksV_cons, List.tail_cons, List.length_cons, Nat.le_refl, Int.toNat_one, Nat.le_add_left, Int.zero_le_ofNat, List.take_length]
theorem fname_den (f : Nat) (r : Rd) (x : Ty × Rd) (hok : ∀ t ∈ r.l, tokF t) (hlen : r.l.length < 1000000) (h : nameR f r = some x) : den E 106 [.ptr (.par 0) 0] [rdV r] = some (.tup [.str (wordR r 1 []), tyV x.1], [rdV x.2]) := by
 rw [den_eq prim_106, body_106]
 have a1 := ftake_den r 1 []
 have a2 := ftake_den (takeR r 1 []) 6 [58]
 have s2 := (takeR_suf (takeR r 1 []) 6 [58]).trans (takeR_suf r 1 [])
 have a3 := ftyp_den f (takeR (takeR r 1 []) 6 [58]) x (tok1 (tok3 (memF hok s2))) (Nat.lt_of_le_of_lt s2.length_le hlen) h
 simp only [rdV, tyV_eq] at a1 a2 a3 ⊢
 simp only [go_sem, Tryz.f106, a1, a2, a3]
/-- names behind a sign: the three loops of an alternative -/
def taB (c : List UInt8) (ts cs vs : List (List UInt8)) : List AVal := [.str c, .own 9 0 (ts.map .str), .own 9 0 (cs.map .str), .own 9 0 (vs.map .str), .int .i64 0, .str [], .int .i64 0, .str [], .int .i64 0, .own 25 0 [], .int .i64 0, .str [], .int .i64 0, .int .i64 0, .str [], .int .i64 0, .own 25 0 [], .own 28 0 [], .own 32 0 [], .own 134 0 []]
theorem marksR_end : ∀ (f : Nat) (s : List UInt8) (acc : List (List UInt8)) (r : Rd), r.l.length ≤ f → seesR (marksR f s acc r).2 6 s = false
 | 0, s, acc, r, h => by
  have : r.l = [] := by cases hl : r.l with
   | nil => rfl
   | cons a b => rw [hl] at h; simp at h
  simp only [marksR, seesR, this, seesT, Bool.and_false]
 | f + 1, s, acc, r, h => by
  simp only [marksR]
  split
  · rename_i h1
    have k1 := takesR_len h1
    have := len_suf (takeR_suf (takesR r 6 s) 1 [])
    exact marksR_end f s _ _ (by omega)
  · rename_i h1; simpa using h1
/-- one more name: the fuel that is left over does not matter -/
theorem marksR_more : ∀ (f g : Nat) (s : List UInt8) (acc : List (List UInt8)) (r : Rd), r.l.length ≤ f → r.l.length ≤ g → marksR f s acc r = marksR g s acc r
 | 0, 0, _, _, _, _, _ => rfl
 | 0, g + 1, s, acc, r, h, _ => by
  have : seesR r 6 s = false := by
   have := marksR_end 0 s acc r h
   exact this
  simp only [marksR, this, Bool.false_eq_true, if_false]
 | f + 1, 0, s, acc, r, _, h => by
  have : seesR r 6 s = false := by
   have := marksR_end 0 s acc r h
   exact this
  simp only [marksR, this, Bool.false_eq_true, if_false]
 | f + 1, g + 1, s, acc, r, hf, hg => by
  simp only [marksR]
  split
  · rename_i h1
    have k1 := takesR_len h1
    have := len_suf (takeR_suf (takesR r 6 s) 1 [])
    exact marksR_more f g s _ _ (by omega) (by omega)
  · rfl
theorem marks_step {s : List UInt8} {acc : List (List UInt8)} {r : Rd} (h : seesR r 6 s = true) : marksR r.l.length s acc r = marksR (takeR (takesR r 6 s) 1 []).l.length s (acc ++ [wordR (takesR r 6 s) 1 []]) (takeR (takesR r 6 s) 1 []) := by
 have k1 := takesR_len h
 have k2 := len_suf (takeR_suf (takesR r 6 s) 1 [])
 obtain ⟨n, hn⟩ : ∃ n, r.l.length = n + 1 := ⟨r.l.length - 1, by omega⟩
 rw [hn]
 simp only [marksR, h, if_true]
 exact marksR_more _ _ _ _ _ (by omega) (Nat.le_refl _)
theorem marks_stop {s : List UInt8} {acc : List (List UInt8)} {r : Rd} (h : seesR r 6 s = false) : marksR r.l.length s acc r = (acc, r) := by
 cases hn : r.l.length with
 | zero => rfl
 | succ n => simp only [marksR, h, Bool.false_eq_true, if_false]
theorem str_snoc (l : List (List UInt8)) (x : List UInt8) : l.map AVal.str ++ [.str x] = (l ++ [x]).map AVal.str := by simp
/-- an alternative -/
theorem falt_den (r : Rd) (x : Tm × Rd) (hlen : r.l.length < 1000000) (hx : den E 46 [.ptr (.par 0) 0] [rdV (takeR (altA r).2.2.2 6 [45, 62])] = some (.agg (tmC x.1), [rdV x.2])) :
 den E 224 [.ptr (.par 0) 0] [rdV r] = some (taV (.mk (wordR r 2 []) (altA r).1 (altA r).2.1 (altA r).2.2.1 x.1), [rdV x.2]) := by
 rw [den_eq prim_224, body_224]
 have a1 := ftake_den r 2 []
 have l1 := len_suf (takeR_suf r 2 [])
 obtain ⟨fin, hfin⟩ : ∃ z : AVal × Heap, z = (taV (.mk (wordR r 2 []) (altA r).1 (altA r).2.1 (altA r).2.2.1 x.1), [rdV x.2]) := ⟨_, rfl⟩
 rw [← hfin]
 simp only [rdV] at a1
 unfold rdV
 simp only [go_sem, Tryz.f224, a1]
 refine run_ind (fun z : List (List UInt8) × Rd => z.1.length + z.2.l.length ≤ r.l.length ∧ marksR z.2.l.length [64] z.1 z.2 = marks [64] (takeR r 2 []))
  (fun z => ⟨[(0, .ptr (.par 0) 0), (2, .ptr (.loc 2) 0), (3, .ptr (.loc 3) 0)], [rdV z.2], [(2, taB [] [] [] []), (3, taB (wordR r 2 []) z.1 [] [])], 1⟩) (fun _ => some fin) (fun z => z.2.l.length) ([], takeR r 2 []) ⟨by simp only [List.length_nil]; omega, rfl⟩ ?_ ?_
 · simp only [go_sem, rdV, taB, List.map_nil]
 · rintro ⟨acc, q⟩ ⟨hn, he⟩ hrun
   simp only at hn he hrun ⊢
   have b1 := ftakes_den q [64]
   cases h1 : seesR q 6 [64]
   · rw [h1] at b1
     rw [marks_stop h1] at he
     have hk : takesR q 6 [64] = q := by unfold takesR; rw [h1]; rfl
     rw [hk] at b1
     have m1 : (marks [64] (takeR r 2 [])) = (acc, q) := he.symm
     simp only [rdV] at b1 ⊢
     simp only [go_sem, taB, b1]
     refine run_ind (fun z : List (List UInt8) × Rd => z.1.length + z.2.l.length ≤ r.l.length ∧ marksR z.2.l.length [126] z.1 z.2 = marks [126] q)
      (fun z => ⟨[(0, .ptr (.par 0) 0), (2, .ptr (.loc 2) 0), (3, .ptr (.loc 3) 0)], [rdV z.2], [(2, taB [] [] [] []), (3, taB (wordR r 2 []) acc z.1 [])], 1⟩) (fun _ => some fin) (fun z => z.2.l.length) ([], q) ⟨by simp only [List.length_nil]; omega, rfl⟩ ?_ ?_
     · simp only [go_sem, rdV, taB, List.map_nil]
     · rintro ⟨acc2, q2⟩ ⟨hn2, he2⟩ hrun2
       simp only at hn2 he2 hrun2 ⊢
       have c1 := ftakes_den q2 [126]
       cases h2 : seesR q2 6 [126]
       · rw [h2] at c1
         rw [marks_stop h2] at he2
         have hk2 : takesR q2 6 [126] = q2 := by unfold takesR; rw [h2]; rfl
         rw [hk2] at c1
         have m2 : (marks [126] q) = (acc2, q2) := he2.symm
         have hA : altA r = (acc, acc2, namesR q2, behindR q2) := by unfold altA; rw [m1]; simp only; rw [m2]
         simp only [rdV] at c1 ⊢
         simp only [go_sem, taB, c1]
         refine run_ind (fun z : List (List UInt8) × List Tok => z.1.length + z.2.length ≤ r.l.length ∧ z.2 = q2.l.drop z.1.length ∧ namesR q2 = z.1 ++ namesR ⟨z.2, q2.bad⟩)
          (fun z => ⟨[(0, .ptr (.par 0) 0), (2, .ptr (.loc 2) 0), (3, .ptr (.loc 3) 0)], [rdV ⟨z.2, q2.bad⟩], [(2, taB [] [] [] []), (3, taB (wordR r 2 []) acc acc2 z.1)], 1⟩) (fun _ => some fin) (fun z => z.2.length) ([], q2.l) ⟨by simp only [List.length_nil]; omega, by simp, by simp⟩ ?_ ?_
         · simp only [go_sem, rdV, taB, List.map_nil]
         · rintro ⟨names, lx⟩ ⟨hn3, hdrop, hnames⟩ hrun3
           simp only at hn3 hdrop hnames hrun3 ⊢
           have t1 := fsees_den ⟨lx, q2.bad⟩ 1 []
           have t2 := ftake_den ⟨lx, q2.bad⟩ 1 []
           cases b3 : seesR ⟨lx, q2.bad⟩ 1 []
           · have hnx : namesR ⟨lx, q2.bad⟩ = [] := by
              unfold seesR at b3
              unfold namesR
              cases hb : q2.bad
              · simp only [hb, Bool.not_false, Bool.true_and] at b3
                simp only [Bool.false_eq_true, if_false]
                cases lx with
                | nil => rfl
                | cons t q => simp only [seesT] at b3; simp only [namesT]; rw [show (t.kind == 1) = false by simpa using b3]; rfl
              · rfl
             rw [hnx, List.append_nil] at hnames
             rw [b3] at t1
             have hbe : behindR q2 = ⟨lx, q2.bad⟩ := by unfold behindR; rw [hnames, ← hdrop]
             rw [hA] at hx hfin
             simp only at hx hfin
             rw [hbe] at hx
             rw [hnames] at hfin
             have d1 := ftake_den ⟨lx, q2.bad⟩ 6 [45, 62]
             simp only [rdV, tmC_eq] at t1 d1 hx
             simp only [rdV]
             rw [hfin]
             simp only [go_sem, taB, t1, d1, hx, taV_eq, Ta.con, Ta.types, Ta.cos, Ta.vars, Ta.body, tmC_eq, rdV]
           · obtain ⟨hb, tk, q, hl⟩ := seesR_cons b3
             simp only at hb hl
             subst hl
             have hk : (tk.kind == 1) = true := by unfold seesR at b3; simpa [seesT, hb] using b3
             have hnx : namesR ⟨tk :: q, q2.bad⟩ = tk.text :: namesR ⟨q, q2.bad⟩ := by simp only [namesR, hb, Bool.false_eq_true, if_false, namesT, hk, if_true]
             rw [b3] at t1
             simp only [wordR, takeR, b3, if_true, textT, List.tail_cons] at t2
             have hap : (names.map AVal.str).length + 1 ≤ appMax := by
              rw [List.length_map]; simp only [List.length_cons] at hn3; unfold appMax; omega
             simp only [rdV, hb] at t1 t2 hrun3 ⊢
             simp only [go_sem, taB, t1, t2, hap, str_snoc]
             refine hrun3 (names ++ [tk.text], q) _ ⟨?_, ?_, ?_⟩ ?_ ?_
             · simp only [List.length_append, List.length_singleton]; simp only [List.length_cons] at hn3; omega
             · simp only [List.length_append, List.length_singleton]
               rw [← List.drop_drop, ← hdrop]; rfl
             · rw [hnames, hnx, hb]; simp
             · simp
             · simp only [go_sem, taB]
       · rw [h2] at c1
         have k1 := takesR_len h2
         have k2 := len_suf (takeR_suf (takesR q2 6 [126]) 1 [])
         rw [marks_step h2] at he2
         have c2 := ftake_den (takesR q2 6 [126]) 1 []
         have hap : (acc2.map AVal.str).length + 1 ≤ appMax := by rw [List.length_map]; unfold appMax; omega
         simp only [rdV] at c1 c2 hrun2 ⊢
         simp only [go_sem, taB, c1, c2, hap, str_snoc]
         refine hrun2 (acc2 ++ [wordR (takesR q2 6 [126]) 1 []], takeR (takesR q2 6 [126]) 1 []) _ ⟨?_, he2⟩ ?_ ?_
         · simp only [List.length_append, List.length_singleton]; omega
         · simp only; omega
         · simp only [go_sem, taB]
   · rw [h1] at b1
     have k1 := takesR_len h1
     have k2 := len_suf (takeR_suf (takesR q 6 [64]) 1 [])
     rw [marks_step h1] at he
     have b2 := ftake_den (takesR q 6 [64]) 1 []
     have hap : (acc.map AVal.str).length + 1 ≤ appMax := by rw [List.length_map]; unfold appMax; omega
     simp only [rdV] at b1 b2 hrun ⊢
     simp only [go_sem, taB, b1, b2, hap, str_snoc]
     refine hrun (acc ++ [wordR (takesR q 6 [64]) 1 []], takeR (takesR q 6 [64]) 1 []) _ ⟨?_, he⟩ ?_ ?_
     · simp only [List.length_append, List.length_singleton]; omega
     · simp only; omega
     · simp only [go_sem, taB]
end Go.Proofs
namespace Go.Proofs
open Go.Av
set_option maxHeartbeats 32000000
set_option maxRecDepth 100000
/-! the program's reader of terms -/
theorem zTmC : tmC zTm = [.int .i64 0, .str [], .int .i64 0, .str [], .int .i64 0, .slice [], .int .i64 0, .str [], .int .i64 0, .int .i64 0, .str [], .int .i64 0, .slice [], .slice [], .slice [], .slice []] := by
 rw [tmC_eq]; unfold zTm zCx; simp [tmk, cxmk, zTy_k, zTy_s, zTy_n, zTy_a, tysV_nil, cxsV_nil, tmsV_nil, tasV_nil]
theorem zCx_p : zCx.kind = 0 ∧ zCx.name = [] ∧ zCx.n = 0 ∧ zCx.ty = zTy ∧ zCx.kids = [] := ⟨rfl, rfl, rfl, rfl, rfl⟩
def tmZ : List AVal := [.int .i64 0, .str [], .int .i64 0, .str [], .int .i64 0, .own 25 0 [], .int .i64 0, .str [], .int .i64 0, .int .i64 0, .str [], .int .i64 0, .own 25 0 [], .own 28 0 [], .own 32 0 [], .own 134 0 []]
def tmB (t : Ty) (x : Tm) (acc : List Ta) : List AVal := [.int .i64 9, .str [], .int .i64 t.kind, .str t.name, .int .i64 t.n, .slice (tysV t.args), .int .i64 0, .str [], .int .i64 0, .int .i64 0, .str [], .int .i64 0, .own 25 0 [], .own 28 0 [], .slice (tmsV [x]), .own 134 0 (tasV acc)]
theorem tas_snoc (l : List Ta) (a : Ta) : tasV l ++ [taV a] = tasV (l ++ [a]) := by rw [tasV_append, tasV_cons, tasV_nil]
def splitR (f : Nat) (r : Rd) : Option (Tm × Rd) := match trR f .term (takeR r 3 [99, 97, 115, 101]) with
 | none => none
 | some (x, r1) => match typR f (takeR r1 6 [58]) with
  | none => none
  | some (t, r3) => if seesR (takeR (takeR r3 3 [111, 102]) 6 [123]) 6 [125] then some (.mk 9 [] t zCx [x] [], takesR (takeR (takeR r3 3 [111, 102]) 6 [123]) 6 [125])
   else match trR f (.alts []) (takeR (takeR r3 3 [111, 102]) 6 [123]) with
    | none => none
    | some (y, r6) => some (.mk 9 [] t zCx [x] y.alts, takeR r6 6 [125])
theorem fsplit_den (f : Nat) (r : Rd) (x : Tm × Rd) (hok : ∀ t ∈ r.l, tokF t) (hlen : r.l.length < 1000000)
 (IH : ∀ g, g ≤ f → ∀ q y, q.l <:+ r.l → trR g .term q = some y → den E 46 [.ptr (.par 0) 0] [rdV q] = some (.agg (tmC y.1), [rdV y.2])) (h : splitR f r = some x) :
 den E 171 [.ptr (.par 0) 0] [rdV r] = some (.agg (tmC x.1), [rdV x.2]) := by
 have step : ∀ g, g ≤ f → ∀ acc q y, q.l <:+ r.l → trR g (.alts acc) q = some y → ∃ g' a r4, g' < g ∧ r4.l <:+ q.l ∧
  den E 224 [.ptr (.par 0) 0] [rdV q] = some (taV a, [rdV r4]) ∧
  (if seesR r4 6 [59] then trR g' (.alts (acc ++ [a])) (takesR r4 6 [59]) else some (.mk 0 [] zTy zCx [] (acc ++ [a]), r4)) = some y := by
  intro g hg acc q y hq h
  cases g with
  | zero => cases h
  | succ g =>
   simp only [trR] at h
   split at h
   · cases h
   · rename_i b r4 h4
     have s4 := (takeR_suf (altA q).2.2.2 6 [45, 62]).trans (altA_suf q)
     exact ⟨g, _, r4, Nat.lt_succ_self g, (trR_suf _ _ _ _ _ h4).trans s4, falt_den q (b, r4) (Nat.lt_of_le_of_lt hq.length_le hlen) (IH g (by omega) _ _ (s4.trans hq) h4), h⟩
 rw [den_eq prim_171, body_171]
 unfold splitR at h
 split at h
 · cases h
 · rename_i x1 r1 h1
   split at h
   · cases h
   · rename_i t r3 h3
     have s0 := takeR_suf r 3 [99, 97, 115, 101]
     have s1 := (takeR_suf r1 6 [58]).trans ((trR_suf _ _ _ _ _ h1).trans s0)
     have s3 := (typR_suf h3).trans s1
     have s5 := (takeR_suf (takeR r3 3 [111, 102]) 6 [123]).trans ((takeR_suf r3 3 [111, 102]).trans s3)
     have a1 := ftake_den r 3 [99, 97, 115, 101]
     have d1 := IH f (Nat.le_refl _) _ (x1, r1) s0 h1
     have a2 := ftake_den r1 6 [58]
     have d3 := ftyp_den f (takeR r1 6 [58]) (t, r3) (tok1 (tok3 (memF hok s1))) (Nat.lt_of_le_of_lt s1.length_le hlen) h3
     have a4 := ftake_den r3 3 [111, 102]
     have a5 := ftake_den (takeR r3 3 [111, 102]) 6 [123]
     have a6 := ftakes_den (takeR (takeR r3 3 [111, 102]) 6 [123]) [125]
     generalize hq5 : takeR (takeR r3 3 [111, 102]) 6 [123] = q5 at *
     cases h6 : seesR q5 6 [125]
     · rw [h6] at h a6
       simp only [Bool.false_eq_true, if_false] at h
       have hk : takesR q5 6 [125] = q5 := by unfold takesR; rw [h6]; rfl
       rw [hk] at a6
       split at h
       · cases h
       · rename_i y r6 hy
         injection h with h; subst h
         obtain ⟨g0, b0, r0, hg0, hs0, d0, e0⟩ := step f (Nat.le_refl _) [] q5 _ s5 hy
         have hlr := s5.length_le
         have hmx : r0.l.length ≤ r.l.length := Nat.le_trans hs0.length_le hlr
         have h1m : 1 ≤ appMax := by unfold appMax; omega
         obtain ⟨fin, hfin⟩ : ∃ fin, fin = some (AVal.agg (tmC (.mk 9 [] t zCx [x1] y.alts)), [rdV (takeR r6 6 [125])]) := ⟨_, rfl⟩
         rw [← hfin]
         rw [taV_eq] at d0
         unfold rdV
         simp only [rdV, tmC_eq, tyV_eq] at a1 d1 a2 d3 a4 a5 a6 d0
         simp only [go_sem, Tryz.f171, a1, d1, a2, d3, a4, a5, a6, d0, h1m, List.length_nil, Nat.zero_add]
         refine run_ind (fun z : Nat × List Ta × Rd => z.1 < f ∧ z.2.2.l <:+ r.l ∧ z.2.1.length + z.2.2.l.length ≤ r.l.length + 1 ∧ (if seesR z.2.2 6 [59] then trR z.1 (.alts z.2.1) (takesR z.2.2 6 [59]) else some (.mk 0 [] zTy zCx [] z.2.1, z.2.2)) = some (y, r6))
          (fun z => ⟨[(0, .ptr (.par 0) 0), (2, .ptr (.loc 2) 0), (3, .ptr (.loc 3) 0)], [rdV z.2.2], [(2, tmZ), (3, tmB t x1 z.2.1)], 1⟩)
          (fun _ => fin) (fun z => z.1) (g0, [b0], r0) ⟨hg0, hs0.trans s5, ?_, by simpa using e0⟩ ?_ ?_
         · simp only [List.length_singleton]; omega
         · simp only [go_sem, rdV, tmZ, tmB, tmC_eq, tasV_cons, tasV_nil, taV_eq, tmsV_cons, tmsV_nil]
         · rintro ⟨g, acc, q⟩ ⟨hg, hq, hle, he⟩ hrun
           simp only at hg hq hle he hrun ⊢
           have b1 := ftakes_den q [59]
           cases h1 : seesR q 6 [59]
           · rw [h1] at he b1
             simp only [Bool.false_eq_true, if_false] at he
             injection he with he; injection he with he1 he2
             subst he1 he2
             have hk : takesR q 6 [59] = q := by unfold takesR; rw [h1]; rfl
             rw [hk] at b1
             have b2 := ftake_den q 6 [125]
             simp only [rdV] at b1 b2
             rw [hfin]
             simp only [go_sem, rdV, tmZ, tmB, b1, b2, tmk, zCx_p, tmC_eq, tmk, tmsV_cons, tmsV_nil, cxsV_nil, tysV_nil, zTy_k, zTy_s, zTy_n, zTy_a]
           · rw [h1] at he b1
             simp only [if_true] at he
             have k1 := takesR_len h1
             have hsq := takesR_suf q 6 [59]
             obtain ⟨g', a, r', hg', hs', d', e'⟩ := step g (by omega) acc _ _ (hsq.trans hq) he
             have hap : (tasV acc).length + 1 ≤ appMax := by rw [tasV_len]; unfold appMax; omega
             have hsn := tas_snoc acc a
             rw [taV_eq] at d' hsn
             simp only [rdV, tmC_eq] at b1 d' hsn
             simp only [go_sem, rdV, tmZ, tmB, b1, d', hap, hsn]
             refine hrun (g', acc ++ [a], r') _ ⟨by simp only; omega, hs'.trans (hsq.trans hq), ?_, e'⟩ hg' ?_
             · have := hs'.length_le; simp only [List.length_append, List.length_singleton]; omega
             · simp only [go_sem, rdV, tmZ, tmB]
     · rw [h6] at h a6
       simp only [if_true] at h
       injection h with h; subst h
       simp only [rdV, tmC_eq, tyV_eq] at a1 d1 a2 d3 a4 a5 a6 ⊢
       simp only [go_sem, Tryz.f171, a1, d1, a2, d3, a4, a5, a6, tmk, zCx_p, tmC_eq, tmk, tmsV_cons, tmsV_nil, tasV_nil, cxsV_nil, tysV_nil, zTy_k, zTy_s, zTy_n, zTy_a]
def MDenF : TrM → Rd → Tm × Rd → Prop
 | .term, r, x => den E 46 [.ptr (.par 0) 0] [rdV r] = some (.agg (tmC x.1), [rdV x.2])
 | .form, r, x => den E 112 [.ptr (.par 0) 0] [rdV r] = some (.agg (tmC x.1), [rdV x.2])
 | .alts _, _, _ => True
theorem trR_den : ∀ (f : Nat) (m : TrM) (r : Rd) (x : Tm × Rd), (∀ t ∈ r.l, tokF t) → r.l.length < 1000000 → trR f m r = some x → MDenF m r x := by
 intro f
 induction f using Nat.strongRecOn with
 | _ f ih =>
 intro m r x hok hlen h
 cases f with
 | zero => cases h
 | succ f =>
 have sub : ∀ {q : Rd}, q.l <:+ r.l → (∀ t ∈ q.l, tokF t) ∧ q.l.length < 1000000 := fun hs => ⟨memF hok hs, Nat.lt_of_le_of_lt hs.length_le hlen⟩
 have IH : ∀ g, g ≤ f → ∀ q y, q.l <:+ r.l → trR g .term q = some y → den E 46 [.ptr (.par 0) 0] [rdV q] = some (.agg (tmC y.1), [rdV y.2]) := fun g hg q y hq hy => ih g (by omega) .term q y (sub hq).1 (sub hq).2 hy
 have TY : ∀ q y, q.l <:+ r.l → typR f q = some y → den E 161 [.ptr (.par 0) 0] [rdV q] = some (tyV y.1, [rdV y.2]) := fun q y hq hy => ftyp_den f q y (tok1 (tok3 (sub hq).1)) (sub hq).2 hy
 cases m with
 | alts acc => trivial
 | term =>
  simp only [MDenF]
  simp only [trR] at h
  rw [den_eq prim_46, body_46]
  have b1 := fsees_den r 1 []
  have b2 := fsees_den r 2 []
  cases h1 : seesR r 1 []
  · rw [h1] at h b1
    simp only [Bool.false_eq_true, if_false] at h
    cases h2 : seesR r 2 []
    · rw [h2] at h b2
      simp only [Bool.false_eq_true, if_false] at h
      have a1 := ftake_den r 6 [40]
      cases h3 : (takeR r 6 [40]).bad
      · rw [h3] at h
        simp only [Bool.false_eq_true, if_false] at h
        split at h
        · cases h
        · rename_i t r2 h4
          injection h with h; subst h
          have d := ih f (by omega) .form _ _ (sub (takeR_suf r 6 [40])).1 (sub (takeR_suf r 6 [40])).2 h4
          have a2 := ftake_den r2 6 [41]
          simp only [MDenF, rdV, tmC_eq, h3] at b1 b2 a1 d a2 ⊢
          simp only [go_sem, Tryz.f46, b1, b2, a1, d, a2]
      · rw [h3] at h
        simp only [if_true] at h
        injection h with h; subst h
        simp only [rdV, h3, zTmC] at b1 b2 a1 ⊢
        simp only [go_sem, Tryz.f46, b1, b2, a1]
    · rw [h2] at h b2
      simp only [if_true] at h
      injection h with h; subst h
      have a1 := ftake_den r 2 []
      simp only [rdV] at b1 b2 a1 ⊢
      simp only [go_sem, Tryz.f46, b1, b2, a1, tmk, zCx_p, tmC_eq, tmk, tmsV_nil, tasV_nil, cxsV_nil, tysV_nil, zTy_k, zTy_s, zTy_n, zTy_a]
  · rw [h1] at h b1
    simp only [if_true] at h
    injection h with h; subst h
    have a1 := ftake_den r 1 []
    simp only [rdV] at b1 a1 ⊢
    simp only [go_sem, Tryz.f46, b1, a1, tmk, zCx_p, tmC_eq, tmk, tmsV_nil, tasV_nil, cxsV_nil, tysV_nil, zTy_k, zTy_s, zTy_n, zTy_a]
 | form =>
  simp only [MDenF]
  simp only [trR] at h
  rw [den_eq prim_112, body_112]
  have b1 := ftakes_den r [92]
  cases h1 : seesR r 6 [92]
  · rw [h1] at h b1
    have k1 : takesR r 6 [92] = r := by unfold takesR; rw [h1]; rfl
    rw [k1] at b1
    simp only [Bool.false_eq_true, if_false] at h
    have b2 := ftakes_den r [33]
    cases h2 : seesR r 6 [33]
    · rw [h2] at h b2
      have k2 : takesR r 6 [33] = r := by unfold takesR; rw [h2]; rfl
      rw [k2] at b2
      simp only [Bool.false_eq_true, if_false] at h
      have b3 := fsees_den r 3 [108, 101, 116]
      cases h3 : seesR r 3 [108, 101, 116]
      · rw [h3] at h b3
        simp only [Bool.false_eq_true, if_false] at h
        have b4 := fsees_den r 3 [99, 97, 115, 101]
        cases h4 : seesR r 3 [99, 97, 115, 101]
        · rw [h4] at h b4
          simp only [Bool.false_eq_true, if_false] at h
          split at h
          · cases h
          · rename_i x1 r1 hx
            have d1 := IH f (Nat.le_refl _) r (x1, r1) (List.suffix_refl _) hx
            have s1 := trR_suf _ _ _ _ _ hx
            have c1 := ftakes_den r1 [64]
            cases h5 : seesR r1 6 [64]
            · rw [h5] at h c1
              have k5 : takesR r1 6 [64] = r1 := by unfold takesR; rw [h5]; rfl
              rw [k5] at c1
              simp only [Bool.false_eq_true, if_false] at h
              have c2 := ftakes_den r1 [126]
              cases h6 : seesR r1 6 [126]
              · rw [h6] at h c2
                have k6 : takesR r1 6 [126] = r1 := by unfold takesR; rw [h6]; rfl
                rw [k6] at c2
                simp only [Bool.false_eq_true, if_false] at h
                have c3 := ftakes_den r1 [124, 62]
                cases h7 : seesR r1 6 [124, 62]
                · rw [h7] at h c3
                  have k7 : takesR r1 6 [124, 62] = r1 := by unfold takesR; rw [h7]; rfl
                  rw [k7] at c3
                  simp only [Bool.false_eq_true, if_false] at h
                  split at h
                  · cases h
                  · rename_i y r2 hy
                    injection h with h; subst h
                    have d2 := IH f (Nat.le_refl _) r1 (y, r2) s1 hy
                    simp only [rdV, tmC_eq] at b1 b2 b3 b4 d1 c1 c2 c3 d2 ⊢
                    simp only [go_sem, Tryz.f112, b1, b2, b3, b4, d1, c1, c2, c3, d2, tmk, zCx_p, tmC_eq, tmk, tmsV_cons, tmsV_nil, tasV_nil, cxsV_nil, tysV_nil, zTy_k, zTy_s, zTy_n, zTy_a]
                · rw [h7] at h c3
                  simp only [if_true] at h
                  split at h
                  · cases h
                  · rename_i c r3 hc
                    injection h with h; subst h
                    have s7 := (takesR_suf r1 6 [124, 62]).trans s1
                    have d2 := fco_den f (takesR r1 6 [124, 62]) (c, r3) (sub s7).1 (sub s7).2 hc
                    simp only [rdV, tmC_eq, cxC_eq] at b1 b2 b3 b4 d1 c1 c2 c3 d2 ⊢
                    simp only [go_sem, Tryz.f112, b1, b2, b3, b4, d1, c1, c2, c3, d2, tmk, tmC_eq, tmk, tmsV_cons, tmsV_nil, tasV_nil, tysV_nil, zTy_k, zTy_s, zTy_n, zTy_a]
              · rw [h6] at h c2
                simp only [if_true] at h
                split at h
                · cases h
                · rename_i c r3 hc
                  injection h with h; subst h
                  have s7 := (takesR_suf r1 6 [126]).trans s1
                  have d2 := fco_den f (takesR r1 6 [126]) (c, r3) (sub s7).1 (sub s7).2 hc
                  simp only [rdV, tmC_eq, cxC_eq] at b1 b2 b3 b4 d1 c1 c2 d2 ⊢
                  simp only [go_sem, Tryz.f112, b1, b2, b3, b4, d1, c1, c2, d2, tmk, tmC_eq, tmk, tmsV_cons, tmsV_nil, tasV_nil, tysV_nil, zTy_k, zTy_s, zTy_n, zTy_a]
            · rw [h5] at h c1
              simp only [if_true] at h
              split at h
              · cases h
              · rename_i t r3 ht
                injection h with h; subst h
                have d2 := TY (takesR r1 6 [64]) (t, r3) ((takesR_suf r1 6 [64]).trans s1) ht
                simp only [rdV, tmC_eq, tyV_eq] at b1 b2 b3 b4 d1 c1 d2 ⊢
                simp only [go_sem, Tryz.f112, b1, b2, b3, b4, d1, c1, d2, tmk, zCx_p, tmC_eq, tmk, tmsV_cons, tmsV_nil, tasV_nil, cxsV_nil, tysV_nil, zTy_k, zTy_s, zTy_n, zTy_a]
        · rw [h4] at h b4
          simp only [if_true] at h
          have d := fsplit_den f r x hok hlen IH h
          simp only [rdV, tmC_eq] at b1 b2 b3 b4 d ⊢
          simp only [go_sem, Tryz.f112, b1, b2, b3, b4, d]
      · rw [h3] at h b3
        simp only [if_true] at h
        split at h
        · cases h
        · rename_i t r3 ht
          have a0 := ftake_den r 3 [108, 101, 116]
          have s0 := takeR_suf r 3 [108, 101, 116]
          have d1 := fname_den f (takeR r 3 [108, 101, 116]) (t, r3) (sub s0).1 (sub s0).2 ht
          have a1 := ftake_den r3 6 [61]
          have s3 := (takeR_suf r3 6 [61]).trans ((nameR_suf ht).trans s0)
          split at h
          · cases h
          · rename_i x1 r5 hx
            have d2 := IH f (Nat.le_refl _) _ (x1, r5) s3 hx
            have a2 := ftake_den r5 3 [105, 110]
            have s5 := (takeR_suf r5 3 [105, 110]).trans ((trR_suf _ _ _ _ _ hx).trans s3)
            split at h
            · cases h
            · rename_i y r7 hy
              injection h with h; subst h
              have d3 := IH f (Nat.le_refl _) _ (y, r7) s5 hy
              simp only [rdV, tmC_eq, tyV_eq] at b1 b2 b3 a0 d1 a1 d2 a2 d3 ⊢
              simp only [go_sem, Tryz.f112, b1, b2, b3, a0, d1, a1, d2, a2, d3, tmk, zCx_p, tmC_eq, tmk, tmsV_cons, tmsV_nil, tasV_nil, cxsV_nil, tysV_nil, zTy_k, zTy_s, zTy_n, zTy_a]
    · rw [h2] at h b2
      simp only [if_true] at h
      split at h
      · cases h
      · rename_i x1 r5 hx
        injection h with h; subst h
        have a1 := ftake_den (takesR r 6 [33]) 1 []
        have a2 := ftake_den (takeR (takesR r 6 [33]) 1 []) 6 [46]
        have s2 := (takeR_suf (takeR (takesR r 6 [33]) 1 []) 6 [46]).trans ((takeR_suf _ _ _).trans (takesR_suf r 6 [33]))
        have d2 := IH f (Nat.le_refl _) _ (x1, r5) s2 hx
        simp only [rdV, tmC_eq] at b1 b2 a1 a2 d2 ⊢
        simp only [go_sem, Tryz.f112, b1, b2, a1, a2, d2, tmk, zCx_p, tmC_eq, tmk, tmsV_cons, tmsV_nil, tasV_nil, cxsV_nil, tysV_nil, zTy_k, zTy_s, zTy_n, zTy_a]
  · rw [h1] at h b1
    simp only [if_true] at h
    split at h
    · cases h
    · rename_i t r3 ht
      have s0 := takesR_suf r 6 [92]
      have d1 := fname_den f (takesR r 6 [92]) (t, r3) (sub s0).1 (sub s0).2 ht
      have a1 := ftake_den r3 6 [46]
      have s3 := (takeR_suf r3 6 [46]).trans ((nameR_suf ht).trans s0)
      split at h
      · cases h
      · rename_i x1 r5 hx
        injection h with h; subst h
        have d2 := IH f (Nat.le_refl _) _ (x1, r5) s3 hx
        simp only [rdV, tmC_eq, tyV_eq] at b1 d1 a1 d2 ⊢
        simp only [go_sem, Tryz.f112, b1, d1, a1, d2, tmk, zCx_p, tmC_eq, tmk, tmsV_cons, tmsV_nil, tasV_nil, cxsV_nil, tysV_nil, zTy_k, zTy_s, zTy_n, zTy_a]
end Go.Proofs
namespace Go.Proofs
open Go.Av
set_option maxHeartbeats 32000000
set_option maxRecDepth 100000
/-! what is left of an expression -/
mutual
def Ex.src : Ex → Ex
 | .mk k s _ _ ks al => if k == 7 then (Ex.srcs ks).headD zEx else .mk k s false zTy (Ex.srcs ks) (Al.srcs al)
def Ex.srcs : List Ex → List Ex
 | [] => []
 | e :: r => Ex.src e :: Ex.srcs r
def Al.src : Al → Al
 | .mk c v e => .mk c v (Ex.src e)
def Al.srcs : List Al → List Al
 | [] => []
 | a :: r => Al.src a :: Al.srcs r
end
end Go.Proofs
namespace Go.Proofs
open Go.Av
set_option maxHeartbeats 32000000
set_option maxRecDepth 100000
/-! the document's -/
/-! what is left of a term -/
end Go.Proofs
namespace Go.Proofs
open Go.Av
set_option maxHeartbeats 32000000
set_option maxRecDepth 100000
theorem ta_vars {l : List Ta} {a : Ta} (h : a ∈ l) : a.body.tot + 1 ≤ Ta.tots l := by
 induction l with
 | nil => cases h
 | cons b l ih =>
  rcases List.mem_cons.1 h with rfl | h
  · cases a with | mk c x y z e => simp only [Ta.tots, Ta.tot, Ta.body]; omega
  · have := ih h; simp only [Ta.tots]; omega
theorem ta_len (l : List Ta) : l.length ≤ Ta.tots l := by
 induction l with
 | nil => simp
 | cons b l ih => cases b with | mk c x y z e => simp only [Ta.tots, Ta.tot, List.length_cons]; omega
/-! how deep: the program's -/
theorem maxI (a b : Nat) : (if ((b : Int) > a) then (b : Int) else a) = ((max a b : Nat) : Int) := max_if a b
theorem cdepth_den : ∀ (n : Nat) (c : Cx), c.tot ≤ n → c.tot < 1000000 → den E 67 [.agg (cxC c)] [] = some (.tup [.int .i64 c.within, .int .i64 c.tdep], []) := by
 intro n
 induction n with
 | zero => intro c h; have := cx_tot_pos c; omega
 | succ n ih =>
  intro c hn hs
  have ht : c.tot = c.ty.sz + Cx.tots c.kids := by cases c; simp [Cx.tot, Cx.ty, Cx.kids]
  have hl := cx_tots_len c.kids
  have hd := tdepth_den c.ty.sz c.ty (Nat.le_refl _) (by omega)
  have hwd : ∀ m : Nat, Cx.withins (c.kids.take m) ≤ 1000000 := by
   intro m
   have : ∀ l : List Cx, Cx.withins l ≤ Cx.tots l := by
    have key : ∀ k (x : Cx), x.tot ≤ k → x.within ≤ x.tot := by
     intro k
     induction k with
     | zero => intro x h; have := cx_tot_pos x; omega
     | succ k ihk =>
      intro x hx
      cases x with
      | mk a b d t ks =>
       have : ∀ l : List Cx, Cx.tots l ≤ k → Cx.withins l ≤ Cx.tots l := by
        intro l
        induction l with
        | nil => intro _; simp [Cx.withins]
        | cons y l ihl =>
         intro hl
         simp only [Cx.tots] at hl
         have := ihk y (by omega)
         have := ihl (by omega)
         simp only [Cx.withins, Cx.tots]; omega
       rw [cx_tot_mk] at hx
       have h1 := this ks (by have := sz_pos t; omega)
       rw [cx_within_eq, cx_tot_mk]
       simp only [cxmk]
       have := sz_pos t
       omega
    intro l
    induction l with
    | nil => simp [Cx.withins]
    | cons y l ihl =>
     have := key y.tot y (Nat.le_refl _)
     simp only [Cx.withins, Cx.tots]; omega
   have h1 := this (c.kids.take m)
   have h2 : Cx.tots (c.kids.take m) ≤ Cx.tots c.kids := by
    have : ∀ (l : List Cx) (m : Nat), Cx.tots (l.take m) ≤ Cx.tots l := by
     intro l
     induction l with
     | nil => intro m; simp
     | cons y l ihl =>
      intro m
      cases m with
      | zero => simp [Cx.tots]
      | succ m => simp only [List.take_succ_cons, Cx.tots]; have := ihl m; omega
    exact this _ m
   omega
  rw [den_eq prim_67, body_67, cxC_eq, cx_within_eq, cx_tdep_eq]
  obtain ⟨d0, hd0⟩ : ∃ d0 : Nat, d0 = (if c.kind == 2 || c.kind == 9 then c.ty.depth else 0) := ⟨_, rfl⟩
  rw [← hd0]
  obtain ⟨fin, hfin⟩ : ∃ fin, fin = some (AVal.tup [.int .i64 ((Cx.withins c.kids + 1 : Nat) : Int), .int .i64 ((max d0 (Cx.tdeps c.kids) : Nat) : Int)], ([] : Heap)) := ⟨_, rfl⟩
  rw [← hfin]
  rw [tyV_eq] at hd
  have e1 : ((Cx.withins c.kids + 1 : Nat) : Int) = ((Cx.withins c.kids + 1 : Nat) : Int) := rfl
  cases k29 : (c.kind == 2 || c.kind == 9)
  · rw [k29] at hd0
    simp only [Bool.or_eq_false_iff] at k29
    simp only [Bool.false_eq_true, if_false] at hd0
    simp only [go_sem, Tryz.f67, k29.1, k29.2]
    refine run_for (fun i => ⟨[(2, .int .i64 ((Cx.withins (c.kids.take i) : Nat) : Int)), (3, .int .i64 ((max d0 (Cx.tdeps (c.kids.take i)) : Nat) : Int)), (20, .slice (cxsV c.kids)), (21, .int .i64 c.kids.length), (22, .int .i64 i)], [], [], 1⟩) c.kids.length ?_ ?_ ?_
    · simp only [go_sem, cxsV_len, List.take_zero, Cx.withins, Cx.tdeps, Nat.max_zero, hd0]
    · intro i hi hrun
      have hlt := natlt_t hi
      have hx : c.kids[i]? = some c.kids[i] := List.getElem?_eq_getElem hi
      have hg : (cxsV c.kids)[i]? = some (.agg (cxC c.kids[i])) := by rw [cxsV_get, hx]; rfl
      have hm := cx_tots_mem (List.getElem_mem hi)
      have hp := sz_pos c.ty
      have d := ih c.kids[i] (by omega) (by omega)
      have hw := wrapN (i + 1) (by omega)
      have hw' : IntKind.i64.wrap ((i : Int) + 1) = ((i + 1 : Nat) : Int) := hw
      have m1 : (if (((c.kids[i]).within : Int) > ((Cx.withins (c.kids.take i) : Nat) : Int)) then (((c.kids[i]).within : Nat) : Int) else ((Cx.withins (c.kids.take i) : Nat) : Int)) = ((Cx.withins (c.kids.take (i + 1)) : Nat) : Int) := by rw [maxI, take_snoc hx, cx_withins_snoc]
      have m2 : (if (((c.kids[i]).tdep : Int) > ((max d0 (Cx.tdeps (c.kids.take i)) : Nat) : Int)) then (((c.kids[i]).tdep : Nat) : Int) else ((max d0 (Cx.tdeps (c.kids.take i)) : Nat) : Int)) = ((max d0 (Cx.tdeps (c.kids.take (i + 1))) : Nat) : Int) := by rw [maxI, take_snoc hx, cx_tdeps_snoc, Nat.max_assoc]
      simp only [cxC_eq] at hg d
      simp only [go_sem, hlt, natge0, tonat, hg, d, m1, m2]
      refine hrun _ ?_
      simp only [go_sem, hw']
    · have hlt := natlt_f (Nat.lt_irrefl c.kids.length)
      have hw0 := hwd c.kids.length
      rw [List.take_length] at hw0
      have hw := wrapN (Cx.withins c.kids + 1) (by omega)
      have hw' : IntKind.i64.wrap (((Cx.withins c.kids : Nat) : Int) + 1) = ((Cx.withins c.kids + 1 : Nat) : Int) := hw
      rw [hfin]
      simp only [go_sem, hlt, List.take_length, hw']
  · rw [k29] at hd0
    simp only [if_true] at hd0
    cases k2 : c.kind == 2
    · rw [k2] at k29
      simp only [Bool.false_or] at k29
      simp only [go_sem, Tryz.f67, k2, k29, hd]
      refine run_for (fun i => ⟨[(2, .int .i64 ((Cx.withins (c.kids.take i) : Nat) : Int)), (3, .int .i64 ((max d0 (Cx.tdeps (c.kids.take i)) : Nat) : Int)), (20, .slice (cxsV c.kids)), (21, .int .i64 c.kids.length), (22, .int .i64 i)], [], [], 1⟩) c.kids.length ?_ ?_ ?_
      · simp only [go_sem, cxsV_len, List.take_zero, Cx.withins, Cx.tdeps, Nat.max_zero, hd0]
      · intro i hi hrun
        have hlt := natlt_t hi
        have hx : c.kids[i]? = some c.kids[i] := List.getElem?_eq_getElem hi
        have hg : (cxsV c.kids)[i]? = some (.agg (cxC c.kids[i])) := by rw [cxsV_get, hx]; rfl
        have hm := cx_tots_mem (List.getElem_mem hi)
        have hp := sz_pos c.ty
        have d := ih c.kids[i] (by omega) (by omega)
        have hw := wrapN (i + 1) (by omega)
        have hw' : IntKind.i64.wrap ((i : Int) + 1) = ((i + 1 : Nat) : Int) := hw
        have m1 : (if (((c.kids[i]).within : Int) > ((Cx.withins (c.kids.take i) : Nat) : Int)) then (((c.kids[i]).within : Nat) : Int) else ((Cx.withins (c.kids.take i) : Nat) : Int)) = ((Cx.withins (c.kids.take (i + 1)) : Nat) : Int) := by rw [maxI, take_snoc hx, cx_withins_snoc]
        have m2 : (if (((c.kids[i]).tdep : Int) > ((max d0 (Cx.tdeps (c.kids.take i)) : Nat) : Int)) then (((c.kids[i]).tdep : Nat) : Int) else ((max d0 (Cx.tdeps (c.kids.take i)) : Nat) : Int)) = ((max d0 (Cx.tdeps (c.kids.take (i + 1))) : Nat) : Int) := by rw [maxI, take_snoc hx, cx_tdeps_snoc, Nat.max_assoc]
        simp only [cxC_eq] at hg d
        simp only [go_sem, hlt, natge0, tonat, hg, d, m1, m2]
        refine hrun _ ?_
        simp only [go_sem, hw']
      · have hlt := natlt_f (Nat.lt_irrefl c.kids.length)
        have hw0 := hwd c.kids.length
        rw [List.take_length] at hw0
        have hw := wrapN (Cx.withins c.kids + 1) (by omega)
        have hw' : IntKind.i64.wrap (((Cx.withins c.kids : Nat) : Int) + 1) = ((Cx.withins c.kids + 1 : Nat) : Int) := hw
        rw [hfin]
        simp only [go_sem, hlt, List.take_length, hw']
    · simp only [go_sem, Tryz.f67, k2, hd]
      refine run_for (fun i => ⟨[(2, .int .i64 ((Cx.withins (c.kids.take i) : Nat) : Int)), (3, .int .i64 ((max d0 (Cx.tdeps (c.kids.take i)) : Nat) : Int)), (20, .slice (cxsV c.kids)), (21, .int .i64 c.kids.length), (22, .int .i64 i)], [], [], 1⟩) c.kids.length ?_ ?_ ?_
      · simp only [go_sem, cxsV_len, List.take_zero, Cx.withins, Cx.tdeps, Nat.max_zero, hd0]
      · intro i hi hrun
        have hlt := natlt_t hi
        have hx : c.kids[i]? = some c.kids[i] := List.getElem?_eq_getElem hi
        have hg : (cxsV c.kids)[i]? = some (.agg (cxC c.kids[i])) := by rw [cxsV_get, hx]; rfl
        have hm := cx_tots_mem (List.getElem_mem hi)
        have hp := sz_pos c.ty
        have d := ih c.kids[i] (by omega) (by omega)
        have hw := wrapN (i + 1) (by omega)
        have hw' : IntKind.i64.wrap ((i : Int) + 1) = ((i + 1 : Nat) : Int) := hw
        have m1 : (if (((c.kids[i]).within : Int) > ((Cx.withins (c.kids.take i) : Nat) : Int)) then (((c.kids[i]).within : Nat) : Int) else ((Cx.withins (c.kids.take i) : Nat) : Int)) = ((Cx.withins (c.kids.take (i + 1)) : Nat) : Int) := by rw [maxI, take_snoc hx, cx_withins_snoc]
        have m2 : (if (((c.kids[i]).tdep : Int) > ((max d0 (Cx.tdeps (c.kids.take i)) : Nat) : Int)) then (((c.kids[i]).tdep : Nat) : Int) else ((max d0 (Cx.tdeps (c.kids.take i)) : Nat) : Int)) = ((max d0 (Cx.tdeps (c.kids.take (i + 1))) : Nat) : Int) := by rw [maxI, take_snoc hx, cx_tdeps_snoc, Nat.max_assoc]
        simp only [cxC_eq] at hg d
        simp only [go_sem, hlt, natge0, tonat, hg, d, m1, m2]
        refine hrun _ ?_
        simp only [go_sem, hw']
      · have hlt := natlt_f (Nat.lt_irrefl c.kids.length)
        have hw0 := hwd c.kids.length
        rw [List.take_length] at hw0
        have hw := wrapN (Cx.withins c.kids + 1) (by omega)
        have hw' : IntKind.i64.wrap (((Cx.withins c.kids : Nat) : Int) + 1) = ((Cx.withins c.kids + 1 : Nat) : Int) := hw
        rw [hfin]
        simp only [go_sem, hlt, List.take_length, hw']
end Go.Proofs
namespace Go.Proofs
open Go.Av
set_option maxHeartbeats 32000000
set_option maxRecDepth 100000
/-! is a term too deep? the program's -/
theorem tm_tots_mem {l : List Tm} {x : Tm} (h : x ∈ l) : x.tot ≤ Tm.tots l := by
 induction l with
 | nil => cases h
 | cons y l ih =>
  simp only [Tm.tots]
  rcases List.mem_cons.1 h with rfl | h
  · omega
  · have := ih h; omega
theorem tm_tots_len (l : List Tm) : l.length ≤ Tm.tots l := by
 induction l with
 | nil => simp
 | cons y l ih => simp only [Tm.tots, List.length_cons]; have := tm_tot_pos y; omega
theorem tm_tot_eq (e : Tm) : e.tot = e.ty.sz + e.co.tot + Tm.tots e.kids + Ta.tots e.alts := by cases e; simp [Tm.tot, Tm.ty, Tm.co, Tm.kids, Tm.alts]
theorem fdeep_den : ∀ (n : Nat) (e : Tm) (a : Nat), e.tot ≤ n → e.tot < 1000000 → a ≤ 1000000 → den E 47 [.agg (tmC e), .int .i64 a] [] = some (.bool (e.deep a), []) := by
 intro n
 induction n with
 | zero => intro e a h; have := tm_tot_pos e; omega
 | succ n ih =>
  intro e a hn hs ha
  have ht := tm_tot_eq e
  have hl1 := tm_tots_len e.kids
  have hl2 := ta_len e.alts
  have hp1 := sz_pos e.ty
  have hp2 := cx_tot_pos e.co
  have c1 := cdepth_den _ e.co (Nat.le_refl _) (by omega)
  have c2 := tdepth_den _ e.ty (Nat.le_refl _) (by omega)
  rw [cxC_eq] at c1
  rw [tyV_eq] at c2
  rw [den_eq prim_47, body_47, tm_deep_eq, tm_deeps_any, ta_deeps_any]
  rw [tmC_eq]
  have g100 : decide ((a : Int) ≥ 100) = decide (100 ≤ a) := by simp; omega
  cases q0 : decide (100 ≤ a)
  · have h99 : ¬ 100 ≤ a := by simpa using q0
    cases q1 : decide (e.co.within > 50)
    · cases q2 : decide (e.co.tdep > 50)
      · cases q3 : decide (e.ty.depth > 50)
        · obtain ⟨fin, hfin⟩ : ∃ fin, fin = some (AVal.bool (e.kids.any (Tm.deep (a + 1)) || e.alts.any fun x => x.body.deep (a + 1)), ([] : Heap)) := ⟨_, rfl⟩
          simp only [Bool.false_or]
          rw [← hfin]
          have w0 : IntKind.i64.wrap ((a : Int) + 1) = ((a + 1 : Nat) : Int) := wrapN (a + 1) (by omega)
          simp only [go_sem, Tryz.f47, c1, c2, g100, natDeep, q0, q1, q2, q3]
          refine run_ind (fun i : Nat => i ≤ e.kids.length ∧ (e.kids.take i).any (Tm.deep (a + 1)) = false) (fun i => ⟨[(1, .int .i64 a), (2, .ptr (.loc 2) 0), (34, .slice (tmsV e.kids)), (35, .int .i64 e.kids.length), (36, .int .i64 i)], [], [(2, tmC e)], 1⟩) (fun _ => fin) (fun i => e.kids.length - i) 0 ⟨Nat.zero_le _, by simp⟩ ?_ ?_
          · simp only [go_sem, tmC_eq, tmsV_len]
          · rintro i ⟨hi, h0⟩ hrun
            by_cases hc : i < e.kids.length
            · have hlt := natlt_t hc
              have hx : e.kids[i]? = some e.kids[i] := List.getElem?_eq_getElem hc
              have hg : (tmsV e.kids)[i]? = some (.agg (tmC e.kids[i])) := by rw [tmsV_get, hx]; rfl
              have hm := tm_tots_mem (List.getElem_mem hc)
              have d := ih e.kids[i] (a + 1) (by omega) (by omega) (by omega)
              obtain ⟨ya, yb⟩ := any_take hx h0
              have w1 : IntKind.i64.wrap ((i : Int) + 1) = ((i + 1 : Nat) : Int) := wrapN (i + 1) (by omega)
              simp only [tmC_eq] at hg d
              cases hd : e.kids[i].deep (a + 1)
              · rw [hd] at d
                simp only [go_sem, tmC_eq, hlt, natge0, tonat, hg, w0, d]
                refine hrun (i + 1) _ ⟨hc, yb hd⟩ (by omega) ?_
                simp only [go_sem, tmC_eq, w1]
              · rw [hd] at d
                rw [hfin, ya hd]
                simp only [go_sem, tmC_eq, hlt, natge0, tonat, hg, w0, d, Bool.true_or]
            · have hlt := natlt_f hc
              have hik : i = e.kids.length := by omega
              rw [hik, List.take_length] at h0
              rw [h0, Bool.false_or] at hfin
              simp only [go_sem, tmC_eq, hlt]
              refine run_ind (fun i : Nat => i ≤ e.alts.length ∧ (e.alts.take i).any (fun x => x.body.deep (a + 1)) = false) (fun i => ⟨[(1, .int .i64 a), (46, .slice (tasV e.alts)), (47, .int .i64 e.alts.length), (48, .int .i64 i)], [], [], 1⟩) (fun _ => fin) (fun i => e.alts.length - i) 0 ⟨Nat.zero_le _, by simp⟩ ?_ ?_
              · simp only [go_sem, tasV_len]
              · rintro j ⟨hj, g0⟩ hrun2
                by_cases hc2 : j < e.alts.length
                · have hlt2 := natlt_t hc2
                  have hx2 : e.alts[j]? = some e.alts[j] := List.getElem?_eq_getElem hc2
                  have hg2 : (tasV e.alts)[j]? = some (taV e.alts[j]) := by rw [tasV_get, hx2]; rfl
                  have hm2 := ta_vars (List.getElem_mem hc2)
                  have d2 := ih e.alts[j].body (a + 1) (by omega) (by omega) (by omega)
                  obtain ⟨ya, yb⟩ := any_take hx2 g0
                  have w1 : IntKind.i64.wrap ((j : Int) + 1) = ((j + 1 : Nat) : Int) := wrapN (j + 1) (by omega)
                  simp only [taV_eq, tmC_eq] at hg2 d2
                  cases hd2 : e.alts[j].body.deep (a + 1)
                  · rw [hd2] at d2
                    simp only [go_sem, hlt2, natge0, tonat, hg2, w0, d2]
                    refine hrun2 (j + 1) _ ⟨hc2, yb hd2⟩ (by omega) ?_
                    simp only [go_sem, w1]
                  · rw [hd2] at d2
                    rw [hfin, ya hd2]
                    simp only [go_sem, hlt2, natge0, tonat, hg2, w0, d2]
                · have hlt2 := natlt_f hc2
                  have hik2 : j = e.alts.length := by omega
                  rw [hik2, List.take_length] at g0
                  rw [hfin, g0]
                  simp only [go_sem, hlt2]
        · simp only [go_sem, Tryz.f47, c1, c2, g100, natDeep, q0, q1, q2, q3, Bool.true_or, Bool.or_true]
      · simp only [go_sem, Tryz.f47, c1, g100, natDeep, q0, q1, q2, Bool.true_or, Bool.or_true]
    · simp only [go_sem, Tryz.f47, c1, g100, natDeep, q0, q1, Bool.true_or, Bool.or_true]
  · simp only [go_sem, Tryz.f47, c1, g100, q0, Bool.true_or]
/-- what the readers of terms hand back -/
def endM (x : Tm) (r : Rd) : Tm × Int := if r.bad || decide (0 < r.l.length) then (zTm, 120) else if x.deep 0 then (zTm, 3) else (x, 0)
def tmO (f : Nat) (s : List UInt8) : Option (Tm × Int) := if (scanO s).2 != 0 then some (zTm, (scanO s).2) else match trR f .term ⟨(scanO s).1, false⟩ with
 | none => none
 | some (x, r) => some (endM x r)
theorem tmRead_ok {f : Nat} {s : List UInt8} {x : Tm} {r : Rd} (h : trR f .term ⟨(scanO s).1, false⟩ = some (x, r)) (hg : r.bad = false) : GM x ∧ x.tot ≤ 12000 := by
 obtain ⟨h1, h2⟩ := scanO_F s
 have := trR_ok _ _ _ _ _ h2 h hg
 exact ⟨this.1, by have := this.2; simp only at this; omega⟩
theorem tmO_tot (s : List UInt8) : ∃ p, tmO F0 s = some p := by
 obtain ⟨h1, h2⟩ := scanO_F s
 unfold tmO
 split
 · exact ⟨_, rfl⟩
 · obtain ⟨⟨x, r⟩, h3⟩ := trR_tot F0 .term ⟨(scanO s).1, false⟩ h2 (needM_le (by unfold F0; omega) fun _ => by unfold F0; simp only [rankM]; omega)
   rw [h3]; exact ⟨_, rfl⟩
theorem tmO_good {f : Nat} {s : List UInt8} {p : Tm × Int} (h : tmO f s = some p) (h0 : p.2 = 0) : GM p.1 ∧ p.1.tot ≤ 12000 ∧ p.1.deep 0 = false := by
 unfold tmO at h
 split at h
 · rename_i he
   injection h with h; subst h
   simp only at h0
   rw [h0] at he
   exact absurd he (by decide)
 · split at h
   · cases h
   · rename_i x r hd
     injection h with h; subst h
     unfold endM at h0 ⊢
     cases hb : r.bad
     · have k := tmRead_ok hd hb
       rw [hb] at h0
       split at h0
       · exact absurd h0 (by decide)
       · split at h0
         · exact absurd h0 (by decide)
         · rename_i h3 h4
           rw [if_neg (by simpa using h3), if_neg h4]
           exact ⟨k.1, k.2, by simpa using h4⟩
     · rw [hb] at h0; simp at h0
theorem fpterm_den {f : Nat} {s : List UInt8} {p : Tm × Int} (h : tmO f s = some p) : den E 10 [.str s] [] = some (.tup [.agg (tmC p.1), .int .i64 p.2], []) := by
 rw [den_eq prim_10, body_10]
 obtain ⟨hlen, hok⟩ := scanO_F s
 have hgood : ∀ x r, trR f .term ⟨(scanO s).1, false⟩ = some (x, r) → r.bad = false → x.tot < 1000000 := fun x r h hg => by have := (tmRead_ok h hg).2; omega
 obtain ⟨pos, hT⟩ := scanO_T s
 have hsc := scanAll_den s
 rw [hT] at hsc
 unfold tmO at h
 generalize (scanO s).1 = l at *
 generalize (scanO s).2 = e at *
 cases he : e == 0
 · have he' : (e != 0) = true := by rw [bne_not, he]; rfl
   rw [he', if_pos rfl] at h
   injection h with h; subst h
   simp only [go_sem, Tryz.f10, hsc, he', zTmC]
 · have he' : (e != 0) = false := by rw [bne_not, he]; rfl
   rw [he'] at h
   simp only [Bool.false_eq_true, if_false] at h
   split at h
   · cases h
   · rename_i x r hx
     injection h with h; subst h
     have d1 := trR_den f .term _ _ hok (by simp only; omega) hx
     simp only [MDenF, rdV, tmC_eq] at d1
     unfold endM
     cases hb : r.bad
     · rw [hb] at d1
       have hgt : decide (((toksV r.l).length : Int) > 0) = decide (0 < r.l.length) := by rw [toksV_len]; simp
       cases hn : decide (0 < r.l.length)
       · have ht := hgood x r hx hb
         have e2 := fdeep_den _ x 0 (Nat.le_refl _) ht (by omega)
         simp only [tmC_eq, Int.natCast_zero] at e2
         cases q1 : x.deep 0
         · rw [q1] at e2
           simp only [go_sem, Tryz.f10, hsc, he', d1, hgt, hn, e2, tmC_eq, Bool.or_false]
         · rw [q1] at e2
           simp only [go_sem, Tryz.f10, hsc, he', d1, hgt, hn, e2, zTmC, Bool.or_false]
       · simp only [go_sem, Tryz.f10, hsc, he', d1, hgt, hn, zTmC, Bool.false_or]
     · rw [hb] at d1
       simp only [go_sem, Tryz.f10, hsc, he', d1, zTmC, Bool.true_or]
/-! the laws of chapter 14 -/
end Go.Proofs
