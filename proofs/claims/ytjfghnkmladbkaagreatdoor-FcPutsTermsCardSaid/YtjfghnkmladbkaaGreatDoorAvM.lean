/- The readers of coercions and terms of the document give the same. -/
import Derived.Test.YtjfghnkmladbkaaGreatDoorAvL
namespace Go.Proofs
open Go.Av
set_option maxHeartbeats 16000000
set_option maxRecDepth 100000
/-! the document's reader of coercions: its parts -/
theorem r5num_den (s : List UInt8) (hd : ∀ c ∈ s, digitB c = true) (hl : s.length ≤ 6) : den E 133 [.str s] [] = some (.int .i64 (numS s), []) := by
 rw [den_eq prim_133, body_133]
 simp only [go_sem, Tryz.f133]
 refine run_for (fun i => ⟨[(0, .str s), (3, .int .i64 (numS (s.take i))), (4, .int .i64 i)], [], [], 1⟩) s.length ?_ ?_ ?_
 · simp only [go_sem, List.take_zero, show numS [] = 0 from rfl]
 · intro i hi h
   have hlt : decide (i < s.length) = true := by simpa using hi
   obtain ⟨c, hc, hdd⟩ := drop_get hi
   have hcd := digit_bound (hd c (List.mem_of_getElem? hc))
   have hb : numS (s.take i) < 1000000 := by
    have h1 := numS_lt (s.take i) (fun x hx => hd x (List.mem_of_mem_take hx))
    refine Nat.lt_of_lt_of_le h1 ?_
    exact Nat.le_trans (Nat.pow_le_pow_right (by omega) (show (s.take i).length ≤ 6 by simp; omega)) (by decide)
   have w1 : IntKind.i64.wrap (10 * ((numS (s.take i) : Nat) : Int)) = ((10 * numS (s.take i) : Nat) : Int) := by
    rw [show (10 * ((numS (s.take i) : Nat) : Int)) = ((10 * numS (s.take i) : Nat) : Int) by omega]; exact wrapN _ (by omega)
   have w2 : IntKind.u8.wrap ((c.toNat : Int) - 48) = ((c.toNat - 48 : Nat) : Int) := by
    rw [IntWalk.u8_in _ (by omega)]; omega
   have w3 : IntKind.i64.wrap ((c.toNat - 48 : Nat) : Int) = ((c.toNat - 48 : Nat) : Int) := wrapN _ (by omega)
   have w4 : IntKind.i64.wrap (((10 * numS (s.take i) : Nat) : Int) + ((c.toNat - 48 : Nat) : Int)) = ((10 * numS (s.take i) + (c.toNat - 48) : Nat) : Int) := wrapN (10 * numS (s.take i) + (c.toNat - 48)) (by omega)
   have w5 : IntKind.i64.wrap ((i : Int) + 1) = ((i + 1 : Nat) : Int) := wrapN (i + 1) (by omega)
   have e : numS (s.take (i + 1)) = 10 * numS (s.take i) + (c.toNat - 48) := by
    rw [← numS_snoc]
    congr 1
    rw [List.take_succ_eq_append_getElem hi]
    congr 1
    rw [List.getElem?_eq_getElem hi] at hc
    injection hc with hc; rw [hc]
   simp only [go_sem, natlt, hlt, natge0, tonat, hc, w1, w2, w3, w4]
   refine h _ ?_
   simp only [go_sem, w5, e]
 · simp only [go_sem, natlt, show decide (s.length < s.length) = false by simp, List.take_length]
def kindsL : List (List UInt8) := [[83, 121, 109], [84, 114, 97, 110, 115], [67, 111, 110], [70, 117, 110], [65, 108, 108], [78, 116, 104], [73, 110, 115, 116]]
def kfrom : List (List UInt8) → Int → List UInt8 → Int
 | [], _, _ => 0
 | w :: r, k, s => if w == s then k else kfrom r (k + 1) s
theorem kfrom_all (s : List UInt8) : kfrom kindsL 3 s = kindC s := by
 have hw : ∀ w : List UInt8, (w == s) = (s == w) := fun w => by rw [Bool.beq_comm]
 simp only [kfrom, kindsL, hw, kindC]; rfl
theorem r5kind_den (s : List UInt8) : den E 132 [.str s] [] = some (.int .i64 (kindC s), []) := by
 rw [den_eq prim_132, body_132]
 simp only [go_sem, Tryz.f132]
 refine run_ind (fun x : Nat => x ≤ 7 ∧ kfrom (kindsL.drop x) (3 + (x : Int)) s = kindC s) (fun x => ⟨[(0, .str s), (3, .own 9 0 (kindsL.map .str)), (4, .int .i64 (x : Int))], [], [], 1⟩)
  (fun _ => some (.int .i64 (kindC s), [])) (fun x => 7 - x) 0 ⟨by omega, kfrom_all s⟩ ?_ ?_
 · simp only [go_sem, kindsL, List.map_cons, List.map_nil]
 · rintro x ⟨hx, hk⟩ hrun
   have hlen : (kindsL.map AVal.str).length = 7 := rfl
   by_cases h7 : x < 7
   · have hlt : decide ((x : Int) < 7) = true := by simp; omega
     have h7' : x < kindsL.length := h7
     obtain ⟨w, hw, hd⟩ : ∃ w, kindsL[x]? = some w ∧ kindsL.drop x = w :: kindsL.drop (x + 1) := ⟨kindsL[x], List.getElem?_eq_getElem h7', (List.getElem_cons_drop h7').symm⟩
     have hg : (kindsL.map AVal.str)[x]? = some (.str w) := by rw [List.getElem?_map, hw]; rfl
     have w1 : IntKind.i64.wrap ((x : Int) + 1) = ((x + 1 : Nat) : Int) := wrapN (x + 1) (by omega)
     have w2 : IntKind.i64.wrap (3 + (x : Int)) = 3 + (x : Int) := by
      have := wrapN (3 + x) (by omega); rw [show (3 : Int) + (x : Int) = ((3 + x : Nat) : Int) by omega]; exact this
     rw [hd] at hk
     simp only [kfrom] at hk
     cases hc : w == s
     · rw [hc] at hk
       simp only [Bool.false_eq_true, if_false] at hk
       simp only [go_sem, hlen, hlt, natge0, tonat, hg, hc]
       refine hrun (x + 1) _ ⟨by omega, ?_⟩ (by omega) ?_
       · rw [← hk]; congr 1
       · simp only [go_sem, w1]
     · rw [hc] at hk
       simp only [if_true] at hk
       simp only [go_sem, hlen, hlt, natge0, tonat, hg, hc, w2]
       rw [hk]
   · have hx7 : x = 7 := by omega
     subst hx7
     have h0 : kindC s = 0 := by rw [← hk]; rfl
     simp only [go_sem, hlen, h0]
theorem typK_bad {f : Nat} {r : Rd} {x : Ty × Rd} (h : typK f r = some x) (hb : (nextR r 6 [60]).bad = true) : x.2.bad = true := by
 unfold typK at h
 split at h
 · cases h
 · rw [hb] at h
   split at h <;> (injection h with h; subst h)
   · simp only [nextR]; split <;> rfl
   · rfl
theorem drop_tail {full l : List Tok} (hs : l <:+ full) (_ : 0 < l.length) : full.drop (full.length - l.length + 1) = l.tail := by
 have := suf_drop hs
 rw [← List.tail_drop, this]
theorem r5typ_den (full : List Tok) (hok : ∀ t ∈ full, tokOK2 t) (hlen : full.length < 1000000) (f : Nat) (r : Rd) (x : Ty × Rd) (hs : r.l <:+ full) (hb : r.bad = false) (h : typK f r = some x) :
 ∃ t', den E 131 [.slice (toksV full), .int .i64 ((full.length - r.l.length : Nat) : Int)] [] = some (.tup [tyV t', .int .i64 (idx full x.2)], []) ∧ (x.2.bad = false → t' = x.1) := by
 rw [den_eq prim_131, body_131]
 have h1 := is_den full (full.length - r.l.length) 6 [60]
 rw [suf_drop hs] at h1
 cases c1 : seesT r.l 6 [60]
 · rw [c1] at h1
   have hx := typK_bad h (by unfold nextR; rw [c1]; rfl)
   refine ⟨zTy, ?_, fun h2 => by rw [hx] at h2; cases h2⟩
   rw [idx_bad hx]
   simp only [go_sem, Tryz.f131, h1, zTyV]
 · rw [c1] at h1
   obtain ⟨t0, q0, hl⟩ := seesT_cons c1
   have hle := hs.length_le
   have hpos : 0 < r.l.length := by rw [hl]; simp
   have w1 : IntKind.i64.wrap (((full.length - r.l.length : Nat) : Int) + 1) = ((full.length - r.l.length + 1 : Nat) : Int) := wrapN (full.length - r.l.length + 1) (by omega)
   unfold typK nextR at h
   rw [c1] at h
   simp only [if_true, hb] at h
   split at h
   · cases h
   · rename_i t ok l' ht
     obtain ⟨t', j, h3, h4⟩ := tyR_ref full hok hlen f .typ (full.length - r.l.length + 1) (t, ok, l') (by omega) (by rw [drop_tail hs hpos]; exact ht)
     rw [tyV_eq] at h3
     cases ok
     · simp only [Bool.false_eq_true, if_false] at h
       injection h with h; subst h
       have := RR_no h4; subst this
       refine ⟨t', ?_, fun h => by cases h⟩
       simp only [go_sem, Tryz.f131, h1, w1, h3, tyV_eq, idxB]
     · simp only [if_true] at h
       injection h with h
       obtain ⟨rfl, rfl⟩ := RR_ok h4
       have hs' : l' <:+ full := (tyR_suf _ _ _ _ _ _ ht).trans ((List.tail_suffix _).trans hs)
       have h5 := is_den full (full.length - l'.length) 6 [62]
       rw [suf_drop hs'] at h5
       have hle' := hs'.length_le
       cases c2 : seesT l' 6 [62]
       · rw [c2] at h5 h
         simp only [Bool.false_eq_true, if_false] at h
         subst h
         refine ⟨t', ?_, fun h => by cases h⟩
         simp only [go_sem, Tryz.f131, h1, w1, h3, nat_neg, h5, tyV_eq, idxB]
       · rw [c2] at h5 h
         simp only [if_true] at h
         subst h
         obtain ⟨t1, q1, hl1⟩ := seesT_cons c2
         have w2 : IntKind.i64.wrap (((full.length - l'.length : Nat) : Int) + 1) = ((full.length - l'.tail.length : Nat) : Int) := by
          rw [hl1] at hle' ⊢
          simp only [List.length_cons, List.tail_cons] at hle' ⊢
          have := wrapN (full.length - (q1.length + 1) + 1) (by omega)
          rw [show full.length - q1.length = full.length - (q1.length + 1) + 1 by omega]; exact this
         refine ⟨t', ?_, fun _ => rfl⟩
         simp only [go_sem, Tryz.f131, h1, w1, h3, nat_neg, h5, w2, tyV_eq, idxG]
end Go.Proofs
namespace Go.Proofs
open Go.Av
set_option maxHeartbeats 32000000
set_option maxRecDepth 100000
def kB5 (k : Int) (s : List UInt8) (n : Int) (es : List AVal) : List AVal := [.int .i64 k, .str s, .int .i64 n, .int .i64 0, .str [], .int .i64 0, .own 38 0 [], .own 41 0 es]
def RC (full : List Tok) (x : Cx × Rd) (o : Option (AVal × Heap)) : Prop := ∃ x', o = some (.tup [.agg (cxC x'), .int .i64 (idx full x.2)], []) ∧ (x.2.bad = false → x' = x.1)
theorem seesT_kind {l : List Tok} {k k' : Int} {s s' : List UInt8} (h : seesT l k s = true) (hk : (k == k') = false) : seesT l k' s' = false := by
 obtain ⟨t, q, rfl⟩ := seesT_cons h
 simp only [seesT, Bool.and_eq_true, beq_iff_eq] at h
 simp only [seesT]
 rw [h.1, hk]; rfl
theorem nextR_bad {r : Rd} (h : r.bad = true) (k : Int) (s : List UInt8) : (nextR r k s).bad = true := by unfold nextR; split <;> simp [h]
theorem nextR_yes {r : Rd} {k : Int} {s : List UInt8} (h : seesT r.l k s = true) (hb : r.bad = false) : nextR r k s = ⟨r.l.tail, false⟩ := by unfold nextR; rw [h, hb]; rfl
theorem nextR_no {r : Rd} {k : Int} {s : List UInt8} (h : seesT r.l k s = false) : nextR r k s = ⟨r.l, true⟩ := by unfold nextR; rw [h]; rfl
theorem nextW_yes {r : Rd} {k : Int} {s : List UInt8} (h : seesT r.l k s = true) : nextW r k s = textT r.l := by unfold nextW; rw [h]; rfl
theorem nextW_no {r : Rd} {k : Int} {s : List UInt8} (h : seesT r.l k s = false) : nextW r k s = [] := by unfold nextW; rw [h]; rfl
/-- a token that is there -/
theorem at_tok {full l : List Tok} (hs : l <:+ full) (hlen : full.length < 1000000) {k : Int} {s : List UInt8} (h : seesT l k s = true) :
 (∃ t, full[full.length - l.length]? = some t ∧ t.text = textT l) ∧ IntKind.i64.wrap (((full.length - l.length : Nat) : Int) + 1) = ((full.length - l.tail.length : Nat) : Int) ∧ l.tail <:+ full := by
 obtain ⟨t, q, rfl⟩ := seesT_cons h
 have hle := hs.length_le
 refine ⟨⟨t, (head_get (suf_drop hs)).1, rfl⟩, ?_, (List.tail_suffix _).trans hs⟩
 simp only [List.length_cons, List.tail_cons] at hle ⊢
 have := wrapN (full.length - (q.length + 1) + 1) (by omega)
 rw [show full.length - q.length = full.length - (q.length + 1) + 1 by omega]; exact this
theorem typK_suf2 {f : Nat} {r : Rd} {x : Ty × Rd} (h : typK f r = some x) : x.2.l <:+ r.l := typK_suf (t := x.1) (r' := x.2) h
theorem headC_l (k : Int) (r : Rd) (h : k = 3 ∨ k = 4 ∨ k = 6 ∨ k = 9) : headC k r = ([], 0, r) := by
 rcases h with rfl | rfl | rfl | rfl <;> rfl
theorem cx_end (g : Nat) {r : Rd} (hl : r.l = []) (hb : r.bad = false) : cxR (g + 1) .co r = some (.mk 1 [] 0 zTy [], ⟨[], true⟩) := by
 cases r; simp only at hl hb; subst hl; subst hb
 simp [cxR, seesT, nextW, nextR]
theorem r5read_den (full : List Tok) (hok : ∀ t ∈ full, tokF t) (hlen : full.length < 1000000) : ∀ (f : Nat) (r : Rd) (x : Cx × Rd), r.l <:+ full → r.bad = false → cxR f .co r = some x →
 RC full x (den E 68 [.slice (toksV full), .int .i64 ((full.length - r.l.length : Nat) : Int)] []) := by
 intro f
 induction f using Nat.strongRecOn with
 | _ f ih =>
 intro r x hs hb h
 have hok2 : ∀ t ∈ full, tokOK2 t := fun t ht => (hok t ht).1.1
 cases f with
 | zero => cases h
 | succ f =>
 rw [cxR_co] at h
 simp only [hb, Bool.false_eq_true, if_false] at h
 have s1 := is_den full (full.length - r.l.length) 1 []
 have s2 := is_den full (full.length - r.l.length) 6 [60]
 have s3 := is_den full (full.length - r.l.length) 6 [40]
 rw [suf_drop hs] at s1 s2 s3
 cases c1 : seesT r.l 1 []
 · rw [c1] at s1
   cases c2 : seesT r.l 6 [60]
   · rw [c2] at s2 h
     simp only [Bool.false_eq_true, if_false] at h
     have hr : ∀ q : Rd, q.l <:+ full → q.bad = false → ∀ g y, g ≤ f → cxR g .co q = some y → ∃ x', den E 68 [.slice (toksV full), .int .i64 ((full.length - q.l.length : Nat) : Int)] [] = some (.tup [.agg [.int .i64 x'.kind, .str x'.name, .int .i64 x'.n, .int .i64 x'.ty.kind, .str x'.ty.name, .int .i64 x'.ty.n, .slice (tysV x'.ty.args), .slice (cxsV x'.kids)], .int .i64 (idx full y.2)], []) ∧ (y.2.bad = false → x' = y.1) ∧ y.2.l <:+ full := by
      intro q hq hqb g y hg hy
      obtain ⟨x', e1, e2⟩ := ih g (by omega) q y hq hqb hy
      rw [cxC_eq] at e1
      exact ⟨x', e1, e2, (cxR_suf _ _ _ _ _ hy).trans hq⟩
     by_cases hnil : r.l = []
     · -- nothing is left
       have e0 : seesT r.l 6 [40] = false := by rw [hnil]; rfl
       have e1 : seesT r.l 1 [] = false := by rw [hnil]; rfl
       rw [e0] at h s3
       simp only [Bool.false_eq_true, if_false] at h
       injection h with h; subst h
       have s4 := is_den full (full.length + 1) 2 []
       rw [List.drop_eq_nil_of_le (by omega)] at s4
       have w1 : IntKind.i64.wrap ((full.length : Int) + 1) = ((full.length + 1 : Nat) : Int) := wrapN (full.length + 1) (by omega)
       rw [hnil] at s1 s2 s3 ⊢
       simp only [List.length_nil, Nat.sub_zero] at s1 s2 s3 ⊢
       refine ⟨zCx, ?_, fun h2 => absurd h2 (by simp [nextR_no e1])⟩
       rw [nextR_no e1, den_eq prim_68, body_68]
       simp only [go_sem, Tryz.f68, s1, s2, s3, w1, s4, seesT, idxB, zCx, cxC_eq, cxmk, cxsV_nil, tysV_nil, zTy_k, zTy_s, zTy_n, zTy_a]
     have hpos : 0 < r.l.length := List.length_pos_iff.2 hnil
     have hle := hs.length_le
     have s4 := is_den full (full.length - r.l.length + 1) 2 []
     rw [drop_tail hs hpos] at s4
     have w1 : IntKind.i64.wrap (((full.length - r.l.length : Nat) : Int) + 1) = ((full.length - r.l.length + 1 : Nat) : Int) := wrapN (full.length - r.l.length + 1) (by omega)
     cases c3 : seesT r.l 6 [40]
     · rw [c3] at s3 h
       simp only [Bool.false_eq_true, if_false] at h
       injection h with h; subst h
       refine ⟨zCx, ?_, fun h2 => absurd h2 (by simp [nextR_no c1])⟩
       rw [nextR_no c1, den_eq prim_68, body_68]
       simp only [go_sem, Tryz.f68, s1, s2, s3, w1, s4, idxB, zCx, cxC_eq, cxmk, cxsV_nil, tysV_nil, zTy_k, zTy_s, zTy_n, zTy_a]
     · rw [c3] at s3 h
       simp only [if_true] at h
       rw [nextR_yes c3 hb] at h
       obtain ⟨_, _, hs1⟩ := at_tok hs hlen c3
       cases c4 : seesT r.l.tail 2 []
       · rw [c4] at s4
         unfold ruleR at h
         rw [nextW_no c4, show kindC [] = 0 from rfl] at h
         simp only [beq_self_eq_true, if_true] at h
         injection h with h; subst h
         have hbad : (nextR (⟨(nextR ⟨r.l.tail, false⟩ 2 []).l, true⟩ : Rd) 6 [41]).bad = true := nextR_bad rfl _ _
         refine ⟨zCx, ?_, fun h2 => absurd h2 (by simp [hbad])⟩
         rw [idx_bad hbad, den_eq prim_68, body_68]
         simp only [go_sem, Tryz.f68, s1, s2, s3, w1, s4, zCx, cxC_eq, cxmk, cxsV_nil, tysV_nil, zTy_k, zTy_s, zTy_n, zTy_a]
       · rw [c4] at s4
         obtain ⟨⟨t1, g1, e1⟩, v1, hs2⟩ := at_tok hs1 hlen c4
         have hlt : r.l.tail.length + 1 = r.l.length := by rw [List.length_tail]; omega
         have g1' : full[full.length - r.l.length + 1]? = some t1 := by rw [show full.length - r.l.length + 1 = full.length - r.l.tail.length by omega]; exact g1
         have w2 : IntKind.i64.wrap (((full.length - r.l.length : Nat) : Int) + 2) = ((full.length - r.l.tail.tail.length : Nat) : Int) := by
          rw [← v1, show full.length - r.l.tail.length = full.length - r.l.length + 1 by omega]; congr 1
         have kd := r5kind_den t1.text
         rw [e1] at kd
         unfold ruleR at h
         rw [nextW_yes c4, nextR_yes c4 rfl] at h
         generalize hq : r.l.tail.tail = q at h hs2 w2
         have hkc := kindC_cases (textT r.l.tail)
         generalize kindC (textT r.l.tail) = k at h hkc kd
         obtain ⟨D, hD⟩ : ∃ D, D = den E 68 [.slice (toksV full), .int .i64 ((full.length - r.l.length : Nat) : Int)] [] := ⟨_, rfl⟩
         rw [← hD]
         rw [den_eq prim_68, body_68] at hD
         rcases hkc with rfl | rfl | rfl | rfl | rfl | rfl | rfl | rfl
         · simp only [beq_self_eq_true, if_true] at h
           injection h with h; subst h
           have hbad : (nextR (⟨q, true⟩ : Rd) 6 [41]).bad = true := nextR_bad rfl _ _
           refine ⟨zCx, ?_, fun h2 => absurd h2 (by simp [hbad])⟩
           rw [idx_bad hbad, hD]
           simp only [go_sem, Tryz.f68, s1, s2, s3, w1, s4, natge0, tonat, toksV_get, g1', tokV, e1, kd, w2, zCx, cxC_eq, cxmk, cxsV_nil, tysV_nil, zTy_k, zTy_s, zTy_n, zTy_a]
         · -- kind 3
           rw [headC_l _ _ (.inl rfl)] at h
           simp only [Int.reduceBEq, Bool.false_eq_true, if_false, Bool.or_self] at h
           split at h
           · cases h
           · rename_i c5 r5 h5
             split at h5
             · cases h5
             · rename_i x1 r4 hx
               simp only [go_sem, Int.reduceBEq, Tryz.f68, s1, s2, s3, w1, s4, natge0, tonat, toksV_get, g1', tokV, e1, kd, w2] at hD
               rw [hD]
               clear hD
               refine run_ex (RC full x) (fun z : Nat × List Cx × Rd => z.1 ≤ f ∧ z.2.2.l <:+ full ∧ z.2.2.bad = false ∧ z.2.1.length ≤ 1 ∧ cxR z.1 (.kids (1 - z.2.1.length) z.2.1) z.2.2 = some (x1, r4))
                (fun z => ⟨[(0, .slice (toksV full)), (4, .ptr (.loc 4) 0), (12, .ptr (.loc 12) 0), (13, .int .i64 ((full.length - z.2.2.l.length : Nat) : Int)), (14, .int .i64 1)], [], [(4, kB5 0 [] 0 []), (12, kB5 3 [] 0 (cxsV z.2.1))], 1⟩) (fun z => z.1) (f, [], ⟨q, false⟩) ⟨Nat.le_refl _, hs2, rfl, by simp, hx⟩ ?_ ?_
               · simp only [go_sem, kB5, cxsV_nil]
               · rintro ⟨g, acc, q'⟩ ⟨hg, hq', hqb, hacc, he⟩ hrun
                 simp only at hg hq' hqb hacc he hrun ⊢
                 cases g with
                 | zero => cases he
                 | succ g =>
                 by_cases hlt : acc.length < 1
                 · rw [show 1 - acc.length = (1 - (acc.length + 1)) + 1 by omega] at he
                   simp only [cxR, hqb, Bool.false_eq_true, if_false] at he
                   split at he
                   · cases he
                   · rename_i y r' hy
                     obtain ⟨y', d5, hy', hs5⟩ := hr q' hq' hqb g (y, r') (by omega) hy
                     simp only at d5 hy' hs5
                     have b1 : decide (((cxsV acc).length : Int) < 1) = true := by rw [cxsV_len]; simp; omega
                     have s8 := is_den full (full.length - q'.l.length) 6 [41]
                     rw [suf_drop hq'] at s8
                     cases h8 : r'.bad
                     · have := hy' h8; subst this
                       rw [idx_ok h8] at d5
                       have hap : (cxsV acc).length + 1 ≤ appMax := by rw [cxsV_len]; unfold appMax; omega
                       cases c8 : seesT q'.l 6 [41] <;> rw [c8] at s8
                       all_goals (
                        simp only [go_sem, Int.reduceBEq, kB5, b1, s8, d5, nat_neg, hap, cxs_snoc]
                        refine hrun (g, acc ++ [y'], r') _ ⟨by simp only; omega, hs5, h8, by simp only [List.length_append, List.length_cons, List.length_nil]; omega, by simpa using he⟩ (by simp only; omega) ?_
                        simp only [go_sem, kB5])
                     · rw [idx_bad h8] at d5
                       have hr4 : r4.bad = true := by
                        cases h4 : r4.bad
                        · have := cxR_good _ _ _ _ _ he h4
                          rw [h8] at this; cases this
                        · rfl
                       have hbad : x.2.bad = true := by
                        simp only [Bool.false_eq_true, if_false, hr4, Bool.not_true, Bool.and_false] at h5
                        injection h5 with h5; injection h5 with e5 e6
                        subst e6
                        injection h with h; subst h
                        exact nextR_bad hr4 _ _
                       cases c8 : seesT q'.l 6 [41] <;> rw [c8] at s8
                       all_goals (
                        refine ⟨.mk 3 [] 0 zTy acc, ?_, fun h2 => absurd h2 (by simp [hbad])⟩
                        rw [idx_bad hbad]
                        simp only [go_sem, Int.reduceBEq, kB5, b1, s8, d5, cxC_eq, cxmk, tysV_nil, zTy_k, zTy_s, zTy_n, zTy_a])
                 · rw [show 1 - acc.length = 0 by omega] at he
                   simp only [cxR] at he
                   injection he with he; injection he with he1 he2
                   subst he2
                   have hk1 : x1.kids = acc := by rw [← he1]; rfl
                   rw [hk1] at h5
                   have b1 : decide (((cxsV acc).length : Int) < 1) = false := by rw [cxsV_len]; simp; omega
                   simp only [Bool.false_and, Bool.false_eq_true, if_false] at h5
                   injection h5 with h5; injection h5 with e5 e6
                   subst e5; subst e6
                   injection h with h; subst h
                   have s9 := is_den full (full.length - q'.l.length) 6 [41]
                   rw [suf_drop hq'] at s9
                   cases c9 : seesT q'.l 6 [41]
                   · rw [c9] at s9
                     refine ⟨.mk 3 [] 0 zTy acc, ?_, fun h2 => absurd h2 (by simp [nextR_no c9])⟩
                     rw [nextR_no c9]
                     simp only [go_sem, Int.reduceBEq, kB5, b1, s9, idxB, cxC_eq, cxmk, tysV_nil, zTy_k, zTy_s, zTy_n, zTy_a]
                   · rw [c9] at s9
                     obtain ⟨_, v9, _⟩ := at_tok hq' hlen c9
                     refine ⟨.mk 3 [] 0 zTy acc, ?_, fun _ => rfl⟩
                     rw [nextR_yes c9 hqb]
                     simp only [go_sem, Int.reduceBEq, kB5, b1, s9, v9, idxG, cxC_eq, cxmk, tysV_nil, zTy_k, zTy_s, zTy_n, zTy_a]
         · -- kind 4
           rw [headC_l _ _ (.inr (.inl rfl))] at h
           simp only [Int.reduceBEq, Bool.false_eq_true, if_false, if_true, Bool.or_false] at h
           split at h
           · cases h
           · rename_i c5 r5 h5
             split at h5
             · cases h5
             · rename_i x1 r4 hx
               simp only [go_sem, Int.reduceBEq, Tryz.f68, s1, s2, s3, w1, s4, natge0, tonat, toksV_get, g1', tokV, e1, kd, w2] at hD
               rw [hD]
               clear hD
               refine run_ex (RC full x) (fun z : Nat × List Cx × Rd => z.1 ≤ f ∧ z.2.2.l <:+ full ∧ z.2.2.bad = false ∧ z.2.1.length ≤ 2 ∧ cxR z.1 (.kids (2 - z.2.1.length) z.2.1) z.2.2 = some (x1, r4))
                (fun z => ⟨[(0, .slice (toksV full)), (4, .ptr (.loc 4) 0), (12, .ptr (.loc 12) 0), (13, .int .i64 ((full.length - z.2.2.l.length : Nat) : Int)), (14, .int .i64 2)], [], [(4, kB5 0 [] 0 []), (12, kB5 4 [] 0 (cxsV z.2.1))], 1⟩) (fun z => z.1) (f, [], ⟨q, false⟩) ⟨Nat.le_refl _, hs2, rfl, by simp, hx⟩ ?_ ?_
               · simp only [go_sem, kB5, cxsV_nil]
               · rintro ⟨g, acc, q'⟩ ⟨hg, hq', hqb, hacc, he⟩ hrun
                 simp only at hg hq' hqb hacc he hrun ⊢
                 cases g with
                 | zero => cases he
                 | succ g =>
                 by_cases hlt : acc.length < 2
                 · rw [show 2 - acc.length = (2 - (acc.length + 1)) + 1 by omega] at he
                   simp only [cxR, hqb, Bool.false_eq_true, if_false] at he
                   split at he
                   · cases he
                   · rename_i y r' hy
                     obtain ⟨y', d5, hy', hs5⟩ := hr q' hq' hqb g (y, r') (by omega) hy
                     simp only at d5 hy' hs5
                     have b1 : decide (((cxsV acc).length : Int) < 2) = true := by rw [cxsV_len]; simp; omega
                     have s8 := is_den full (full.length - q'.l.length) 6 [41]
                     rw [suf_drop hq'] at s8
                     cases h8 : r'.bad
                     · have := hy' h8; subst this
                       rw [idx_ok h8] at d5
                       have hap : (cxsV acc).length + 1 ≤ appMax := by rw [cxsV_len]; unfold appMax; omega
                       cases c8 : seesT q'.l 6 [41] <;> rw [c8] at s8
                       all_goals (
                        simp only [go_sem, Int.reduceBEq, kB5, b1, s8, d5, nat_neg, hap, cxs_snoc]
                        refine hrun (g, acc ++ [y'], r') _ ⟨by simp only; omega, hs5, h8, by simp only [List.length_append, List.length_cons, List.length_nil]; omega, by simpa using he⟩ (by simp only; omega) ?_
                        simp only [go_sem, kB5])
                     · rw [idx_bad h8] at d5
                       have hr4 : r4.bad = true := by
                        cases h4 : r4.bad
                        · have := cxR_good _ _ _ _ _ he h4
                          rw [h8] at this; cases this
                        · rfl
                       have hbad : x.2.bad = true := by
                        simp only [Bool.false_eq_true, if_false, hr4, Bool.not_true, Bool.and_false] at h5
                        injection h5 with h5; injection h5 with e5 e6
                        subst e6
                        injection h with h; subst h
                        exact nextR_bad hr4 _ _
                       cases c8 : seesT q'.l 6 [41] <;> rw [c8] at s8
                       all_goals (
                        refine ⟨.mk 4 [] 0 zTy acc, ?_, fun h2 => absurd h2 (by simp [hbad])⟩
                        rw [idx_bad hbad]
                        simp only [go_sem, Int.reduceBEq, kB5, b1, s8, d5, cxC_eq, cxmk, tysV_nil, zTy_k, zTy_s, zTy_n, zTy_a])
                 · rw [show 2 - acc.length = 0 by omega] at he
                   simp only [cxR] at he
                   injection he with he; injection he with he1 he2
                   subst he2
                   have hk1 : x1.kids = acc := by rw [← he1]; rfl
                   rw [hk1] at h5
                   have b1 : decide (((cxsV acc).length : Int) < 2) = false := by rw [cxsV_len]; simp; omega
                   simp only [Bool.false_and, Bool.false_eq_true, if_false] at h5
                   injection h5 with h5; injection h5 with e5 e6
                   subst e5; subst e6
                   injection h with h; subst h
                   have s9 := is_den full (full.length - q'.l.length) 6 [41]
                   rw [suf_drop hq'] at s9
                   cases c9 : seesT q'.l 6 [41]
                   · rw [c9] at s9
                     refine ⟨.mk 4 [] 0 zTy acc, ?_, fun h2 => absurd h2 (by simp [nextR_no c9])⟩
                     rw [nextR_no c9]
                     simp only [go_sem, Int.reduceBEq, kB5, b1, s9, idxB, cxC_eq, cxmk, tysV_nil, zTy_k, zTy_s, zTy_n, zTy_a]
                   · rw [c9] at s9
                     obtain ⟨_, v9, _⟩ := at_tok hq' hlen c9
                     refine ⟨.mk 4 [] 0 zTy acc, ?_, fun _ => rfl⟩
                     rw [nextR_yes c9 hqb]
                     simp only [go_sem, Int.reduceBEq, kB5, b1, s9, v9, idxG, cxC_eq, cxmk, tysV_nil, zTy_k, zTy_s, zTy_n, zTy_a]
         · -- kind 5
           have s5 := is_den full (full.length - q.length) 2 []
           rw [suf_drop hs2] at s5
           have hh : headC 5 ⟨q, false⟩ = (nextW ⟨q, false⟩ 2 [], 0, nextR ⟨q, false⟩ 2 []) := rfl
           rw [hh] at h
           simp only [Int.reduceBEq, Bool.false_eq_true, if_false, if_true, Bool.or_self] at h
           cases c5 : seesT q 2 []
           · rw [c5] at s5
             have hn := nextR_no (r := ⟨q, false⟩) c5
             have hbad : x.2.bad = true := by
              cases hx2 : x.2.bad
              · exfalso
                split at h
                · cases h
                · rename_i c5 r5 h5
                  injection h with h; subst h
                  split at h5
                  · cases h5
                  · rename_i x1 r4 hx
                    simp only [Bool.false_and, Bool.false_eq_true, if_false] at h5
                    injection h5 with h5; injection h5 with e5 e6
                    subst e6
                    have h4 : r4.bad = true := by
                     cases h4 : r4.bad
                     · have := cxR_good _ _ _ _ _ hx h4
                       rw [hn] at this; cases this
                     · rfl
                    rw [nextR_bad h4] at hx2; cases hx2
              · rfl
             refine ⟨.mk 5 [] 0 zTy [], ?_, fun h2 => absurd h2 (by simp [hbad])⟩
             rw [idx_bad hbad, hD]
             simp only [go_sem, Int.reduceBEq, Tryz.f68, s1, s2, s3, w1, s4, natge0, tonat, toksV_get, g1', tokV, e1, kd, w2, s5, cxC_eq, cxmk, cxsV_nil, tysV_nil, zTy_k, zTy_s, zTy_n, zTy_a]
           · rw [c5] at s5
             obtain ⟨⟨t5, g5, e5⟩, v5, hs3⟩ := at_tok hs2 hlen c5
             rw [nextR_yes (r := ⟨q, false⟩) c5 rfl, nextW_yes (r := ⟨q, false⟩) c5] at h
             simp only at h
             split at h
             · cases h
             · rename_i c5 r5 h5
               split at h5
               · cases h5
               · rename_i x1 r4 hx
                 simp only [go_sem, Int.reduceBEq, Tryz.f68, s1, s2, s3, w1, s4, natge0, tonat, toksV_get, g1', tokV, e1, kd, w2, s5, v5, natge0, tonat, g5, e5] at hD
                 rw [hD]
                 clear hD
                 refine run_ex (RC full x) (fun z : Nat × List Cx × Rd => z.1 ≤ f ∧ z.2.2.l <:+ full ∧ z.2.2.bad = false ∧ z.2.1.length + z.2.2.l.length ≤ q.length ∧ cxR z.1 (.con z.2.1) z.2.2 = some (x1, r4))
                  (fun z => ⟨[(0, .slice (toksV full)), (4, .ptr (.loc 4) 0), (12, .ptr (.loc 12) 0), (13, .int .i64 ((full.length - z.2.2.l.length : Nat) : Int)), (14, .int .i64 1)], [], [(4, kB5 0 [] 0 []), (12, kB5 5 (textT q) 0 (cxsV z.2.1))], 1⟩) (fun z => z.1) (f, [], ⟨q.tail, false⟩) ⟨Nat.le_refl _, hs3, rfl, by simp, hx⟩ ?_ ?_
                 · simp only [go_sem, kB5, cxsV_nil]
                 · rintro ⟨g, acc, q'⟩ ⟨hg, hq', hqb, hacc, he⟩ hrun
                   simp only at hg hq' hqb hacc he hrun ⊢
                   have hqlen := hs2.length_le
                   cases g with
                   | zero => cases he
                   | succ g =>
                   have s8 := is_den full (full.length - q'.l.length) 6 [41]
                   rw [suf_drop hq'] at s8
                   simp only [cxR, hqb, Bool.not_false, Bool.true_and] at he
                   obtain ⟨b1, hb1⟩ : ∃ b, decide (((cxsV acc).length : Int) < 1) = b := ⟨_, rfl⟩
                   cases c8 : seesT q'.l 6 [41]
                   · rw [c8] at s8 he
                     by_cases hnil2 : q'.l = []
                     · rw [hnil2] at he
                       simp only [List.length_nil, Nat.lt_irrefl, decide_false, Bool.false_and, Bool.false_eq_true, if_false] at he
                       injection he with he; injection he with he1 he2
                       subst he2
                       simp only [Bool.false_and, Bool.false_eq_true, if_false] at h5
                       injection h5 with h5; injection h5 with e5 e6
                       subst e5; subst e6
                       injection h with h; subst h
                       obtain ⟨y', d5, hy', hs5⟩ := hr q' hq' hqb 1 _ (by omega) (cx_end 0 hnil2 hqb)
                       rw [idxB] at d5
                       refine ⟨.mk 5 (textT q) 0 zTy acc, ?_, fun h2 => absurd h2 (by simp [nextR_no c8])⟩
                       rw [nextR_no c8]
                       cases b1 <;> simp only [go_sem, kB5, hb1, s8, d5, idxB, cxC_eq, cxmk, tysV_nil, zTy_k, zTy_s, zTy_n, zTy_a]
                     · have hpos2 : decide (0 < q'.l.length) = true := by simpa using List.length_pos_iff.2 hnil2
                       simp only [hpos2, Bool.true_and, Bool.not_false, if_true] at he
                       split at he
                       · cases he
                       · rename_i y r' hy
                         obtain ⟨y', d5, hy', hs5⟩ := hr q' hq' hqb g (y, r') (by omega) hy
                         simp only at d5 hy' hs5
                         cases h8 : r'.bad
                         · have := hy' h8; subst this
                           rw [idx_ok h8] at d5
                           have hap : (cxsV acc).length + 1 ≤ appMax := by rw [cxsV_len]; unfold appMax; omega
                           have hless : r'.l.length + 1 ≤ q'.l.length := by
                            have := cxR_ok _ _ _ _ _ (memF hok hq') hy h8
                            have h1 := this.2
                            have h2 := cx_tot_pos y'
                            omega
                           cases b1
                           all_goals (
                            simp only [go_sem, kB5, hb1, s8, d5, nat_neg, hap, cxs_snoc]
                            refine hrun (g, acc ++ [y'], r') _ ⟨by simp only; omega, hs5, h8, by simp; omega, he⟩ (by simp only; omega) ?_
                            simp only [go_sem, kB5])
                         · rw [idx_bad h8] at d5
                           have hr4 : r4.bad = true := by
                            cases h4 : r4.bad
                            · have := cxR_good _ _ _ _ _ he h4
                              rw [h8] at this; cases this
                            · rfl
                           have hbad : x.2.bad = true := by
                            simp only [Bool.false_and, Bool.false_eq_true, if_false] at h5
                            injection h5 with h5; injection h5 with e5 e6
                            subst e6
                            injection h with h; subst h
                            exact nextR_bad hr4 _ _
                           refine ⟨.mk 5 (textT q) 0 zTy acc, ?_, fun h2 => absurd h2 (by simp [hbad])⟩
                           rw [idx_bad hbad]
                           cases b1 <;> simp only [go_sem, kB5, hb1, s8, d5, cxC_eq, cxmk, tysV_nil, zTy_k, zTy_s, zTy_n, zTy_a]
                   · rw [c8] at s8 he
                     simp only [Bool.not_true, Bool.and_false, Bool.false_eq_true, if_false] at he
                     injection he with he; injection he with he1 he2
                     subst he2
                     have hk1 : x1.kids = acc := by rw [← he1]; rfl
                     rw [hk1] at h5
                     simp only [Bool.false_and, Bool.false_eq_true, if_false] at h5
                     injection h5 with h5; injection h5 with e5 e6
                     subst e5; subst e6
                     injection h with h; subst h
                     obtain ⟨_, v9, _⟩ := at_tok hq' hlen c8
                     refine ⟨.mk 5 (textT q) 0 zTy acc, ?_, fun _ => rfl⟩
                     rw [nextR_yes c8 hqb]
                     cases b1 <;> simp only [go_sem, Int.reduceBEq, kB5, hb1, s8, v9, idxG, cxC_eq, cxmk, tysV_nil, zTy_k, zTy_s, zTy_n, zTy_a]
         · -- kind 6
           rw [headC_l _ _ (.inr (.inr (.inl rfl)))] at h
           simp only [Int.reduceBEq, Bool.false_eq_true, if_false, if_true, Bool.or_true] at h
           split at h
           · cases h
           · rename_i c5 r5 h5
             split at h5
             · cases h5
             · rename_i x1 r4 hx
               simp only [go_sem, Int.reduceBEq, Tryz.f68, s1, s2, s3, w1, s4, natge0, tonat, toksV_get, g1', tokV, e1, kd, w2] at hD
               rw [hD]
               clear hD
               refine run_ex (RC full x) (fun z : Nat × List Cx × Rd => z.1 ≤ f ∧ z.2.2.l <:+ full ∧ z.2.2.bad = false ∧ z.2.1.length ≤ 2 ∧ cxR z.1 (.kids (2 - z.2.1.length) z.2.1) z.2.2 = some (x1, r4))
                (fun z => ⟨[(0, .slice (toksV full)), (4, .ptr (.loc 4) 0), (12, .ptr (.loc 12) 0), (13, .int .i64 ((full.length - z.2.2.l.length : Nat) : Int)), (14, .int .i64 2)], [], [(4, kB5 0 [] 0 []), (12, kB5 6 [] 0 (cxsV z.2.1))], 1⟩) (fun z => z.1) (f, [], ⟨q, false⟩) ⟨Nat.le_refl _, hs2, rfl, by simp, hx⟩ ?_ ?_
               · simp only [go_sem, kB5, cxsV_nil]
               · rintro ⟨g, acc, q'⟩ ⟨hg, hq', hqb, hacc, he⟩ hrun
                 simp only at hg hq' hqb hacc he hrun ⊢
                 cases g with
                 | zero => cases he
                 | succ g =>
                 by_cases hlt : acc.length < 2
                 · rw [show 2 - acc.length = (2 - (acc.length + 1)) + 1 by omega] at he
                   simp only [cxR, hqb, Bool.false_eq_true, if_false] at he
                   split at he
                   · cases he
                   · rename_i y r' hy
                     obtain ⟨y', d5, hy', hs5⟩ := hr q' hq' hqb g (y, r') (by omega) hy
                     simp only at d5 hy' hs5
                     have b1 : decide (((cxsV acc).length : Int) < 2) = true := by rw [cxsV_len]; simp; omega
                     have s8 := is_den full (full.length - q'.l.length) 6 [41]
                     rw [suf_drop hq'] at s8
                     cases h8 : r'.bad
                     · have := hy' h8; subst this
                       rw [idx_ok h8] at d5
                       have hap : (cxsV acc).length + 1 ≤ appMax := by rw [cxsV_len]; unfold appMax; omega
                       cases c8 : seesT q'.l 6 [41] <;> rw [c8] at s8
                       all_goals (
                        simp only [go_sem, Int.reduceBEq, kB5, b1, s8, d5, nat_neg, hap, cxs_snoc]
                        refine hrun (g, acc ++ [y'], r') _ ⟨by simp only; omega, hs5, h8, by simp only [List.length_append, List.length_cons, List.length_nil]; omega, by simpa using he⟩ (by simp only; omega) ?_
                        simp only [go_sem, kB5])
                     · rw [idx_bad h8] at d5
                       have hr4 : r4.bad = true := by
                        cases h4 : r4.bad
                        · have := cxR_good _ _ _ _ _ he h4
                          rw [h8] at this; cases this
                        · rfl
                       have hbad : x.2.bad = true := by
                        simp only [Bool.false_eq_true, if_false, hr4, Bool.not_true, Bool.and_false] at h5
                        injection h5 with h5; injection h5 with e5 e6
                        subst e6
                        injection h with h; subst h
                        exact nextR_bad hr4 _ _
                       cases c8 : seesT q'.l 6 [41] <;> rw [c8] at s8
                       all_goals (
                        refine ⟨.mk 6 [] 0 zTy acc, ?_, fun h2 => absurd h2 (by simp [hbad])⟩
                        rw [idx_bad hbad]
                        simp only [go_sem, Int.reduceBEq, kB5, b1, s8, d5, cxC_eq, cxmk, tysV_nil, zTy_k, zTy_s, zTy_n, zTy_a])
                 · rw [show 2 - acc.length = 0 by omega] at he
                   simp only [cxR] at he
                   injection he with he; injection he with he1 he2
                   subst he2
                   have hk1 : x1.kids = acc := by rw [← he1]; rfl
                   rw [hk1] at h5
                   have b1 : decide (((cxsV acc).length : Int) < 2) = false := by rw [cxsV_len]; simp; omega
                   simp only [Bool.false_and, Bool.false_eq_true, if_false] at h5
                   injection h5 with h5; injection h5 with e5 e6
                   subst e5; subst e6
                   injection h with h; subst h
                   have s9 := is_den full (full.length - q'.l.length) 6 [41]
                   rw [suf_drop hq'] at s9
                   cases c9 : seesT q'.l 6 [41]
                   · rw [c9] at s9
                     refine ⟨.mk 6 [] 0 zTy acc, ?_, fun h2 => absurd h2 (by simp [nextR_no c9])⟩
                     rw [nextR_no c9]
                     simp only [go_sem, Int.reduceBEq, kB5, b1, s9, idxB, cxC_eq, cxmk, tysV_nil, zTy_k, zTy_s, zTy_n, zTy_a]
                   · rw [c9] at s9
                     obtain ⟨_, v9, _⟩ := at_tok hq' hlen c9
                     refine ⟨.mk 6 [] 0 zTy acc, ?_, fun _ => rfl⟩
                     rw [nextR_yes c9 hqb]
                     simp only [go_sem, Int.reduceBEq, kB5, b1, s9, v9, idxG, cxC_eq, cxmk, tysV_nil, zTy_k, zTy_s, zTy_n, zTy_a]
         · -- kind 7
           have s5 := is_den full (full.length - q.length) 1 []
           rw [suf_drop hs2] at s5
           have hh : headC 7 ⟨q, false⟩ = (nextW ⟨q, false⟩ 1 [], 0, nextR ⟨q, false⟩ 1 []) := rfl
           rw [hh] at h
           simp only [Int.reduceBEq, Bool.false_eq_true, if_false, Bool.or_self] at h
           cases c5 : seesT q 1 []
           · rw [c5] at s5
             have hn := nextR_no (r := ⟨q, false⟩) c5
             have hbad : x.2.bad = true := by
              cases hx2 : x.2.bad
              · exfalso
                split at h
                · cases h
                · rename_i c5 r5 h5
                  injection h with h; subst h
                  split at h5
                  · cases h5
                  · rename_i x1 r4 hx
                    simp only [Bool.false_and, Bool.false_eq_true, if_false] at h5
                    injection h5 with h5; injection h5 with e5 e6
                    subst e6
                    have h4 : r4.bad = true := by
                     cases h4 : r4.bad
                     · have := cxR_good _ _ _ _ _ hx h4
                       rw [hn] at this; cases this
                     · rfl
                    rw [nextR_bad h4] at hx2; cases hx2
              · rfl
             refine ⟨.mk 7 [] 0 zTy [], ?_, fun h2 => absurd h2 (by simp [hbad])⟩
             rw [idx_bad hbad, hD]
             simp only [go_sem, Int.reduceBEq, Tryz.f68, s1, s2, s3, w1, s4, natge0, tonat, toksV_get, g1', tokV, e1, kd, w2, s5, cxC_eq, cxmk, cxsV_nil, tysV_nil, zTy_k, zTy_s, zTy_n, zTy_a]
           · rw [c5] at s5
             obtain ⟨⟨t5, g5, e5⟩, v5, hs3⟩ := at_tok hs2 hlen c5
             rw [nextR_yes (r := ⟨q, false⟩) c5 rfl, nextW_yes (r := ⟨q, false⟩) c5] at h
             simp only at h
             split at h
             · cases h
             · rename_i c5 r5 h5
               split at h5
               · cases h5
               · rename_i x1 r4 hx
                 simp only [go_sem, Int.reduceBEq, Tryz.f68, s1, s2, s3, w1, s4, natge0, tonat, toksV_get, g1', tokV, e1, kd, w2, s5, v5, natge0, tonat, g5, e5] at hD
                 rw [hD]
                 clear hD
                 refine run_ex (RC full x) (fun z : Nat × List Cx × Rd => z.1 ≤ f ∧ z.2.2.l <:+ full ∧ z.2.2.bad = false ∧ z.2.1.length ≤ 1 ∧ cxR z.1 (.kids (1 - z.2.1.length) z.2.1) z.2.2 = some (x1, r4))
                  (fun z => ⟨[(0, .slice (toksV full)), (4, .ptr (.loc 4) 0), (12, .ptr (.loc 12) 0), (13, .int .i64 ((full.length - z.2.2.l.length : Nat) : Int)), (14, .int .i64 1)], [], [(4, kB5 0 [] 0 []), (12, kB5 7 (textT q) 0 (cxsV z.2.1))], 1⟩) (fun z => z.1) (f, [], ⟨q.tail, false⟩) ⟨Nat.le_refl _, hs3, rfl, by simp, hx⟩ ?_ ?_
                 · simp only [go_sem, kB5, cxsV_nil]
                 · rintro ⟨g, acc, q'⟩ ⟨hg, hq', hqb, hacc, he⟩ hrun
                   simp only at hg hq' hqb hacc he hrun ⊢
                   cases g with
                   | zero => cases he
                   | succ g =>
                   by_cases hlt : acc.length < 1
                   · rw [show 1 - acc.length = (1 - (acc.length + 1)) + 1 by omega] at he
                     simp only [cxR, hqb, Bool.false_eq_true, if_false] at he
                     split at he
                     · cases he
                     · rename_i y r' hy
                       obtain ⟨y', d5, hy', hs5⟩ := hr q' hq' hqb g (y, r') (by omega) hy
                       simp only at d5 hy' hs5
                       have b1 : decide (((cxsV acc).length : Int) < 1) = true := by rw [cxsV_len]; simp; omega
                       have s8 := is_den full (full.length - q'.l.length) 6 [41]
                       rw [suf_drop hq'] at s8
                       cases h8 : r'.bad
                       · have := hy' h8; subst this
                         rw [idx_ok h8] at d5
                         have hap : (cxsV acc).length + 1 ≤ appMax := by rw [cxsV_len]; unfold appMax; omega
                         cases c8 : seesT q'.l 6 [41] <;> rw [c8] at s8
                         all_goals (
                          simp only [go_sem, Int.reduceBEq, kB5, b1, s8, d5, nat_neg, hap, cxs_snoc]
                          refine hrun (g, acc ++ [y'], r') _ ⟨by simp only; omega, hs5, h8, by simp only [List.length_append, List.length_cons, List.length_nil]; omega, by simpa using he⟩ (by simp only; omega) ?_
                          simp only [go_sem, kB5])
                       · rw [idx_bad h8] at d5
                         have hr4 : r4.bad = true := by
                          cases h4 : r4.bad
                          · have := cxR_good _ _ _ _ _ he h4
                            rw [h8] at this; cases this
                          · rfl
                         have hbad : x.2.bad = true := by
                          simp only [Bool.false_eq_true, if_false, hr4, Bool.not_true, Bool.and_false] at h5
                          injection h5 with h5; injection h5 with e5 e6
                          subst e6
                          injection h with h; subst h
                          exact nextR_bad hr4 _ _
                         cases c8 : seesT q'.l 6 [41] <;> rw [c8] at s8
                         all_goals (
                          refine ⟨.mk 7 (textT q) 0 zTy acc, ?_, fun h2 => absurd h2 (by simp [hbad])⟩
                          rw [idx_bad hbad]
                          simp only [go_sem, Int.reduceBEq, kB5, b1, s8, d5, cxC_eq, cxmk, tysV_nil, zTy_k, zTy_s, zTy_n, zTy_a])
                   · rw [show 1 - acc.length = 0 by omega] at he
                     simp only [cxR] at he
                     injection he with he; injection he with he1 he2
                     subst he2
                     have hk1 : x1.kids = acc := by rw [← he1]; rfl
                     rw [hk1] at h5
                     have b1 : decide (((cxsV acc).length : Int) < 1) = false := by rw [cxsV_len]; simp; omega
                     simp only [Bool.false_and, Bool.false_eq_true, if_false] at h5
                     injection h5 with h5; injection h5 with e5 e6
                     subst e5; subst e6
                     injection h with h; subst h
                     have s9 := is_den full (full.length - q'.l.length) 6 [41]
                     rw [suf_drop hq'] at s9
                     cases c9 : seesT q'.l 6 [41]
                     · rw [c9] at s9
                       refine ⟨.mk 7 (textT q) 0 zTy acc, ?_, fun h2 => absurd h2 (by simp [nextR_no c9])⟩
                       rw [nextR_no c9]
                       simp only [go_sem, Int.reduceBEq, kB5, b1, s9, idxB, cxC_eq, cxmk, tysV_nil, zTy_k, zTy_s, zTy_n, zTy_a]
                     · rw [c9] at s9
                       obtain ⟨_, v9, _⟩ := at_tok hq' hlen c9
                       refine ⟨.mk 7 (textT q) 0 zTy acc, ?_, fun _ => rfl⟩
                       rw [nextR_yes c9 hqb]
                       simp only [go_sem, Int.reduceBEq, kB5, b1, s9, v9, idxG, cxC_eq, cxmk, tysV_nil, zTy_k, zTy_s, zTy_n, zTy_a]
         · -- kind 8
           have s5 := is_den full (full.length - q.length) 4 []
           rw [suf_drop hs2] at s5
           have hh : headC 8 ⟨q, false⟩ = ([], numC (nextW ⟨q, false⟩ 4 []), nextR ⟨q, false⟩ 4 []) := rfl
           rw [hh] at h
           simp only [Int.reduceBEq, Bool.false_eq_true, if_false, Bool.or_self] at h
           cases c5 : seesT q 4 []
           · rw [c5] at s5
             have hn := nextR_no (r := ⟨q, false⟩) c5
             have hbad : x.2.bad = true := by
              cases hx2 : x.2.bad
              · exfalso
                split at h
                · cases h
                · rename_i c5 r5 h5
                  injection h with h; subst h
                  split at h5
                  · cases h5
                  · rename_i x1 r4 hx
                    simp only [Bool.false_and, Bool.false_eq_true, if_false] at h5
                    injection h5 with h5; injection h5 with e5 e6
                    subst e6
                    have h4 : r4.bad = true := by
                     cases h4 : r4.bad
                     · have := cxR_good _ _ _ _ _ hx h4
                       rw [hn] at this; cases this
                     · rfl
                    rw [nextR_bad h4] at hx2; cases hx2
              · rfl
             refine ⟨.mk 8 [] 0 zTy [], ?_, fun h2 => absurd h2 (by simp [hbad])⟩
             rw [idx_bad hbad, hD]
             simp only [go_sem, Int.reduceBEq, Tryz.f68, s1, s2, s3, w1, s4, natge0, tonat, toksV_get, g1', tokV, e1, kd, w2, s5, cxC_eq, cxmk, cxsV_nil, tysV_nil, zTy_k, zTy_s, zTy_n, zTy_a]
           · rw [c5] at s5
             obtain ⟨⟨t5, g5, e5⟩, v5, hs3⟩ := at_tok hs2 hlen c5
             rw [nextR_yes (r := ⟨q, false⟩) c5 rfl, nextW_yes (r := ⟨q, false⟩) c5] at h
             simp only at h
             have hF5 := hok t5 (List.mem_of_getElem? g5)
             have k5 : t5.kind = 4 := by
              obtain ⟨t0, q0, hq0⟩ := seesT_cons c5
              have := (head_get (by rw [← hq0]; exact suf_drop hs2)).1
              rw [g5] at this; injection this with this; subst this
              rw [hq0] at c5
              simpa [seesT] using c5
             obtain ⟨n1, n2, n3⟩ := hF5.2 k5
             have d4 := r5num_den t5.text n3 n2
             have hnc : numC (textT q) = (numS t5.text : Int) := by rw [← e5]; simp only [numC, atoi_num n3 n1, Option.getD_some]
             rw [hnc] at h
             split at h
             · cases h
             · rename_i c5 r5 h5
               split at h5
               · cases h5
               · rename_i x1 r4 hx
                 simp only [go_sem, Int.reduceBEq, Tryz.f68, s1, s2, s3, w1, s4, natge0, tonat, toksV_get, g1', tokV, e1, kd, w2, s5, v5, natge0, tonat, g5, d4] at hD
                 rw [hD]
                 clear hD
                 refine run_ex (RC full x) (fun z : Nat × List Cx × Rd => z.1 ≤ f ∧ z.2.2.l <:+ full ∧ z.2.2.bad = false ∧ z.2.1.length ≤ 1 ∧ cxR z.1 (.kids (1 - z.2.1.length) z.2.1) z.2.2 = some (x1, r4))
                  (fun z => ⟨[(0, .slice (toksV full)), (4, .ptr (.loc 4) 0), (12, .ptr (.loc 12) 0), (13, .int .i64 ((full.length - z.2.2.l.length : Nat) : Int)), (14, .int .i64 1)], [], [(4, kB5 0 [] 0 []), (12, kB5 8 [] (numS t5.text : Int) (cxsV z.2.1))], 1⟩) (fun z => z.1) (f, [], ⟨q.tail, false⟩) ⟨Nat.le_refl _, hs3, rfl, by simp, hx⟩ ?_ ?_
                 · simp only [go_sem, kB5, cxsV_nil]
                 · rintro ⟨g, acc, q'⟩ ⟨hg, hq', hqb, hacc, he⟩ hrun
                   simp only at hg hq' hqb hacc he hrun ⊢
                   cases g with
                   | zero => cases he
                   | succ g =>
                   by_cases hlt : acc.length < 1
                   · rw [show 1 - acc.length = (1 - (acc.length + 1)) + 1 by omega] at he
                     simp only [cxR, hqb, Bool.false_eq_true, if_false] at he
                     split at he
                     · cases he
                     · rename_i y r' hy
                       obtain ⟨y', d5, hy', hs5⟩ := hr q' hq' hqb g (y, r') (by omega) hy
                       simp only at d5 hy' hs5
                       have b1 : decide (((cxsV acc).length : Int) < 1) = true := by rw [cxsV_len]; simp; omega
                       have s8 := is_den full (full.length - q'.l.length) 6 [41]
                       rw [suf_drop hq'] at s8
                       cases h8 : r'.bad
                       · have := hy' h8; subst this
                         rw [idx_ok h8] at d5
                         have hap : (cxsV acc).length + 1 ≤ appMax := by rw [cxsV_len]; unfold appMax; omega
                         cases c8 : seesT q'.l 6 [41] <;> rw [c8] at s8
                         all_goals (
                          simp only [go_sem, Int.reduceBEq, kB5, b1, s8, d5, nat_neg, hap, cxs_snoc]
                          refine hrun (g, acc ++ [y'], r') _ ⟨by simp only; omega, hs5, h8, by simp only [List.length_append, List.length_cons, List.length_nil]; omega, by simpa using he⟩ (by simp only; omega) ?_
                          simp only [go_sem, kB5])
                       · rw [idx_bad h8] at d5
                         have hr4 : r4.bad = true := by
                          cases h4 : r4.bad
                          · have := cxR_good _ _ _ _ _ he h4
                            rw [h8] at this; cases this
                          · rfl
                         have hbad : x.2.bad = true := by
                          simp only [Bool.false_eq_true, if_false, hr4, Bool.not_true, Bool.and_false] at h5
                          injection h5 with h5; injection h5 with e5 e6
                          subst e6
                          injection h with h; subst h
                          exact nextR_bad hr4 _ _
                         cases c8 : seesT q'.l 6 [41] <;> rw [c8] at s8
                         all_goals (
                          refine ⟨.mk 8 [] (numS t5.text : Int) zTy acc, ?_, fun h2 => absurd h2 (by simp [hbad])⟩
                          rw [idx_bad hbad]
                          simp only [go_sem, Int.reduceBEq, kB5, b1, s8, d5, cxC_eq, cxmk, tysV_nil, zTy_k, zTy_s, zTy_n, zTy_a])
                   · rw [show 1 - acc.length = 0 by omega] at he
                     simp only [cxR] at he
                     injection he with he; injection he with he1 he2
                     subst he2
                     have hk1 : x1.kids = acc := by rw [← he1]; rfl
                     rw [hk1] at h5
                     have b1 : decide (((cxsV acc).length : Int) < 1) = false := by rw [cxsV_len]; simp; omega
                     simp only [Bool.false_and, Bool.false_eq_true, if_false] at h5
                     injection h5 with h5; injection h5 with e5 e6
                     subst e5; subst e6
                     injection h with h; subst h
                     have s9 := is_den full (full.length - q'.l.length) 6 [41]
                     rw [suf_drop hq'] at s9
                     cases c9 : seesT q'.l 6 [41]
                     · rw [c9] at s9
                       refine ⟨.mk 8 [] (numS t5.text : Int) zTy acc, ?_, fun h2 => absurd h2 (by simp [nextR_no c9])⟩
                       rw [nextR_no c9]
                       simp only [go_sem, Int.reduceBEq, kB5, b1, s9, idxB, cxC_eq, cxmk, tysV_nil, zTy_k, zTy_s, zTy_n, zTy_a]
                     · rw [c9] at s9
                       obtain ⟨_, v9, _⟩ := at_tok hq' hlen c9
                       refine ⟨.mk 8 [] (numS t5.text : Int) zTy acc, ?_, fun _ => rfl⟩
                       rw [nextR_yes c9 hqb]
                       simp only [go_sem, Int.reduceBEq, kB5, b1, s9, v9, idxG, cxC_eq, cxmk, tysV_nil, zTy_k, zTy_s, zTy_n, zTy_a]
         · -- kind 9
           rw [headC_l _ _ (.inr (.inr (.inr rfl)))] at h
           simp only [Int.reduceBEq, Bool.false_eq_true, if_false, Bool.or_self] at h
           split at h
           · cases h
           · rename_i c5 r5 h5
             split at h5
             · cases h5
             · rename_i x1 r4 hx
               simp only [go_sem, Int.reduceBEq, Tryz.f68, s1, s2, s3, w1, s4, natge0, tonat, toksV_get, g1', tokV, e1, kd, w2] at hD
               rw [hD]
               clear hD
               refine run_ex (RC full x) (fun z : Nat × List Cx × Rd => z.1 ≤ f ∧ z.2.2.l <:+ full ∧ z.2.2.bad = false ∧ z.2.1.length ≤ 1 ∧ cxR z.1 (.kids (1 - z.2.1.length) z.2.1) z.2.2 = some (x1, r4))
                (fun z => ⟨[(0, .slice (toksV full)), (4, .ptr (.loc 4) 0), (12, .ptr (.loc 12) 0), (13, .int .i64 ((full.length - z.2.2.l.length : Nat) : Int)), (14, .int .i64 1)], [], [(4, kB5 0 [] 0 []), (12, kB5 9 [] 0 (cxsV z.2.1))], 1⟩) (fun z => z.1) (f, [], ⟨q, false⟩) ⟨Nat.le_refl _, hs2, rfl, by simp, hx⟩ ?_ ?_
               · simp only [go_sem, kB5, cxsV_nil]
               · rintro ⟨g, acc, q'⟩ ⟨hg, hq', hqb, hacc, he⟩ hrun
                 simp only at hg hq' hqb hacc he hrun ⊢
                 cases g with
                 | zero => cases he
                 | succ g =>
                 by_cases hlt : acc.length < 1
                 · rw [show 1 - acc.length = (1 - (acc.length + 1)) + 1 by omega] at he
                   simp only [cxR, hqb, Bool.false_eq_true, if_false] at he
                   split at he
                   · cases he
                   · rename_i y r' hy
                     obtain ⟨y', d5, hy', hs5⟩ := hr q' hq' hqb g (y, r') (by omega) hy
                     simp only at d5 hy' hs5
                     have b1 : decide (((cxsV acc).length : Int) < 1) = true := by rw [cxsV_len]; simp; omega
                     have s8 := is_den full (full.length - q'.l.length) 6 [41]
                     rw [suf_drop hq'] at s8
                     cases h8 : r'.bad
                     · have := hy' h8; subst this
                       rw [idx_ok h8] at d5
                       have hap : (cxsV acc).length + 1 ≤ appMax := by rw [cxsV_len]; unfold appMax; omega
                       cases c8 : seesT q'.l 6 [41] <;> rw [c8] at s8
                       all_goals (
                        simp only [go_sem, Int.reduceBEq, kB5, b1, s8, d5, nat_neg, hap, cxs_snoc]
                        refine hrun (g, acc ++ [y'], r') _ ⟨by simp only; omega, hs5, h8, by simp only [List.length_append, List.length_cons, List.length_nil]; omega, by simpa using he⟩ (by simp only; omega) ?_
                        simp only [go_sem, kB5])
                     · rw [idx_bad h8] at d5
                       have hr4 : r4.bad = true := by
                        cases h4 : r4.bad
                        · have := cxR_good _ _ _ _ _ he h4
                          rw [h8] at this; cases this
                        · rfl
                       have hbad : x.2.bad = true := by
                        simp only [Bool.false_eq_true, if_false, hr4, Bool.not_true, Bool.and_false] at h5
                        injection h5 with h5; injection h5 with e5 e6
                        subst e6
                        injection h with h; subst h
                        exact nextR_bad hr4 _ _
                       cases c8 : seesT q'.l 6 [41] <;> rw [c8] at s8
                       all_goals (
                        refine ⟨.mk 9 [] 0 zTy acc, ?_, fun h2 => absurd h2 (by simp [hbad])⟩
                        rw [idx_bad hbad]
                        simp only [go_sem, Int.reduceBEq, kB5, b1, s8, d5, cxC_eq, cxmk, tysV_nil, zTy_k, zTy_s, zTy_n, zTy_a])
                 · rw [show 1 - acc.length = 0 by omega] at he
                   simp only [cxR] at he
                   injection he with he; injection he with he1 he2
                   subst he2
                   have hk1 : x1.kids = acc := by rw [← he1]; rfl
                   rw [hk1] at h5
                   have b1 : decide (((cxsV acc).length : Int) < 1) = false := by rw [cxsV_len]; simp; omega
                   simp only [hqb, Bool.not_false, Bool.and_true, if_true] at h5
                   split at h5
                   · cases h5
                   · rename_i ty r6 hty
                     injection h5 with h5; injection h5 with e5 e6
                     subst e5; subst e6
                     injection h with h; subst h
                     obtain ⟨ty', d7, hty'⟩ := r5typ_den full hok2 hlen f q' (ty, r6) hq' hqb hty
                     rw [tyV_eq] at d7
                     have hs6 := (typK_suf2 hty).trans hq'
                     simp only at hs6 d7 hty'
                     cases h6 : r6.bad
                     · have := hty' h6; subst this
                       rw [idx_ok h6] at d7
                       have s9 := is_den full (full.length - r6.l.length) 6 [41]
                       rw [suf_drop hs6] at s9
                       cases c9 : seesT r6.l 6 [41]
                       · rw [c9] at s9
                         refine ⟨.mk 9 [] 0 ty' acc, ?_, fun h2 => absurd h2 (by simp [nextR_no c9])⟩
                         rw [nextR_no c9]
                         simp only [go_sem, Int.reduceBEq, kB5, b1, d7, nat_neg, s9, idxB, cxC_eq, cxmk]
                       · rw [c9] at s9
                         obtain ⟨_, v9, _⟩ := at_tok hs6 hlen c9
                         refine ⟨.mk 9 [] 0 ty' acc, ?_, fun _ => rfl⟩
                         rw [nextR_yes c9 h6]
                         simp only [go_sem, Int.reduceBEq, kB5, b1, d7, nat_neg, s9, v9, idxG, cxC_eq, cxmk]
                     · have hbad : (nextR r6 6 [41]).bad = true := nextR_bad h6 _ _
                       refine ⟨.mk 9 [] 0 zTy acc, ?_, fun h2 => absurd h2 (by simp [hbad])⟩
                       rw [idx_bad h6] at d7
                       rw [idx_bad hbad]
                       simp only [go_sem, Int.reduceBEq, kB5, b1, d7, cxC_eq, cxmk, tysV_nil, zTy_k, zTy_s, zTy_n, zTy_a]
   · rw [c2] at s2 h
     simp only [if_true] at h
     split at h
     · cases h
     · rename_i t r' ht
       injection h with h; subst h
       obtain ⟨t', d1, ht'⟩ := r5typ_den full hok2 hlen f r (t, r') hs hb ht
       rw [tyV_eq] at d1
       refine ⟨.mk 2 [] 0 t' [], ?_, fun hg => by rw [ht' hg]⟩
       rw [den_eq prim_68, body_68]
       simp only [go_sem, Tryz.f68, s1, s2, d1, cxC_eq, cxmk, cxsV_nil]
 · rw [c1] at s1
   rw [seesT_kind c1 rfl, seesT_kind c1 rfl] at h
   simp only [Bool.false_eq_true, if_false] at h
   injection h with h; subst h
   obtain ⟨⟨t, g1, e1⟩, v1, _⟩ := at_tok hs hlen c1
   refine ⟨.mk 1 (nextW r 1 []) 0 zTy [], ?_, fun _ => rfl⟩
   rw [nextR_yes c1 hb, nextW_yes c1, den_eq prim_68, body_68]
   simp only [go_sem, Tryz.f68, s1, natge0, tonat, toksV_get, g1, tokV, e1, v1, idxG, cxC_eq, cxmk, cxsV_nil, tysV_nil, zTy_k, zTy_s, zTy_n, zTy_a]
end Go.Proofs
namespace Go.Proofs
open Go.Av
set_option maxHeartbeats 16000000
set_option maxRecDepth 100000
/-! the document's reader of terms: its parts -/
theorem is12_den (full : List Tok) (r : Rd) (k : Int) (s : List UInt8) (hs : r.l <:+ full) :
 den E 114 [.slice (toksV full), .int .i64 (idx full r), .int .i64 k, .str s] [] = some (.bool (seesR r k s), []) := by
 rw [den_eq prim_114, body_114]
 unfold seesR
 cases hb : r.bad
 · have h1 := is_den full (full.length - r.l.length) k s
   rw [suf_drop hs] at h1
   rw [idx_ok hb]
   simp only [go_sem, Tryz.f114, nat_neg, h1]
 · rw [idx_bad hb]
   simp only [go_sem, Tryz.f114]
theorem next12_den (full : List Tok) (r : Rd) (k : Int) (s : List UInt8) (hs : r.l <:+ full) (hlen : full.length < 1000000) :
 den E 115 [.slice (toksV full), .int .i64 (idx full r), .int .i64 k, .str s] [] = some (.int .i64 (idx full (takeR r k s)), []) := by
 rw [den_eq prim_115, body_115]
 have h1 := is12_den full r k s hs
 unfold takeR
 cases h : seesR r k s
 · rw [h] at h1
   simp only [go_sem, Tryz.f115, h1, idxB]
 · rw [h] at h1
   obtain ⟨i1, i2, i3⟩ := idx_next hs h
   have w1 : IntKind.i64.wrap (idx full r + 1) = idx full r + 1 := by rw [i2]; exact IntWalk.i64_in _ (by omega)
   simp only [go_sem, Tryz.f115, h1, w1, i1]
theorem text12_den (full : List Tok) (r : Rd) (hs : r.l <:+ full) : den E 176 [.slice (toksV full), .int .i64 (idx full r)] [] = some (.str (headR r), []) := by
 rw [den_eq prim_176, body_176]
 unfold headR
 cases hb : r.bad
 · rw [idx_ok hb]
   have hle := hs.length_le
   cases hl : r.l with
   | nil =>
    have hge : decide (((full.length - 0 : Nat) : Int) ≥ ((full.length : Nat) : Int)) = true := by simp
    simp only [go_sem, Tryz.f176, nat_neg, toksV_len, hge]
   | cons t q =>
    rw [hl] at hs hle
    simp only [List.length_cons] at hle
    have hge : decide (((full.length - (t :: q).length : Nat) : Int) ≥ ((full.length : Nat) : Int)) = false := by simp; omega
    have hg := (head_get (suf_drop hs)).1
    simp only [List.length_cons] at hge hg
    simp only [go_sem, Tryz.f176, nat_neg, toksV_len, hge, natge0, tonat, toksV_get, hg, tokV, List.length_cons]
 · rw [idx_bad hb]
   simp only [go_sem, Tryz.f176]
theorem typ12_den (full : List Tok) (hok : ∀ t ∈ full, tokOK2 t) (hlen : full.length < 1000000) (f : Nat) (r : Rd) (x : Ty × Rd) (hs : r.l <:+ full) (h : typR f r = some x) :
 ∃ t', den E 177 [.slice (toksV full), .int .i64 (idx full r)] [] = some (.tup [tyV t', .int .i64 (idx full x.2)], []) ∧ (x.2.bad = false → t' = x.1) := by
 rw [den_eq prim_177, body_177]
 unfold typR at h
 cases hb : r.bad
 · rw [hb] at h
   simp only [Bool.false_eq_true, if_false] at h
   rw [idx_ok hb]
   split at h
   · cases h
   · rename_i t ok l' ht
     have h2 := tyR_ref full hok hlen f .typ (full.length - r.l.length) (t, ok, l') (by omega) (by rw [suf_drop hs]; exact ht)
     obtain ⟨t', j, h3, h4⟩ := h2
     cases ok
     · simp only [Bool.false_eq_true, if_false] at h
       injection h with h; subst h
       have := RR_no h4; subst this
       refine ⟨t', ?_, fun h => by cases h⟩
       rw [tyV_eq] at h3
       simp only [go_sem, Tryz.f177, nat_neg, h3, tyV_eq, idxB]
     · simp only [if_true] at h
       injection h with h; subst h
       obtain ⟨rfl, rfl⟩ := RR_ok h4
       refine ⟨t', ?_, fun _ => rfl⟩
       rw [tyV_eq] at h3
       simp only [go_sem, Tryz.f177, nat_neg, h3, tyV_eq, idxG]
 · rw [hb] at h
   simp only [if_true] at h
   injection h with h; subst h
   refine ⟨zTy, ?_, fun h2 => absurd (hb.symm.trans h2) (by decide)⟩
   rw [idx_bad hb]
   simp only [go_sem, Tryz.f177, zTyV]
theorem co12_den (full : List Tok) (hok : ∀ t ∈ full, tokF t) (hlen : full.length < 1000000) (f : Nat) (r : Rd) (x : Cx × Rd) (hs : r.l <:+ full) (h : coR2 f r = some x) :
 ∃ c', den E 179 [.slice (toksV full), .int .i64 (idx full r)] [] = some (.tup [.agg (cxC c'), .int .i64 (idx full x.2)], []) ∧ (x.2.bad = false → c' = x.1) := by
 rw [den_eq prim_179, body_179]
 unfold coR2 at h
 cases hb : r.bad
 · rw [hb] at h
   simp only [Bool.false_eq_true, if_false] at h
   rw [idx_ok hb]
   split at h
   · cases h
   · rename_i y r' hy
     obtain ⟨c', d1, hc⟩ := r5read_den full hok hlen f r (y, r') hs hb hy
     simp only at d1 hc
     rw [cxC_eq] at d1
     refine ⟨c', ?_, ?_⟩
     · cases h1 : r'.bad
       · rw [h1] at h
         simp only [Bool.false_eq_true, if_false] at h
         injection h with h; subst h
         simp only [go_sem, Tryz.f179, nat_neg, d1, cxC_eq]
       · rw [h1] at h
         simp only [if_true] at h
         injection h with h; subst h
         rw [idx_bad h1] at d1
         simp only [go_sem, Tryz.f179, nat_neg, d1, cxC_eq, idxB]
     · intro hg
       cases h1 : r'.bad
       · rw [h1] at h
         simp only [Bool.false_eq_true, if_false] at h
         injection h with h; subst h
         exact hc h1
       · rw [h1] at h
         simp only [if_true] at h
         injection h with h; subst h
         cases hg
 · rw [hb] at h
   simp only [if_true] at h
   injection h with h; subst h
   refine ⟨zCx, ?_, fun h2 => absurd (hb.symm.trans h2) (by decide)⟩
   rw [idx_bad hb]
   simp only [go_sem, Tryz.f179, zCxC]
theorem tok_at {full : List Tok} {r : Rd} {k : Int} {s : List UInt8} (hs : r.l <:+ full) (h : seesR r k s = true) : ∃ t q, r.l = t :: q ∧ full[full.length - r.l.length]? = some t ∧ wordR r k s = t.text := by
 obtain ⟨hb, t, q, hl⟩ := seesR_cons h
 refine ⟨t, q, hl, (head_get (by rw [← hl]; exact suf_drop hs)).1, ?_⟩
 unfold wordR; rw [h, hl]; rfl
theorem marks12_den (full : List Tok) (r : Rd) (s : List UInt8) (hs : r.l <:+ full) (hlen : full.length < 1000000) (hne : (s == []) = false) :
 ∃ ns : List (List UInt8), den E 225 [.slice (toksV full), .int .i64 (idx full r), .str s] [] = some (.tup [.slice (ns.map .str), .int .i64 (idx full (marks s r).2)], []) ∧ ((marks s r).2.bad = false → ns = (marks s r).1) := by
 unfold marks
 generalize hM : marksR r.l.length s [] r = M
 suffices hmain : (fun o : Option (AVal × Heap) => ∃ ns : List (List UInt8), o = some (.tup [.slice (ns.map .str), .int .i64 (idx full M.2)], []) ∧ (M.2.bad = false → ns = M.1)) (den E 225 [.slice (toksV full), .int .i64 (idx full r), .str s] []) from hmain
 rw [den_eq prim_225, body_225]
 have h1 := is12_den full r 6 s hs
 simp only [go_sem, Tryz.f225, h1]
 refine run_ex (fun o : Option (AVal × Heap) => ∃ ns : List (List UInt8), o = some (.tup [.slice (ns.map .str), .int .i64 (idx full M.2)], []) ∧ (M.2.bad = false → ns = M.1))
  (fun x : List (List UInt8) × Rd => x.2.l <:+ full ∧ marksR x.2.l.length s x.1 x.2 = M ∧ x.1.length + x.2.l.length ≤ r.l.length)
  (fun x => ⟨[(0, .slice (toksV full)), (1, .int .i64 (idx full x.2)), (2, .str s), (8, .own 9 0 (x.1.map .str)), (9, .bool (seesR x.2 6 s))], [], [], 1⟩) (fun x => x.2.l.length) ([], r) ⟨hs, hM, by simp⟩ ?_ ?_
 · simp only [go_sem, List.map_nil]
 · rintro ⟨acc, q⟩ ⟨hq, hm, hle⟩ hrun
   simp only at hq hm hle hrun ⊢
   have hl0 := hs.length_le
   cases b1 : seesR q 6 s
   · rw [marks_stop b1] at hm
     subst hm
     refine ⟨acc, ?_, fun _ => rfl⟩
     simp only [go_sem, hne]
   · rw [marks_step b1] at hm
     have w1 := idx_takes hq hlen b1
     have hq1 := (takesR_suf q 6 s).trans hq
     have h2 := is12_den full (takesR q 6 s) 1 [] hq1
     have hbn : (s != []) = true := by rw [bne, hne]; rfl
     have e1 : takesR q 6 s = ⟨q.l.tail, false⟩ := takesR_eq b1
     obtain ⟨t0, q0, hl, _, _⟩ := tok_at hq b1
     have hlt : (takesR q 6 s).l.length < q.l.length := by rw [e1, hl]; simp
     cases b2 : seesR (takesR q 6 s) 1 []
     · rw [b2] at h2
       have hbad : (takeR (takesR q 6 s) 1 []).bad = true := by unfold takeR; rw [b2]; rfl
       rw [marks_stop (seesR_bad hbad _ _)] at hm
       subst hm
       refine ⟨acc, ?_, fun h => absurd h (by simp [hbad])⟩
       rw [idx_bad hbad]
       simp only [go_sem, hne, w1, h2]
     · rw [b2] at h2
       have w2 := idx_takes hq1 hlen b2
       obtain ⟨t, q2, hl2, hg, hw⟩ := tok_at hq1 b2
       have h3 := is12_den full (takesR (takesR q 6 s) 1 []) 6 s ((takesR_suf _ 1 []).trans hq1)
       have et : takeR (takesR q 6 s) 1 [] = takesR (takesR q 6 s) 1 [] := by rw [takeR_eq b2, takesR_eq b2]
       rw [et, hw] at hm
       have hi := idx_ok (full := full) (sees_good b2)
       have hap : (acc.map AVal.str).length + 1 ≤ appMax := by rw [List.length_map]; unfold appMax; omega
       have hlt2 : (takesR (takesR q 6 s) 1 []).l.length < (takesR q 6 s).l.length := by rw [takesR_eq b2, hl2]; simp
       rw [hi] at w1 w2 h2
       simp only [go_sem, hne, w1, h2, natge0, tonat, toksV_get, hg, tokV, hap, str_snoc, w2, h3]
       refine hrun (acc ++ [t.text], takesR (takesR q 6 s) 1 []) _ ⟨(takesR_suf _ 1 []).trans hq1, hm, ?_⟩ ?_ ?_
       · simp only [List.length_append, List.length_cons, List.length_nil]; omega
       · simp only; omega
       · simp only [go_sem]
theorem names12_den (full : List Tok) (r : Rd) (hs : r.l <:+ full) (hlen : full.length < 1000000) :
 den E 225 [.slice (toksV full), .int .i64 (idx full r), .str []] [] = some (.tup [.slice ((namesR r).map .str), .int .i64 (idx full (behindR r))], []) := by
 rw [den_eq prim_225, body_225]
 have h1 := is12_den full r 6 [] hs
 simp only [go_sem, Tryz.f225, h1]
 refine run_ind (fun x : List (List UInt8) × List Tok => x.2 = r.l.drop x.1.length ∧ namesR r = x.1 ++ namesR ⟨x.2, r.bad⟩ ∧ x.1.length + x.2.length ≤ r.l.length) (fun x => ⟨[(0, .slice (toksV full)), (1, .int .i64 (idx full ⟨x.2, r.bad⟩)), (2, .str []), (8, .own 9 0 (x.1.map .str)), (9, .bool (seesR ⟨x.2, r.bad⟩ 6 []))], [], [], 1⟩)
  (fun _ => some (.tup [.slice ((namesR r).map .str), .int .i64 (idx full (behindR r))], [])) (fun x => x.2.length) ([], r.l) ⟨by simp, by simp, by simp⟩ ?_ ?_
 · simp only [go_sem, List.map_nil]
 · rintro ⟨names, lx⟩ ⟨hdrop, hnames, hle⟩ hrun
   simp only at hdrop hnames hle hrun ⊢
   have hsx : lx <:+ full := (hdrop ▸ List.drop_suffix _ _ : lx <:+ r.l).trans hs
   have h2 := is12_den full ⟨lx, r.bad⟩ 1 [] hsx
   cases b1 : seesR ⟨lx, r.bad⟩ 1 []
   · have hnx : namesR ⟨lx, r.bad⟩ = [] := by
      unfold seesR at b1
      unfold namesR
      cases hb : r.bad
      · simp only [hb, Bool.not_false, Bool.true_and] at b1
        simp only [Bool.false_eq_true, if_false]
        cases lx with
        | nil => rfl
        | cons t q => simp only [seesT] at b1; simp only [namesT]; rw [show (t.kind == 1) = false by simpa using b1]; rfl
      · rfl
     rw [hnx, List.append_nil] at hnames
     have hbe : behindR r = ⟨lx, r.bad⟩ := by unfold behindR; rw [hnames, ← hdrop]
     rw [hbe, hnames]
     rw [b1] at h2
     cases b6 : seesR ⟨lx, r.bad⟩ 6 [] <;> simp only [go_sem, h2]
   · rw [b1] at h2
     obtain ⟨hb, tk, q, hl⟩ := seesR_cons b1
     simp only at hb hl
     subst hl
     have hk : (tk.kind == 1) = true := by unfold seesR at b1; simpa [seesT, hb] using b1
     have hnx : namesR ⟨tk :: q, r.bad⟩ = tk.text :: namesR ⟨q, r.bad⟩ := by simp only [namesR, hb, Bool.false_eq_true, if_false, namesT, hk, if_true]
     obtain ⟨i1, i2, i3⟩ := idx_next (r := ⟨tk :: q, r.bad⟩) hsx b1
     have hsq : q <:+ full := (tail_suf (tk :: q)).trans hsx
     have hn := is12_den full ⟨q, r.bad⟩ 6 [] hsq
     have hg := (head_get (suf_drop hsx)).1
     simp only [List.tail_cons, List.length_cons] at i1 i2 i3 hg
     have w1 : IntKind.i64.wrap (((full.length - (q.length + 1) : Nat) : Int) + 1) = idx full ⟨q, r.bad⟩ := by rw [hb, i1, i2]; exact IntWalk.i64_in _ (by omega)
     have hap : (names.map AVal.str).length + 1 ≤ appMax := by
      rw [List.length_map]; simp only [List.length_cons] at hle; have := hs.length_le; unfold appMax; omega
     have hmap : names.map AVal.str ++ [.str tk.text] = (names ++ [tk.text]).map AVal.str := by simp
     rw [i2] at h2 ⊢
     cases b6 : seesR ⟨tk :: q, r.bad⟩ 6 []
     all_goals (
      simp only [go_sem, h2, natge0, tonat, toksV_get, hg, tokV, hap, hmap, w1, hn]
      refine hrun (names ++ [tk.text], q) _ ⟨?_, ?_, ?_⟩ ?_ ?_
      · simp only [List.length_append, List.length_singleton]
        rw [← List.drop_drop, ← hdrop]; rfl
      · rw [hnames, hnx]; simp
      · simp only [List.length_append, List.length_singleton]; simp only [List.length_cons] at hle; omega
      · simp
      · simp only [go_sem])
end Go.Proofs
namespace Go.Proofs
open Go.Av
set_option maxHeartbeats 32000000
set_option maxRecDepth 100000
/-! the document's reader of terms: a case -/
def tmZ5 : List AVal := [.int .i64 0, .str [], .int .i64 0, .str [], .int .i64 0, .own 38 0 [], .int .i64 0, .str [], .int .i64 0, .int .i64 0, .str [], .int .i64 0, .own 38 0 [], .own 41 0 [], .own 45 0 [], .own 130 0 []]
def tmB5 (t : Ty) (x : Tm) (acc : List Ta) : List AVal := [.int .i64 9, .str [], .int .i64 t.kind, .str t.name, .int .i64 t.n, .slice (tysV t.args), .int .i64 0, .str [], .int .i64 0, .int .i64 0, .str [], .int .i64 0, .own 38 0 [], .own 41 0 [], .slice (tmsV [x]), .own 130 0 (tasV acc)]
def RTm (full : List Tok) (x : Tm × Rd) (o : Option (AVal × Heap)) : Prop := ∃ x', o = some (.tup [.agg (tmC x'), .int .i64 (idx full x.2)], []) ∧ (x.2.bad = false → x' = x.1)
theorem tas_snoc5 (l : List Ta) (c : List UInt8) (ts cs vs : List (List UInt8)) (b : Tm) :
 tasV l ++ [.agg [.str c, .slice (ts.map .str), .slice (cs.map .str), .slice (vs.map .str), .int .i64 b.kind, .str b.name, .int .i64 b.ty.kind, .str b.ty.name, .int .i64 b.ty.n, .slice (tysV b.ty.args), .int .i64 b.co.kind, .str b.co.name, .int .i64 b.co.n, .int .i64 b.co.ty.kind, .str b.co.ty.name, .int .i64 b.co.ty.n, .slice (tysV b.co.ty.args), .slice (cxsV b.co.kids), .slice (tmsV b.kids), .slice (tasV b.alts)]] = tasV (l ++ [.mk c ts cs vs b]) := by
 rw [tasV_append, tasV_cons, tasV_nil, taV_eq, tmC_eq]; rfl
theorem marks_bad {r : Rd} (h : r.bad = true) (s : List UInt8) : (marks s r).2 = r := by unfold marks; rw [marks_stop (seesR_bad h _ _)]
theorem marks_good {r : Rd} {s : List UInt8} (h : (marks s r).2.bad = false) : r.bad = false := by
 cases hb : r.bad
 · rfl
 · rw [marks_bad hb, hb] at h; cases h
theorem takeR_good2 {r : Rd} {k : Int} {s : List UInt8} (h : (takeR r k s).bad = false) : r.bad = false := sees_good (takeR_good h)
theorem r12case_den (full : List Tok) (hok : ∀ t ∈ full, tokF t) (hlen : full.length < 1000000) (f : Nat)
 (IH : ∀ g, g ≤ f → ∀ q y, q.l <:+ full → trR g .term q = some y → RTm full y (den E 49 [.slice (toksV full), .int .i64 (idx full q)] []))
 (r : Rd) (x : Tm × Rd) (hs : (takeR r 3 [99, 97, 115, 101]).l <:+ full) (h : splitR f r = some x) :
 RTm full x (den E 178 [.slice (toksV full), .int .i64 (idx full (takeR r 3 [99, 97, 115, 101]))] []) := by
 have hok2 : ∀ t ∈ full, tokOK2 t := fun t ht => (hok t ht).1.1
 unfold splitR at h
 generalize takeR r 3 [99, 97, 115, 101] = r0 at h hs
 split at h
 · cases h
 · rename_i x1 r1 h1
   split at h
   · cases h
   · rename_i t r3 h3
     have hs1 := (trR_suf _ _ _ _ _ h1).trans hs
     have s1 := (takeR_suf r1 6 [58]).trans hs1
     have s3 := (typR_suf h3).trans s1
     have s4 := (takeR_suf r3 3 [111, 102]).trans s3
     have s5 := (takeR_suf (takeR r3 3 [111, 102]) 6 [123]).trans s4
     obtain ⟨x1', d1, hx1⟩ := IH f (Nat.le_refl _) r0 (x1, r1) hs h1
     simp only at d1 hx1
     have a1 := next12_den full r1 6 [58] hs1 hlen
     obtain ⟨t', d3, ht⟩ := typ12_den full hok2 hlen f _ (t, r3) s1 h3
     simp only at d3 ht
     have a4 := next12_den full r3 3 [111, 102] s3 hlen
     have a5 := next12_den full (takeR r3 3 [111, 102]) 6 [123] s4 hlen
     have a6 := is12_den full (takeR (takeR r3 3 [111, 102]) 6 [123]) 6 [125] s5
     have good : (takeR (takeR r3 3 [111, 102]) 6 [123]).bad = false → x1' = x1 ∧ t' = t := fun hg => by
      have g3 := takeR_good2 (takeR_good2 hg)
      have g1 := takeR_good2 (typR_good h3 g3)
      exact ⟨hx1 g1, ht g3⟩
     generalize hq5 : takeR (takeR r3 3 [111, 102]) 6 [123] = q5 at h a5 a6 s5 good
     rw [tmC_eq] at d1
     rw [tyV_eq] at d3
     cases h6 : seesR q5 6 [125]
     · rw [h6] at h a6
       simp only [Bool.false_eq_true, if_false] at h
       split at h
       · cases h
       · rename_i y r6 hy
         injection h with h; subst h
         have hge := idx_ge0 full q5
         suffices hmain : RTm full (.mk 9 [] t zCx [x1] y.alts, takeR r6 6 [125]) (den E 178 [.slice (toksV full), .int .i64 (idx full r0)] []) from hmain
         rw [den_eq prim_178, body_178]
         simp only [go_sem, Tryz.f178, d1, a1, d3, a4, a5, a6, hge]
         refine run_ex (RTm full (.mk 9 [] t zCx [x1] y.alts, takeR r6 6 [125]))
          (fun z : Nat × List Ta × Rd × Bool => z.2.2.1.l <:+ full ∧ z.1 ≤ f ∧
            (if z.2.2.2 then z.2.2.1.bad = false ∧ z.2.1.length + z.2.2.1.l.length ≤ full.length ∧ trR z.1 (.alts z.2.1) z.2.2.1 = some (y, r6) ∧ x1' = x1 ∧ t' = t
             else idx full (takeR z.2.2.1 6 [125]) = idx full (takeR r6 6 [125]) ∧ ((takeR r6 6 [125]).bad = false → z.2.1 = y.alts ∧ x1' = x1 ∧ t' = t)))
          (fun z => ⟨[(0, .slice (toksV full)), (4, .ptr (.loc 4) 0), (7, .int .i64 (idx full z.2.2.1)), (8, .ptr (.loc 8) 0), (10, .bool z.2.2.2)], [], [(4, tmZ5), (8, tmB5 t' x1' z.2.1)], 1⟩)
          (fun z => 2 * z.1 + (if z.2.2.2 then 1 else 0)) (f, [], q5, !q5.bad) ⟨s5, Nat.le_refl _, ?_⟩ ?_ ?_
         · cases hb : q5.bad
           · exact ⟨rfl, by simpa using s5.length_le, hy, good hb⟩
           · have hb6 := trR_bad f _ _ _ hb hy
             simp only at hb6
             simp only [Bool.not_true, Bool.false_eq_true, if_false]
             rw [takeR_bad hb, takeR_bad hb6, idx_bad hb, idx_bad hb6]
             exact ⟨rfl, fun hg => absurd hg (by simp [hb6])⟩
         · simp only [go_sem, tmZ5, tmB5, tasV_nil, tmsV_cons, tmsV_nil, tmC_eq]
         · rintro ⟨g, acc, q, more⟩ ⟨hq, hg, hi⟩ hrun
           simp only at hq hg hi hrun ⊢
           cases more
           · simp only [Bool.false_eq_true, if_false] at hi
             have b2 := next12_den full q 6 [125] hq hlen
             rw [hi.1] at b2
             refine ⟨.mk 9 [] t' zCx [x1'] acc, ?_, fun hg2 => ?_⟩
             · simp only [go_sem, tmZ5, tmB5, b2, zCx_p, tmC_eq, tmk, tmsV_cons, tmsV_nil, cxsV_nil, tysV_nil, zTy_k, zTy_s, zTy_n, zTy_a]
             · obtain ⟨e1, e2, e3⟩ := hi.2 hg2
               rw [e1, e2, e3]
           · simp only [if_true] at hi
             obtain ⟨hqb, hle, he, ex, et⟩ := hi
             cases g with
             | zero => cases he
             | succ g =>
             simp only [trR] at he
             split at he
             · cases he
             · rename_i b r4 h4
               have c0 := text12_den full q hq
               have c1 := next12_den full q 2 [] hq hlen
               have q1 := (takeR_suf q 2 []).trans hq
               obtain ⟨ts', c2, e2⟩ := marks12_den full (takeR q 2 []) [64] q1 hlen rfl
               have q2 : (marks [64] (takeR q 2 [])).2.l <:+ full := (marksR_suf _ _ _ _).trans q1
               obtain ⟨cs', c3, e3⟩ := marks12_den full (marks [64] (takeR q 2 [])).2 [126] q2 hlen rfl
               have q3 : (marks [126] (marks [64] (takeR q 2 [])).2).2.l <:+ full := (marksR_suf _ _ _ _).trans q2
               have c4 := names12_den full (marks [126] (marks [64] (takeR q 2 [])).2).2 q3 hlen
               have q4 := (altA_suf q).trans hq
               have c5 := next12_den full (altA q).2.2.2 6 [45, 62] q4 hlen
               have q5' := (takeR_suf (altA q).2.2.2 6 [45, 62]).trans q4
               obtain ⟨b', d4, hb'⟩ := IH g (by omega) _ (b, r4) q5' h4
               have q6 := (trR_suf _ _ _ _ _ h4).trans q5'
               have hlr : r4.l.length ≤ q.l.length := ((trR_suf _ _ _ _ _ h4).trans ((takeR_suf (altA q).2.2.2 6 [45, 62]).trans (altA_suf q))).length_le
               have c6 := is12_den full r4 6 [59] q6
               simp only at d4 hb'
               rw [tmC_eq] at d4
               have ebe : behindR (marks [126] (marks [64] (takeR q 2 [])).2).2 = (altA q).2.2.2 := rfl
               rw [ebe] at c4
               have hsame : r4.bad = false → Ta.mk (headR q) ts' cs' (namesR (marks [126] (marks [64] (takeR q 2 [])).2).2) b' = .mk (wordR q 2 []) (altA q).1 (altA q).2.1 (altA q).2.2.1 b := fun hg4 => by
                have g1 := trR_good h4 hg4
                have g2 : (altA q).2.2.2.bad = false := takeR_good2 g1
                have g3 : (marks [126] (marks [64] (takeR q 2 [])).2).2.bad = false := g2
                have g4 := marks_good g3
                have g5 := marks_good g4
                rw [headR_sees (takeR_good g5), e2 g4, e3 g3, hb' hg4]; rfl
               have hap : (tasV acc).length + 1 ≤ appMax := by rw [tasV_len]; unfold appMax; omega
               cases h5 : seesR r4 6 [59]
               · rw [h5] at he c6
                 simp only [Bool.false_eq_true, if_false] at he
                 injection he with he; injection he with he1 he2
                 subst he2
                 simp only [go_sem, tmZ5, tmB5, c0, c1, c2, c3, c4, c5, d4, hap, tas_snoc5, c6]
                 refine hrun (g, acc ++ [.mk (headR q) ts' cs' (namesR (marks [126] (marks [64] (takeR q 2 [])).2).2) b'], r4, false) _ ⟨q6, by simp only; omega, ?_⟩ ?_ ?_
                 · simp only [Bool.false_eq_true, if_false]
                   refine ⟨trivial, fun hg2 => ⟨?_, ex, et⟩⟩
                   rw [hsame (takeR_good2 hg2), ← he1]; rfl
                 · simp only [Bool.false_eq_true, if_false, if_true]; omega
                 · simp only [go_sem, tmZ5, tmB5]
               · rw [h5] at he c6
                 simp only [if_true] at he
                 have w1 := idx_takes q6 hlen h5
                 have k1 := takesR_len h5
                 simp only [go_sem, tmZ5, tmB5, c0, c1, c2, c3, c4, c5, d4, hap, tas_snoc5, c6, w1]
                 refine hrun (g, acc ++ [.mk (headR q) ts' cs' (namesR (marks [126] (marks [64] (takeR q 2 [])).2).2) b'], takesR r4 6 [59], true) _ ⟨(takesR_suf _ _ _).trans q6, by simp only; omega, ?_⟩ ?_ ?_
                 · simp only [if_true]
                   refine ⟨by rw [takesR_eq h5], by simp only [List.length_append, List.length_singleton]; omega, ?_, ex, et⟩
                   rw [hsame (sees_good h5)]; exact he
                 · simp only [if_true]; omega
                 · simp only [go_sem, tmZ5, tmB5]
     · rw [h6] at h a6
       simp only [if_true] at h
       injection h with h; subst h
       obtain ⟨e1, e2⟩ := good (sees_good h6)
       have w1 := idx_takes s5 hlen h6
       refine ⟨.mk 9 [] t zCx [x1] [], ?_, fun _ => rfl⟩
       rw [e1] at d1
       rw [e2] at d3
       rw [den_eq prim_178, body_178]
       simp only [go_sem, Tryz.f178, d1, a1, d3, a4, a5, a6, w1, tmk, zCx_p, tmC_eq, tmk, tmsV_cons, tmsV_nil, tasV_nil, cxsV_nil, tysV_nil, zTy_k, zTy_s, zTy_n, zTy_a]
end Go.Proofs
namespace Go.Proofs
open Go.Av
set_option maxHeartbeats 32000000
set_option maxRecDepth 100000
/-! the document's reader of terms -/
def RT (full : List Tok) (r : Rd) (x : Tm × Rd) : TrM → Prop
 | .term => RTm full x (den E 49 [.slice (toksV full), .int .i64 (idx full r)] [])
 | .form => r.bad = false → RTm full x (den E 116 [.slice (toksV full), .int .i64 (idx full r)] [])
 | .alts _ => True
theorem takes_take {r : Rd} {k : Int} {s : List UInt8} (h : seesR r k s = true) : takesR r k s = takeR r k s := by rw [takesR_eq h, takeR_eq h]
theorem trR_ref (full : List Tok) (hok : ∀ t ∈ full, tokF t) (hlen : full.length < 1000000) : ∀ (f : Nat) (m : TrM) (r : Rd) (x : Tm × Rd), r.l <:+ full → trR f m r = some x → RT full r x m := by
 intro f
 induction f using Nat.strongRecOn with
 | _ f ih =>
 intro m r x hs h
 have hok2 : ∀ t ∈ full, tokOK2 t := fun t ht => (hok t ht).1.1
 cases f with
 | zero => cases h
 | succ f =>
 cases m with
 | alts _ => trivial
 | term =>
  simp only [RT]
  simp only [trR] at h
  have s1 := is12_den full r 1 [] hs
  have s2 := is12_den full r 2 [] hs
  cases b1 : seesR r 1 []
  · rw [b1] at h s1
    simp only [Bool.false_eq_true, if_false] at h
    cases b2 : seesR r 2 []
    · rw [b2] at h s2
      simp only [Bool.false_eq_true, if_false] at h
      have n1 := next12_den full r 6 [40] hs hlen
      have hs1 := (takeR_suf r 6 [40]).trans hs
      have lt1 := idx_lt0 full (takeR r 6 [40])
      cases hb : (takeR r 6 [40]).bad
      · rw [hb] at h lt1
        simp only [Bool.false_eq_true, if_false] at h
        split at h
        · cases h
        · rename_i t r2 h2
          injection h with h; subst h
          have hs2 := (trR_suf _ _ _ _ _ h2).trans hs1
          have d1 := ih f (by omega) .form _ _ hs1 h2
          simp only [RT] at d1
          obtain ⟨t', d1, ht⟩ := d1 hb
          have n3 := next12_den full r2 6 [41] hs2 hlen
          rw [tmC_eq] at d1
          refine ⟨t', ?_, fun hg => ht (takeR_good2 hg)⟩
          rw [den_eq prim_49, body_49]
          simp only [go_sem, Tryz.f49, s1, s2, n1, lt1, d1, n3, tmC_eq]
      · rw [hb] at h lt1
        simp only [if_true] at h
        injection h with h; subst h
        refine ⟨zTm, ?_, fun _ => rfl⟩
        rw [den_eq prim_49, body_49, idx_bad hb]
        rw [idx_bad hb] at n1
        simp only [go_sem, Tryz.f49, s1, s2, n1, zTmC]
    · rw [b2] at h s2
      simp only [if_true] at h
      injection h with h; subst h
      have w1 := idx_takes hs hlen b2
      have i1 := idx_ok (full := full) (sees_good b2)
      obtain ⟨t, q, hl, hg, hw⟩ := tok_at hs b2
      refine ⟨.mk 2 t.text zTy zCx [] [], ?_, fun _ => by rw [hw]⟩
      rw [← takes_take b2, den_eq prim_49, body_49]
      rw [i1] at s1 s2 w1 ⊢
      simp only [go_sem, Tryz.f49, s1, s2, natge0, tonat, toksV_get, hg, tokV, w1, zCx_p, tmC_eq, tmk, tmsV_nil, tasV_nil, cxsV_nil, tysV_nil, zTy_k, zTy_s, zTy_n, zTy_a]
  · rw [b1] at h s1
    simp only [if_true] at h
    injection h with h; subst h
    have w1 := idx_takes hs hlen b1
    have i1 := idx_ok (full := full) (sees_good b1)
    obtain ⟨t, q, hl, hg, hw⟩ := tok_at hs b1
    refine ⟨.mk 1 t.text zTy zCx [] [], ?_, fun _ => by rw [hw]⟩
    rw [← takes_take b1, den_eq prim_49, body_49]
    rw [i1] at s1 w1 ⊢
    simp only [go_sem, Tryz.f49, s1, natge0, tonat, toksV_get, hg, tokV, w1, zCx_p, tmC_eq, tmk, tmsV_nil, tasV_nil, cxsV_nil, tysV_nil, zTy_k, zTy_s, zTy_n, zTy_a]
 | form =>
  intro hb
  have rd : ∀ q : Rd, q.l <:+ full → ∀ g y, g ≤ f → trR g .term q = some y → ∃ y', den E 49 [.slice (toksV full), .int .i64 (idx full q)] [] = some (.tup [.agg [.int .i64 y'.kind, .str y'.name, .int .i64 y'.ty.kind, .str y'.ty.name, .int .i64 y'.ty.n, .slice (tysV y'.ty.args), .int .i64 y'.co.kind, .str y'.co.name, .int .i64 y'.co.n, .int .i64 y'.co.ty.kind, .str y'.co.ty.name, .int .i64 y'.co.ty.n, .slice (tysV y'.co.ty.args), .slice (cxsV y'.co.kids), .slice (tmsV y'.kids), .slice (tasV y'.alts)], .int .i64 (idx full y.2)], []) ∧ (y.2.bad = false → y' = y.1) ∧ y.2.l <:+ full := by
   intro q hq g y hg hy
   have d := ih g (by omega) .term q y hq hy
   simp only [RT] at d
   obtain ⟨y', d, e⟩ := d
   rw [tmC_eq] at d
   exact ⟨y', d, e, (trR_suf _ _ _ _ _ hy).trans hq⟩
  simp only [trR] at h
  have a1 := is12_den full r 6 [92] hs
  cases b1 : seesR r 6 [92]
  · rw [b1] at h a1
    simp only [Bool.false_eq_true, if_false] at h
    have a2 := is12_den full r 6 [33] hs
    cases b2 : seesR r 6 [33]
    · rw [b2] at h a2
      simp only [Bool.false_eq_true, if_false] at h
      have a3 := is12_den full r 3 [108, 101, 116] hs
      cases b3 : seesR r 3 [108, 101, 116]
      · rw [b3] at h a3
        simp only [Bool.false_eq_true, if_false] at h
        have a4 := is12_den full r 3 [99, 97, 115, 101] hs
        cases b4 : seesR r 3 [99, 97, 115, 101]
        · rw [b4] at h a4
          simp only [Bool.false_eq_true, if_false] at h
          split at h
          · cases h
          · rename_i x1 r1 h1
            obtain ⟨x1', d1, e1, hs1⟩ := rd r hs f (x1, r1) (Nat.le_refl _) h1
            simp only at d1 e1 hs1
            have c1 := is12_den full r1 6 [64] hs1
            cases k1 : seesR r1 6 [64]
            · rw [k1] at h c1
              simp only [Bool.false_eq_true, if_false] at h
              have c2 := is12_den full r1 6 [126] hs1
              have c3 := is12_den full r1 6 [124, 62] hs1
              cases k2 : seesR r1 6 [126]
              · rw [k2] at h c2
                simp only [Bool.false_eq_true, if_false] at h
                cases k3 : seesR r1 6 [124, 62]
                · rw [k3] at h c3
                  simp only [Bool.false_eq_true, if_false] at h
                  split at h
                  · cases h
                  · rename_i y r2 h2
                    injection h with h; subst h
                    obtain ⟨y', d2, e2, hs2⟩ := rd r1 hs1 f (y, r2) (Nat.le_refl _) h2
                    simp only at d2 e2 hs2
                    refine ⟨.mk 5 [] zTy zCx [x1', y'] [], ?_, fun hg => by rw [e1 (trR_good h2 hg), e2 hg]⟩
                    rw [den_eq prim_116, body_116]
                    simp only [go_sem, Tryz.f116, a1, a2, a3, a4, d1, c1, c2, c3, d2, zCx_p, tmC_eq, tmk, tmC_eq, tmk, tmsV_cons, tmsV_nil, tasV_nil, cxsV_nil, tysV_nil, zTy_k, zTy_s, zTy_n, zTy_a]
                · rw [k3] at h c3
                  simp only [if_true] at h
                  split at h
                  · cases h
                  · rename_i c r3 h3
                    injection h with h; subst h
                    have w1 := idx_takes hs1 hlen k3
                    obtain ⟨c', d3, e3⟩ := co12_den full hok hlen f _ (c, r3) ((takesR_suf _ _ _).trans hs1) h3
                    simp only at d3 e3
                    rw [cxC_eq] at d3
                    refine ⟨.mk 10 [] zTy c' [x1'] [], ?_, fun hg => by rw [e1 (sees_good k3), e3 hg]⟩
                    rw [den_eq prim_116, body_116]
                    simp only [go_sem, Tryz.f116, a1, a2, a3, a4, d1, c1, c2, c3, w1, d3, tmC_eq, tmk, tmC_eq, tmk, tmsV_cons, tmsV_nil, tasV_nil, tysV_nil, zTy_k, zTy_s, zTy_n, zTy_a]
              · rw [k2] at h c2
                simp only [if_true] at h
                split at h
                · cases h
                · rename_i c r3 h3
                  injection h with h; subst h
                  have w1 := idx_takes hs1 hlen k2
                  obtain ⟨c', d3, e3⟩ := co12_den full hok hlen f _ (c, r3) ((takesR_suf _ _ _).trans hs1) h3
                  simp only at d3 e3
                  rw [cxC_eq] at d3
                  refine ⟨.mk 7 [] zTy c' [x1'] [], ?_, fun hg => by rw [e1 (sees_good k2), e3 hg]⟩
                  rw [den_eq prim_116, body_116]
                  simp only [go_sem, Tryz.f116, a1, a2, a3, a4, d1, c1, c2, c3, w1, d3, tmC_eq, tmk, tmC_eq, tmk, tmsV_cons, tmsV_nil, tasV_nil, tysV_nil, zTy_k, zTy_s, zTy_n, zTy_a]
            · rw [k1] at h c1
              simp only [if_true] at h
              split at h
              · cases h
              · rename_i t r3 h3
                injection h with h; subst h
                have w1 := idx_takes hs1 hlen k1
                obtain ⟨t', d3, e3⟩ := typ12_den full hok2 hlen f _ (t, r3) ((takesR_suf _ _ _).trans hs1) h3
                simp only at d3 e3
                rw [tyV_eq] at d3
                refine ⟨.mk 6 [] t' zCx [x1'] [], ?_, fun hg => by rw [e1 (sees_good k1), e3 hg]⟩
                rw [den_eq prim_116, body_116]
                simp only [go_sem, Tryz.f116, a1, a2, a3, a4, d1, c1, w1, d3, zCx_p, tmC_eq, tmk, tmC_eq, tmk, tmsV_cons, tmsV_nil, tasV_nil, cxsV_nil, tysV_nil, zTy_k, zTy_s, zTy_n, zTy_a]
        · rw [b4] at h a4
          simp only [if_true] at h
          have w1 := idx_takes hs hlen b4
          rw [takes_take b4] at w1
          have d := r12case_den full hok hlen f (fun g hg q y hq hy => by have := ih g (by omega) .term q y hq hy; simpa only [RT] using this) r x ((takeR_suf _ _ _).trans hs) h
          obtain ⟨x', d, e⟩ := d
          rw [tmC_eq] at d
          refine ⟨x', ?_, e⟩
          rw [den_eq prim_116, body_116]
          simp only [go_sem, Tryz.f116, a1, a2, a3, a4, w1, d, tmC_eq]
      · rw [b3] at h a3
        simp only [if_true] at h
        split at h
        · cases h
        · rename_i t r3 h3
          split at h
          · cases h
          · rename_i x1 r5 h5
            split at h
            · cases h
            · rename_i y r7 h7
              injection h with h; subst h
              have w1 := idx_takes hs hlen b3
              rw [takes_take b3] at w1
              have hs1 := (takeR_suf r 3 [108, 101, 116]).trans hs
              unfold nameR at h3
              generalize takeR r 3 [108, 101, 116] = q at w1 hs1 h3
              have c0 := text12_den full q hs1
              have c1 := next12_den full q 1 [] hs1 hlen
              have hs2 := (takeR_suf q 1 []).trans hs1
              have c2 := next12_den full (takeR q 1 []) 6 [58] hs2 hlen
              have hs3 := (takeR_suf (takeR q 1 []) 6 [58]).trans hs2
              obtain ⟨t', d3, e3⟩ := typ12_den full hok2 hlen f _ (t, r3) hs3 h3
              simp only at d3 e3
              have hs4 := (typR_suf h3).trans hs3
              have c4 := next12_den full r3 6 [61] hs4 hlen
              obtain ⟨x1', d5, e5, hs5⟩ := rd (takeR r3 6 [61]) ((takeR_suf _ _ _).trans hs4) f (x1, r5) (Nat.le_refl _) h5
              simp only at d5 e5 hs5
              have c6 := next12_den full r5 3 [105, 110] hs5 hlen
              obtain ⟨y', d7, e7, hs7⟩ := rd (takeR r5 3 [105, 110]) ((takeR_suf _ _ _).trans hs5) f (y, r7) (Nat.le_refl _) h7
              simp only at d7 e7 hs7
              rw [tyV_eq] at d3
              refine ⟨.mk 8 (headR q) t' zCx [x1', y'] [], ?_, fun hg => ?_⟩
              · rw [den_eq prim_116, body_116]
                simp only [go_sem, Tryz.f116, a1, a2, a3, w1, c0, c1, c2, d3, c4, d5, c6, d7, zCx_p, tmC_eq, tmk, tmC_eq, tmk, tmsV_cons, tmsV_nil, tasV_nil, cxsV_nil, tysV_nil, zTy_k, zTy_s, zTy_n, zTy_a]
              · have g5 := takeR_good2 (trR_good h7 hg)
                have g3 := takeR_good2 (trR_good h5 g5)
                have g1 := takeR_good2 (typR_good h3 g3)
                rw [headR_sees (takeR_good g1), e3 g3, e5 g5, e7 hg]
    · rw [b2] at h a2
      simp only [if_true] at h
      split at h
      · cases h
      · rename_i x1 r5 h5
        injection h with h; subst h
        have w1 := idx_takes hs hlen b2
        have hs1 := (takesR_suf r 6 [33]).trans hs
        generalize takesR r 6 [33] = q at w1 hs1 h5
        have c0 := text12_den full q hs1
        have c1 := next12_den full q 1 [] hs1 hlen
        have hs2 := (takeR_suf q 1 []).trans hs1
        have c2 := next12_den full (takeR q 1 []) 6 [46] hs2 hlen
        have hs3 := (takeR_suf (takeR q 1 []) 6 [46]).trans hs2
        obtain ⟨x1', d5, e5, hs5⟩ := rd _ hs3 f (x1, r5) (Nat.le_refl _) h5
        simp only at d5 e5 hs5
        refine ⟨.mk 4 (headR q) zTy zCx [x1'] [], ?_, fun hg => ?_⟩
        · rw [den_eq prim_116, body_116]
          simp only [go_sem, Tryz.f116, a1, a2, w1, c0, c1, c2, d5, zCx_p, tmC_eq, tmk, tmC_eq, tmk, tmsV_cons, tmsV_nil, tasV_nil, cxsV_nil, tysV_nil, zTy_k, zTy_s, zTy_n, zTy_a]
        · have g1 := takeR_good2 (trR_good h5 hg)
          rw [headR_sees (takeR_good g1), e5 hg]
  · rw [b1] at h a1
    simp only [if_true] at h
    split at h
    · cases h
    · rename_i t r3 h3
      split at h
      · cases h
      · rename_i x1 r5 h5
        injection h with h; subst h
        have w1 := idx_takes hs hlen b1
        have hs1 := (takesR_suf r 6 [92]).trans hs
        unfold nameR at h3
        generalize takesR r 6 [92] = q at w1 hs1 h3
        have c0 := text12_den full q hs1
        have c1 := next12_den full q 1 [] hs1 hlen
        have hs2 := (takeR_suf q 1 []).trans hs1
        have c2 := next12_den full (takeR q 1 []) 6 [58] hs2 hlen
        have hs3 := (takeR_suf (takeR q 1 []) 6 [58]).trans hs2
        obtain ⟨t', d3, e3⟩ := typ12_den full hok2 hlen f _ (t, r3) hs3 h3
        simp only at d3 e3
        have hs4 := (typR_suf h3).trans hs3
        have c4 := next12_den full r3 6 [46] hs4 hlen
        obtain ⟨x1', d5, e5, hs5⟩ := rd (takeR r3 6 [46]) ((takeR_suf _ _ _).trans hs4) f (x1, r5) (Nat.le_refl _) h5
        simp only at d5 e5 hs5
        rw [tyV_eq] at d3
        refine ⟨.mk 3 (headR q) t' zCx [x1'] [], ?_, fun hg => ?_⟩
        · rw [den_eq prim_116, body_116]
          simp only [go_sem, Tryz.f116, a1, w1, c0, c1, c2, d3, c4, d5, zCx_p, tmC_eq, tmk, tmC_eq, tmk, tmsV_cons, tmsV_nil, tasV_nil, cxsV_nil, tysV_nil, zTy_k, zTy_s, zTy_n, zTy_a]
        · have g3 := takeR_good2 (trR_good h5 hg)
          have g1 := takeR_good2 (typR_good h3 g3)
          rw [headR_sees (takeR_good g1), e3 g3, e5 hg]
end Go.Proofs
namespace Go.Proofs
open Go.Av
set_option maxHeartbeats 32000000
set_option maxRecDepth 100000
/-! is a term too deep? the document's -/
def dpC (a : Nat) (c : Cx) : Bool := decide (a + c.within > 50) || decide (c.tdep > 50)
theorem dpC_any (a : Nat) (l : List Cx) : (decide (a > 50) || l.any (dpC a)) = (decide (a + Cx.withins l > 50) || decide (Cx.tdeps l > 50)) := by
 induction l with
 | nil => simp [Cx.withins, Cx.tdeps]
 | cons x l ih =>
  rw [List.any_cons, Bool.or_left_comm, ih]
  unfold dpC
  have e1 : Cx.withins (x :: l) = max x.within (Cx.withins l) := by simp [Cx.withins]
  have e2 : Cx.tdeps (x :: l) = max x.tdep (Cx.tdeps l) := by simp [Cx.tdeps]
  rw [e1, e2, Bool.eq_iff_iff]
  simp only [Bool.or_eq_true, decide_eq_true_eq]
  omega
theorem dpC_eq (a : Nat) (c : Cx) : dpC a c = (decide (50 ≤ a) || ((c.kind == 2 && decide (c.ty.depth > 50)) || (c.kind == 9 && decide (c.ty.depth > 50))) || c.kids.any (dpC (a + 1))) := by
 have h := dpC_any (a + 1) c.kids
 unfold dpC at h ⊢
 rw [cx_within_eq, cx_tdep_eq]
 have e1 : decide (50 ≤ a) = decide (a + 1 > 50) := by simp; omega
 rw [e1, Bool.or_right_comm, h]
 cases h2 : c.kind == 2
 · cases h9 : c.kind == 9
   · rw [Bool.eq_iff_iff]
     simp only [Bool.or_self, Bool.false_and, Bool.false_eq_true, if_false, Bool.or_eq_true, decide_eq_true_eq, or_false]; omega
   · rw [Bool.eq_iff_iff]
     simp only [Bool.or_true, Bool.false_and, Bool.true_and, Bool.false_or, if_true, Bool.or_eq_true, decide_eq_true_eq]; omega
 · rw [Bool.eq_iff_iff]
   have h9 : (c.kind == 9) = false := by
    have := eq_of_beq h2
    rw [this]; rfl
   rw [h9]
   simp only [Bool.or_false, Bool.true_and, Bool.false_and, if_true, Bool.or_eq_true, decide_eq_true_eq]; omega
theorem cx_tot_eq (c : Cx) : c.tot = c.ty.sz + Cx.tots c.kids := by cases c; simp [Cx.tot, Cx.ty, Cx.kids]
theorem r12dco_den : ∀ (n : Nat) (c : Cx) (a : Nat), c.tot ≤ n → c.tot < 1000000 → a ≤ 1000000 → den E 117 [.agg (cxC c), .int .i64 a] [] = some (.bool (dpC a c), []) := by
 intro n
 induction n with
 | zero => intro c a h; have := cx_tot_pos c; omega
 | succ n ih =>
  intro c a hn hs ha
  have ht := cx_tot_eq c
  have hl1 := cx_tots_len c.kids
  have hp1 := sz_pos c.ty
  have c2 := rdepth_den _ c.ty (Nat.le_refl _) (by omega)
  rw [tyV_eq] at c2
  rw [den_eq prim_117, body_117, dpC_eq, cxC_eq]
  have g50 : decide ((a : Int) ≥ 50) = decide (50 ≤ a) := by simp; omega
  cases q0 : decide (50 ≤ a)
  · have h49 : ¬ 50 ≤ a := by simpa using q0
    obtain ⟨own, hown⟩ : ∃ b, ((c.kind == 2 && decide (c.ty.depth > 50)) || (c.kind == 9 && decide (c.ty.depth > 50))) = b := ⟨_, rfl⟩
    rw [hown]
    cases own
    · obtain ⟨fin, hfin⟩ : ∃ fin, fin = some (AVal.bool (c.kids.any (dpC (a + 1))), ([] : Heap)) := ⟨_, rfl⟩
      simp only [Bool.false_or]
      rw [← hfin]
      have w0 : IntKind.i64.wrap ((a : Int) + 1) = ((a + 1 : Nat) : Int) := wrapN (a + 1) (by omega)
      have key : (match (c.kind == 2 : Bool) with | true => decide (c.ty.depth > 50) | false => false) = false ∧ (match (c.kind == 9 : Bool) with | true => decide (c.ty.depth > 50) | false => false) = false := by
       cases h2 : c.kind == 2 <;> cases h9 : c.kind == 9 <;> simp_all
      cases h2 : c.kind == 2
      all_goals cases h9 : c.kind == 9
      all_goals cases hd : decide (c.ty.depth > 50)
      all_goals first
       | (exfalso; rw [h2, h9, hd] at hown; simp at hown; done)
       | (exfalso; have := eq_of_beq h2; rw [this] at h9; simp at h9; done)
       | (simp only [go_sem, Tryz.f117, c2, g50, natDeep, q0, h2, h9, hd]
          refine run_ind (fun i : Nat => i ≤ c.kids.length ∧ (c.kids.take i).any (dpC (a + 1)) = false) (fun i => ⟨[(1, .int .i64 a), (2, .ptr (.loc 2) 0), (5, .int .i64 i)], [], [(2, cxC c)], 1⟩) (fun _ => fin) (fun i => c.kids.length - i) 0 ⟨Nat.zero_le _, by simp⟩ ?_ ?_
          · simp only [go_sem, cxC_eq]
          · rintro i ⟨hi, h0⟩ hrun
            by_cases hc : i < c.kids.length
            · have hlt := natlt_t hc
              have hx : c.kids[i]? = some c.kids[i] := List.getElem?_eq_getElem hc
              have hg : (cxsV c.kids)[i]? = some (.agg (cxC c.kids[i])) := by rw [cxsV_get, hx]; rfl
              have hm := cx_tots_mem (List.getElem_mem hc)
              have d := ih c.kids[i] (a + 1) (by omega) (by omega) (by omega)
              obtain ⟨ya, yb⟩ := any_take hx h0
              have w1 : IntKind.i64.wrap ((i : Int) + 1) = ((i + 1 : Nat) : Int) := wrapN (i + 1) (by omega)
              simp only [cxC_eq] at hg d
              cases hd2 : dpC (a + 1) c.kids[i]
              · rw [hd2] at d
                simp only [go_sem, cxC_eq, cxsV_len, hlt, natge0, tonat, hg, w0, d]
                refine hrun (i + 1) _ ⟨hc, yb hd2⟩ (by omega) ?_
                simp only [go_sem, cxC_eq, w1]
              · rw [hd2] at d
                rw [hfin, ya hd2]
                simp only [go_sem, cxC_eq, cxsV_len, hlt, natge0, tonat, hg, w0, d]
            · have hlt := natlt_f hc
              have hik : i = c.kids.length := by omega
              rw [hik, List.take_length] at h0
              rw [hfin, h0]
              simp only [go_sem, cxC_eq, cxsV_len, hlt])
    · simp only [Bool.false_or, Bool.true_or]
      cases h2 : c.kind == 2
      all_goals cases h9 : c.kind == 9
      all_goals cases hd : decide (c.ty.depth > 50)
      all_goals first
       | (exfalso; rw [h2, h9, hd] at hown; simp at hown; done)
       | (exfalso; have := eq_of_beq h2; rw [this] at h9; simp at h9; done)
       | simp only [go_sem, Tryz.f117, c2, g50, natDeep, q0, h2, h9, hd]
  · simp only [go_sem, Tryz.f117, g50, q0, Bool.true_or]
theorem r12deep_den : ∀ (n : Nat) (e : Tm) (a : Nat), e.tot ≤ n → e.tot < 1000000 → a ≤ 1000000 → den E 50 [.agg (tmC e), .int .i64 a] [] = some (.bool (e.deep a), []) := by
 intro n
 induction n with
 | zero => intro e a h; have := tm_tot_pos e; omega
 | succ n ih =>
  intro e a hn hs ha
  have ht := tm_tot_eq e
  have hl1 := tm_tots_len e.kids
  have hl2 := ta_len e.alts
  have hp1 := sz_pos e.ty
  have hp2 := cx_tot_pos e.co
  have c1 := r12dco_den _ e.co 0 (Nat.le_refl _) (by omega) (by omega)
  have c2 := rdepth_den _ e.ty (Nat.le_refl _) (by omega)
  rw [cxC_eq, Int.natCast_zero] at c1
  rw [tyV_eq] at c2
  rw [den_eq prim_50, body_50, tm_deep_eq, tm_deeps_any, ta_deeps_any]
  rw [tmC_eq]
  have e0 : (decide (e.co.within > 50) || (decide (e.co.tdep > 50) || (decide (e.ty.depth > 50) || (e.kids.any (Tm.deep (a + 1)) || e.alts.any fun x => x.body.deep (a + 1))))) = (dpC 0 e.co || (decide (e.ty.depth > 50) || (e.kids.any (Tm.deep (a + 1)) || e.alts.any fun x => x.body.deep (a + 1)))) := by
   unfold dpC; rw [Nat.zero_add, Bool.or_assoc]
  rw [e0]
  have g100 : decide ((a : Int) ≥ 100) = decide (100 ≤ a) := by simp; omega
  cases q0 : decide (100 ≤ a)
  · have h99 : ¬ 100 ≤ a := by simpa using q0
    cases q1 : dpC 0 e.co
    · rw [q1] at c1
      cases q3 : decide (e.ty.depth > 50)
      · obtain ⟨fin, hfin⟩ : ∃ fin, fin = some (AVal.bool (e.kids.any (Tm.deep (a + 1)) || e.alts.any fun x => x.body.deep (a + 1)), ([] : Heap)) := ⟨_, rfl⟩
        simp only [Bool.false_or]
        rw [← hfin]
        have w0 : IntKind.i64.wrap ((a : Int) + 1) = ((a + 1 : Nat) : Int) := wrapN (a + 1) (by omega)
        simp only [go_sem, Tryz.f50, c1, c2, g100, natDeep, q0, q3]
        refine run_ind (fun i : Nat => i ≤ e.kids.length ∧ (e.kids.take i).any (Tm.deep (a + 1)) = false) (fun i => ⟨[(1, .int .i64 a), (2, .ptr (.loc 2) 0), (6, .int .i64 i)], [], [(2, tmC e)], 1⟩) (fun _ => fin) (fun i => e.kids.length - i) 0 ⟨Nat.zero_le _, by simp⟩ ?_ ?_
        · simp only [go_sem, tmC_eq]
        · rintro i ⟨hi, h0⟩ hrun
          by_cases hc : i < e.kids.length
          · have hlt := natlt_t hc
            have hx : e.kids[i]? = some e.kids[i] := List.getElem?_eq_getElem hc
            have hg : (tmsV e.kids)[i]? = some (.agg (tmC e.kids[i])) := by rw [tmsV_get, hx]; rfl
            have hm := tm_tots_mem (List.getElem_mem hc)
            have d := ih e.kids[i] (a + 1) (by omega) (by omega) (by omega)
            obtain ⟨ya, yb⟩ := any_take hx h0
            have w1 : IntKind.i64.wrap ((i : Int) + 1) = ((i + 1 : Nat) : Int) := wrapN (i + 1) (by omega)
            simp only [tmC_eq] at hg d
            cases hd : e.kids[i].deep (a + 1)
            · rw [hd] at d
              simp only [go_sem, tmC_eq, tmsV_len, hlt, natge0, tonat, hg, w0, d]
              refine hrun (i + 1) _ ⟨hc, yb hd⟩ (by omega) ?_
              simp only [go_sem, tmC_eq, w1]
            · rw [hd] at d
              rw [hfin, ya hd]
              simp only [go_sem, tmC_eq, tmsV_len, hlt, natge0, tonat, hg, w0, d, Bool.true_or]
          · have hlt := natlt_f hc
            have hik : i = e.kids.length := by omega
            rw [hik, List.take_length] at h0
            rw [h0, Bool.false_or] at hfin
            simp only [go_sem, tmC_eq, tmsV_len, hlt]
            refine run_ind (fun i : Nat => i ≤ e.alts.length ∧ (e.alts.take i).any (fun x => x.body.deep (a + 1)) = false) (fun i => ⟨[(1, .int .i64 a), (2, .ptr (.loc 2) 0), (8, .int .i64 i)], [], [(2, tmC e)], 1⟩) (fun _ => fin) (fun i => e.alts.length - i) 0 ⟨Nat.zero_le _, by simp⟩ ?_ ?_
            · simp only [go_sem, tmC_eq]
            · rintro j ⟨hj, g0⟩ hrun2
              by_cases hc2 : j < e.alts.length
              · have hlt2 := natlt_t hc2
                have hx2 : e.alts[j]? = some e.alts[j] := List.getElem?_eq_getElem hc2
                have hg2 : (tasV e.alts)[j]? = some (taV e.alts[j]) := by rw [tasV_get, hx2]; rfl
                have hm2 := ta_vars (List.getElem_mem hc2)
                have d2 := ih e.alts[j].body (a + 1) (by omega) (by omega) (by omega)
                obtain ⟨ya, yb⟩ := any_take hx2 g0
                have w1 : IntKind.i64.wrap ((j : Int) + 1) = ((j + 1 : Nat) : Int) := wrapN (j + 1) (by omega)
                simp only [taV_eq, tmC_eq] at hg2 d2
                cases hd2 : e.alts[j].body.deep (a + 1)
                · rw [hd2] at d2
                  simp only [go_sem, tmC_eq, tasV_len, hlt2, natge0, tonat, hg2, w0, d2]
                  refine hrun2 (j + 1) _ ⟨hc2, yb hd2⟩ (by omega) ?_
                  simp only [go_sem, tmC_eq, w1]
                · rw [hd2] at d2
                  rw [hfin, ya hd2]
                  simp only [go_sem, tmC_eq, tasV_len, hlt2, natge0, tonat, hg2, w0, d2]
              · have hlt2 := natlt_f hc2
                have hik2 : j = e.alts.length := by omega
                rw [hik2, List.take_length] at g0
                rw [hfin, g0]
                simp only [go_sem, tmC_eq, tasV_len, hlt2]
      · simp only [go_sem, Tryz.f50, c1, c2, g100, natDeep, q0, q3, Bool.true_or, Bool.or_true]
    · rw [q1] at c1
      simp only [go_sem, Tryz.f50, c1, g100, q0, Bool.true_or, Bool.or_true]
  · simp only [go_sem, Tryz.f50, c1, g100, q0, Bool.true_or]
theorem r12pterm_den {f : Nat} {s : List UInt8} {p : Tm × Int} (h : tmO f s = some p) : den E 11 [.str s] [] = some (.tup [.agg (tmC p.1), .int .i64 p.2], []) := by
 rw [den_eq prim_11, body_11]
 obtain ⟨hlen, hok⟩ := scanO_F s
 have hgood : ∀ x r, trR f .term ⟨(scanO s).1, false⟩ = some (x, r) → r.bad = false → x.tot < 1000000 := fun x r h hg => by have := (tmRead_ok h hg).2; omega
 obtain ⟨pos, hT⟩ := scanO_T s
 have hsc := scanAll1_den s
 rw [hT] at hsc
 unfold tmO at h
 generalize (scanO s).1 = l at *
 generalize (scanO s).2 = e at *
 cases he : e == 0
 · have he' : (e != 0) = true := by rw [bne_not, he]; rfl
   rw [he', if_pos rfl] at h
   injection h with h; subst h
   simp only [go_sem, Tryz.f11, hsc, he', zTmC]
 · have he' : (e != 0) = false := by rw [bne_not, he]; rfl
   rw [he'] at h
   simp only [Bool.false_eq_true, if_false] at h
   split at h
   · cases h
   · rename_i x r hx
     injection h with h; subst h
     have d1 := trR_ref l hok (by omega) f .term _ _ (List.suffix_refl _) hx
     simp only [RT, idx0] at d1
     obtain ⟨x', d1, hxx⟩ := d1
     have hsr := trR_suf _ _ _ _ _ hx
     have hne := idx_ne hsr
     simp only at hne hxx d1
     rw [tmC_eq] at d1
     unfold endM
     rw [← hne]
     cases hc : (idx l r != ((l.length : Nat) : Int))
     · rw [hc] at hne
       have hb : r.bad = false := by revert hne; cases r.bad <;> simp
       have hxe := hxx hb
       subst hxe
       have ht := hgood x' r hx hb
       have e2 := r12deep_den _ x' 0 (Nat.le_refl _) ht (by omega)
       rw [tmC_eq, Int.natCast_zero] at e2
       cases q1 : x'.deep 0
       · rw [q1] at e2
         simp only [go_sem, Tryz.f11, hsc, he', d1, toksV_len, hc, e2, tmC_eq]
       · rw [q1] at e2
         simp only [go_sem, Tryz.f11, hsc, he', d1, toksV_len, hc, e2, zTmC]
     · simp only [go_sem, Tryz.f11, hsc, he', d1, toksV_len, hc, zTmC]
end Go.Proofs
