/- The readers of the document give the same as those of the program. -/
import Derived.Test.YtnodmhkacfcmfaaGreatDoorAvH
namespace Go.Proofs
open Go.Av
set_option maxHeartbeats 16000000
set_option maxRecDepth 100000
def endX (x : Ex) (r : Rd) : Ex × Int := if r.bad || decide (0 < r.l.length) then (zEx, 80) else if decide (x.depth > 50) || decide (x.tdep > 50) then (zEx, 3) else (x, 0)
def pexO (f : Nat) (s : List UInt8) : Option (Ex × Int) :=
  if (scanO s).2 != 0 then some (zEx, (scanO s).2) else match exR f .expr ⟨(scanO s).1, false⟩ with
    | none => none
    | some (x, r) => some (endX x r)
def pexV (p : Ex × Int) : AVal := .tup [.agg (exC p.1), .int .i64 p.2]
theorem pex_den (f : Nat) (s : List UInt8) (p : Ex × Int) (hok : ∀ t ∈ (scanO s).1, tokOK t) (hlen : (scanO s).1.length < 1000000)
    (htot : ∀ x r, exR f .expr ⟨(scanO s).1, false⟩ = some (x, r) → r.bad = false → x.tot < 1000000) (h : pexO f s = some p) : den E 5 [.str s] [] = some (pexV p, []) := by
  rw [den_eq prim_5, body_5]
  obtain ⟨pos, hT⟩ := scanO_T s
  have hsc := scanAll_den s
  rw [hT] at hsc
  unfold pexO at h
  generalize (scanO s).1 = l at *
  generalize (scanO s).2 = e at *
  cases he : e == 0
  · have he' : (e != 0) = true := by rw [bne_not, he]; rfl
    rw [he', if_pos rfl] at h
    injection h with h; subst h
    simp only [go_sem, ↓reduceIte, Nat.reduceEqDiff, Nat.reduceAdd, Nat.reduceLeDiff, Nat.reduceLT, reduceCtorEq, Tryz.f5, hsc, he', pexV, zExC]
  · have he' : (e != 0) = false := by rw [bne_not, he]; rfl
    rw [he'] at h
    simp only [Bool.false_eq_true, if_false] at h
    split at h
    · cases h
    · rename_i x r hx
      injection h with h; subst h
      have d1 := exR_den f .expr _ _ hok hlen hx
      simp only [XDen, rdV, exC_eq] at d1
      unfold endX
      cases hb : r.bad
      · rw [hb] at d1
        have hgt : decide (((toksV r.l).length : Int) > 0) = decide (0 < r.l.length) := by rw [toksV_len]; simp
        cases hn : decide (0 < r.l.length)
        · have ht := htot x r hx hb
          have e2 := exdepth_den _ x (Nat.le_refl _) ht
          have e3 := extdep_den _ x (Nat.le_refl _) ht
          rw [exC_eq] at e2 e3
          cases q1 : decide (x.depth > 50)
          · cases q2 : decide (x.tdep > 50)
            · simp only [go_sem, ↓reduceIte, Nat.reduceEqDiff, Nat.reduceAdd, Nat.reduceLeDiff, Nat.reduceLT, reduceCtorEq, Tryz.f5, hsc, he', d1, hgt, hn, e2, e3, natDeep, q1, q2, pexV, exC_eq]
            · simp only [go_sem, ↓reduceIte, Nat.reduceEqDiff, Nat.reduceAdd, Nat.reduceLeDiff, Nat.reduceLT, reduceCtorEq, Tryz.f5, hsc, he', d1, hgt, hn, e2, e3, natDeep, q1, q2, pexV, zExC]
          · simp only [go_sem, ↓reduceIte, Nat.reduceEqDiff, Nat.reduceAdd, Nat.reduceLeDiff, Nat.reduceLT, reduceCtorEq, Tryz.f5, hsc, he', d1, hgt, hn, e2, natDeep, q1, pexV, zExC]
        · simp only [go_sem, ↓reduceIte, Nat.reduceEqDiff, Nat.reduceAdd, Nat.reduceLeDiff, Nat.reduceLT, reduceCtorEq, Tryz.f5, hsc, he', d1, hgt, hn, pexV, zExC]
      · rw [hb] at d1
        simp only [go_sem, ↓reduceIte, Nat.reduceEqDiff, Nat.reduceAdd, Nat.reduceLeDiff, Nat.reduceLT, reduceCtorEq, Tryz.f5, hsc, he', d1, pexV, zExC]
/-! the document's steps: an index, -1 where something was wrong -/
def idx (full : List Tok) (r : Rd) : Int := if r.bad then -1 else ((full.length - r.l.length : Nat) : Int)
theorem idx_bad {full : List Tok} {r : Rd} (h : r.bad = true) : idx full r = -1 := by unfold idx; rw [h]; rfl
theorem idx_ok {full : List Tok} {r : Rd} (h : r.bad = false) : idx full r = ((full.length - r.l.length : Nat) : Int) := by unfold idx; rw [h]; rfl
theorem idxB (full l : List Tok) : idx full ⟨l, true⟩ = -1 := rfl
theorem idxG (full l : List Tok) : idx full ⟨l, false⟩ = ((full.length - l.length : Nat) : Int) := rfl
theorem nat_neg (n : Nat) : decide ((n : Int) < 0) = false := by simp
theorem nat_ge (n : Nat) : decide ((n : Int) ≥ 0) = true := by simp
theorem is08_den (full : List Tok) (r : Rd) (k : Int) (s : List UInt8) (hs : r.l <:+ full) :
    den E 65 [.slice (toksV full), .int .i64 (idx full r), .int .i64 k, .str s] [] = some (.bool (seesR r k s), []) := by
  rw [den_eq prim_65, body_65]
  unfold seesR
  cases hb : r.bad
  · have h1 := is_den full (full.length - r.l.length) k s
    rw [suf_drop hs] at h1
    rw [idx_ok hb]
    simp only [go_sem, ↓reduceIte, Nat.reduceEqDiff, Nat.reduceAdd, reduceCtorEq, Tryz.f65, nat_neg, h1]
  · rw [idx_bad hb]
    simp only [go_sem, ↓reduceIte, Nat.reduceEqDiff, Nat.reduceAdd, reduceCtorEq, Int.reduceLT, Int.reduceNeg, Tryz.f65]
theorem idx_next {full : List Tok} {r : Rd} {k : Int} {s : List UInt8} (hs : r.l <:+ full) (h : seesR r k s = true) : idx full ⟨r.l.tail, false⟩ = idx full r + 1 ∧ idx full r = ((full.length - r.l.length : Nat) : Int) ∧ full.length - r.l.length < full.length := by
  obtain ⟨hb, t, q, hl⟩ := seesR_cons h
  have := hs.length_le
  rw [hl, List.length_cons] at this
  rw [idx_ok (r := r) hb]
  refine ⟨?_, rfl, ?_⟩
  · unfold idx; rw [hl]; simp only [Bool.false_eq_true, if_false, List.tail_cons, List.length_cons]; omega
  · rw [hl, List.length_cons]; omega
theorem next08_den (full : List Tok) (r : Rd) (k : Int) (s : List UInt8) (hs : r.l <:+ full) (hlen : full.length < 1000000) :
    den E 89 [.slice (toksV full), .int .i64 (idx full r), .int .i64 k, .str s] [] = some (.int .i64 (idx full (takeR r k s)), []) := by
  rw [den_eq prim_89, body_89]
  have h1 := is08_den full r k s hs
  unfold takeR
  cases h : seesR r k s
  · rw [h] at h1
    simp only [go_sem, ↓reduceIte, Nat.reduceEqDiff, Nat.reduceAdd, reduceCtorEq, Int.reduceNeg, Tryz.f89, h1, idxB]
  · rw [h] at h1
    obtain ⟨i1, i2, i3⟩ := idx_next hs h
    have w1 : IntKind.i64.wrap (idx full r + 1) = idx full r + 1 := by rw [i2]; exact IntWalk.i64_in _ (by omega)
    simp only [go_sem, ↓reduceIte, Nat.reduceEqDiff, Nat.reduceAdd, reduceCtorEq, Int.reduceNeg, Tryz.f89, h1, w1, i1]
def headR (r : Rd) : List UInt8 := if r.bad then [] else match r.l with
  | [] => []
  | t :: _ => t.text
theorem headR_sees {r : Rd} {k : Int} {s : List UInt8} (h : seesR r k s = true) : headR r = wordR r k s := by
  obtain ⟨hb, t, q, hl⟩ := seesR_cons h
  unfold headR wordR
  rw [h, hb, hl]; rfl
theorem text_den (full : List Tok) (r : Rd) (hs : r.l <:+ full) : den E 87 [.slice (toksV full), .int .i64 (idx full r)] [] = some (.str (headR r), []) := by
  rw [den_eq prim_87, body_87]
  unfold headR
  cases hb : r.bad
  · rw [idx_ok hb]
    have hle := hs.length_le
    cases hl : r.l with
    | nil =>
      have hge : decide (((full.length - 0 : Nat) : Int) ≥ ((full.length : Nat) : Int)) = true := by simp
      simp only [go_sem, ↓reduceIte, Nat.reduceEqDiff, Nat.reduceAdd, reduceCtorEq, Tryz.f87, nat_neg, toksV_len, hge]
    | cons t q =>
      rw [hl] at hs hle
      simp only [List.length_cons] at hle
      have hge : decide (((full.length - (t :: q).length : Nat) : Int) ≥ ((full.length : Nat) : Int)) = false := by simp; omega
      have hg := (head_get (suf_drop hs)).1
      simp only [List.length_cons] at hge hg
      simp only [go_sem, ↓reduceIte, Nat.reduceEqDiff, Nat.reduceAdd, reduceCtorEq, Tryz.f87, nat_neg, toksV_len, hge, natge0, tonat, toksV_get, hg, tokV, List.length_cons]
  · rw [idx_bad hb]
    simp only [go_sem, ↓reduceIte, Nat.reduceEqDiff, Nat.reduceAdd, reduceCtorEq, Int.reduceLT, Int.reduceNeg, Tryz.f87]
theorem typ08_den (full : List Tok) (hok : ∀ t ∈ full, tokOK2 t) (hlen : full.length < 1000000) (f : Nat) (r : Rd) (x : Ty × Rd) (hs : r.l <:+ full) (h : typR f r = some x) :
    ∃ t', den E 90 [.slice (toksV full), .int .i64 (idx full r)] [] = some (.tup [tyV t', .int .i64 (idx full x.2)], []) ∧ (x.2.bad = false → t' = x.1) := by
  rw [den_eq prim_90, body_90]
  unfold typR at h
  cases hb : r.bad
  · rw [hb] at h
    simp only [Bool.false_eq_true, if_false] at h
    rw [idx_ok hb]
    split at h
    · cases h
    · rename_i t ok l' ht
      have h2 := tyR_ref full hok hlen f .typ (full.length - r.l.length) (t, ok, l') (by omega) (by rw [suf_drop hs]; exact ht)
      obtain ⟨t', j, h3, h4⟩ := h2
      cases ok
      · simp only [Bool.false_eq_true, if_false] at h
        injection h with h; subst h
        have := RR_no h4; subst this
        refine ⟨t', ?_, fun h => by cases h⟩
        rw [tyV_eq] at h3
        simp only [go_sem, ↓reduceIte, Nat.reduceEqDiff, Nat.reduceAdd, Nat.reduceLeDiff, Nat.reduceLT, reduceCtorEq, Int.reduceNeg, Tryz.f90, nat_neg, h3, tyV_eq, idxB]
      · simp only [if_true] at h
        injection h with h; subst h
        obtain ⟨rfl, rfl⟩ := RR_ok h4
        refine ⟨t', ?_, fun _ => rfl⟩
        rw [tyV_eq] at h3
        simp only [go_sem, ↓reduceIte, Nat.reduceEqDiff, Nat.reduceAdd, Nat.reduceLeDiff, Nat.reduceLT, reduceCtorEq, Int.reduceNeg, Tryz.f90, nat_neg, h3, tyV_eq, idxG]
  · rw [hb] at h
    simp only [if_true] at h
    injection h with h; subst h
    refine ⟨zTy, ?_, fun h2 => absurd (hb.symm.trans h2) (by decide)⟩
    rw [idx_bad hb]
    simp only [go_sem, ↓reduceIte, Nat.reduceEqDiff, Nat.reduceAdd, Nat.reduceLeDiff, Nat.reduceLT, reduceCtorEq, Int.reduceLT, Int.reduceNeg, Tryz.f90, zTyV]
theorem names08_den (full : List Tok) (r : Rd) (hs : r.l <:+ full) (hlen : full.length < 1000000) :
    den E 88 [.slice (toksV full), .int .i64 (idx full r)] [] = some (.tup [.slice ((namesR r).map .str), .int .i64 (idx full (behindR r))], []) := by
  rw [den_eq prim_88, body_88]
  have h1 := is08_den full r 1 [] hs
  simp only [go_sem, ↓reduceIte, Nat.reduceEqDiff, Nat.reduceAdd, reduceCtorEq, Tryz.f88, h1]
  refine run_ind (fun x : List (List UInt8) × List Tok => x.2 = r.l.drop x.1.length ∧ namesR r = x.1 ++ namesR ⟨x.2, r.bad⟩ ∧ x.1.length + x.2.length ≤ r.l.length) (fun x => ⟨[(0, .slice (toksV full)), (1, .int .i64 (idx full ⟨x.2, r.bad⟩)), (6, .own 9 0 (x.1.map .str)), (7, .bool (seesR ⟨x.2, r.bad⟩ 1 []))], [], [], 1⟩)
    (fun _ => some (.tup [.slice ((namesR r).map .str), .int .i64 (idx full (behindR r))], [])) (fun x => x.2.length) ([], r.l) ⟨by simp, by simp, by simp⟩ ?_ ?_
  · simp only [go_sem, ↓reduceIte, Nat.reduceEqDiff, reduceCtorEq, List.map_nil]
  · rintro ⟨names, lx⟩ ⟨hdrop, hnames, hle⟩ hrun
    simp only at hdrop hnames hle hrun ⊢
    have hsx : lx <:+ full := (hdrop ▸ List.drop_suffix _ _ : lx <:+ r.l).trans hs
    cases b1 : seesR ⟨lx, r.bad⟩ 1 []
    · have hnx : namesR ⟨lx, r.bad⟩ = [] := by
        unfold seesR at b1
        unfold namesR
        cases hb : r.bad
        · simp only [hb, Bool.not_false, Bool.true_and] at b1
          simp only [Bool.false_eq_true, if_false]
          cases lx with
          | nil => rfl
          | cons t q => simp only [seesT] at b1; simp only [namesT]; rw [show (t.kind == 1) = false by simpa using b1]; rfl
        · rfl
      rw [hnx, List.append_nil] at hnames
      have hbe : behindR r = ⟨lx, r.bad⟩ := by unfold behindR; rw [hnames, ← hdrop]
      rw [hbe, hnames]
      simp only [go_sem, ↓reduceIte, Nat.reduceEqDiff, Nat.reduceAdd, reduceCtorEq]
    · obtain ⟨hb, tk, q, hl⟩ := seesR_cons b1
      simp only at hb hl
      subst hl
      have hk : (tk.kind == 1) = true := by unfold seesR at b1; simpa [seesT, hb] using b1
      have hnx : namesR ⟨tk :: q, r.bad⟩ = tk.text :: namesR ⟨q, r.bad⟩ := by simp only [namesR, hb, Bool.false_eq_true, if_false, namesT, hk, if_true]
      obtain ⟨i1, i2, i3⟩ := idx_next (r := ⟨tk :: q, r.bad⟩) hsx b1
      have hsq : q <:+ full := (tail_suf (tk :: q)).trans hsx
      have hn := is08_den full ⟨q, r.bad⟩ 1 [] hsq
      have hg := (head_get (suf_drop hsx)).1
      simp only [List.tail_cons, List.length_cons] at i1 i2 i3 hg
      have w1 : IntKind.i64.wrap (((full.length - (q.length + 1) : Nat) : Int) + 1) = idx full ⟨q, r.bad⟩ := by rw [hb, i1, i2]; exact IntWalk.i64_in _ (by omega)
      have hap : (names.map AVal.str).length + 1 ≤ appMax := by
        rw [List.length_map]; simp only [List.length_cons] at hle; have := hs.length_le; unfold appMax; omega
      have hmap : names.map AVal.str ++ [.str tk.text] = (names ++ [tk.text]).map AVal.str := by simp
      rw [i2]
      simp only [go_sem, ↓reduceIte, Nat.reduceEqDiff, Nat.reduceAdd, Nat.reduceMul, Nat.reduceLeDiff, Nat.reduceLT, reduceCtorEq, natge0, tonat, toksV_get, hg, tokV, hap, hmap, w1, hn]
      refine hrun (names ++ [tk.text], q) _ ⟨?_, ?_, ?_⟩ ?_ ?_
      · simp only [List.length_append, List.length_singleton]
        rw [← List.drop_drop, ← hdrop]; rfl
      · rw [hnames, hnx]; simp
      · simp only [List.length_append, List.length_singleton]; simp only [List.length_cons] at hle; omega
      · simp
      · simp only [go_sem, ↓reduceIte, Nat.reduceEqDiff, reduceCtorEq]
end Go.Proofs
namespace Go.Proofs
open Go.Av
set_option maxHeartbeats 16000000
set_option maxRecDepth 100000
theorem run_ex {E : Env} {f : FuncId} {C : Code} {K : List Item} {s : St} {α : Type} (Q : Option (AVal × Heap) → Prop) (I : α → Prop) (S : α → St) (m : α → Nat) (x : α) (hx : I x) (h0 : headF E f s K = some (S x))
    (hs : ∀ x, I x → (∀ y t, I y → m y < m x → headF E f t K = some (S y) → Q (run E f (.inLoop C :: K) t)) → Q (run E f (.code C :: .inLoop C :: K) (S x))) : Q (run E f (.code (.loop C) :: K) s) := by
  rw [run_loop h0]
  have key : ∀ n x, m x ≤ n → I x → Q (run E f (.code C :: .inLoop C :: K) (S x)) := by
    intro n
    induction n with
    | zero => exact fun x hm hi => hs x hi fun y t _ hy => by omega
    | succ n ih =>
      exact fun x hm hi => hs x hi fun y t hiy hy ht => by
        rw [run_inLoop ht]; exact ih y (by omega) hiy
  exact key (m x) x (Nat.le_refl _) hx
theorem seesR_bad {r : Rd} (h : r.bad = true) (k : Int) (s : List UInt8) : seesR r k s = false := by unfold seesR; rw [h]; rfl
theorem takeR_bad {r : Rd} (h : r.bad = true) (k : Int) (s : List UInt8) : takeR r k s = r := by
  unfold takeR; rw [seesR_bad h]; cases r; simp only at h; subst h; rfl
theorem takeR_good {r : Rd} {k : Int} {s : List UInt8} (h : (takeR r k s).bad = false) : seesR r k s = true := by
  cases hs : seesR r k s
  · unfold takeR at h; rw [hs] at h; cases h
  · rfl
theorem sees_good {r : Rd} {k : Int} {s : List UInt8} (h : seesR r k s = true) : r.bad = false := (seesR_cons h).1
theorem typR_bad {f : Nat} {r : Rd} {x : Ty × Rd} (hb : r.bad = true) (h : typR f r = some x) : x.2.bad = true := by
  unfold typR at h; rw [hb, if_pos rfl] at h; injection h with h; subst h; exact hb
theorem exR_bad : ∀ (f : Nat) (m : XM) (r : Rd) (x : Ex × Rd), r.bad = true → exR f m r = some x → x.2.bad = true := by
  intro f
  induction f with
  | zero => intro m r x hb h; cases h
  | succ f ih =>
    intro m r x hb h
    cases m with
    | expr => simp only [exR, hb, if_true] at h; injection h with h; subst h; exact hb
    | loop e => simp only [exR, seesR_bad hb, Bool.or_false, Bool.false_eq_true, if_false] at h; injection h with h; subst h; exact hb
    | lets =>
      simp only [exR, takeR_bad hb, seesR_bad hb, Bool.false_eq_true, if_false] at h
      split at h
      · cases h
      · rename_i x1 r3 h3
        have b3 : r3.bad = true := ih _ _ _ hb h3
        rw [takeR_bad b3] at h
        split at h
        · cases h
        · rename_i y r4 h4
          injection h with h; subst h
          have hh := ih _ _ _ b3 h4
          exact hh
    | atom =>
      simp only [exR, takeR_bad hb, seesR_bad hb, Bool.false_eq_true, if_false] at h
      split at h
      · cases h
      · rename_i e r1 h1
        have b1 : r1.bad = true := ih _ _ _ hb h1
        rw [seesR_bad b1] at h
        simp only [Bool.false_eq_true, if_false] at h
        injection h with h; subst h
        rw [takeR_bad b1]; exact b1
    | alts acc =>
      have hbh : (behindR r).bad = true := hb
      simp only [exR, takeR_bad hb, takeR_bad hbh] at h
      split at h
      · cases h
      · rename_i b r4 h4
        have b4 : r4.bad = true := ih _ _ _ hbh h4
        rw [seesR_bad b4] at h
        simp only [Bool.false_eq_true, if_false] at h
        injection h with h; subst h; exact b4
theorem exR_good {f : Nat} {m : XM} {r : Rd} {x : Ex} {r' : Rd} (h : exR f m r = some (x, r')) (hg : r'.bad = false) : r.bad = false := by
  cases hb : r.bad
  · rfl
  · have h2 := exR_bad f m r _ hb h
    simp only at h2; rw [hg] at h2; cases h2
theorem typR_good {f : Nat} {r : Rd} {x : Ty} {r' : Rd} (h : typR f r = some (x, r')) (hg : r'.bad = false) : r.bad = false := by
  cases hb : r.bad
  · rfl
  · have h2 := typR_bad hb h
    simp only at h2; rw [hg] at h2; cases h2
/-- what the document's reader answers -/
def RO (full : List Tok) (x : Ex × Rd) (o : Option (AVal × Heap)) : Prop := ∃ x', o = some (.tup [.agg (exC x'), .int .i64 (idx full x.2)], []) ∧ (x.2.bad = false → x' = x.1)
def RX (full : List Tok) (r : Rd) (x : Ex × Rd) : XM → Prop
  | .expr => RO full x (den E 67 [.slice (toksV full), .int .i64 (idx full r)] [])
  | .atom => RO full x (den E 93 [.slice (toksV full), .int .i64 (idx full r)] [])
  | _ => True
theorem takesR_eq {r : Rd} {k : Int} {s : List UInt8} (h : seesR r k s = true) : takesR r k s = ⟨r.l.tail, false⟩ := by unfold takesR; rw [h, if_pos rfl]
theorem takeR_eq {r : Rd} {k : Int} {s : List UInt8} (h : seesR r k s = true) : takeR r k s = ⟨r.l.tail, false⟩ := by unfold takeR; rw [h, if_pos rfl]
theorem idx_takes {full : List Tok} {r : Rd} {k : Int} {s : List UInt8} (hs : r.l <:+ full) (hlen : full.length < 1000000) (h : seesR r k s = true) : IntKind.i64.wrap (idx full r + 1) = idx full (takesR r k s) := by
  obtain ⟨i1, i2, i3⟩ := idx_next hs h
  rw [takesR_eq h, i1, i2]; exact IntWalk.i64_in _ (by omega)
theorem idx_lt0 (full : List Tok) (r : Rd) : decide (idx full r < 0) = r.bad := by
  unfold idx; cases r.bad <;> simp
theorem idx_ge0 (full : List Tok) (r : Rd) : decide (idx full r ≥ 0) = !r.bad := by
  unfold idx; cases r.bad <;> simp
theorem atom_bad (full : List Tok) : den E 93 [.slice (toksV full), .int .i64 (-1)] [] = some (.tup [.agg (exC zEx), .int .i64 (-1)], []) := by
  have h1 := is08_den full ⟨full, true⟩ 1 [] (List.suffix_refl _)
  have h2 := is08_den full ⟨full, true⟩ 2 [] (List.suffix_refl _)
  have h3 : den E 65 [.slice (toksV full), .int .i64 (-1), .int .i64 6, .str [40]] [] = some (.bool false, []) := by
    have := is08_den full ⟨full, true⟩ 6 [40] (List.suffix_refl _)
    rw [seesR_bad rfl, idxB] at this; exact this
  rw [seesR_bad rfl, idxB] at h1 h2
  have h4 : den E 89 [.slice (toksV full), .int .i64 (-1), .int .i64 6, .str [40]] [] = some (.int .i64 (-1), []) := by
    rw [den_eq prim_89, body_89]
    simp only [go_sem, ↓reduceIte, Nat.reduceEqDiff, Nat.reduceAdd, reduceCtorEq, Int.reduceNeg, Tryz.f89, h3]
  rw [den_eq prim_93, body_93]
  simp only [go_sem, ↓reduceIte, Nat.reduceEqDiff, Nat.reduceAdd, Nat.reduceLeDiff, Nat.reduceLT, reduceCtorEq, Int.reduceLT, Int.reduceNeg, Tryz.f93, h1, h2, h4, zExC]
theorem read_bad (full : List Tok) : den E 67 [.slice (toksV full), .int .i64 (-1)] [] = some (.tup [.agg (exC zEx), .int .i64 (-1)], []) := by
  have h1 := is08_den full ⟨full, true⟩ 6 [92] (List.suffix_refl _)
  have h2 := is08_den full ⟨full, true⟩ 3 [108, 101, 116] (List.suffix_refl _)
  have h3 := is08_den full ⟨full, true⟩ 3 [99, 97, 115, 101] (List.suffix_refl _)
  have h4 := atom_bad full
  rw [seesR_bad rfl, idxB] at h1 h2 h3
  rw [zExC] at h4
  rw [den_eq prim_67, body_67]
  simp only [go_sem, ↓reduceIte, Nat.reduceEqDiff, Nat.reduceAdd, Nat.reduceLeDiff, Nat.reduceLT, reduceCtorEq, Int.reduceNeg, Tryz.f67, h1, h2, h3, h4]
  refine run_for (fun _ => ⟨[(0, .slice (toksV full)), (4, .ptr (.loc 4) 0), (26, .ptr (.loc 26) 0), (27, .int .i64 (-1))], [], [(4, [.int .i64 0, .str [], .bool false, .int .i64 0, .str [], .int .i64 0, .own 62 0 [], .own 66 0 [], .own 159 0 []]), (26, exC zEx)], 1⟩) 0 ?_ ?_ ?_
  · simp only [go_sem, ↓reduceIte, Nat.reduceEqDiff, reduceCtorEq, Int.reduceNeg, zExC]
  · intro i hi; omega
  · simp only [go_sem, ↓reduceIte, Nat.reduceEqDiff, Nat.reduceAdd, Nat.reduceLeDiff, Nat.reduceLT, reduceCtorEq, Int.reduceNeg, show decide ((-1 : Int) ≥ 0) = false from rfl, zExC]
def exB2 (b : Bool) (e : Ex) : List AVal := match b with
  | false => exC e
  | true => [.int .i64 4, .str [], .bool false, .int .i64 0, .str [], .int .i64 0, .own 62 0 [], .slice (exsV e.kids), .own 159 0 []]
end Go.Proofs
namespace Go.Proofs
open Go.Av
set_option maxHeartbeats 16000000
set_option maxRecDepth 100000
theorem exR_ref (full : List Tok) (hok : ∀ t ∈ full, tokOK2 t) (hlen : full.length < 1000000) : ∀ (f : Nat) (m : XM) (r : Rd) (x : Ex × Rd), r.l <:+ full → exR f m r = some x → RX full r x m := by
  intro f
  induction f using Nat.strongRecOn with
  | _ f ih =>
  intro m r x hs h
  cases f with
  | zero => cases h
  | succ f =>
  cases m with
  | lets => trivial
  | loop _ => trivial
  | alts _ => trivial
  | atom =>
    simp only [RX]
    simp only [exR] at h
    have s1 := is08_den full r 1 [] hs
    have s2 := is08_den full r 2 [] hs
    cases b1 : seesR r 1 []
    · rw [b1] at h s1
      simp only [Bool.false_eq_true, if_false] at h
      cases b2 : seesR r 2 []
      · rw [b2] at h s2
        simp only [Bool.false_eq_true, if_false] at h
        have n1 := next08_den full r 6 [40] hs hlen
        have hs1 := (takeR_suf r 6 [40]).trans hs
        split at h
        · cases h
        · rename_i e r1 h1
          have hs2 := (exR_suf _ _ _ _ _ h1).trans hs1
          cases hb : (takeR r 6 [40]).bad
          · have d1 := ih f (by omega) .expr _ _ hs1 h1
            simp only [RX] at d1
            obtain ⟨e', d1, he⟩ := d1
            have lt1 : decide (idx full (takeR r 6 [40]) < 0) = false := by rw [idx_lt0, hb]
            have s3 := is08_den full r1 6 [58] hs2
            rw [exC_eq] at d1
            cases b3 : seesR r1 6 [58]
            · rw [b3] at h s3
              simp only [Bool.false_eq_true, if_false] at h
              injection h with h; subst h
              have n3 := next08_den full r1 6 [41] hs2 hlen
              refine ⟨e', ?_, fun hg => he (sees_good (takeR_good hg))⟩
              rw [den_eq prim_93, body_93]
              simp only [go_sem, ↓reduceIte, Nat.reduceEqDiff, Nat.reduceAdd, Nat.reduceLeDiff, Nat.reduceLT, reduceCtorEq, Int.reduceNeg, Tryz.f93, s1, s2, n1, lt1, d1, s3, n3, exC_eq]
            · rw [b3] at h s3
              simp only [if_true] at h
              split at h
              · cases h
              · rename_i t r2 h2
                injection h with h; subst h
                have hs3 := (takesR_suf r1 6 [58]).trans hs2
                have hs4 := (typR_suf h2).trans hs3
                obtain ⟨t', d2, ht⟩ := typ08_den full hok hlen f _ _ hs3 h2
                have w1 := idx_takes hs2 hlen b3
                have n3 := next08_den full r2 6 [41] hs4 hlen
                rw [tyV_eq] at d2
                have he' := he (sees_good b3)
                simp only at he'; subst he'
                refine ⟨.mk 7 [] false t' [e'] [], ?_, fun hg => by rw [ht (sees_good (takeR_good hg))]⟩
                rw [den_eq prim_93, body_93]
                simp only [go_sem, ↓reduceIte, Nat.reduceEqDiff, Nat.reduceAdd, Nat.reduceMul, Nat.reduceLeDiff, Nat.reduceLT, reduceCtorEq, Int.reduceNeg, Tryz.f93, s1, s2, n1, lt1, d1, s3, w1, d2, n3, exC_eq, exmk, exsV_cons, exsV_nil, alsV_nil]
          · have hx := exR_bad f .expr _ _ hb h1
            have lt1 : decide (idx full (takeR r 6 [40]) < 0) = true := by rw [idx_lt0, hb]
            simp only at hx
            rw [seesR_bad hx] at h
            simp only [Bool.false_eq_true, if_false] at h
            injection h with h; subst h
            refine ⟨zEx, ?_, fun hg => by rw [takeR_bad hx, hx] at hg; cases hg⟩
            rw [den_eq prim_93, body_93, takeR_bad hx, idx_bad hx]
            simp only [go_sem, ↓reduceIte, Nat.reduceEqDiff, Nat.reduceAdd, Nat.reduceLeDiff, Nat.reduceLT, reduceCtorEq, Int.reduceNeg, Tryz.f93, s1, s2, n1, lt1, zExC]
      · rw [b2] at h s2
        simp only [if_true] at h
        injection h with h; subst h
        obtain ⟨i1, i2, i3⟩ := idx_next hs b2
        have w1 := idx_takes hs hlen b2
        obtain ⟨hb, t, q, hl⟩ := seesR_cons b2
        have hg := (head_get (by rw [← hl]; exact suf_drop hs)).1
        refine ⟨.mk 2 t.text false zTy [] [], ?_, fun _ => by unfold wordR; rw [b2, hl]; rfl⟩
        rw [takesR_eq b2, i1, i2] at w1
        rw [takeR_eq b2, i1]
        rw [i2] at s1 s2 ⊢
        rw [den_eq prim_93, body_93]
        simp only [go_sem, ↓reduceIte, Nat.reduceEqDiff, Nat.reduceAdd, Nat.reduceLeDiff, Nat.reduceLT, reduceCtorEq, Int.reduceNeg, Tryz.f93, s1, s2, natge0, tonat, toksV_get, hg, tokV, w1, exC_eq, exmk, exsV_nil, alsV_nil, tysV_nil, zTy_k, zTy_s, zTy_n, zTy_a]
    · rw [b1] at h s1
      simp only [if_true] at h
      injection h with h; subst h
      obtain ⟨i1, i2, i3⟩ := idx_next hs b1
      have w1 := idx_takes hs hlen b1
      obtain ⟨hb, t, q, hl⟩ := seesR_cons b1
      have hg := (head_get (by rw [← hl]; exact suf_drop hs)).1
      refine ⟨.mk 1 t.text false zTy [] [], ?_, fun _ => by unfold wordR; rw [b1, hl]; rfl⟩
      rw [takesR_eq b1, i1, i2] at w1
      rw [takeR_eq b1, i1]
      rw [i2] at s1 ⊢
      rw [den_eq prim_93, body_93]
      simp only [go_sem, ↓reduceIte, Nat.reduceEqDiff, Nat.reduceAdd, Nat.reduceLeDiff, Nat.reduceLT, reduceCtorEq, Int.reduceNeg, Tryz.f93, s1, natge0, tonat, toksV_get, hg, tokV, w1, exC_eq, exmk, exsV_nil, alsV_nil, tysV_nil, zTy_k, zTy_s, zTy_n, zTy_a]
  | expr =>
    simp only [RX]
    simp only [exR] at h
    cases hb : r.bad
    · rw [hb] at h
      simp only [Bool.false_eq_true, if_false] at h
      have a1 := is08_den full r 6 [92] hs
      cases b1 : seesR r 6 [92]
      · rw [b1] at h a1
        simp only [Bool.false_eq_true, if_false] at h
        have a2 := is08_den full r 3 [108, 101, 116] hs
        cases b2 : seesR r 3 [108, 101, 116]
        · rw [b2] at h a2
          simp only [Bool.false_eq_true, if_false] at h
          have a3 := is08_den full r 3 [99, 97, 115, 101] hs
          cases b3 : seesR r 3 [99, 97, 115, 101]
          · rw [b3] at h a3
            simp only [Bool.false_eq_true, if_false] at h
            split at h
            · cases h
            · rename_i e r1 h1
              have sx := (exR_suf _ _ _ _ _ h1).trans hs
              have d1 := ih f (by omega) .atom _ _ hs h1
              simp only [RX] at d1
              obtain ⟨e', d1, he⟩ := d1
              rw [exC_eq] at d1
              rw [den_eq prim_67, body_67]
              simp only [go_sem, ↓reduceIte, Nat.reduceEqDiff, Nat.reduceAdd, Nat.reduceLeDiff, Nat.reduceLT, reduceCtorEq, Tryz.f67, a1, a2, a3, d1]
              refine run_ex (RO full x) (fun y : Nat × Bool × Ex × Ex × Rd => y.1 ≤ f ∧ y.2.2.2.2.l <:+ full ∧ (y.2.1 = true → ∃ ks, y.2.2.2.1 = .mk 4 [] false zTy ks []) ∧ exR y.1 (.loop y.2.2.1) y.2.2.2.2 = some x ∧ (y.2.2.2.2.bad = false → y.2.2.2.1 = y.2.2.1))
                (fun y => ⟨[(0, .slice (toksV full)), (4, .ptr (.loc 4) 0), (26, .ptr (.loc 26) 0), (27, .int .i64 (idx full y.2.2.2.2))], [],
                  [(4, [.int .i64 0, .str [], .bool false, .int .i64 0, .str [], .int .i64 0, .own 62 0 [], .own 66 0 [], .own 159 0 []]), (26, exB2 y.2.1 y.2.2.2.1)], 1⟩)
                (fun y => y.1) (f, false, e, e', r1) ⟨Nat.le_refl _, sx, (fun h => by cases h), h, he⟩ ?_ ?_
              · simp only [go_sem, ↓reduceIte, Nat.reduceEqDiff, reduceCtorEq, exB2, exC_eq]
              · rintro ⟨g, b, e2, e3, q⟩ ⟨hg, hq, hb2, hx, h23⟩ hrun
                simp only at hg hq hb2 hx h23 hrun ⊢
                cases g with
                | zero => cases hx
                | succ g =>
                  simp only [exR] at hx
                  have step : (seesR q 1 [] || (seesR q 2 [] || seesR q 6 [40])) = true → ∃ y r2, exR g .atom q = some (y, r2) ∧ exR g (.loop (.mk 4 [] false zTy [e2, y] [])) r2 = some x := fun hb => by
                    rw [hb] at hx
                    simp only [if_true] at hx
                    split at hx
                    · cases hx
                    · rename_i y r2 h2
                      exact ⟨y, r2, h2, hx⟩
                  have stop : (seesR q 1 [] || (seesR q 2 [] || seesR q 6 [40])) = false → x = (e2, q) := fun hb => by
                    rw [hb] at hx
                    simp only [Bool.false_eq_true, if_false] at hx
                    injection hx with hx; exact hx.symm
                  have go : ∀ y r2, exR g .atom q = some (y, r2) → ∃ y', den E 93 [.slice (toksV full), .int .i64 (idx full q)] [] = some (.tup [.agg (exC y'), .int .i64 (idx full r2)], []) ∧ (r2.bad = false → y' = y) ∧ r2.l <:+ full := fun y r2 h2 => by
                    have d2 := ih g (by omega) .atom _ _ hq h2
                    simp only [RX] at d2
                    obtain ⟨y', d2, hy⟩ := d2
                    exact ⟨y', d2, hy, (exR_suf _ _ _ _ _ h2).trans hq⟩
                  obtain ⟨w, hw⟩ : ∃ w, w = e3 := ⟨_, rfl⟩
                  cases b
                  case' true => obtain ⟨ks, rfl⟩ := hb2 rfl
                  all_goals (
                    cases hqb : q.bad
                    · have hi := idx_ok (full := full) hqb
                      have h23' := h23 hqb
                      subst h23'
                      rw [hi] at go ⊢
                      have hle := hq.length_le
                      cases hql : q.l with
                      | nil =>
                        have hx := stop (by unfold seesR; rw [hql]; simp [seesT])
                        subst hx
                        have hge : decide (((full.length - 0 : Nat) : Int) < ((full.length : Nat) : Int)) = false := by simp
                        rw [RO, hi]
                        refine ⟨_, ?_, fun _ => rfl⟩
                        simp only [go_sem, ↓reduceIte, Nat.reduceEqDiff, Nat.reduceAdd, Nat.reduceLeDiff, Nat.reduceLT, reduceCtorEq, exB2, hql, nat_ge, toksV_len, List.length_nil, hge, exC_eq, exmk, alsV_nil, tysV_nil, zTy_k, zTy_s, zTy_n, zTy_a]
                      | cons t qs =>
                        have hg1 := (head_get (by rw [← hql]; exact suf_drop hq)).1
                        have htok := hok t (List.mem_of_getElem? hg1)
                        rw [hql] at hle
                        simp only [List.length_cons] at hle
                        have hlt : decide (((full.length - (qs.length + 1) : Nat) : Int) < ((full.length : Nat) : Int)) = true := by simp; omega
                        have e40 : seesR q 6 [40] = (t.text == [40]) := by
                          unfold seesR; rw [hqb, hql]
                          cases ht : t.text == [40]
                          · simp [seesT, ht]
                          · have := htok.2 (by simpa using ht)
                            simp [seesT, ht, this]
                        have e1 : seesR q 1 [] = (t.kind == 1) := by unfold seesR; rw [hqb, hql]; simp [seesT]
                        have e2' : seesR q 2 [] = (t.kind == 2) := by unfold seesR; rw [hqb, hql]; simp [seesT]
                        rw [e1, e2', e40] at step stop
                        rw [hql] at hg1
                        simp only [List.length_cons] at hg1 ⊢
                        cases n1 : t.kind == 1
                        · cases n2 : t.kind == 2
                          · cases n3 : t.text == [40]
                            · have hx := stop (by simp [n1, n2, n3])
                              subst hx
                              refine ⟨_, ?_, fun _ => rfl⟩
                              rw [hi, hql, List.length_cons]
                              simp only [go_sem, ↓reduceIte, Nat.reduceEqDiff, Nat.reduceAdd, Nat.reduceLeDiff, Nat.reduceLT, reduceCtorEq, exB2, toksV_len, hlt, natge0, tonat, toksV_get, hg1, tokV, n1, n2, n3, exC_eq, exmk, alsV_nil, tysV_nil, zTy_k, zTy_s, zTy_n, zTy_a]
                            · obtain ⟨y, r2, h2, h3⟩ := step (by simp [n1, n2, n3])
                              obtain ⟨y', d2, hy, hs2⟩ := go y r2 h2
                              simp only [hql, List.length_cons, exC_eq] at d2
                              simp only [go_sem, ↓reduceIte, Nat.reduceEqDiff, Nat.reduceAdd, Nat.reduceMul, Nat.reduceLeDiff, Nat.reduceLT, reduceCtorEq, exB2, toksV_len, hlt, natge0, tonat, toksV_get, hg1, tokV, n1, n2, n3, d2, exC_eq, exmk]
                              refine hrun (g, true, _, .mk 4 [] false zTy [_, y'] [], r2) _ ⟨by omega, hs2, (fun _ => ⟨_, rfl⟩), h3, fun hg => by rw [hy hg]⟩ (by simp only; omega) ?_
                              simp only [go_sem, ↓reduceIte, Nat.reduceEqDiff, reduceCtorEq, exB2, exC_eq, exmk, exsV_cons, exsV_nil, alsV_nil, tysV_nil, zTy_k, zTy_s, zTy_n, zTy_a]
                          · obtain ⟨y, r2, h2, h3⟩ := step (by simp [n1, n2])
                            obtain ⟨y', d2, hy, hs2⟩ := go y r2 h2
                            simp only [hql, List.length_cons, exC_eq] at d2
                            simp only [go_sem, ↓reduceIte, Nat.reduceEqDiff, Nat.reduceAdd, Nat.reduceMul, Nat.reduceLeDiff, Nat.reduceLT, reduceCtorEq, exB2, toksV_len, hlt, natge0, tonat, toksV_get, hg1, tokV, n1, n2, d2, exC_eq, exmk]
                            refine hrun (g, true, _, .mk 4 [] false zTy [_, y'] [], r2) _ ⟨by omega, hs2, (fun _ => ⟨_, rfl⟩), h3, fun hg => by rw [hy hg]⟩ (by simp only; omega) ?_
                            simp only [go_sem, ↓reduceIte, Nat.reduceEqDiff, reduceCtorEq, exB2, exC_eq, exmk, exsV_cons, exsV_nil, alsV_nil, tysV_nil, zTy_k, zTy_s, zTy_n, zTy_a]
                        · obtain ⟨y, r2, h2, h3⟩ := step (by simp [n1])
                          obtain ⟨y', d2, hy, hs2⟩ := go y r2 h2
                          simp only [hql, List.length_cons, exC_eq] at d2
                          simp only [go_sem, ↓reduceIte, Nat.reduceEqDiff, Nat.reduceAdd, Nat.reduceMul, Nat.reduceLeDiff, Nat.reduceLT, reduceCtorEq, exB2, toksV_len, hlt, natge0, tonat, toksV_get, hg1, tokV, n1, d2, exC_eq, exmk]
                          refine hrun (g, true, _, .mk 4 [] false zTy [_, y'] [], r2) _ ⟨by omega, hs2, (fun _ => ⟨_, rfl⟩), h3, fun hg => by rw [hy hg]⟩ (by simp only; omega) ?_
                          simp only [go_sem, ↓reduceIte, Nat.reduceEqDiff, reduceCtorEq, exB2, exC_eq, exmk, exsV_cons, exsV_nil, alsV_nil, tysV_nil, zTy_k, zTy_s, zTy_n, zTy_a]
                    · have hi := idx_bad (full := full) hqb
                      have hx := stop (by rw [seesR_bad hqb, seesR_bad hqb, seesR_bad hqb]; rfl)
                      subst hx
                      rw [RO, hi]
                      refine ⟨w, ?_, fun hg => absurd (hqb.symm.trans hg) (by decide)⟩
                      rw [hw]
                      simp only [go_sem, ↓reduceIte, Nat.reduceEqDiff, Nat.reduceAdd, Nat.reduceLeDiff, Nat.reduceLT, reduceCtorEq, Int.reduceNeg, exB2, show decide ((-1 : Int) ≥ 0) = false from rfl, exC_eq, exmk, alsV_nil, tysV_nil, zTy_k, zTy_s, zTy_n, zTy_a])
          · rw [b3] at h a3
            simp only [if_true] at h
            split at h
            · cases h
            · rename_i x1 r1 h1
              have w1 := idx_takes hs hlen b3
              have s1 := (takesR_suf r 3 [99, 97, 115, 101]).trans hs
              have d1 := ih f (by omega) .expr _ _ s1 h1
              simp only [RX] at d1
              obtain ⟨e1, d1, he1⟩ := d1
              simp only at he1
              rw [exC_eq] at d1
              have s2 := (exR_suf _ _ _ _ _ h1).trans s1
              have n1 := next08_den full r1 3 [111, 102] s2 hlen
              have s3 := (takeR_suf r1 3 [111, 102]).trans s2
              have n2 := next08_den full _ 6 [123] s3 hlen
              have s4 := (takeR_suf (takeR r1 3 [111, 102]) 6 [123]).trans s3
              have hgq : (takeR (takeR r1 3 [111, 102]) 6 [123]).bad = false → e1 = x1 := fun hg => he1 (sees_good (takeR_good (sees_good (takeR_good hg))))
              generalize takeR (takeR r1 3 [111, 102]) 6 [123] = q0 at *
              have a4 := is08_den full q0 6 [125] s4
              cases b4 : seesR q0 6 [125]
              · rw [b4] at h a4
                simp only [Bool.false_eq_true, if_false] at h
                split at h
                · cases h
                · rename_i y rE hE
                  injection h with h
                  have hgx : x.2.bad = false → e1 = x1 := fun hg => by
                    subst h
                    exact hgq (exR_good hE (sees_good (takeR_good hg)))
                  have hq0 := idx_ge0 full q0
                  rw [den_eq prim_67, body_67]
                  simp only [go_sem, ↓reduceIte, Nat.reduceEqDiff, Nat.reduceAdd, Nat.reduceMul, Nat.reduceLeDiff, Nat.reduceLT, reduceCtorEq, Tryz.f67, a1, a2, a3, w1, d1, n1, n2, a4, hq0]
                  refine run_ex (RO full x) (fun z : Nat × List Al × List Al × Rd × Bool => z.1 ≤ f ∧ z.2.2.2.1.l <:+ full ∧ z.2.2.1.length + z.2.2.2.1.l.length ≤ full.length + 1 ∧
                      (z.2.2.2.2 = true → z.2.2.2.1.bad = false ∧ z.2.2.1.length + z.2.2.2.1.l.length ≤ full.length ∧ exR z.1 (.alts z.2.1) z.2.2.2.1 = some (y, rE) ∧ (x.2.bad = false → z.2.2.1 = z.2.1)) ∧
                      (z.2.2.2.2 = false → idx full x.2 = idx full (takeR z.2.2.2.1 6 [125]) ∧ (x.2.bad = false → x.1 = .mk 6 [] false zTy [x1] z.2.2.1)))
                    (fun z => ⟨[(0, .slice (toksV full)), (4, .ptr (.loc 4) 0), (19, .int .i64 (idx full z.2.2.2.1)), (20, .ptr (.loc 20) 0), (22, .bool z.2.2.2.2)], [],
                      [(4, [.int .i64 0, .str [], .bool false, .int .i64 0, .str [], .int .i64 0, .own 62 0 [], .own 66 0 [], .own 159 0 []]),
                       (20, [.int .i64 6, .str [], .bool false, .int .i64 0, .str [], .int .i64 0, .own 62 0 [], .slice (exsV [e1]), .own 159 0 (alsV z.2.2.1)])], 1⟩)
                    (fun z => z.1) (f, [], [], q0, !q0.bad) ⟨Nat.le_refl _, s4, by have := s4.length_le; simp only [List.length_nil]; omega, ?_, ?_⟩ ?_ ?_
                  · intro hm
                    simp only [Bool.not_eq_true'] at hm
                    exact ⟨hm, by have := s4.length_le; simp only [List.length_nil]; omega, hE, fun _ => rfl⟩
                  · intro hm
                    simp only [Bool.not_eq_false'] at hm
                    have hbE := exR_bad _ _ _ _ hm hE
                    simp only at hbE
                    subst h
                    refine ⟨?_, fun hg => ?_⟩
                    · rw [takeR_bad hbE, takeR_bad hm, idx_bad hbE, idx_bad hm]
                    · rw [takeR_bad hbE] at hg; exact absurd (hbE.symm.trans hg) (by decide)
                  · simp only [go_sem, ↓reduceIte, Nat.reduceEqDiff, reduceCtorEq, exsV_cons, exsV_nil, alsV_nil, exC_eq]
                  · rintro ⟨g, acc, acc', q, more⟩ ⟨hg, hq, hle, hm1, hm0⟩ hrun
                    simp only at hg hq hle hm1 hm0 hrun ⊢
                    cases more
                    · obtain ⟨m1, m2⟩ := hm0 rfl
                      have n4 := next08_den full q 6 [125] hq hlen
                      refine ⟨.mk 6 [] false zTy [e1] acc', ?_, fun hg => by rw [m2 hg, hgx hg]⟩
                      rw [m1]
                      simp only [go_sem, ↓reduceIte, Nat.reduceEqDiff, Nat.reduceAdd, Nat.reduceLeDiff, Nat.reduceLT, reduceCtorEq, n4, exC_eq, exmk, exsV_cons, exsV_nil, tysV_nil, zTy_k, zTy_s, zTy_n, zTy_a]
                    · obtain ⟨m1, m2, m3, m4⟩ := hm1 rfl
                      cases g with
                      | zero => cases m3
                      | succ g =>
                      simp only [exR] at m3
                      split at m3
                      · cases m3
                      · rename_i b r4 h4
                        have tx := text_den full q hq
                        have n4 := next08_den full q 2 [] hq hlen
                        have q1 := (takeR_suf q 2 []).trans hq
                        have nm := names08_den full (takeR q 2 []) q1 hlen
                        have q2 := (behindR_suf (takeR q 2 [])).trans q1
                        have n5 := next08_den full (behindR (takeR q 2 [])) 6 [45, 62] q2 hlen
                        have q3 := (takeR_suf (behindR (takeR q 2 [])) 6 [45, 62]).trans q2
                        have d4 := ih g (by omega) .expr _ _ q3 h4
                        simp only [RX] at d4
                        obtain ⟨b', d4, hb4⟩ := d4
                        simp only at hb4
                        have q4 := (exR_suf _ _ _ _ _ h4).trans q3
                        have a5 := is08_den full r4 6 [59] q4
                        have hql : r4.l.length ≤ q.l.length := ((exR_suf _ _ _ _ _ h4).trans ((takeR_suf _ 6 [45, 62]).trans ((behindR_suf _).trans (takeR_suf q 2 [])))).length_le
                        have hal : r4.bad = false → Al.mk (headR q) (namesR (takeR q 2 [])) b' = .mk (wordR q 2 []) (namesR (takeR q 2 [])) b := fun hg => by
                          have g1 : (behindR (takeR q 2 [])).bad = false := sees_good (takeR_good (exR_good h4 hg))
                          have g2 : (takeR q 2 []).bad = false := g1
                          rw [headR_sees (takeR_good g2), hb4 hg]
                        have hap : (alsV acc').length + 1 ≤ appMax := by rw [alsV_len]; unfold appMax; omega
                        have hmap : alsV acc' ++ [.agg (.str (headR q) :: .slice ((namesR (takeR q 2 [])).map .str) :: exC b')] = alsV (acc' ++ [.mk (headR q) (namesR (takeR q 2 [])) b']) := by
                          rw [alsV_map, alsV_map, List.map_append, List.map_cons, List.map_nil]; simp [alV]
                        rw [exC_eq] at d4 hmap
                        cases b5 : seesR r4 6 [59]
                        · rw [b5] at m3 a5
                          simp only [Bool.false_eq_true, if_false] at m3
                          injection m3 with m3
                          injection m3 with m3a m3b
                          simp only [go_sem, ↓reduceIte, Nat.reduceEqDiff, Nat.reduceAdd, Nat.reduceMul, Nat.reduceLeDiff, Nat.reduceLT, reduceCtorEq, tx, n4, nm, n5, d4, hap, hmap, a5]
                          refine hrun (g, acc ++ [.mk (wordR q 2 []) (namesR (takeR q 2 [])) b], acc' ++ [.mk (headR q) (namesR (takeR q 2 [])) b'], r4, false) _ ⟨by omega, q4, ?_, (fun h => by cases h), fun _ => ?_⟩ (by simp only; omega) ?_
                          · simp only [List.length_append, List.length_singleton]; omega
                          · subst h; subst m3a; subst m3b
                            refine ⟨rfl, fun hg => ?_⟩
                            simp only [Ex.alts]
                            rw [m4 hg, hal (sees_good (takeR_good hg))]
                          · simp only [go_sem, ↓reduceIte, Nat.reduceEqDiff, reduceCtorEq, exsV_cons, exsV_nil, exC_eq]
                        · rw [b5] at m3 a5
                          simp only [if_true] at m3
                          have w5 := idx_takes q4 hlen b5
                          obtain ⟨hb5, t5, l5, hl5⟩ := seesR_cons b5
                          have hk : (takesR r4 6 [59]).l.length + 1 = r4.l.length := by rw [takesR_eq b5, hl5]; simp
                          simp only [go_sem, ↓reduceIte, Nat.reduceEqDiff, Nat.reduceAdd, Nat.reduceMul, Nat.reduceLeDiff, Nat.reduceLT, reduceCtorEq, tx, n4, nm, n5, d4, hap, hmap, a5, w5]
                          refine hrun (g, acc ++ [.mk (wordR q 2 []) (namesR (takeR q 2 [])) b], acc' ++ [.mk (headR q) (namesR (takeR q 2 [])) b'], takesR r4 6 [59], true) _ ⟨by omega, (takesR_suf _ _ _).trans q4, ?_, fun _ => ⟨?_, ?_, m3, fun hg => ?_⟩, fun h => by cases h⟩ (by simp only; omega) ?_
                          · simp only [List.length_append, List.length_singleton]; omega
                          · rw [takesR_eq b5]
                          · simp only [List.length_append, List.length_singleton]; omega
                          · rw [m4 hg, hal hb5]
                          · simp only [go_sem, ↓reduceIte, Nat.reduceEqDiff, reduceCtorEq, exsV_cons, exsV_nil, exC_eq]
              · rw [b4] at h a4
                simp only [if_true] at h
                injection h with h; subst h
                have w4 := idx_takes s4 hlen b4
                refine ⟨.mk 6 [] false zTy [e1] [], ?_, fun hg => by rw [hgq (sees_good b4)]⟩
                rw [den_eq prim_67, body_67]
                simp only [go_sem, ↓reduceIte, Nat.reduceEqDiff, Nat.reduceAdd, Nat.reduceMul, Nat.reduceLeDiff, Nat.reduceLT, reduceCtorEq, Tryz.f67, a1, a2, a3, w1, d1, n1, n2, a4, w4, exC_eq, exmk, exsV_cons, exsV_nil, alsV_nil, tysV_nil, zTy_k, zTy_s, zTy_n, zTy_a]
        · rw [b2] at h a2
          simp only [if_true] at h
          have w1 := idx_takes hs hlen b2
          have s1 := (takesR_suf r 3 [108, 101, 116]).trans hs
          generalize takesR r 3 [108, 101, 116] = r1 at *
          cases f with
          | zero => cases h
          | succ f =>
          simp only [exR] at h
          have tx := text_den full _ s1
          have n1 := next08_den full r1 1 [] s1 hlen
          have s2 := (takeR_suf r1 1 []).trans s1
          have a4 := is08_den full (takeR r1 1 []) 6 [58] s2
          have name : (takeR r1 1 []).bad = false → headR r1 = wordR r1 1 [] := fun hg => headR_sees (takeR_good hg)
          generalize takeR r1 1 [] = r2 at *
          cases b4 : seesR r2 6 [58]
          · rw [b4] at h a4
            simp only [Bool.false_eq_true, if_false] at h
            split at h
            · cases h
            · rename_i x1 r3 h3
              have s3 := (takeR_suf r2 6 [61]).trans s2
              have n2 := next08_den full r2 6 [61] s2 hlen
              have d3 := ih f (by omega) .expr _ _ s3 h3
              simp only [RX] at d3
              obtain ⟨e3, d3, he3⟩ := d3
              have s4 := (exR_suf _ _ _ _ _ h3).trans s3
              have n3 := next08_den full r3 3 [105, 110] s4 hlen
              have s5 := (takeR_suf r3 3 [105, 110]).trans s4
              split at h
              · cases h
              · rename_i y r4 h4
                injection h with h; subst h
                have d4 := ih f (by omega) .expr _ _ s5 h4
                simp only [RX] at d4
                obtain ⟨e4, d4, he4⟩ := d4
                rw [exC_eq] at d3 d4
                refine ⟨.mk 5 (headR r1) false zTy [e3, e4] [], ?_, fun hg => ?_⟩
                · rw [den_eq prim_67, body_67]
                  simp only [go_sem, ↓reduceIte, Nat.reduceEqDiff, Nat.reduceAdd, Nat.reduceMul, Nat.reduceLeDiff, Nat.reduceLT, reduceCtorEq, Tryz.f67, a1, a2, w1, tx, n1, a4, n2, d3, n3, d4, exC_eq, exmk, exsV_cons, exsV_nil, alsV_nil, tysV_nil, zTy_k, zTy_s, zTy_n, zTy_a]
                · have g3 := sees_good (takeR_good (exR_good h4 hg))
                  have g2 := sees_good (takeR_good (exR_good h3 g3))
                  rw [name g2, he4 hg, he3 g3]
          · rw [b4] at h a4
            simp only [if_true] at h
            split at h
            · cases h
            · rename_i t rt ht
              have w2 := idx_takes s2 hlen b4
              have s2' := (takesR_suf r2 6 [58]).trans s2
              obtain ⟨t', dt, htt⟩ := typ08_den full hok hlen _ _ _ s2' ht
              have st := (typR_suf ht).trans s2'
              split at h
              · cases h
              · rename_i x1 r3 h3
                have s3 := (takeR_suf rt 6 [61]).trans st
                have n2 := next08_den full rt 6 [61] st hlen
                have d3 := ih f (by omega) .expr _ _ s3 h3
                simp only [RX] at d3
                obtain ⟨e3, d3, he3⟩ := d3
                have s4 := (exR_suf _ _ _ _ _ h3).trans s3
                have n3 := next08_den full r3 3 [105, 110] s4 hlen
                have s5 := (takeR_suf r3 3 [105, 110]).trans s4
                split at h
                · cases h
                · rename_i y r4 h4
                  injection h with h; subst h
                  have d4 := ih f (by omega) .expr _ _ s5 h4
                  simp only [RX] at d4
                  obtain ⟨e4, d4, he4⟩ := d4
                  rw [exC_eq] at d3 d4
                  rw [tyV_eq] at dt
                  refine ⟨.mk 5 (headR r1) true t' [e3, e4] [], ?_, fun hg => ?_⟩
                  · rw [den_eq prim_67, body_67]
                    simp only [go_sem, ↓reduceIte, Nat.reduceEqDiff, Nat.reduceAdd, Nat.reduceMul, Nat.reduceLeDiff, Nat.reduceLT, reduceCtorEq, Tryz.f67, a1, a2, w1, tx, n1, a4, w2, dt, n2, d3, n3, d4, exC_eq, exmk, exsV_cons, exsV_nil, alsV_nil]
                  · have g3 := sees_good (takeR_good (exR_good h4 hg))
                    have gt := sees_good (takeR_good (exR_good h3 g3))
                    rw [name (sees_good b4), he4 hg, he3 g3, htt gt]
      · rw [b1] at h a1
        simp only [if_true] at h
        split at h
        · cases h
        · rename_i x1 r4 h4
          injection h with h; subst h
          have w1 := idx_takes hs hlen b1
          have s1 := (takesR_suf r 6 [92]).trans hs
          have s2 := (takeR_suf (takesR r 6 [92]) 1 []).trans s1
          have s3 := (takeR_suf (takeR (takesR r 6 [92]) 1 []) 6 [45, 62]).trans s2
          have n1 := next08_den full (takesR r 6 [92]) 1 [] s1 hlen
          have n2 := next08_den full _ 6 [45, 62] s2 hlen
          have tx := text_den full _ s1
          have d4 := ih f (by omega) .expr _ _ s3 h4
          simp only [RX] at d4
          obtain ⟨e', d4, he⟩ := d4
          rw [exC_eq] at d4
          refine ⟨.mk 3 (headR (takesR r 6 [92])) false zTy [e'] [], ?_, fun hg => ?_⟩
          · rw [den_eq prim_67, body_67]
            simp only [go_sem, ↓reduceIte, Nat.reduceEqDiff, Nat.reduceAdd, Nat.reduceMul, Nat.reduceLeDiff, Nat.reduceLT, reduceCtorEq, Tryz.f67, a1, w1, n1, n2, tx, d4, exC_eq, exmk, exsV_cons, exsV_nil, alsV_nil, tysV_nil, zTy_k, zTy_s, zTy_n, zTy_a]
          · have g1 := sees_good (takeR_good (exR_good h4 hg))
            rw [headR_sees (takeR_good g1), he hg]
    · rw [hb] at h
      simp only [if_true] at h
      injection h with h; subst h
      rw [idx_bad hb]
      exact ⟨zEx, by rw [idx_bad hb]; exact read_bad full, fun _ => rfl⟩
end Go.Proofs
namespace Go.Proofs
open Go.Av
set_option maxHeartbeats 16000000
set_option maxRecDepth 100000
def ROD (full : List Tok) (x : De × Rd) (o : Option (AVal × Heap)) : Prop := ∃ x', o = some (.tup [.agg (deC x'), .int .i64 (idx full x.2)], []) ∧ (x.2.bad = false → x' = x.1)
theorem coR_good {f : Nat} {q : Rd} {c : Co} {r : Rd} (h : coR f q = some (c, r)) (hg : r.bad = false) : (takeR (takeR q 2 []) 6 [58]).bad = false := by
  unfold coR at h
  split at h
  · cases h
  · rename_i t r1 h1
    injection h with h; injection h with _ h; subst h
    exact typR_good h1 hg
theorem cosR_good {f : Nat} : ∀ {g : Nat} {acc : List Co} {q : Rd} {cs : List Co} {r : Rd}, cosR f g acc q = some (cs, r) → r.bad = false → q.bad = false := by
  intro g
  induction g with
  | zero => intro acc q cs r h; cases h
  | succ g ih =>
    intro acc q cs r h hg
    simp only [cosR] at h
    split at h
    · cases h
    · rename_i c r1 h1
      have fin : r1.bad = false → q.bad = false := fun h2 => sees_good (takeR_good (sees_good (takeR_good (coR_good h1 h2))))
      split at h
      · rename_i h5; exact fin (sees_good h5)
      · injection h with h; injection h with _ h; subst h; exact fin hg
theorem deR_ref (full : List Tok) (hok : ∀ t ∈ full, tokOK2 t) (hlen : full.length < 1000000) (f : Nat) (r : Rd) (x : De × Rd) (hs : r.l <:+ full) (h : deR f r = some x) :
    ROD full x (den E 64 [.slice (toksV full), .int .i64 (idx full r)] []) := by
  unfold deR at h
  have a1 := is08_den full r 3 [100, 97, 116, 97] hs
  cases b1 : seesR r 3 [100, 97, 116, 97]
  · rw [b1] at h a1
    simp only [Bool.false_eq_true, if_false] at h
    have n1 := next08_den full r 1 [] hs hlen
    have s2 := (takeR_suf r 1 []).trans hs
    have a4 := is08_den full (takeR r 1 []) 6 [58] s2
    have tx := text_den full r hs
    have name : (takeR r 1 []).bad = false → headR r = wordR r 1 [] := fun hg => headR_sees (takeR_good hg)
    generalize takeR r 1 [] = r2 at *
    cases b4 : seesR r2 6 [58]
    · rw [b4] at h a4
      simp only [Bool.false_eq_true, if_false] at h
      split at h
      · cases h
      · rename_i e r3 h3
        injection h with h; subst h
        have s3 := (takeR_suf r2 6 [61]).trans s2
        have n2 := next08_den full r2 6 [61] s2 hlen
        have d3 := exR_ref full hok hlen f .expr _ _ s3 h3
        simp only [RX] at d3
        obtain ⟨e3, d3, he3⟩ := d3
        rw [exC_eq] at d3
        refine ⟨⟨3, headR r, [], [], zTy, e3⟩, ?_, fun hg => ?_⟩
        · rw [den_eq prim_64, body_64]
          simp only [go_sem, ↓reduceIte, Nat.reduceEqDiff, Nat.reduceAdd, Nat.reduceLeDiff, Nat.reduceLT, reduceCtorEq, Tryz.f64, a1, n1, a4, n2, d3, tx, deC, tysV_nil, zTy_k, zTy_s, zTy_n, zTy_a, List.map_nil]
        · rw [name (sees_good (takeR_good (exR_good h3 hg))), he3 hg]
    · rw [b4] at h a4
      simp only [if_true] at h
      split at h
      · cases h
      · rename_i t rt ht
        injection h with h; subst h
        have w2 := idx_takes s2 hlen b4
        have s2' := (takesR_suf r2 6 [58]).trans s2
        obtain ⟨t', dt, htt⟩ := typ08_den full hok hlen _ _ _ s2' ht
        rw [tyV_eq] at dt
        refine ⟨⟨2, headR r, [], [], t', zEx⟩, ?_, fun hg => ?_⟩
        · rw [den_eq prim_64, body_64]
          simp only [go_sem, ↓reduceIte, Nat.reduceEqDiff, Nat.reduceAdd, Nat.reduceLeDiff, Nat.reduceLT, reduceCtorEq, Tryz.f64, a1, n1, a4, w2, dt, tx, deC, exsV_nil, alsV_nil, tysV_nil, zTy_k, zTy_s, zTy_n, zTy_a, exz, List.map_nil]
        · rw [name (sees_good b4), htt hg]
  · rw [b1] at h a1
    simp only [if_true] at h
    have w1 := idx_takes hs hlen b1
    have s1 := (takesR_suf r 3 [100, 97, 116, 97]).trans hs
    generalize takesR r 3 [100, 97, 116, 97] = r1 at *
    have tx := text_den full r1 s1
    have n1 := next08_den full r1 2 [] s1 hlen
    have s2 := (takeR_suf r1 2 []).trans s1
    have nm := names08_den full _ s2 hlen
    have s3 := (behindR_suf (takeR r1 2 [])).trans s2
    have n2 := next08_den full _ 6 [123] s3 hlen
    have s4 := (takeR_suf (behindR (takeR r1 2 [])) 6 [123]).trans s3
    have name : (takeR (behindR (takeR r1 2 [])) 6 [123]).bad = false → headR r1 = wordR r1 2 [] := fun hg => by
      have g1 : (behindR (takeR r1 2 [])).bad = false := sees_good (takeR_good hg)
      have g2 : (takeR r1 2 []).bad = false := g1
      exact headR_sees (takeR_good g2)
    generalize namesR (takeR r1 2 []) = vs at *
    generalize takeR (behindR (takeR r1 2 [])) 6 [123] = q0 at *
    have a4 := is08_den full q0 6 [125] s4
    cases b4 : seesR q0 6 [125]
    · rw [b4] at h a4
      simp only [Bool.false_eq_true, if_false] at h
      split at h
      · cases h
      · rename_i cs rE hE
        injection h with h
        have hq0 := idx_ge0 full q0
        have hgx : x.2.bad = false → headR r1 = wordR r1 2 [] := fun hg => by
          subst h
          exact name (cosR_good hE (sees_good (takeR_good hg)))
        rw [den_eq prim_64, body_64]
        simp only [go_sem, ↓reduceIte, Nat.reduceEqDiff, Nat.reduceAdd, Nat.reduceLeDiff, Nat.reduceLT, reduceCtorEq, Tryz.f64, a1, w1, tx, n1, nm, n2, a4, hq0]
        refine run_ex (ROD full x) (fun z : Nat × List Co × List Co × Rd × Bool => z.1 ≤ f ∧ z.2.2.2.1.l <:+ full ∧ z.2.2.1.length + z.2.2.2.1.l.length ≤ full.length + 1 ∧
            (z.2.2.2.2 = true → z.2.2.2.1.bad = false ∧ z.2.2.1.length + z.2.2.2.1.l.length ≤ full.length ∧ cosR f z.1 z.2.1 z.2.2.2.1 = some (cs, rE) ∧ (x.2.bad = false → z.2.2.1 = z.2.1)) ∧
            (z.2.2.2.2 = false → idx full x.2 = idx full (takeR z.2.2.2.1 6 [125]) ∧ (x.2.bad = false → x.1 = ⟨1, headR r1, vs, z.2.2.1, zTy, zEx⟩)))
          (fun z => ⟨[(0, .slice (toksV full)), (4, .ptr (.loc 4) 0), (7, .ptr (.loc 7) 0), (9, .int .i64 (idx full z.2.2.2.1)), (11, .bool z.2.2.2.2)], [],
            [(4, [.int .i64 0, .str [], .own 9 0 [], .own 155 0 [], .int .i64 0, .str [], .int .i64 0, .own 62 0 [], .int .i64 0, .str [], .bool false, .int .i64 0, .str [], .int .i64 0, .own 62 0 [], .own 66 0 [], .own 159 0 []]),
             (7, [.int .i64 1, .str (headR r1), .slice (vs.map .str), .own 155 0 (z.2.2.1.map coV), .int .i64 0, .str [], .int .i64 0, .own 62 0 [], .int .i64 0, .str [], .bool false, .int .i64 0, .str [], .int .i64 0, .own 62 0 [], .own 66 0 [], .own 159 0 []])], 1⟩)
          (fun z => z.1) (f, [], [], q0, !q0.bad) ⟨Nat.le_refl _, s4, by have := s4.length_le; simp only [List.length_nil]; omega, ?_, ?_⟩ ?_ ?_
        · intro hm
          simp only [Bool.not_eq_true'] at hm
          exact ⟨hm, by have := s4.length_le; simp only [List.length_nil]; omega, hE, fun _ => rfl⟩
        · intro hm
          simp only [Bool.not_eq_false'] at hm
          have hbE : rE.bad = true := by
            cases hbb : rE.bad
            · exact absurd (hm.symm.trans (cosR_good hE hbb)) (by decide)
            · rfl
          subst h
          refine ⟨?_, fun hg => ?_⟩
          · rw [takeR_bad hbE, takeR_bad hm, idx_bad hbE, idx_bad hm]
          · rw [takeR_bad hbE] at hg; exact absurd (hbE.symm.trans hg) (by decide)
        · simp only [go_sem, ↓reduceIte, Nat.reduceEqDiff, reduceCtorEq, List.map_nil]
        · rintro ⟨g, acc, acc', q, more⟩ ⟨hg, hq, hle, hm1, hm0⟩ hrun
          simp only at hg hq hle hm1 hm0 hrun ⊢
          cases more
          · obtain ⟨m1, m2⟩ := hm0 rfl
            have n4 := next08_den full q 6 [125] hq hlen
            refine ⟨⟨1, headR r1, vs, acc', zTy, zEx⟩, ?_, fun hg => by rw [m2 hg]⟩
            rw [m1]
            simp only [go_sem, ↓reduceIte, Nat.reduceEqDiff, Nat.reduceAdd, Nat.reduceLeDiff, Nat.reduceLT, reduceCtorEq, n4, deC, exsV_nil, alsV_nil, tysV_nil, zTy_k, zTy_s, zTy_n, zTy_a, exz]
          · obtain ⟨m1, m2, m3, m4⟩ := hm1 rfl
            cases g with
            | zero => cases m3
            | succ g =>
            simp only [cosR] at m3
            split at m3
            · cases m3
            · rename_i c r4 h4
              have hsf := coR_suf h4
              have hgood := fun hg => coR_good h4 hg
              unfold coR at h4
              split at h4
              · cases h4
              · rename_i t rt ht
                injection h4 with h4; injection h4 with h4c h4r; subst h4r
                have tq := text_den full q hq
                have n4 := next08_den full q 2 [] hq hlen
                have q1 := (takeR_suf q 2 []).trans hq
                have n5 := next08_den full (takeR q 2 []) 6 [58] q1 hlen
                have q2 := (takeR_suf (takeR q 2 []) 6 [58]).trans q1
                obtain ⟨t', dt, htt⟩ := typ08_den full hok hlen _ _ _ q2 ht
                simp only at htt dt
                have q4 := hsf.trans hq
                have a5 := is08_den full rt 6 [59] q4
                have hql := hsf.length_le
                have hal : rt.bad = false → Co.mk (headR q) t' = c := fun hg => by
                  rw [headR_sees (takeR_good (sees_good (takeR_good (hgood hg)))), htt hg]; exact h4c
                have hap : (acc'.map coV).length + 1 ≤ appMax := by rw [List.length_map]; unfold appMax; omega
                have hmap : acc'.map coV ++ [.agg [.str (headR q), .int .i64 t'.kind, .str t'.name, .int .i64 t'.n, .slice (tysV t'.args)]] = (acc' ++ [Co.mk (headR q) t']).map coV := by
                  rw [List.map_append]; rfl
                rw [tyV_eq] at dt
                cases b5 : seesR rt 6 [59]
                · rw [b5] at m3 a5
                  simp only [Bool.false_eq_true, if_false] at m3
                  injection m3 with m3
                  injection m3 with m3a m3b
                  simp only [go_sem, ↓reduceIte, Nat.reduceEqDiff, Nat.reduceAdd, Nat.reduceMul, Nat.reduceLeDiff, Nat.reduceLT, reduceCtorEq, tq, n4, n5, dt, hap, hmap, a5]
                  refine hrun (g, acc ++ [c], acc' ++ [⟨headR q, t'⟩], rt, false) _ ⟨by omega, q4, ?_, (fun h => by cases h), fun _ => ?_⟩ (by simp only; omega) ?_
                  · simp only [List.length_append, List.length_singleton]; omega
                  · subst h; subst m3a; subst m3b
                    refine ⟨rfl, fun hg => ?_⟩
                    simp only
                    rw [m4 hg, hal (sees_good (takeR_good hg)), hgx hg]
                  · simp only [go_sem, ↓reduceIte, Nat.reduceEqDiff, reduceCtorEq]
                · rw [b5] at m3 a5
                  simp only [if_true] at m3
                  have w5 := idx_takes q4 hlen b5
                  obtain ⟨hb5, t5, l5, hl5⟩ := seesR_cons b5
                  have hk : (takesR rt 6 [59]).l.length + 1 = rt.l.length := by rw [takesR_eq b5, hl5]; simp
                  simp only [go_sem, ↓reduceIte, Nat.reduceEqDiff, Nat.reduceAdd, Nat.reduceMul, Nat.reduceLeDiff, Nat.reduceLT, reduceCtorEq, tq, n4, n5, dt, hap, hmap, a5, w5]
                  refine hrun (g, acc ++ [c], acc' ++ [⟨headR q, t'⟩], takesR rt 6 [59], true) _ ⟨by omega, (takesR_suf _ _ _).trans q4, ?_, fun _ => ⟨?_, ?_, m3, fun hg => ?_⟩, fun h => by cases h⟩ (by simp only; omega) ?_
                  · simp only [List.length_append, List.length_singleton]; omega
                  · rw [takesR_eq b5]
                  · simp only [List.length_append, List.length_singleton]; omega
                  · rw [m4 hg, hal hb5]
                  · simp only [go_sem, ↓reduceIte, Nat.reduceEqDiff, reduceCtorEq]
    · rw [b4] at h a4
      simp only [if_true] at h
      injection h with h; subst h
      have w4 := idx_takes s4 hlen b4
      refine ⟨⟨1, headR r1, vs, [], zTy, zEx⟩, ?_, fun hg => by rw [name (sees_good b4)]⟩
      rw [den_eq prim_64, body_64]
      simp only [go_sem, ↓reduceIte, Nat.reduceEqDiff, Nat.reduceAdd, Nat.reduceLeDiff, Nat.reduceLT, reduceCtorEq, Tryz.f64, a1, w1, tx, n1, nm, n2, a4, w4, deC, exsV_nil, alsV_nil, tysV_nil, zTy_k, zTy_s, zTy_n, zTy_a, exz, List.map_nil]
end Go.Proofs
namespace Go.Proofs
open Go.Av
set_option maxHeartbeats 16000000
set_option maxRecDepth 100000
theorem idx_ne {full : List Tok} {r : Rd} (hs : r.l <:+ full) : (idx full r != ((full.length : Nat) : Int)) = (r.bad || decide (0 < r.l.length)) := by
  have := hs.length_le
  unfold idx
  cases r.bad
  · simp only [Bool.false_eq_true, if_false, Bool.false_or]
    rw [bne_not, Bool.eq_iff_iff]
    simp only [Bool.not_eq_true', beq_eq_false_iff_ne, ne_eq, decide_eq_true_eq]
    omega
  · simp only [if_true, Bool.true_or]
    rw [bne_not, Bool.not_eq_true', beq_eq_false_iff_ne]; omega
theorem idx0 (full : List Tok) : idx full ⟨full, false⟩ = 0 := by unfold idx; simp
theorem pex1_den (f : Nat) (s : List UInt8) (p : Ex × Int) (hok : ∀ t ∈ (scanO s).1, tokOK2 t) (hlen : (scanO s).1.length < 1000000)
    (htot : ∀ x r, exR f .expr ⟨(scanO s).1, false⟩ = some (x, r) → r.bad = false → x.tot < 1000000) (h : pexO f s = some p) : den E 44 [.str s] [] = some (pexV p, []) := by
  rw [den_eq prim_44, body_44]
  obtain ⟨pos, hT⟩ := scanO_T s
  have hsc := scanAll1_den s
  rw [hT] at hsc
  unfold pexO at h
  generalize (scanO s).1 = l at *
  generalize (scanO s).2 = e at *
  cases he : e == 0
  · have he' : (e != 0) = true := by rw [bne_not, he]; rfl
    rw [he', if_pos rfl] at h
    injection h with h; subst h
    simp only [go_sem, ↓reduceIte, Nat.reduceEqDiff, Nat.reduceAdd, Nat.reduceLeDiff, Nat.reduceLT, reduceCtorEq, Tryz.f44, hsc, he', pexV, zExC]
  · have he' : (e != 0) = false := by rw [bne_not, he]; rfl
    rw [he'] at h
    simp only [Bool.false_eq_true, if_false] at h
    split at h
    · cases h
    · rename_i x r hx
      injection h with h; subst h
      have d1 := exR_ref l hok hlen f .expr _ _ (List.suffix_refl _) hx
      simp only [RX, idx0] at d1
      obtain ⟨x', d1, hxx⟩ := d1
      have hsr := exR_suf _ _ _ _ _ hx
      have hne := idx_ne hsr
      simp only at hne hxx d1
      rw [exC_eq] at d1
      unfold endX
      rw [← hne]
      cases hc : (idx l r != ((l.length : Nat) : Int))
      · rw [hc] at hne
        have hb : r.bad = false := by revert hne; cases r.bad <;> simp
        have hxe := hxx hb
        subst hxe
        have ht := htot x' r hx hb
        have e2 := rdepthx_den _ x' (Nat.le_refl _) ht
        have e3 := rdeepT_den _ x' (Nat.le_refl _) ht
        rw [exC_eq] at e2 e3
        rw [Bool.or_comm]
        cases q2 : decide (x'.tdep > 50)
        · rw [deepT, q2] at e3
          cases q1 : decide (x'.depth > 50)
          · simp only [go_sem, ↓reduceIte, Nat.reduceEqDiff, Nat.reduceAdd, Nat.reduceLeDiff, Nat.reduceLT, reduceCtorEq, Tryz.f44, hsc, he', d1, toksV_len, hc, e2, e3, natDeep, q1, pexV, exC_eq]
          · simp only [go_sem, ↓reduceIte, Nat.reduceEqDiff, Nat.reduceAdd, Nat.reduceLeDiff, Nat.reduceLT, reduceCtorEq, Tryz.f44, hsc, he', d1, toksV_len, hc, e2, e3, natDeep, q1, pexV, zExC]
        · rw [deepT, q2] at e3
          simp only [go_sem, ↓reduceIte, Nat.reduceEqDiff, Nat.reduceAdd, Nat.reduceLeDiff, Nat.reduceLT, reduceCtorEq, Tryz.f44, hsc, he', d1, toksV_len, hc, e3, pexV, zExC]
      · simp only [go_sem, ↓reduceIte, Nat.reduceEqDiff, Nat.reduceAdd, Nat.reduceLeDiff, Nat.reduceLT, reduceCtorEq, Tryz.f44, hsc, he', d1, toksV_len, hc, pexV, zExC]
theorem parse1_den (f : Nat) (s : List UInt8) (p : List De × Int) (hok : ∀ t ∈ (scanO s).1, tokOK2 t) (hlen : (scanO s).1.length < 1000000)
    (htot : ∀ ds r, desO f (scanO s).1 = some (ds, r) → r.bad = false → ds.length < 1000000 ∧ ∀ d ∈ ds, d.tot < 1000000) (h : parseO f s = some p) : den E 43 [.str s] [] = some (parV p, []) := by
  rw [den_eq prim_43, body_43]
  obtain ⟨pos, hT⟩ := scanO_T s
  have hsc := scanAll1_den s
  rw [hT] at hsc
  unfold parseO at h
  generalize (scanO s).1 = l at *
  generalize (scanO s).2 = e at *
  cases he : e == 0
  · have he' : (e != 0) = true := by rw [bne_not, he]; rfl
    rw [he', if_pos rfl] at h
    injection h with h; subst h
    simp only [go_sem, ↓reduceIte, Nat.reduceEqDiff, Nat.reduceAdd, reduceCtorEq, Tryz.f43, hsc, he', parV, List.map_nil]
  · have he' : (e != 0) = false := by rw [bne_not, he]; rfl
    rw [he'] at h
    simp only [Bool.false_eq_true, if_false] at h
    split at h
    · cases h
    · rename_i ds r hds
      injection h with h; subst h
      have hl0 : decide ((l.length : Int) > 0) = decide (0 < l.length) := by simp
      simp only [go_sem, ↓reduceIte, Nat.reduceEqDiff, Nat.reduceAdd, reduceCtorEq, Tryz.f43, hsc, he', toksV_len, hl0]
      refine run_ind (fun z : Nat × List De × List De × Rd × Bool => z.1 ≤ f ∧ z.2.2.2.1.l <:+ l ∧ 
          (z.2.2.2.2 = true → z.2.2.2.1.bad = false ∧ z.2.2.1.length + z.2.2.2.1.l.length ≤ l.length ∧ desR f z.1 z.2.1 z.2.2.2.1 = some (ds, r) ∧ (r.bad = false → z.2.2.1 = z.2.1)) ∧
          (z.2.2.2.2 = false → z.2.2.2.1 = r ∧ (r.bad = false → z.2.2.1 = ds)))
        (fun z => ⟨[(4, .slice (toksV l)), (7, .own 104 0 (z.2.2.1.map deV)), (8, .int .i64 (idx l z.2.2.2.1)), (9, .bool z.2.2.2.2)], [], [], 1⟩)
        (fun _ => some (parV (endO ds r), [])) (fun z => z.1) (f, [], [], ⟨l, false⟩, decide (0 < l.length)) ⟨Nat.le_refl _, List.suffix_refl _, ?_, ?_⟩ ?_ ?_
      · intro hm
        refine ⟨rfl, by simp, ?_, fun _ => rfl⟩
        cases l with
        | nil => simp at hm
        | cons t q => exact hds
      · intro hm
        cases l with
        | nil =>
          simp only [desO, Option.some.injEq, Prod.mk.injEq] at hds
          obtain ⟨rfl, rfl⟩ := hds
          exact ⟨rfl, fun _ => rfl⟩
        | cons t q => simp at hm
      · simp only [go_sem, ↓reduceIte, Nat.reduceEqDiff, reduceCtorEq, idx0, List.map_nil]
      · rintro ⟨g, acc, acc', q, more⟩ ⟨hg, hq, hm1, hm0⟩ hrun
        simp only at hg hq hm1 hm0 hrun ⊢
        cases more
        · obtain ⟨m1, m2⟩ := hm0 rfl
          subst m1
          have hne := idx_ne hq
          unfold endO
          rw [← hne]
          cases hc : (idx l q != ((l.length : Nat) : Int))
          · rw [hc] at hne
            have hb : q.bad = false := by revert hne; cases q.bad <;> simp
            obtain ⟨hdl, hdt⟩ := htot _ _ hds hb
            have := m2 hb
            subst this
            simp only [go_sem, ↓reduceIte, Nat.reduceEqDiff, Nat.reduceAdd, toksV_len, hc]
            refine run_ind (fun i : Nat => i ≤ acc'.length ∧ (acc'.take i).any deepD = false) (fun i => ⟨[(7, .own 104 0 (acc'.map deV)), (12, .int .i64 i)], [], [], 1⟩)
              (fun _ => some (parV (if acc'.any deepD then ([], 3) else (acc', 0)), [])) (fun i => acc'.length - i) 0 ⟨Nat.zero_le _, by simp⟩ ?_ ?_
            · simp only [go_sem, ↓reduceIte, Nat.reduceEqDiff, Int.cast_ofNat_Int]
            · rintro i ⟨hi, h0⟩ h
              by_cases hlt : i < acc'.length
              · obtain ⟨x, hx⟩ : ∃ x, acc'[i]? = some x := ⟨acc'[i], List.getElem?_eq_getElem hlt⟩
                have hd := rdeepD_den x (hdt x (List.mem_of_getElem? hx))
                have w1 : IntKind.i64.wrap ((i : Int) + 1) = ((i + 1 : Nat) : Int) := wrapN (i + 1) (by omega)
                obtain ⟨ya, yb⟩ := any_take hx h0
                rw [deC] at hd
                cases hdx : deepD x
                · rw [hdx] at hd
                  simp only [go_sem, ↓reduceIte, Nat.reduceEqDiff, Nat.reduceAdd, Nat.reduceLeDiff, natlt, List.length_map, decide_eq_true hlt, natge0, tonat, des_get, hx, deV, deC, hd]
                  refine h (i + 1) _ ⟨hlt, yb hdx⟩ (by omega) ?_
                  simp only [go_sem, ↓reduceIte, Nat.reduceEqDiff, w1]
                · rw [hdx] at hd
                  simp only [go_sem, ↓reduceIte, Nat.reduceEqDiff, Nat.reduceAdd, Nat.reduceLeDiff, natlt, List.length_map, decide_eq_true hlt, natge0, tonat, des_get, hx, deV, deC, hd, ya hdx, parV, List.map_nil]
              · have hie : i = acc'.length := by omega
                subst hie
                rw [List.take_length] at h0
                simp only [go_sem, ↓reduceIte, Nat.reduceEqDiff, Nat.reduceAdd, natlt, List.length_map, Nat.lt_irrefl, h0, parV]
          · simp only [go_sem, ↓reduceIte, Nat.reduceEqDiff, Nat.reduceAdd, toksV_len, hc, parV, List.map_nil]
        · obtain ⟨m1, m2, m3, m4⟩ := hm1 rfl
          cases g with
          | zero => cases m3
          | succ g =>
          simp only [desR] at m3
          split at m3
          · cases m3
          · rename_i d r4 h4
            have d4 := deR_ref l hok hlen f q _ hq h4
            obtain ⟨d', d4, hd4⟩ := d4
            simp only at d4 hd4
            have hsf := deR_suf h4
            have q4 := hsf.trans hq
            have hql := hsf.length_le
            have a5 := is08_den l r4 6 [59] q4
            have hqle := hq.length_le
            have hap : (acc'.map deV).length + 1 ≤ appMax := by rw [List.length_map]; unfold appMax; omega
            have hmap : acc'.map deV ++ [.agg (deC d')] = (acc' ++ [d']).map deV := by rw [List.map_append]; rfl
            rw [deC] at d4 hmap
            cases b5 : seesR r4 6 [59]
            · rw [b5] at m3 a5
              simp only [Bool.false_eq_true, if_false] at m3
              injection m3 with m3
              injection m3 with m3a m3b
              simp only [go_sem, ↓reduceIte, Nat.reduceEqDiff, Nat.reduceAdd, Nat.reduceMul, Nat.reduceLeDiff, Nat.reduceLT, d4, hap, hmap, a5]
              refine hrun (g, acc ++ [d], acc' ++ [d'], r4, false) _ ⟨by omega, q4, (fun h => by cases h), fun _ => ⟨m3b, fun hg => ?_⟩⟩ (by simp only; omega) ?_
              · simp only; rw [← m3a, m4 hg, hd4 (by rw [m3b]; exact hg)]
              · simp only [go_sem, ↓reduceIte, Nat.reduceEqDiff]
            · rw [b5] at m3 a5
              simp only [if_true] at m3
              have w5 := idx_takes q4 hlen b5
              obtain ⟨hb5, t5, l5, hl5⟩ := seesR_cons b5
              have hk : (takesR r4 6 [59]).l.length + 1 = r4.l.length := by rw [takesR_eq b5, hl5]; simp
              simp only [go_sem, ↓reduceIte, Nat.reduceEqDiff, Nat.reduceAdd, Nat.reduceMul, Nat.reduceLeDiff, Nat.reduceLT, d4, hap, hmap, a5, w5]
              refine hrun (g, acc ++ [d], acc' ++ [d'], takesR r4 6 [59], true) _ ⟨by omega, (takesR_suf _ _ _).trans q4, fun _ => ⟨?_, ?_, m3, fun hg => ?_⟩, fun h => by cases h⟩ (by simp only; omega) ?_
              · rw [takesR_eq b5]
              · simp only [List.length_append, List.length_singleton]; omega
              · rw [m4 hg, hd4 hb5]
              · simp only [go_sem, ↓reduceIte, Nat.reduceEqDiff]
end Go.Proofs
namespace Go.Proofs
open Go.Av
set_option maxHeartbeats 16000000
set_option maxRecDepth 100000
theorem le_str {n : Nat} (h : n ≤ 4000000000) : (n ≤ strMax) = True := by
  unfold strMax; exact eq_true (by omega)
def kids1e : List Ex → Option Ex
  | [x] => some x
  | _ => none
def kids2e : List Ex → Option (Ex × Ex)
  | [x, y] => some (x, y)
  | _ => none
theorem kids1e_some {l : List Ex} {x : Ex} (h : kids1e l = some x) : l = [x] := by
  unfold kids1e at h; split at h
  · injection h with h; subst h; rfl
  · cases h
theorem kids2e_some {l : List Ex} {p : Ex × Ex} (h : kids2e l = some p) : l = [p.1, p.2] := by
  unfold kids2e at h; split at h
  · injection h with h; subst h; rfl
  · cases h
def wideE (e : Ex) : Bool := e.kind == 3 || (e.kind == 5 || e.kind == 6)
def par (b : Bool) (s : List UInt8) : List UInt8 := if b then [40] ++ s ++ [41] else s
def altS (a : Al) (s : List UInt8) : List UInt8 := Lib.join (a.con :: a.vars) [32] ++ [32, 45, 62, 32] ++ s
def altsR (f : Ex → Option (List UInt8)) : List Al → Option (List (List UInt8))
  | [] => some []
  | a :: r => match f a.body with
    | none => none
    | some s => match altsR f r with
      | none => none
      | some ss => some (altS a s :: ss)
def xpR (F : Nat) : Nat → Ex → Option (List UInt8)
  | 0, _ => none
  | f + 1, e =>
    if e.kind == 3 then (match kids1e e.kids with
      | none => none
      | some x => match xpR F f x with
        | none => none
        | some a => short ([92] ++ e.name ++ [32, 45, 62, 32] ++ a))
    else if e.kind == 4 then (match kids2e e.kids with
      | none => none
      | some (x, y) => match xpR F f x with
        | none => none
        | some a => match xpR F f y with
          | none => none
          | some b => short (par (wideE x) a ++ [32] ++ par (wideE y || y.kind == 4) b))
    else if e.kind == 5 then (match kids2e e.kids with
      | none => none
      | some (x, y) => match xpR F f x with
        | none => none
        | some a => match xpR F f y with
          | none => none
          | some b => if e.told then (match prR F .pr e.ty with
              | none => none
              | some t => short ([108, 101, 116, 32] ++ e.name ++ ([32, 58, 32] ++ t) ++ [32, 61, 32] ++ a ++ [32, 105, 110, 32] ++ b))
            else short ([108, 101, 116, 32] ++ e.name ++ [32, 61, 32] ++ a ++ [32, 105, 110, 32] ++ b))
    else if e.kind == 6 then (match kids1e e.kids with
      | none => none
      | some x => match xpR F f x with
        | none => none
        | some a => match altsR (xpR F f) e.alts with
          | none => none
          | some ss => short ([99, 97, 115, 101, 32] ++ a ++ [32, 111, 102, 32, 123] ++ Lib.join ss [59, 32] ++ [125]))
    else if e.kind == 7 then (match kids1e e.kids with
      | none => none
      | some x => match xpR F f x with
        | none => none
        | some a => match prR F .pr e.ty with
          | none => none
          | some t => short ([40] ++ a ++ [32, 58, 32] ++ t ++ [41]))
    else if e.kind == 1 || e.kind == 2 then short e.name else none
theorem altsR_get {f : Ex → Option (List UInt8)} : ∀ {l : List Al} {ss : List (List UInt8)}, altsR f l = some ss → ss.length = l.length ∧ ∀ (i : Nat) (t : Al), l[i]? = some t → ∃ s, f t.body = some s ∧ ss[i]? = some (altS t s)
  | [], ss, h => by simp only [altsR, Option.some.injEq] at h; subst h; exact ⟨rfl, fun i t ht => by simp at ht⟩
  | t :: r, ss, h => by
    simp only [altsR] at h
    split at h
    · cases h
    · rename_i s hs
      split at h
      · cases h
      · rename_i ss' hss
        injection h with h; subst h
        obtain ⟨h1, h2⟩ := altsR_get hss
        refine ⟨by simp [h1], fun i x hx => ?_⟩
        cases i with
        | zero => simp at hx; subst hx; exact ⟨s, hs, rfl⟩
        | succ i => exact h2 i x (by simpa using hx)
theorem xp_len : ∀ {F f : Nat} {e : Ex} {s : List UInt8}, xpR F f e = some s → s.length ≤ lim := by
  intro F f
  cases f with
  | zero => intro e s h; cases h
  | succ f =>
    intro e s h
    simp only [xpR] at h <;> (repeat' (split at h)) <;> first
      | (cases h; done)
      | (obtain ⟨rfl, h2⟩ := short_some h; exact h2)
theorem lens_mem : ∀ {l : List (List UInt8)} {s : List UInt8}, s ∈ l → s.length + l.length ≤ Lib.lens l + l.length
  | x :: l, s, h => by
    rcases List.mem_cons.1 h with rfl | h
    · simp [Lib.lens]
    · have := lens_mem h; simp [Lib.lens] at this ⊢; omega
theorem join_mem_len {l : List (List UInt8)} {s sep : List UInt8} (h : s ∈ l) : s.length ≤ (Lib.join l sep).length := by
  have h1 := lens_mem h
  cases l with
  | nil => cases h
  | cons x r => rw [Lib.join_length]; omega
theorem join_den (l : List (List UInt8)) (sep : List UInt8) (h1 : (Lib.join l sep).length ≤ 4000000000) (h2 : l.length ≤ 4000000000) : den E 48 [.slice (l.map .str), .str sep] [] = some (.str (Lib.join l sep), []) := by
  rw [den_prim prim_48]
  simp only [joinP, strs_map, Option.bind_some]
  rw [if_pos ⟨by omega, by omega⟩]
/-- closed in brackets, where the kind asks for it -/
theorem exClosed_den (e : Ex) (ks : List Int) (a : List UInt8) (h : den E 27 [.agg (exC e)] [] = some (.str a, [])) (hl : a.length ≤ lim) (hks : ks.length ≤ 10) :
    den E 46 [.agg (exC e), .slice (ks.map (.int .i64))] [] = some (.str (par (ks.any (e.kind == ·)) a), []) := by
  unfold lim at hl
  rw [den_eq prim_46, body_46]
  rw [exC_eq] at h ⊢
  simp only [go_sem, ↓reduceIte, Nat.reduceEqDiff, Nat.reduceAdd, reduceCtorEq, Tryz.f46, List.length_map]
  refine run_ind (fun i : Nat => i ≤ ks.length ∧ (ks.take i).any (e.kind == ·) = false) (fun i => ⟨[(2, .ptr (.loc 2) 0), (7, .slice (ks.map (.int .i64))), (8, .int .i64 ks.length), (9, .int .i64 i)], [], [(2, [.int .i64 e.kind, .str e.name, .bool e.told, .int .i64 e.ty.kind, .str e.ty.name, .int .i64 e.ty.n, .slice (tysV e.ty.args), .slice (exsV e.kids), .slice (alsV e.alts)])], 1⟩)
    (fun _ => some (.str (par (ks.any (e.kind == ·)) a), [])) (fun i => ks.length - i) 0 ⟨Nat.zero_le _, by simp⟩ ?_ ?_
  · simp only [go_sem, ↓reduceIte, Nat.reduceEqDiff, reduceCtorEq, Int.cast_ofNat_Int]
  · rintro i ⟨hi, h0⟩ hr
    by_cases hlt : i < ks.length
    · obtain ⟨x, hx⟩ : ∃ x, ks[i]? = some x := ⟨ks[i], List.getElem?_eq_getElem hlt⟩
      have hx2 : (ks.map (AVal.int .i64))[i]? = some (.int .i64 x) := by simp [hx]
      have w1 : IntKind.i64.wrap ((i : Int) + 1) = ((i + 1 : Nat) : Int) := wrapN (i + 1) (by omega)
      obtain ⟨ya, yb⟩ := any_take hx h0
      cases hk : e.kind == x
      · simp only [go_sem, ↓reduceIte, Nat.reduceEqDiff, Nat.reduceAdd, Nat.reduceLT, natlt, decide_eq_true hlt, natge0, tonat, hx2, hk]
        refine hr (i + 1) _ ⟨hlt, yb hk⟩ (by omega) ?_
        simp only [go_sem, ↓reduceIte, Nat.reduceEqDiff, w1]
      · simp (disch := ((try simp only [List.length_append, List.length_cons, List.length_nil]); omega)) only [go_sem, ↓reduceIte, Nat.reduceEqDiff, Nat.reduceAdd, Nat.reduceLeDiff, Nat.one_ne_zero, le_str, natlt, decide_eq_true hlt, natge0, tonat, hx2, hk, h, ya hk, par, List.length_cons, List.length_nil, Nat.zero_add]
    · have hie : i = ks.length := by omega
      subst hie
      rw [List.take_length] at h0
      simp only [go_sem, ↓reduceIte, Nat.reduceEqDiff, Nat.reduceAdd, Nat.reduceLeDiff, Nat.reduceLT, natlt, Nat.lt_irrefl, h0, h, par]
theorem wide_any (e : Ex) : [3, 5, 6].any (e.kind == ·) = wideE e := by simp [wideE]
theorem wide_any2 (e : Ex) : [3, 5, 6, 4].any (e.kind == ·) = (wideE e || e.kind == 4) := by simp [wideE, Bool.or_assoc]
end Go.Proofs
namespace Go.Proofs
open Go.Av
set_option maxHeartbeats 16000000
set_option maxRecDepth 100000
theorem kids_tot {e : Ex} {x : Ex} (h : x ∈ e.kids) : x.tot + 1 ≤ e.tot := by
  have h1 := tots_mem h
  have h2 := tot_eq e
  have h3 := sz_eq e.ty
  omega
theorem alts_tot {e : Ex} {a : Al} (h : a ∈ e.alts) : a.vars.length + a.body.tot + 1 ≤ e.tot := by
  have h1 := al_vars h
  have h2 := tot_eq e
  omega
theorem altsLen (e : Ex) : e.alts.length ≤ e.tot := by
  have := al_tots e.alts; have := tot_eq e; omega
theorem xprint_den (F : Nat) : ∀ (f : Nat) (e : Ex) (s : List UInt8), e.tot < 1000000 → xpR F f e = some s → den E 27 [.agg (exC e)] [] = some (.str s, []) := by
  intro f
  induction f with
  | zero => intro e s _ h; cases h
  | succ f ih =>
  intro e s ht h
  have hlen := xp_len h
  unfold lim at hlen
  simp only [xpR] at h
  rw [den_eq prim_27, body_27, exC_eq]
  cases k3 : e.kind == 3
  · rw [k3] at h
    simp only [Bool.false_eq_true, if_false] at h
    cases k4 : e.kind == 4
    · rw [k4] at h
      simp only [Bool.false_eq_true, if_false] at h
      cases k5 : e.kind == 5
      · rw [k5] at h
        simp only [Bool.false_eq_true, if_false] at h
        cases k6 : e.kind == 6
        · rw [k6] at h
          simp only [Bool.false_eq_true, if_false] at h
          cases k7 : e.kind == 7
          · rw [k7] at h
            simp only [Bool.false_eq_true, if_false] at h
            split at h
            · obtain ⟨rfl, _⟩ := short_some h
              simp only [go_sem, ↓reduceIte, Nat.reduceEqDiff, Nat.reduceAdd, Nat.reduceLT, reduceCtorEq, Tryz.f27, k3, k4, k5, k6, k7]
            · cases h
          · rw [k7] at h
            simp only [if_true] at h
            split at h
            · cases h
            · rename_i x hx
              have hk := kids1e_some hx
              have hxt := kids_tot (e := e) (x := x) (by rw [hk]; simp)
              split at h
              · cases h
              · rename_i a ha
                split at h
                · cases h
                · rename_i t htt
                  obtain ⟨rfl, _⟩ := short_some h
                  have d1 := ih x a (by omega) ha
                  have d2 := tprint_den F e.ty t (by have := ex_ty_sz e; omega) htt
                  rw [exC_eq] at d1
                  rw [tyV_eq] at d2
                  simp only [List.length_append, List.length_cons, List.length_nil] at hlen
                  simp (disch := ((try simp only [List.length_append, List.length_cons, List.length_nil]); omega)) only [go_sem, ↓reduceIte, Nat.reduceEqDiff, Nat.reduceAdd, Nat.reduceLeDiff, Nat.zero_ne_one, Nat.one_ne_zero, reduceCtorEq, le_str, Tryz.f27, k3, k4, k5, k6, k7, hk, exsV_cons, exsV_nil, exC_eq, Int.le_refl, Int.toNat_zero, d1, d2, List.length_append, List.length_cons, List.length_nil, Nat.zero_add, List.append_assoc, List.cons_append]
        · rw [k6] at h
          simp only [if_true] at h
          split at h
          · cases h
          · rename_i x hx
            have hk := kids1e_some hx
            have hxt := kids_tot (e := e) (x := x) (by rw [hk]; simp)
            split at h
            · cases h
            · rename_i a ha
              split at h
              · cases h
              · rename_i ss hss
                obtain ⟨rfl, _⟩ := short_some h
                have d1 := ih x a (by omega) ha
                rw [exC_eq] at d1
                obtain ⟨g1, g2⟩ := altsR_get hss
                have hal := altsLen e
                simp only [List.length_append, List.length_cons, List.length_nil] at hlen
                simp only [go_sem, ↓reduceIte, Nat.reduceEqDiff, Nat.reduceAdd, Nat.reduceLT, reduceCtorEq, Tryz.f27, k3, k4, k5, k6, alsV_len]
                refine run_for (fun i => ⟨[(1, .ptr (.loc 1) 0), (4, .own 9 0 ((ss.take i).map .str)), (68, .slice (alsV e.alts)), (69, .int .i64 e.alts.length), (70, .int .i64 i)], [], [(1, [.int .i64 e.kind, .str e.name, .bool e.told, .int .i64 e.ty.kind, .str e.ty.name, .int .i64 e.ty.n, .slice (tysV e.ty.args), .slice (exsV e.kids), .slice (alsV e.alts)])], 1⟩) e.alts.length ?_ ?_ ?_
                · simp only [go_sem, ↓reduceIte, Nat.reduceEqDiff, reduceCtorEq, Int.cast_ofNat_Int, List.take_zero, List.map_nil]
                · intro i hi hr
                  obtain ⟨y, hy⟩ : ∃ y, e.alts[i]? = some y := ⟨e.alts[i], List.getElem?_eq_getElem hi⟩
                  have hyt := alts_tot (List.mem_of_getElem? hy)
                  obtain ⟨b, hb, hsb⟩ := g2 i y hy
                  have d2 := ih y.body b (by omega) hb
                  rw [exC_eq] at d2
                  have hml := join_mem_len (sep := [59, 32]) (List.mem_of_getElem? hsb)
                  have hml2 := hml
                  simp only [altS, List.length_append, List.length_cons, List.length_nil] at hml2
                  have dj := join_den (y.con :: y.vars) [32] (by omega) (by simp only [List.length_cons]; omega)
                  have w1 : IntKind.i64.wrap ((i : Int) + 1) = ((i + 1 : Nat) : Int) := wrapN (i + 1) (by omega)
                  have hap : ((ss.take i).map AVal.str).length + 1 ≤ appMax := by simp; unfold appMax; omega
                  have hap2 : (ss.take i).length + 1 ≤ appMax := by simpa using hap
                  have hmap : (ss.take i).map AVal.str ++ [.str (Lib.join (y.con :: y.vars) [32] ++ [32, 45, 62, 32] ++ b)] = (ss.take (i + 1)).map AVal.str := by rw [take_snoc hsb]; simp [altS]
                  cases hv : y.vars with
                  | nil =>
                    rw [hv] at dj hmap hml2
                    simp only [List.map_cons, List.map_nil] at dj
                    simp (disch := ((try simp only [List.length_append, List.length_cons, List.length_nil]); omega)) only [go_sem, ↓reduceIte, Nat.reduceEqDiff, Nat.reduceAdd, Nat.reduceMul, Nat.reduceLeDiff, Nat.one_ne_zero, Nat.reduceLT, reduceCtorEq, decide_true, le_str, natlt, decide_eq_true hi, natge0, tonat, alsV_get, hy, alV_eq, exC_eq, hv, List.map_nil, show 1 + 0 ≤ appMax from by decide, dj, d2, hap, hmap]
                    refine hr _ ?_
                    simp only [go_sem, ↓reduceIte, Nat.reduceEqDiff, w1]
                  | cons v vs =>
                    rw [hv] at dj hmap hml2
                    simp only [List.map_cons] at dj
                    have hvl : 1 + (vs.length + 1) ≤ appMax := by rw [hv] at hyt; simp only [List.length_cons] at hyt; unfold appMax; omega
                    simp (disch := ((try simp only [List.length_append, List.length_cons, List.length_nil]); omega)) only [go_sem, ↓reduceIte, Nat.reduceEqDiff, Nat.reduceAdd, Nat.reduceMul, Nat.reduceLeDiff, Nat.one_ne_zero, Nat.reduceLT, reduceCtorEq, decide_true, le_str, natlt, decide_eq_true hi, natge0, tonat, alsV_get, hy, alV_eq, exC_eq, hv, List.map_cons, List.length_map, hvl, dj, d2, hap2, hmap]
                    refine hr _ ?_
                    simp only [go_sem, ↓reduceIte, Nat.reduceEqDiff, w1]
                · have htk : ss.take e.alts.length = ss := by rw [← g1]; exact List.take_length
                  have dj := join_den ss [59, 32] (by omega) (by omega)
                  simp (disch := ((try simp only [List.length_append, List.length_cons, List.length_nil]); omega)) only [go_sem, ↓reduceIte, Nat.reduceEqDiff, Nat.reduceAdd, Nat.reduceLeDiff, Nat.one_ne_zero, beq_self_eq_true, decide_false, le_str, natlt, Nat.lt_irrefl, htk, hk, exsV_cons, exsV_nil, exC_eq, Int.le_refl, Int.toNat_zero, d1, dj, List.length_append, List.length_cons, List.length_nil, Nat.zero_add, List.append_assoc, List.cons_append]
      · rw [k5] at h
        simp only [if_true] at h
        split at h
        · cases h
        · rename_i x y hxy
          have hk := kids2e_some hxy
          have hxt := kids_tot (e := e) (x := x) (by rw [hk]; simp)
          have hyt := kids_tot (e := e) (x := y) (by rw [hk]; simp)
          split at h
          · cases h
          · rename_i a ha
            split at h
            · cases h
            · rename_i b hb
              have d1 := ih x a (by omega) ha
              have d2 := ih y b (by omega) hb
              rw [exC_eq] at d1 d2
              cases ktold : e.told
              · rw [ktold] at h
                simp only [Bool.false_eq_true, if_false] at h
                obtain ⟨rfl, _⟩ := short_some h
                simp only [List.length_append, List.length_cons, List.length_nil] at hlen
                simp (disch := ((try simp only [List.length_append, List.length_cons, List.length_nil]); omega)) only [go_sem, ↓reduceIte, Nat.reduceEqDiff, Nat.reduceAdd, Nat.reduceLeDiff, Nat.zero_ne_one, Nat.one_ne_zero, reduceCtorEq, le_str, Tryz.f27, k3, k4, k5, hk, exsV_cons, exsV_nil, exC_eq, Int.le_refl, Int.toNat_zero, Int.toNat_one, Int.zero_le_ofNat, d1, d2, List.length_append, List.length_cons, List.length_nil, Nat.zero_add, List.append_assoc, List.cons_append]
              · rw [ktold] at h
                simp only [if_true] at h
                split at h
                · cases h
                · rename_i t htt
                  obtain ⟨rfl, _⟩ := short_some h
                  have d3 := tprint_den F e.ty t (by have := ex_ty_sz e; omega) htt
                  rw [tyV_eq] at d3
                  simp only [List.length_append, List.length_cons, List.length_nil] at hlen
                  simp (disch := ((try simp only [List.length_append, List.length_cons, List.length_nil]); omega)) only [go_sem, ↓reduceIte, Nat.reduceEqDiff, Nat.reduceAdd, Nat.reduceLeDiff, Nat.zero_ne_one, Nat.one_ne_zero, reduceCtorEq, le_str, Tryz.f27, k3, k4, k5, hk, exsV_cons, exsV_nil, exC_eq, Int.le_refl, Int.toNat_zero, Int.toNat_one, Int.zero_le_ofNat, d1, d2, d3, List.length_append, List.length_cons, List.length_nil, Nat.zero_add, List.append_assoc, List.cons_append]
    · rw [k4] at h
      simp only [if_true] at h
      split at h
      · cases h
      · rename_i x y hxy
        have hk := kids2e_some hxy
        have hxt := kids_tot (e := e) (x := x) (by rw [hk]; simp)
        have hyt := kids_tot (e := e) (x := y) (by rw [hk]; simp)
        split at h
        · cases h
        · rename_i a ha
          split at h
          · cases h
          · rename_i b hb
            obtain ⟨rfl, _⟩ := short_some h
            have d1 := exClosed_den x [3, 5, 6] a (ih x a (by omega) ha) (xp_len ha) (by decide)
            have d2 := exClosed_den y [3, 5, 6, 4] b (ih y b (by omega) hb) (xp_len hb) (by decide)
            rw [wide_any] at d1
            rw [wide_any2] at d2
            rw [exC_eq] at d1 d2
            simp only [List.map_cons, List.map_nil] at d1 d2
            simp only [List.length_append, List.length_cons, List.length_nil] at hlen
            simp (disch := ((try simp only [List.length_append, List.length_cons, List.length_nil]); omega)) only [go_sem, ↓reduceIte, Nat.reduceEqDiff, Nat.reduceAdd, Nat.reduceMul, Nat.reduceLeDiff, Nat.zero_ne_one, Nat.one_ne_zero, Nat.reduceLT, reduceCtorEq, le_str, Tryz.f27, k3, k4, hk, exsV_cons, exsV_nil, exC_eq, Int.le_refl, Int.toNat_zero, Int.toNat_one, Int.zero_le_ofNat, d1, d2, List.length_append, List.length_cons, List.length_nil, Nat.zero_add, List.append_assoc, List.cons_append]
  · rw [k3] at h
    simp only [if_true] at h
    split at h
    · cases h
    · rename_i x hx
      have hk := kids1e_some hx
      have hxt := kids_tot (e := e) (x := x) (by rw [hk]; simp)
      split at h
      · cases h
      · rename_i a ha
        obtain ⟨rfl, _⟩ := short_some h
        have d1 := ih x a (by omega) ha
        rw [exC_eq] at d1
        simp only [List.length_append, List.length_cons, List.length_nil] at hlen
        simp (disch := ((try simp only [List.length_append, List.length_cons, List.length_nil]); omega)) only [go_sem, ↓reduceIte, Nat.reduceEqDiff, Nat.reduceAdd, Nat.reduceLeDiff, Nat.zero_ne_one, Nat.one_ne_zero, reduceCtorEq, le_str, Tryz.f27, k3, hk, exsV_cons, exsV_nil, exC_eq, Int.le_refl, Int.toNat_zero, d1, List.length_append, List.length_cons, List.length_nil, Nat.zero_add, List.append_assoc, List.cons_append]
end Go.Proofs
namespace Go.Proofs
open Go.Av
set_option maxHeartbeats 16000000
set_option maxRecDepth 100000
end Go.Proofs
namespace Go.Proofs
open Go.Av
set_option maxHeartbeats 16000000
set_option maxRecDepth 100000
end Go.Proofs
namespace Go.Proofs
open Go.Av
set_option maxHeartbeats 16000000
set_option maxRecDepth 100000
end Go.Proofs
