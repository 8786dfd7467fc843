/- The readers and writers of expressions of the document give the same as those of the program. -/
import Derived.Test.YtofblkofhgbefaaGreatDoorAvG
namespace Go.Proofs
open Go.Av
set_option maxHeartbeats 16000000
set_option maxRecDepth 100000
def endX (x : Ex) (r : Rd) : Ex × Int := if r.bad || decide (0 < r.l.length) then (zEx, 80) else if decide (x.depth > 50) || decide (x.tdep > 50) then (zEx, 3) else (x, 0)
def pexO (f : Nat) (s : List UInt8) : Option (Ex × Int) :=
  if (scanO s).2 != 0 then some (zEx, (scanO s).2) else match exR f .expr ⟨(scanO s).1, false⟩ with
    | none => none
    | some (x, r) => some (endX x r)
def pexV (p : Ex × Int) : AVal := .tup [.agg (exC p.1), .int .i64 p.2]
theorem pex_den (f : Nat) (s : List UInt8) (p : Ex × Int) (hok : ∀ t ∈ (scanO s).1, tokOK t) (hlen : (scanO s).1.length < 1000000)
    (htot : ∀ x r, exR f .expr ⟨(scanO s).1, false⟩ = some (x, r) → r.bad = false → x.tot < 1000000) (h : pexO f s = some p) : den E 26 [.str s] [] = some (pexV p, []) := by
  rw [den_eq prim_26, body_26]
  obtain ⟨pos, hT⟩ := scanO_T s
  have hsc := scanAll_den s
  rw [hT] at hsc
  unfold pexO at h
  generalize (scanO s).1 = l at *
  generalize (scanO s).2 = e at *
  cases he : e == 0
  · have he' : (e != 0) = true := by rw [bne_not, he]; rfl
    rw [he', if_pos rfl] at h
    injection h with h; subst h
    simp only [go_sem, ↓reduceIte, Nat.reduceEqDiff, Nat.reduceAdd, Nat.reduceLeDiff, Nat.reduceLT, reduceCtorEq, Tryz.f26, hsc, he', pexV, zExC]
  · have he' : (e != 0) = false := by rw [bne_not, he]; rfl
    rw [he'] at h
    simp only [Bool.false_eq_true, if_false] at h
    split at h
    · cases h
    · rename_i x r hx
      injection h with h; subst h
      have d1 := exR_den f .expr _ _ hok hlen hx
      simp only [XDen, rdV, exC_eq] at d1
      unfold endX
      cases hb : r.bad
      · rw [hb] at d1
        have hgt : decide (((toksV r.l).length : Int) > 0) = decide (0 < r.l.length) := by rw [toksV_len]; simp
        cases hn : decide (0 < r.l.length)
        · have ht := htot x r hx hb
          have e2 := exdepth_den _ x (Nat.le_refl _) ht
          have e3 := extdep_den _ x (Nat.le_refl _) ht
          rw [exC_eq] at e2 e3
          cases q1 : decide (x.depth > 50)
          · cases q2 : decide (x.tdep > 50)
            · simp only [go_sem, ↓reduceIte, Nat.reduceEqDiff, Nat.reduceAdd, Nat.reduceLeDiff, Nat.one_ne_zero, Nat.reduceLT, reduceCtorEq, beq_self_eq_true, Tryz.f26, hsc, he', d1, hgt, hn, e2, e3, natDeep, q1, q2, pexV, exC_eq]
            · simp only [go_sem, ↓reduceIte, Nat.reduceEqDiff, Nat.reduceAdd, Nat.reduceLeDiff, Nat.one_ne_zero, Nat.reduceLT, reduceCtorEq, beq_self_eq_true, Tryz.f26, hsc, he', d1, hgt, hn, e2, e3, natDeep, q1, q2, pexV, zExC]
          · simp only [go_sem, ↓reduceIte, Nat.reduceEqDiff, Nat.reduceAdd, Nat.reduceLeDiff, Nat.one_ne_zero, Nat.reduceLT, reduceCtorEq, beq_self_eq_true, Tryz.f26, hsc, he', d1, hgt, hn, e2, natDeep, q1, pexV, zExC]
        · simp only [go_sem, ↓reduceIte, Nat.reduceEqDiff, Nat.reduceAdd, Nat.reduceLeDiff, Nat.one_ne_zero, Nat.reduceLT, reduceCtorEq, beq_self_eq_true, Tryz.f26, hsc, he', d1, hgt, hn, pexV, zExC]
      · rw [hb] at d1
        simp only [go_sem, ↓reduceIte, Nat.reduceEqDiff, Nat.reduceAdd, Nat.reduceLeDiff, Nat.one_ne_zero, Nat.reduceLT, reduceCtorEq, beq_self_eq_true, Tryz.f26, hsc, he', d1, pexV, zExC]
/-! the document's steps: an index, -1 where something was wrong -/
def idx (full : List Tok) (r : Rd) : Int := if r.bad then -1 else ((full.length - r.l.length : Nat) : Int)
theorem idx_bad {full : List Tok} {r : Rd} (h : r.bad = true) : idx full r = -1 := by unfold idx; rw [h]; rfl
theorem idx_ok {full : List Tok} {r : Rd} (h : r.bad = false) : idx full r = ((full.length - r.l.length : Nat) : Int) := by unfold idx; rw [h]; rfl
theorem idxB (full l : List Tok) : idx full ⟨l, true⟩ = -1 := rfl
theorem idxG (full l : List Tok) : idx full ⟨l, false⟩ = ((full.length - l.length : Nat) : Int) := rfl
theorem nat_neg (n : Nat) : decide ((n : Int) < 0) = false := by simp
theorem idx_next {full : List Tok} {r : Rd} {k : Int} {s : List UInt8} (hs : r.l <:+ full) (h : seesR r k s = true) : idx full ⟨r.l.tail, false⟩ = idx full r + 1 ∧ idx full r = ((full.length - r.l.length : Nat) : Int) ∧ full.length - r.l.length < full.length := by
  obtain ⟨hb, t, q, hl⟩ := seesR_cons h
  have := hs.length_le
  rw [hl, List.length_cons] at this
  rw [idx_ok (r := r) hb]
  refine ⟨?_, rfl, ?_⟩
  · unfold idx; rw [hl]; simp only [Bool.false_eq_true, if_false, List.tail_cons, List.length_cons]; omega
  · rw [hl, List.length_cons]; omega
def headR (r : Rd) : List UInt8 := if r.bad then [] else match r.l with
  | [] => []
  | t :: _ => t.text
theorem headR_sees {r : Rd} {k : Int} {s : List UInt8} (h : seesR r k s = true) : headR r = wordR r k s := by
  obtain ⟨hb, t, q, hl⟩ := seesR_cons h
  unfold headR wordR
  rw [h, hb, hl]; rfl
end Go.Proofs
namespace Go.Proofs
open Go.Av
set_option maxHeartbeats 16000000
set_option maxRecDepth 100000
theorem run_ex {E : Env} {f : FuncId} {C : Code} {K : List Item} {s : St} {α : Type} (Q : Option (AVal × Heap) → Prop) (I : α → Prop) (S : α → St) (m : α → Nat) (x : α) (hx : I x) (h0 : headF E f s K = some (S x))
    (hs : ∀ x, I x → (∀ y t, I y → m y < m x → headF E f t K = some (S y) → Q (run E f (.inLoop C :: K) t)) → Q (run E f (.code C :: .inLoop C :: K) (S x))) : Q (run E f (.code (.loop C) :: K) s) := by
  rw [run_loop h0]
  have key : ∀ n x, m x ≤ n → I x → Q (run E f (.code C :: .inLoop C :: K) (S x)) := by
    intro n
    induction n with
    | zero => exact fun x hm hi => hs x hi fun y t _ hy => by omega
    | succ n ih =>
      exact fun x hm hi => hs x hi fun y t hiy hy ht => by
        rw [run_inLoop ht]; exact ih y (by omega) hiy
  exact key (m x) x (Nat.le_refl _) hx
theorem seesR_bad {r : Rd} (h : r.bad = true) (k : Int) (s : List UInt8) : seesR r k s = false := by unfold seesR; rw [h]; rfl
theorem takeR_bad {r : Rd} (h : r.bad = true) (k : Int) (s : List UInt8) : takeR r k s = r := by
  unfold takeR; rw [seesR_bad h]; cases r; simp only at h; subst h; rfl
theorem takeR_good {r : Rd} {k : Int} {s : List UInt8} (h : (takeR r k s).bad = false) : seesR r k s = true := by
  cases hs : seesR r k s
  · unfold takeR at h; rw [hs] at h; cases h
  · rfl
theorem sees_good {r : Rd} {k : Int} {s : List UInt8} (h : seesR r k s = true) : r.bad = false := (seesR_cons h).1
theorem typR_bad {f : Nat} {r : Rd} {x : Ty × Rd} (hb : r.bad = true) (h : typR f r = some x) : x.2.bad = true := by
  unfold typR at h; rw [hb, if_pos rfl] at h; injection h with h; subst h; exact hb
theorem exR_bad : ∀ (f : Nat) (m : XM) (r : Rd) (x : Ex × Rd), r.bad = true → exR f m r = some x → x.2.bad = true := by
  intro f
  induction f with
  | zero => intro m r x hb h; cases h
  | succ f ih =>
    intro m r x hb h
    cases m with
    | expr => simp only [exR, hb, if_true] at h; injection h with h; subst h; exact hb
    | loop e => simp only [exR, seesR_bad hb, Bool.or_false, Bool.false_eq_true, if_false] at h; injection h with h; subst h; exact hb
    | lets =>
      simp only [exR, takeR_bad hb, seesR_bad hb, Bool.false_eq_true, if_false] at h
      split at h
      · cases h
      · rename_i x1 r3 h3
        have b3 : r3.bad = true := ih _ _ _ hb h3
        rw [takeR_bad b3] at h
        split at h
        · cases h
        · rename_i y r4 h4
          injection h with h; subst h
          have hh := ih _ _ _ b3 h4
          exact hh
    | atom =>
      simp only [exR, takeR_bad hb, seesR_bad hb, Bool.false_eq_true, if_false] at h
      split at h
      · cases h
      · rename_i e r1 h1
        have b1 : r1.bad = true := ih _ _ _ hb h1
        rw [seesR_bad b1] at h
        simp only [Bool.false_eq_true, if_false] at h
        injection h with h; subst h
        rw [takeR_bad b1]; exact b1
    | alts acc =>
      have hbh : (behindR r).bad = true := hb
      simp only [exR, takeR_bad hb, takeR_bad hbh] at h
      split at h
      · cases h
      · rename_i b r4 h4
        have b4 : r4.bad = true := ih _ _ _ hbh h4
        rw [seesR_bad b4] at h
        simp only [Bool.false_eq_true, if_false] at h
        injection h with h; subst h; exact b4
theorem exR_good {f : Nat} {m : XM} {r : Rd} {x : Ex} {r' : Rd} (h : exR f m r = some (x, r')) (hg : r'.bad = false) : r.bad = false := by
  cases hb : r.bad
  · rfl
  · have h2 := exR_bad f m r _ hb h
    simp only at h2; rw [hg] at h2; cases h2
theorem typR_good {f : Nat} {r : Rd} {x : Ty} {r' : Rd} (h : typR f r = some (x, r')) (hg : r'.bad = false) : r.bad = false := by
  cases hb : r.bad
  · rfl
  · have h2 := typR_bad hb h
    simp only at h2; rw [hg] at h2; cases h2
theorem takesR_eq {r : Rd} {k : Int} {s : List UInt8} (h : seesR r k s = true) : takesR r k s = ⟨r.l.tail, false⟩ := by unfold takesR; rw [h, if_pos rfl]
theorem takeR_eq {r : Rd} {k : Int} {s : List UInt8} (h : seesR r k s = true) : takeR r k s = ⟨r.l.tail, false⟩ := by unfold takeR; rw [h, if_pos rfl]
theorem idx_takes {full : List Tok} {r : Rd} {k : Int} {s : List UInt8} (hs : r.l <:+ full) (hlen : full.length < 1000000) (h : seesR r k s = true) : IntKind.i64.wrap (idx full r + 1) = idx full (takesR r k s) := by
  obtain ⟨i1, i2, i3⟩ := idx_next hs h
  rw [takesR_eq h, i1, i2]; exact IntWalk.i64_in _ (by omega)
theorem idx_lt0 (full : List Tok) (r : Rd) : decide (idx full r < 0) = r.bad := by
  unfold idx; cases r.bad <;> simp
theorem idx_ge0 (full : List Tok) (r : Rd) : decide (idx full r ≥ 0) = !r.bad := by
  unfold idx; cases r.bad <;> simp
end Go.Proofs
namespace Go.Proofs
open Go.Av
set_option maxHeartbeats 16000000
set_option maxRecDepth 100000
end Go.Proofs
namespace Go.Proofs
open Go.Av
set_option maxHeartbeats 16000000
set_option maxRecDepth 100000
end Go.Proofs
namespace Go.Proofs
open Go.Av
set_option maxHeartbeats 16000000
set_option maxRecDepth 100000
theorem idx_ne {full : List Tok} {r : Rd} (hs : r.l <:+ full) : (idx full r != ((full.length : Nat) : Int)) = (r.bad || decide (0 < r.l.length)) := by
  have := hs.length_le
  unfold idx
  cases r.bad
  · simp only [Bool.false_eq_true, if_false, Bool.false_or]
    rw [bne_not, Bool.eq_iff_iff]
    simp only [Bool.not_eq_true', beq_eq_false_iff_ne, ne_eq, decide_eq_true_eq]
    omega
  · simp only [if_true, Bool.true_or]
    rw [bne_not, Bool.not_eq_true', beq_eq_false_iff_ne]; omega
theorem idx0 (full : List Tok) : idx full ⟨full, false⟩ = 0 := by unfold idx; simp
end Go.Proofs
namespace Go.Proofs
open Go.Av
set_option maxHeartbeats 16000000
set_option maxRecDepth 100000
theorem le_str {n : Nat} (h : n ≤ 4000000000) : (n ≤ strMax) = True := by
  unfold strMax; exact eq_true (by omega)
def kids1e : List Ex → Option Ex
  | [x] => some x
  | _ => none
def kids2e : List Ex → Option (Ex × Ex)
  | [x, y] => some (x, y)
  | _ => none
theorem kids1e_some {l : List Ex} {x : Ex} (h : kids1e l = some x) : l = [x] := by
  unfold kids1e at h; split at h
  · injection h with h; subst h; rfl
  · cases h
theorem kids2e_some {l : List Ex} {p : Ex × Ex} (h : kids2e l = some p) : l = [p.1, p.2] := by
  unfold kids2e at h; split at h
  · injection h with h; subst h; rfl
  · cases h
def wideE (e : Ex) : Bool := e.kind == 3 || (e.kind == 5 || e.kind == 6)
def par (b : Bool) (s : List UInt8) : List UInt8 := if b then [40] ++ s ++ [41] else s
def altS (a : Al) (s : List UInt8) : List UInt8 := Lib.join (a.con :: a.vars) [32] ++ [32, 45, 62, 32] ++ s
def altsR (f : Ex → Option (List UInt8)) : List Al → Option (List (List UInt8))
  | [] => some []
  | a :: r => match f a.body with
    | none => none
    | some s => match altsR f r with
      | none => none
      | some ss => some (altS a s :: ss)
def xpR (F : Nat) : Nat → Ex → Option (List UInt8)
  | 0, _ => none
  | f + 1, e =>
    if e.kind == 3 then (match kids1e e.kids with
      | none => none
      | some x => match xpR F f x with
        | none => none
        | some a => short ([92] ++ e.name ++ [32, 45, 62, 32] ++ a))
    else if e.kind == 4 then (match kids2e e.kids with
      | none => none
      | some (x, y) => match xpR F f x with
        | none => none
        | some a => match xpR F f y with
          | none => none
          | some b => short (par (wideE x) a ++ [32] ++ par (wideE y || y.kind == 4) b))
    else if e.kind == 5 then (match kids2e e.kids with
      | none => none
      | some (x, y) => match xpR F f x with
        | none => none
        | some a => match xpR F f y with
          | none => none
          | some b => if e.told then (match prR F .pr e.ty with
              | none => none
              | some t => short ([108, 101, 116, 32] ++ e.name ++ ([32, 58, 32] ++ t) ++ [32, 61, 32] ++ a ++ [32, 105, 110, 32] ++ b))
            else short ([108, 101, 116, 32] ++ e.name ++ [32, 61, 32] ++ a ++ [32, 105, 110, 32] ++ b))
    else if e.kind == 6 then (match kids1e e.kids with
      | none => none
      | some x => match xpR F f x with
        | none => none
        | some a => match altsR (xpR F f) e.alts with
          | none => none
          | some ss => short ([99, 97, 115, 101, 32] ++ a ++ [32, 111, 102, 32, 123] ++ Lib.join ss [59, 32] ++ [125]))
    else if e.kind == 7 then (match kids1e e.kids with
      | none => none
      | some x => match xpR F f x with
        | none => none
        | some a => match prR F .pr e.ty with
          | none => none
          | some t => short ([40] ++ a ++ [32, 58, 32] ++ t ++ [41]))
    else if e.kind == 1 || e.kind == 2 then short e.name else none
theorem altsR_get {f : Ex → Option (List UInt8)} : ∀ {l : List Al} {ss : List (List UInt8)}, altsR f l = some ss → ss.length = l.length ∧ ∀ (i : Nat) (t : Al), l[i]? = some t → ∃ s, f t.body = some s ∧ ss[i]? = some (altS t s)
  | [], ss, h => by simp only [altsR, Option.some.injEq] at h; subst h; exact ⟨rfl, fun i t ht => by simp at ht⟩
  | t :: r, ss, h => by
    simp only [altsR] at h
    split at h
    · cases h
    · rename_i s hs
      split at h
      · cases h
      · rename_i ss' hss
        injection h with h; subst h
        obtain ⟨h1, h2⟩ := altsR_get hss
        refine ⟨by simp [h1], fun i x hx => ?_⟩
        cases i with
        | zero => simp at hx; subst hx; exact ⟨s, hs, rfl⟩
        | succ i => exact h2 i x (by simpa using hx)
theorem xp_len : ∀ {F f : Nat} {e : Ex} {s : List UInt8}, xpR F f e = some s → s.length ≤ lim := by
  intro F f
  cases f with
  | zero => intro e s h; cases h
  | succ f =>
    intro e s h
    simp only [xpR] at h <;> (repeat' (split at h)) <;> first
      | (cases h; done)
      | (obtain ⟨rfl, h2⟩ := short_some h; exact h2)
theorem lens_mem : ∀ {l : List (List UInt8)} {s : List UInt8}, s ∈ l → s.length + l.length ≤ Lib.lens l + l.length
  | x :: l, s, h => by
    rcases List.mem_cons.1 h with rfl | h
    · simp [Lib.lens]
    · have := lens_mem h; simp [Lib.lens] at this ⊢; omega
theorem join_mem_len {l : List (List UInt8)} {s sep : List UInt8} (h : s ∈ l) : s.length ≤ (Lib.join l sep).length := by
  have h1 := lens_mem h
  cases l with
  | nil => cases h
  | cons x r => rw [Lib.join_length]; omega
theorem join_den (l : List (List UInt8)) (sep : List UInt8) (h1 : (Lib.join l sep).length ≤ 4000000000) (h2 : l.length ≤ 4000000000) : den E 57 [.slice (l.map .str), .str sep] [] = some (.str (Lib.join l sep), []) := by
  rw [den_prim prim_57]
  simp only [joinP, strs_map, Option.bind_some]
  rw [if_pos ⟨by omega, by omega⟩]
/-- closed in brackets, where the kind asks for it -/
theorem exClosed_den (e : Ex) (ks : List Int) (a : List UInt8) (h : den E 22 [.agg (exC e)] [] = some (.str a, [])) (hl : a.length ≤ lim) (hks : ks.length ≤ 10) :
    den E 66 [.agg (exC e), .slice (ks.map (.int .i64))] [] = some (.str (par (ks.any (e.kind == ·)) a), []) := by
  unfold lim at hl
  rw [den_eq prim_66, body_66]
  rw [exC_eq] at h ⊢
  simp only [go_sem, ↓reduceIte, Nat.reduceEqDiff, Nat.reduceAdd, Nat.zero_ne_one, reduceCtorEq, Tryz.f66, List.length_map]
  refine run_ind (fun i : Nat => i ≤ ks.length ∧ (ks.take i).any (e.kind == ·) = false) (fun i => ⟨[(2, .ptr (.loc 2) 0), (7, .slice (ks.map (.int .i64))), (8, .int .i64 ks.length), (9, .int .i64 i)], [], [(2, [.int .i64 e.kind, .str e.name, .bool e.told, .int .i64 e.ty.kind, .str e.ty.name, .int .i64 e.ty.n, .slice (tysV e.ty.args), .slice (exsV e.kids), .slice (alsV e.alts)])], 1⟩)
    (fun _ => some (.str (par (ks.any (e.kind == ·)) a), [])) (fun i => ks.length - i) 0 ⟨Nat.zero_le _, by simp⟩ ?_ ?_
  · simp only [go_sem, ↓reduceIte, Nat.reduceEqDiff, reduceCtorEq, Int.cast_ofNat_Int]
  · rintro i ⟨hi, h0⟩ hr
    by_cases hlt : i < ks.length
    · obtain ⟨x, hx⟩ : ∃ x, ks[i]? = some x := ⟨ks[i], List.getElem?_eq_getElem hlt⟩
      have hx2 : (ks.map (AVal.int .i64))[i]? = some (.int .i64 x) := by simp [hx]
      have w1 : IntKind.i64.wrap ((i : Int) + 1) = ((i + 1 : Nat) : Int) := wrapN (i + 1) (by omega)
      obtain ⟨ya, yb⟩ := any_take hx h0
      cases hk : e.kind == x
      · simp only [go_sem, ↓reduceIte, Nat.reduceEqDiff, Nat.reduceAdd, Nat.one_ne_zero, natlt, decide_eq_true hlt, natge0, tonat, hx2, hk]
        refine hr (i + 1) _ ⟨hlt, yb hk⟩ (by omega) ?_
        simp only [go_sem, ↓reduceIte, Nat.reduceEqDiff, w1]
      · simp (disch := ((try simp only [List.length_append, List.length_cons, List.length_nil]); omega)) only [go_sem, ↓reduceIte, Nat.reduceEqDiff, Nat.reduceAdd, Nat.reduceLeDiff, Nat.one_ne_zero, le_str, natlt, decide_eq_true hlt, natge0, tonat, hx2, hk, h, ya hk, par, List.length_cons, List.length_nil, Nat.zero_add]
    · have hie : i = ks.length := by omega
      subst hie
      rw [List.take_length] at h0
      simp only [go_sem, ↓reduceIte, Nat.reduceEqDiff, Nat.reduceAdd, Nat.reduceLeDiff, beq_self_eq_true, decide_false, natlt, Nat.lt_irrefl, h0, h, par]
theorem par_len (b : Bool) (s : List UInt8) : s.length ≤ (par b s).length ∧ (par b s).length ≤ s.length + 2 := by
  cases b <;> simp [par] <;> omega
theorem wide_any (e : Ex) : [3, 5, 6].any (e.kind == ·) = wideE e := by simp [wideE]
theorem wide_any2 (e : Ex) : [3, 5, 6, 4].any (e.kind == ·) = (wideE e || e.kind == 4) := by simp [wideE, Bool.or_assoc]
end Go.Proofs
namespace Go.Proofs
open Go.Av
set_option maxHeartbeats 16000000
set_option maxRecDepth 100000
theorem kids_tot {e : Ex} {x : Ex} (h : x ∈ e.kids) : x.tot + 1 ≤ e.tot := by
  have h1 := tots_mem h
  have h2 := tot_eq e
  have h3 := sz_eq e.ty
  omega
theorem alts_tot {e : Ex} {a : Al} (h : a ∈ e.alts) : a.vars.length + a.body.tot + 1 ≤ e.tot := by
  have h1 := al_vars h
  have h2 := tot_eq e
  omega
theorem altsLen (e : Ex) : e.alts.length ≤ e.tot := by
  have := al_tots e.alts; have := tot_eq e; omega
theorem xprint_den (F : Nat) : ∀ (f : Nat) (e : Ex) (s : List UInt8), e.tot < 1000000 → xpR F f e = some s → den E 22 [.agg (exC e)] [] = some (.str s, []) := by
  intro f
  induction f with
  | zero => intro e s _ h; cases h
  | succ f ih =>
  intro e s ht h
  have hlen := xp_len h
  unfold lim at hlen
  simp only [xpR] at h
  rw [den_eq prim_22, body_22, exC_eq]
  cases k3 : e.kind == 3
  · rw [k3] at h
    simp only [Bool.false_eq_true, if_false] at h
    cases k4 : e.kind == 4
    · rw [k4] at h
      simp only [Bool.false_eq_true, if_false] at h
      cases k5 : e.kind == 5
      · rw [k5] at h
        simp only [Bool.false_eq_true, if_false] at h
        cases k6 : e.kind == 6
        · rw [k6] at h
          simp only [Bool.false_eq_true, if_false] at h
          cases k7 : e.kind == 7
          · rw [k7] at h
            simp only [Bool.false_eq_true, if_false] at h
            split at h
            · obtain ⟨rfl, _⟩ := short_some h
              simp only [go_sem, ↓reduceIte, Nat.reduceEqDiff, Nat.reduceAdd, Nat.zero_ne_one, Nat.one_ne_zero, reduceCtorEq, Tryz.f22, k3, k4, k5, k6, k7]
            · cases h
          · rw [k7] at h
            simp only [if_true] at h
            split at h
            · cases h
            · rename_i x hx
              have hk := kids1e_some hx
              have hxt := kids_tot (e := e) (x := x) (by rw [hk]; simp)
              split at h
              · cases h
              · rename_i a ha
                split at h
                · cases h
                · rename_i t htt
                  obtain ⟨rfl, _⟩ := short_some h
                  have d1 := ih x a (by omega) ha
                  have d2 := tprint_den F e.ty t (by have := ex_ty_sz e; omega) htt
                  rw [exC_eq] at d1
                  rw [tyV_eq] at d2
                  simp only [List.length_append, List.length_cons, List.length_nil] at hlen
                  simp (disch := ((try simp only [List.length_append, List.length_cons, List.length_nil]); omega)) only [go_sem, ↓reduceIte, Nat.reduceEqDiff, Nat.reduceAdd, Nat.reduceLeDiff, Nat.zero_ne_one, Nat.one_ne_zero, reduceCtorEq, le_str, Tryz.f22, k3, k4, k5, k6, k7, hk, exsV_cons, exsV_nil, exC_eq, Int.le_refl, Int.toNat_zero, d1, d2, List.length_append, List.length_cons, List.length_nil, Nat.zero_add, List.append_assoc, List.cons_append]
        · rw [k6] at h
          simp only [if_true] at h
          split at h
          · cases h
          · rename_i x hx
            have hk := kids1e_some hx
            have hxt := kids_tot (e := e) (x := x) (by rw [hk]; simp)
            split at h
            · cases h
            · rename_i a ha
              split at h
              · cases h
              · rename_i ss hss
                obtain ⟨rfl, _⟩ := short_some h
                have d1 := ih x a (by omega) ha
                rw [exC_eq] at d1
                obtain ⟨g1, g2⟩ := altsR_get hss
                have hal := altsLen e
                simp only [List.length_append, List.length_cons, List.length_nil] at hlen
                simp only [go_sem, ↓reduceIte, Nat.reduceEqDiff, Nat.reduceAdd, Nat.zero_ne_one, Nat.one_ne_zero, reduceCtorEq, Tryz.f22, k3, k4, k5, k6, alsV_len]
                refine run_for (fun i => ⟨[(1, .ptr (.loc 1) 0), (4, .own 9 0 ((ss.take i).map .str)), (68, .slice (alsV e.alts)), (69, .int .i64 e.alts.length), (70, .int .i64 i)], [], [(1, [.int .i64 e.kind, .str e.name, .bool e.told, .int .i64 e.ty.kind, .str e.ty.name, .int .i64 e.ty.n, .slice (tysV e.ty.args), .slice (exsV e.kids), .slice (alsV e.alts)])], 1⟩) e.alts.length ?_ ?_ ?_
                · simp only [go_sem, ↓reduceIte, Nat.reduceEqDiff, Nat.zero_ne_one, reduceCtorEq, Int.cast_ofNat_Int, List.take_zero, List.map_nil]
                · intro i hi hr
                  obtain ⟨y, hy⟩ : ∃ y, e.alts[i]? = some y := ⟨e.alts[i], List.getElem?_eq_getElem hi⟩
                  have hyt := alts_tot (List.mem_of_getElem? hy)
                  obtain ⟨b, hb, hsb⟩ := g2 i y hy
                  have d2 := ih y.body b (by omega) hb
                  rw [exC_eq] at d2
                  have hml := join_mem_len (sep := [59, 32]) (List.mem_of_getElem? hsb)
                  have hml2 := hml
                  simp only [altS, List.length_append, List.length_cons, List.length_nil] at hml2
                  have dj := join_den (y.con :: y.vars) [32] (by omega) (by simp only [List.length_cons]; omega)
                  have w1 : IntKind.i64.wrap ((i : Int) + 1) = ((i + 1 : Nat) : Int) := wrapN (i + 1) (by omega)
                  have hap : ((ss.take i).map AVal.str).length + 1 ≤ appMax := by simp; unfold appMax; omega
                  have hap2 : (ss.take i).length + 1 ≤ appMax := by simpa using hap
                  have hmap : (ss.take i).map AVal.str ++ [.str (Lib.join (y.con :: y.vars) [32] ++ [32, 45, 62, 32] ++ b)] = (ss.take (i + 1)).map AVal.str := by rw [take_snoc hsb]; simp [altS]
                  cases hv : y.vars with
                  | nil =>
                    rw [hv] at dj hmap hml2
                    simp only [List.map_cons, List.map_nil] at dj
                    simp (disch := ((try simp only [List.length_append, List.length_cons, List.length_nil]); omega)) only [go_sem, ↓reduceIte, Nat.reduceEqDiff, Nat.reduceAdd, Nat.reduceMul, Nat.reduceLeDiff, Nat.one_ne_zero, Nat.reduceLT, reduceCtorEq, decide_true, le_str, natlt, decide_eq_true hi, natge0, tonat, alsV_get, hy, alV_eq, exC_eq, hv, List.map_nil, show 1 + 0 ≤ appMax from by decide, dj, d2, hap, hmap]
                    refine hr _ ?_
                    simp only [go_sem, ↓reduceIte, Nat.reduceEqDiff, w1]
                  | cons v vs =>
                    rw [hv] at dj hmap hml2
                    simp only [List.map_cons] at dj
                    have hvl : 1 + (vs.length + 1) ≤ appMax := by rw [hv] at hyt; simp only [List.length_cons] at hyt; unfold appMax; omega
                    simp (disch := ((try simp only [List.length_append, List.length_cons, List.length_nil]); omega)) only [go_sem, ↓reduceIte, Nat.reduceEqDiff, Nat.reduceAdd, Nat.reduceMul, Nat.reduceLeDiff, Nat.one_ne_zero, Nat.reduceLT, reduceCtorEq, decide_true, le_str, natlt, decide_eq_true hi, natge0, tonat, alsV_get, hy, alV_eq, exC_eq, hv, List.map_cons, List.length_map, hvl, dj, d2, hap2, hmap]
                    refine hr _ ?_
                    simp only [go_sem, ↓reduceIte, Nat.reduceEqDiff, w1]
                · have htk : ss.take e.alts.length = ss := by rw [← g1]; exact List.take_length
                  have dj := join_den ss [59, 32] (by omega) (by omega)
                  simp (disch := ((try simp only [List.length_append, List.length_cons, List.length_nil]); omega)) only [go_sem, ↓reduceIte, Nat.reduceEqDiff, Nat.reduceAdd, Nat.reduceLeDiff, Nat.one_ne_zero, beq_self_eq_true, decide_false, le_str, natlt, Nat.lt_irrefl, htk, hk, exsV_cons, exsV_nil, exC_eq, Int.le_refl, Int.toNat_zero, d1, dj, List.length_append, List.length_cons, List.length_nil, Nat.zero_add, List.append_assoc, List.cons_append]
      · rw [k5] at h
        simp only [if_true] at h
        split at h
        · cases h
        · rename_i x y hxy
          have hk := kids2e_some hxy
          have hxt := kids_tot (e := e) (x := x) (by rw [hk]; simp)
          have hyt := kids_tot (e := e) (x := y) (by rw [hk]; simp)
          split at h
          · cases h
          · rename_i a ha
            split at h
            · cases h
            · rename_i b hb
              have d1 := ih x a (by omega) ha
              have d2 := ih y b (by omega) hb
              rw [exC_eq] at d1 d2
              cases ktold : e.told
              · rw [ktold] at h
                simp only [Bool.false_eq_true, if_false] at h
                obtain ⟨rfl, _⟩ := short_some h
                simp only [List.length_append, List.length_cons, List.length_nil] at hlen
                simp (disch := ((try simp only [List.length_append, List.length_cons, List.length_nil]); omega)) only [go_sem, ↓reduceIte, Nat.reduceEqDiff, Nat.reduceAdd, Nat.reduceLeDiff, Nat.zero_ne_one, Nat.one_ne_zero, reduceCtorEq, le_str, Tryz.f22, k3, k4, k5, hk, exsV_cons, exsV_nil, exC_eq, Int.le_refl, Int.toNat_zero, Int.toNat_one, Int.zero_le_ofNat, d1, d2, List.length_append, List.length_cons, List.length_nil, Nat.zero_add, List.append_assoc, List.cons_append]
              · rw [ktold] at h
                simp only [if_true] at h
                split at h
                · cases h
                · rename_i t htt
                  obtain ⟨rfl, _⟩ := short_some h
                  have d3 := tprint_den F e.ty t (by have := ex_ty_sz e; omega) htt
                  rw [tyV_eq] at d3
                  simp only [List.length_append, List.length_cons, List.length_nil] at hlen
                  simp (disch := ((try simp only [List.length_append, List.length_cons, List.length_nil]); omega)) only [go_sem, ↓reduceIte, Nat.reduceEqDiff, Nat.reduceAdd, Nat.reduceLeDiff, Nat.zero_ne_one, Nat.one_ne_zero, reduceCtorEq, le_str, Tryz.f22, k3, k4, k5, hk, exsV_cons, exsV_nil, exC_eq, Int.le_refl, Int.toNat_zero, Int.toNat_one, Int.zero_le_ofNat, d1, d2, d3, List.length_append, List.length_cons, List.length_nil, Nat.zero_add, List.append_assoc, List.cons_append]
    · rw [k4] at h
      simp only [if_true] at h
      split at h
      · cases h
      · rename_i x y hxy
        have hk := kids2e_some hxy
        have hxt := kids_tot (e := e) (x := x) (by rw [hk]; simp)
        have hyt := kids_tot (e := e) (x := y) (by rw [hk]; simp)
        split at h
        · cases h
        · rename_i a ha
          split at h
          · cases h
          · rename_i b hb
            obtain ⟨rfl, _⟩ := short_some h
            have d1 := exClosed_den x [3, 5, 6] a (ih x a (by omega) ha) (xp_len ha) (by decide)
            have d2 := exClosed_den y [3, 5, 6, 4] b (ih y b (by omega) hb) (xp_len hb) (by decide)
            rw [wide_any] at d1
            rw [wide_any2] at d2
            rw [exC_eq] at d1 d2
            simp only [List.map_cons, List.map_nil] at d1 d2
            simp only [List.length_append, List.length_cons, List.length_nil] at hlen
            simp (disch := ((try simp only [List.length_append, List.length_cons, List.length_nil]); omega)) only [go_sem, ↓reduceIte, Nat.reduceEqDiff, Nat.reduceAdd, Nat.reduceMul, Nat.reduceLeDiff, Nat.zero_ne_one, Nat.one_ne_zero, Nat.reduceLT, reduceCtorEq, le_str, Tryz.f22, k3, k4, hk, exsV_cons, exsV_nil, exC_eq, Int.le_refl, Int.toNat_zero, Int.toNat_one, Int.zero_le_ofNat, d1, d2, List.length_append, List.length_cons, List.length_nil, Nat.zero_add, List.append_assoc, List.cons_append]
  · rw [k3] at h
    simp only [if_true] at h
    split at h
    · cases h
    · rename_i x hx
      have hk := kids1e_some hx
      have hxt := kids_tot (e := e) (x := x) (by rw [hk]; simp)
      split at h
      · cases h
      · rename_i a ha
        obtain ⟨rfl, _⟩ := short_some h
        have d1 := ih x a (by omega) ha
        rw [exC_eq] at d1
        simp only [List.length_append, List.length_cons, List.length_nil] at hlen
        simp (disch := ((try simp only [List.length_append, List.length_cons, List.length_nil]); omega)) only [go_sem, ↓reduceIte, Nat.reduceEqDiff, Nat.reduceAdd, Nat.reduceLeDiff, Nat.zero_ne_one, Nat.one_ne_zero, reduceCtorEq, le_str, Tryz.f22, k3, hk, exsV_cons, exsV_nil, exC_eq, Int.le_refl, Int.toNat_zero, d1, List.length_append, List.length_cons, List.length_nil, Nat.zero_add, List.append_assoc, List.cons_append]
end Go.Proofs
namespace Go.Proofs
open Go.Av
set_option maxHeartbeats 16000000
set_option maxRecDepth 100000
end Go.Proofs
namespace Go.Proofs
open Go.Av
set_option maxHeartbeats 16000000
set_option maxRecDepth 100000
theorem wide_den (e : Ex) : den E 68 [.agg (exC e)] [] = some (.bool (wideE e), []) := by
  rw [den_eq prim_68, body_68, exC_eq]
  unfold wideE
  cases h3 : e.kind == 3
  · cases h5 : e.kind == 5
    · simp only [go_sem, ↓reduceIte, Nat.reduceEqDiff, Nat.reduceAdd, Nat.zero_ne_one, Nat.one_ne_zero, reduceCtorEq, beq_self_eq_true, Tryz.f68, h3, h5]
    · simp only [go_sem, ↓reduceIte, Nat.reduceEqDiff, Nat.reduceAdd, Nat.zero_ne_one, Nat.one_ne_zero, reduceCtorEq, beq_self_eq_true, Tryz.f68, h3, h5]
  · simp only [go_sem, ↓reduceIte, Nat.reduceEqDiff, Nat.reduceAdd, Nat.zero_ne_one, Nat.one_ne_zero, reduceCtorEq, Tryz.f68, h3]
theorem join_snoc (l : List (List UInt8)) (s sep : List UInt8) (h : l ≠ []) : Lib.join (l ++ [s]) sep = Lib.join l sep ++ sep ++ s := by
  cases l with
  | nil => exact absurd rfl h
  | cons x r =>
    rw [List.cons_append, Lib.join_cons, Lib.join_cons]
    simp [Lib.joinTail, List.append_assoc]
theorem join_take_le (l : List (List UInt8)) (sep : List UInt8) (k : Nat) : (Lib.join (l.take k) sep).length ≤ (Lib.join l sep).length := by
  cases l with
  | nil => simp
  | cons x r =>
    cases k with
    | zero => simp [Lib.join_nil]
    | succ k =>
      rw [List.take_succ_cons, Lib.join_cons, Lib.join_cons, List.length_append, List.length_append]
      have := Lib.joinTail_take_le sep r k; omega
theorem natgt0 (i : Nat) : decide ((i : Int) > 0) = decide (0 < i) := by simp
theorem strs_get (l : List (List UInt8)) (i : Nat) : (l.map AVal.str)[i]? = (l[i]?).map AVal.str := by simp
theorem kkE {e : Ex} {a b : Int} (h1 : (e.kind == a) = true) (h2 : a ≠ b) : (e.kind == b) = false := by
  rw [beq_iff_eq] at h1; rw [h1, beq_eq_false_iff_ne]; exact h2
theorem rxprint_den (F : Nat) : ∀ (f : Nat) (e : Ex) (s : List UInt8), e.tot < 1000000 → xpR F f e = some s → den E 24 [.agg (exC e)] [] = some (.str s, []) := by
  intro f
  induction f with
  | zero => intro e s _ h; cases h
  | succ f ih =>
  intro e s ht h
  have hlen := xp_len h
  unfold lim at hlen
  simp only [xpR] at h
  rw [den_eq prim_24, body_24, exC_eq]
  cases k3 : e.kind == 3
  · rw [k3] at h
    simp only [Bool.false_eq_true, if_false] at h
    cases k4 : e.kind == 4
    · rw [k4] at h
      simp only [Bool.false_eq_true, if_false] at h
      cases k5 : e.kind == 5
      · rw [k5] at h
        simp only [Bool.false_eq_true, if_false] at h
        cases k6 : e.kind == 6
        · rw [k6] at h
          simp only [Bool.false_eq_true, if_false] at h
          cases k7 : e.kind == 7
          · rw [k7] at h
            simp only [Bool.false_eq_true, if_false] at h
            split at h
            · rename_i hc
              obtain ⟨rfl, _⟩ := short_some h
              cases k1 : e.kind == 1
              · have k2 : (e.kind == 2) = true := by simpa [k1] using hc
                simp only [go_sem, ↓reduceIte, Nat.reduceEqDiff, Nat.reduceAdd, Nat.zero_ne_one, Nat.one_ne_zero, reduceCtorEq, Tryz.f24, k1, k2]
              · simp only [go_sem, ↓reduceIte, Nat.reduceEqDiff, Nat.reduceAdd, Nat.zero_ne_one, Nat.one_ne_zero, reduceCtorEq, Tryz.f24, k1]
            · cases h
          · have k1 := kkE (b := 1) k7 (by decide)
            have k2 := kkE (b := 2) k7 (by decide)
            rw [k7] at h
            simp only [if_true] at h
            split at h
            · cases h
            · rename_i x hx
              have hk := kids1e_some hx
              have hxt := kids_tot (e := e) (x := x) (by rw [hk]; simp)
              split at h
              · cases h
              · rename_i a ha
                split at h
                · cases h
                · rename_i t htt
                  obtain ⟨rfl, _⟩ := short_some h
                  have d1 := ih x a (by omega) ha
                  have d2 := rprint_den F e.ty t (by have := ex_ty_sz e; omega) htt
                  rw [exC_eq] at d1
                  rw [tyV_eq] at d2
                  simp only [List.length_append, List.length_cons, List.length_nil] at hlen
                  simp (disch := ((try simp only [List.length_append, List.length_cons, List.length_nil]); omega)) only [go_sem, ↓reduceIte, Nat.reduceEqDiff, Nat.reduceAdd, Nat.reduceLeDiff, Nat.zero_ne_one, Nat.one_ne_zero, reduceCtorEq, le_str, Tryz.f24, k1, k2, k3, k4, k5, k7, hk, exsV_cons, exsV_nil, exC_eq, Int.le_refl, Int.toNat_zero, d1, d2, List.length_append, List.length_cons, List.length_nil, Nat.zero_add, List.append_assoc, List.cons_append]
        · have k1 := kkE (b := 1) k6 (by decide)
          have k2 := kkE (b := 2) k6 (by decide)
          have k7 := kkE (b := 7) k6 (by decide)
          rw [k6] at h
          simp only [if_true] at h
          split at h
          · cases h
          · rename_i x hx
            have hk := kids1e_some hx
            have hxt := kids_tot (e := e) (x := x) (by rw [hk]; simp)
            split at h
            · cases h
            · rename_i a ha
              split at h
              · cases h
              · rename_i ss hss
                obtain ⟨rfl, _⟩ := short_some h
                have d1 := ih x a (by omega) ha
                rw [exC_eq] at d1
                obtain ⟨g1, g2⟩ := altsR_get hss
                have hal := altsLen e
                obtain ⟨H, hH⟩ : ∃ H, H = [99, 97, 115, 101, 32] ++ a ++ [32, 111, 102, 32, 123] := ⟨_, rfl⟩
                rw [← hH] at hlen ⊢
                have hHl := congrArg List.length hH
                simp only [List.length_append, List.length_cons, List.length_nil] at hlen hHl
                simp only [List.nil_append, List.cons_append] at hH
                simp (disch := ((try simp only [List.length_append, List.length_cons, List.length_nil]); omega)) only [go_sem, ↓reduceIte, Nat.reduceEqDiff, Nat.reduceAdd, Nat.reduceLeDiff, Nat.zero_ne_one, Nat.one_ne_zero, reduceCtorEq, le_str, Tryz.f24, k1, k2, k3, k4, k5, k7, hk, exsV_cons, exsV_nil, exC_eq, Int.le_refl, Int.toNat_zero, d1, List.length_cons, List.length_nil, Nat.zero_add, List.cons_append]
                refine run_for (fun i => ⟨[(1, .ptr (.loc 1) 0), (8, .str (H ++ Lib.join (ss.take i) [59, 32])), (9, .int .i64 i)], [], [(1, [.int .i64 e.kind, .str e.name, .bool e.told, .int .i64 e.ty.kind, .str e.ty.name, .int .i64 e.ty.n, .slice (tysV e.ty.args), .slice (exsV e.kids), .slice (alsV e.alts)])], 1⟩) e.alts.length ?_ ?_ ?_
                · simp only [go_sem, ↓reduceIte, Nat.reduceEqDiff, Nat.zero_ne_one, reduceCtorEq, Int.cast_ofNat_Int, List.take_zero, Lib.join_nil, List.append_nil, hH, hk, exsV_cons, exsV_nil, exC_eq]
                · intro i hi hr
                  obtain ⟨y, hy⟩ : ∃ y, e.alts[i]? = some y := ⟨e.alts[i], List.getElem?_eq_getElem hi⟩
                  have hyt := alts_tot (List.mem_of_getElem? hy)
                  obtain ⟨b, hb, hsb⟩ := g2 i y hy
                  have d2 := ih y.body b (by omega) hb
                  rw [exC_eq] at d2
                  have w1 : IntKind.i64.wrap ((i : Int) + 1) = ((i + 1 : Nat) : Int) := wrapN (i + 1) (by omega)
                  have hjl := join_take_le ss [59, 32] (i + 1)
                  have hts := take_snoc hsb
                  obtain ⟨Q, hQ⟩ : ∃ Q, Q = H ++ Lib.join (ss.take i) [59, 32] ++ (if decide (0 < i) then [59, 32] else []) := ⟨_, rfl⟩
                  have hfin : H ++ Lib.join (ss.take (i + 1)) [59, 32] = Q ++ y.con ++ Lib.joinTail [32] y.vars ++ [32, 45, 62, 32] ++ b := by
                    rw [hts, hQ]
                    by_cases hi0 : 0 < i
                    · have hlt := (List.getElem?_eq_some_iff.1 hsb).1
                      rw [join_snoc _ _ _ (List.ne_nil_of_length_pos (by rw [List.length_take]; omega)), decide_eq_true hi0, altS, Lib.join_cons]
                      simp [List.append_assoc]
                    · have : i = 0 := by omega
                      subst this
                      simp [Lib.join_nil, altS, Lib.join_cons, List.append_assoc, Lib.joinTail]
                  have hfl := congrArg List.length hfin
                  simp only [List.length_append, List.length_cons, List.length_nil] at hfl
                  have hQl := congrArg List.length hQ
                  have gt0 := natgt0 i
                  cases hb0 : decide (0 < i) <;> rw [hb0] at hQ gt0 hQl
                  all_goals (
                    simp only [Bool.false_eq_true, if_false, if_true, List.append_nil] at hQ hQl
                    simp only [List.length_append, List.length_cons, List.length_nil] at hQl
                    simp (disch := ((try simp only [List.length_append, List.length_cons, List.length_nil]); omega)) only [go_sem, ↓reduceIte, Nat.reduceEqDiff, Nat.reduceAdd, Nat.one_ne_zero, le_str, natlt, alsV_len, decide_eq_true hi, natge0, tonat, alsV_get, hy, alV_eq, exC_eq, gt0, ← hQ, List.length_append, List.length_cons, List.length_nil]
                    refine run_for (fun j => ⟨[(1, .ptr (.loc 1) 0), (8, .str (Q ++ y.con ++ Lib.joinTail [32] (y.vars.take j))), (9, .int .i64 i), (10, .int .i64 j)], [], [(1, [.int .i64 e.kind, .str e.name, .bool e.told, .int .i64 e.ty.kind, .str e.ty.name, .int .i64 e.ty.n, .slice (tysV e.ty.args), .slice (exsV e.kids), .slice (alsV e.alts)])], 1⟩) y.vars.length ?_ ?_ ?_
                    · simp only [go_sem, ↓reduceIte, Nat.reduceEqDiff, Int.cast_ofNat_Int, List.take_zero, Lib.joinTail, List.map_nil, List.flatten_nil, List.append_nil]
                    · intro j hj hr2
                      obtain ⟨v, hv⟩ : ∃ v, y.vars[j]? = some v := ⟨y.vars[j], List.getElem?_eq_getElem hj⟩
                      have w2 : IntKind.i64.wrap ((j : Int) + 1) = ((j + 1 : Nat) : Int) := wrapN (j + 1) (by omega)
                      have hjt := Lib.joinTail_take_succ [32] y.vars j v hv
                      have hjl2 := Lib.joinTail_take_le [32] y.vars (j + 1)
                      rw [hjt] at hjl2
                      simp only [List.length_append, List.length_cons, List.length_nil] at hjl2
                      simp (disch := ((try simp only [List.length_append, List.length_cons, List.length_nil]); omega)) only [go_sem, ↓reduceIte, Nat.reduceEqDiff, Nat.reduceAdd, Nat.one_ne_zero, le_str, natlt, List.length_map, decide_eq_true hj, natge0, tonat, alsV_get, strs_get, hy, hv, alV_eq, exC_eq, List.length_append, List.length_cons, List.length_nil]
                      refine hr2 _ ?_
                      simp only [go_sem, ↓reduceIte, Nat.reduceEqDiff, w2, hjt, List.append_assoc]
                    · simp (disch := ((try simp only [List.length_append, List.length_cons, List.length_nil]); omega)) only [go_sem, ↓reduceIte, Nat.reduceEqDiff, Nat.reduceAdd, Nat.reduceLeDiff, Nat.one_ne_zero, reduceCtorEq, beq_self_eq_true, decide_false, le_str, natlt, List.length_map, Nat.lt_irrefl, natge0, tonat, alsV_get, hy, alV_eq, exC_eq, List.take_length, d2, List.length_append, List.length_cons, List.length_nil]
                      refine hr _ ?_
                      simp only [go_sem, ↓reduceIte, Nat.reduceEqDiff, w1, hfin])
                · have htk : ss.take e.alts.length = ss := by rw [← g1]; exact List.take_length
                  simp (disch := ((try simp only [List.length_append, List.length_cons, List.length_nil]); omega)) only [go_sem, ↓reduceIte, Nat.reduceEqDiff, Nat.reduceAdd, Nat.one_ne_zero, beq_self_eq_true, decide_false, le_str, natlt, alsV_len, Nat.lt_irrefl, htk, List.length_append, List.length_cons, List.length_nil]
      · have k1 := kkE (b := 1) k5 (by decide)
        have k2 := kkE (b := 2) k5 (by decide)
        rw [k5] at h
        simp only [if_true] at h
        split at h
        · cases h
        · rename_i x y hxy
          have hk := kids2e_some hxy
          have hxt := kids_tot (e := e) (x := x) (by rw [hk]; simp)
          have hyt := kids_tot (e := e) (x := y) (by rw [hk]; simp)
          split at h
          · cases h
          · rename_i a ha
            split at h
            · cases h
            · rename_i b hb
              have d1 := ih x a (by omega) ha
              have d2 := ih y b (by omega) hb
              rw [exC_eq] at d1 d2
              cases ktold : e.told
              · rw [ktold] at h
                simp only [Bool.false_eq_true, if_false] at h
                obtain ⟨rfl, _⟩ := short_some h
                simp only [List.length_append, List.length_cons, List.length_nil] at hlen
                simp (disch := ((try simp only [List.length_append, List.length_cons, List.length_nil]); omega)) only [go_sem, ↓reduceIte, Nat.reduceEqDiff, Nat.reduceAdd, Nat.reduceLeDiff, Nat.zero_ne_one, Nat.one_ne_zero, reduceCtorEq, le_str, Tryz.f24, k1, k2, k3, k4, k5, hk, exsV_cons, exsV_nil, exC_eq, Int.le_refl, Int.toNat_zero, Int.toNat_one, Int.zero_le_ofNat, d1, d2, List.length_append, List.length_cons, List.length_nil, Nat.zero_add, List.append_assoc, List.cons_append]
              · rw [ktold] at h
                simp only [if_true] at h
                split at h
                · cases h
                · rename_i t htt
                  obtain ⟨rfl, _⟩ := short_some h
                  have d3 := rprint_den F e.ty t (by have := ex_ty_sz e; omega) htt
                  rw [tyV_eq] at d3
                  simp only [List.length_append, List.length_cons, List.length_nil] at hlen
                  simp (disch := ((try simp only [List.length_append, List.length_cons, List.length_nil]); omega)) only [go_sem, ↓reduceIte, Nat.reduceEqDiff, Nat.reduceAdd, Nat.reduceLeDiff, Nat.zero_ne_one, Nat.one_ne_zero, reduceCtorEq, le_str, Tryz.f24, k1, k2, k3, k4, k5, hk, exsV_cons, exsV_nil, exC_eq, Int.le_refl, Int.toNat_zero, Int.toNat_one, Int.zero_le_ofNat, d1, d2, d3, List.length_append, List.length_cons, List.length_nil, Nat.zero_add, List.append_assoc, List.cons_append]
    · have k1 := kkE (b := 1) k4 (by decide)
      have k2 := kkE (b := 2) k4 (by decide)
      rw [k4] at h
      simp only [if_true] at h
      split at h
      · cases h
      · rename_i x y hxy
        have hk := kids2e_some hxy
        have hxt := kids_tot (e := e) (x := x) (by rw [hk]; simp)
        have hyt := kids_tot (e := e) (x := y) (by rw [hk]; simp)
        split at h
        · cases h
        · rename_i a ha
          split at h
          · cases h
          · rename_i b hb
            obtain ⟨rfl, _⟩ := short_some h
            have d1 := ih x a (by omega) ha
            have d2 := ih y b (by omega) hb
            have e1 := wide_den x
            have e2 := wide_den y
            rw [exC_eq] at d1 d2 e1 e2
            have p1 := par_len (wideE x) a
            have p2 := par_len (wideE y || y.kind == 4) b
            simp only [List.length_append, List.length_cons, List.length_nil] at hlen
            cases wx : wideE x
            · cases wy : wideE y
              · cases y4 : y.kind == 4
                · simp only [wx, wy, y4, Bool.or_false] at e1 e2 p1 p2 hlen ⊢
                  simp (disch := ((try simp only [List.length_append, List.length_cons, List.length_nil]); omega)) only [go_sem, ↓reduceIte, Nat.reduceEqDiff, Nat.reduceAdd, Nat.reduceLeDiff, Nat.zero_ne_one, Nat.one_ne_zero, reduceCtorEq, beq_self_eq_true, le_str, Tryz.f24, par, k1, k2, k3, k4, y4, hk, exsV_cons, exsV_nil, exC_eq, Int.le_refl, Int.toNat_zero, Int.toNat_one, Int.zero_le_ofNat, d1, d2, e1, e2, List.length_append, List.length_cons, List.length_nil, Nat.zero_add, List.append_assoc, List.cons_append]
                · simp only [wx, wy, y4, Bool.or_true] at e1 e2 p1 p2 hlen ⊢
                  simp (disch := ((try simp only [List.length_append, List.length_cons, List.length_nil]); omega)) only [go_sem, ↓reduceIte, Nat.reduceEqDiff, Nat.reduceAdd, Nat.reduceLeDiff, Nat.zero_ne_one, Nat.one_ne_zero, reduceCtorEq, beq_self_eq_true, le_str, Tryz.f24, par, k1, k2, k3, k4, y4, hk, exsV_cons, exsV_nil, exC_eq, Int.le_refl, Int.toNat_zero, Int.toNat_one, Int.zero_le_ofNat, d1, d2, e1, e2, List.length_append, List.length_cons, List.length_nil, Nat.zero_add, List.append_assoc, List.cons_append]
              · simp only [wx, wy, Bool.true_or] at e1 e2 p1 p2 hlen ⊢
                simp (disch := ((try simp only [List.length_append, List.length_cons, List.length_nil]); omega)) only [go_sem, ↓reduceIte, Nat.reduceEqDiff, Nat.reduceAdd, Nat.reduceLeDiff, Nat.zero_ne_one, Nat.one_ne_zero, reduceCtorEq, le_str, Tryz.f24, par, k1, k2, k3, k4, hk, exsV_cons, exsV_nil, exC_eq, Int.le_refl, Int.toNat_zero, Int.toNat_one, Int.zero_le_ofNat, d1, d2, e1, e2, List.length_append, List.length_cons, List.length_nil, Nat.zero_add, List.append_assoc, List.cons_append]
            · cases wy : wideE y
              · cases y4 : y.kind == 4
                · simp only [wx, wy, y4, Bool.or_false] at e1 e2 p1 p2 hlen ⊢
                  simp (disch := ((try simp only [List.length_append, List.length_cons, List.length_nil]); omega)) only [go_sem, ↓reduceIte, Nat.reduceEqDiff, Nat.reduceAdd, Nat.reduceLeDiff, Nat.zero_ne_one, Nat.one_ne_zero, reduceCtorEq, beq_self_eq_true, le_str, Tryz.f24, par, k1, k2, k3, k4, y4, hk, exsV_cons, exsV_nil, exC_eq, Int.le_refl, Int.toNat_zero, Int.toNat_one, Int.zero_le_ofNat, d1, d2, e1, e2, List.length_append, List.length_cons, List.length_nil, Nat.zero_add, List.append_assoc, List.cons_append]
                · simp only [wx, wy, y4, Bool.or_true] at e1 e2 p1 p2 hlen ⊢
                  simp (disch := ((try simp only [List.length_append, List.length_cons, List.length_nil]); omega)) only [go_sem, ↓reduceIte, Nat.reduceEqDiff, Nat.reduceAdd, Nat.reduceLeDiff, Nat.zero_ne_one, Nat.one_ne_zero, reduceCtorEq, beq_self_eq_true, le_str, Tryz.f24, par, k1, k2, k3, k4, y4, hk, exsV_cons, exsV_nil, exC_eq, Int.le_refl, Int.toNat_zero, Int.toNat_one, Int.zero_le_ofNat, d1, d2, e1, e2, List.length_append, List.length_cons, List.length_nil, Nat.zero_add, List.append_assoc, List.cons_append]
              · simp only [wx, wy, Bool.true_or] at e1 e2 p1 p2 hlen ⊢
                simp (disch := ((try simp only [List.length_append, List.length_cons, List.length_nil]); omega)) only [go_sem, ↓reduceIte, Nat.reduceEqDiff, Nat.reduceAdd, Nat.reduceLeDiff, Nat.zero_ne_one, Nat.one_ne_zero, reduceCtorEq, le_str, Tryz.f24, par, k1, k2, k3, k4, hk, exsV_cons, exsV_nil, exC_eq, Int.le_refl, Int.toNat_zero, Int.toNat_one, Int.zero_le_ofNat, d1, d2, e1, e2, List.length_append, List.length_cons, List.length_nil, Nat.zero_add, List.append_assoc, List.cons_append]
  · have k1 := kkE (b := 1) k3 (by decide)
    have k2 := kkE (b := 2) k3 (by decide)
    rw [k3] at h
    simp only [if_true] at h
    split at h
    · cases h
    · rename_i x hx
      have hk := kids1e_some hx
      have hxt := kids_tot (e := e) (x := x) (by rw [hk]; simp)
      split at h
      · cases h
      · rename_i a ha
        obtain ⟨rfl, _⟩ := short_some h
        have d1 := ih x a (by omega) ha
        rw [exC_eq] at d1
        simp only [List.length_append, List.length_cons, List.length_nil] at hlen
        simp (disch := ((try simp only [List.length_append, List.length_cons, List.length_nil]); omega)) only [go_sem, ↓reduceIte, Nat.reduceEqDiff, Nat.reduceAdd, Nat.reduceLeDiff, Nat.zero_ne_one, Nat.one_ne_zero, reduceCtorEq, le_str, Tryz.f24, k1, k2, k3, hk, exsV_cons, exsV_nil, exC_eq, Int.le_refl, Int.toNat_zero, d1, List.length_append, List.length_cons, List.length_nil, Nat.zero_add, List.append_assoc, List.cons_append]
end Go.Proofs
namespace Go.Proofs
open Go.Av
set_option maxHeartbeats 16000000
set_option maxRecDepth 100000
end Go.Proofs
