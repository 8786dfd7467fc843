/- A text that is scanned, and one behind it, are scanned one behind the other; a type that is read, is read with more behind it. -/
import Derived.Test.YteidnocfcilajaaGreatDoorAvI
import Derived.Test.YteidnocfcilajaaGreatDoorAvG
namespace Go.Proofs
open Go.Av
set_option maxHeartbeats 16000000
set_option maxRecDepth 100000
/-! coercions -/
inductive Cx where
  | mk (kind : Int) (name : List UInt8) (n : Int) (ty : Ty) (kids : List Cx)
def Cx.kind : Cx → Int | .mk k _ _ _ _ => k
def Cx.name : Cx → List UInt8 | .mk _ s _ _ _ => s
def Cx.n : Cx → Int | .mk _ _ n _ _ => n
def Cx.ty : Cx → Ty | .mk _ _ _ t _ => t
def Cx.kids : Cx → List Cx | .mk _ _ _ _ l => l
def zCx : Cx := .mk 0 [] 0 zTy []
inductive KM where
  | co
  | con (acc : List Cx)
  | kids (n : Nat) (acc : List Cx)
end Go.Proofs
namespace Go.Proofs
open Go.Av
set_option maxHeartbeats 16000000
set_option maxRecDepth 100000
/-! terms -/
mutual
inductive Tm where
  | mk (kind : Int) (name : List UInt8) (ty : Ty) (co : Cx) (kids : List Tm) (alts : List Ta)
inductive Ta where
  | mk (con : List UInt8) (types : List (List UInt8)) (cos : List (List UInt8)) (vars : List (List UInt8)) (body : Tm)
end
def Tm.kind : Tm → Int | .mk k _ _ _ _ _ => k
def Tm.name : Tm → List UInt8 | .mk _ s _ _ _ _ => s
def Tm.ty : Tm → Ty | .mk _ _ t _ _ _ => t
def Tm.co : Tm → Cx | .mk _ _ _ c _ _ => c
def Tm.kids : Tm → List Tm | .mk _ _ _ _ l _ => l
def Tm.alts : Tm → List Ta | .mk _ _ _ _ _ l => l
def Ta.con : Ta → List UInt8 | .mk c _ _ _ _ => c
def Ta.types : Ta → List (List UInt8) | .mk _ v _ _ _ => v
def Ta.cos : Ta → List (List UInt8) | .mk _ _ v _ _ => v
def Ta.vars : Ta → List (List UInt8) | .mk _ _ _ v _ => v
def Ta.body : Ta → Tm | .mk _ _ _ _ e => e
inductive TrM where
  | term
  | form
  | alts (acc : List Ta)
/-! what is left of the tokens -/
end Go.Proofs
namespace Go.Proofs
open Go.Av
set_option maxHeartbeats 4000000
set_option maxRecDepth 100000
/-! the coercions that are read -/
inductive GC : Cx → Prop
  | var (s : List UInt8) : s.length ≤ 16 → GC (.mk 1 s 0 zTy [])
  | refl (t : Ty) : GT t → GC (.mk 2 [] 0 t [])
  | sym (x : Cx) : GC x → GC (.mk 3 [] 0 zTy [x])
  | trans (x y : Cx) : GC x → GC y → GC (.mk 4 [] 0 zTy [x, y])
  | con (s : List UInt8) (l : List Cx) : s.length ≤ 16 → (∀ x, x ∈ l → GC x) → GC (.mk 5 s 0 zTy l)
  | fn (x y : Cx) : GC x → GC y → GC (.mk 6 [] 0 zTy [x, y])
  | all (s : List UInt8) (x : Cx) : s.length ≤ 16 → GC x → GC (.mk 7 s 0 zTy [x])
  | nth (n : Int) (x : Cx) : 0 ≤ n → n < 1000000 → GC x → GC (.mk 8 [] n zTy [x])
  | inst (x : Cx) (t : Ty) : GC x → GT t → GC (.mk 9 [] 0 t [x])
mutual
def Cx.tot : Cx → Nat
  | .mk _ _ _ t ks => t.sz + Cx.tots ks
def Cx.tots : List Cx → Nat
  | [] => 0
  | e :: r => Cx.tot e + Cx.tots r
end
/-! numbers -/
/-! what comes of reading a coercion -/
/-! there is always an answer -/
end Go.Proofs
namespace Go.Proofs
open Go.Av
set_option maxHeartbeats 4000000
set_option maxRecDepth 100000
/-! the terms that are read -/
def N16 (l : List (List UInt8)) : Prop := ∀ v ∈ l, v.length ≤ 16
inductive GM : Tm → Prop
  | nam (k : Int) (s : List UInt8) : (k = 1 ∨ k = 2) → s.length ≤ 16 → GM (.mk k s zTy zCx [] [])
  | lam (s : List UInt8) (t : Ty) (x : Tm) : s.length ≤ 16 → GT t → GM x → GM (.mk 3 s t zCx [x] [])
  | tlam (s : List UInt8) (x : Tm) : s.length ≤ 16 → GM x → GM (.mk 4 s zTy zCx [x] [])
  | app (x y : Tm) : GM x → GM y → GM (.mk 5 [] zTy zCx [x, y] [])
  | tapp (t : Ty) (x : Tm) : GT t → GM x → GM (.mk 6 [] t zCx [x] [])
  | capp (c : Cx) (x : Tm) : GC c → GM x → GM (.mk 7 [] zTy c [x] [])
  | lett (s : List UInt8) (t : Ty) (x y : Tm) : s.length ≤ 16 → GT t → GM x → GM y → GM (.mk 8 s t zCx [x, y] [])
  | cas (t : Ty) (x : Tm) (al : List Ta) : GT t → GM x → (∀ a, a ∈ al → GM a.body) → (∀ a ∈ al, a.con.length ≤ 16 ∧ N16 a.types ∧ N16 a.cos ∧ N16 a.vars) → GM (.mk 9 [] t zCx [x] al)
  | cast (c : Cx) (x : Tm) : GC c → GM x → GM (.mk 10 [] zTy c [x] [])
mutual
def Tm.tot : Tm → Nat
  | .mk _ _ t c ks al => t.sz + c.tot + Tm.tots ks + Ta.tots al
def Tm.tots : List Tm → Nat
  | [] => 0
  | e :: r => Tm.tot e + Tm.tots r
def Ta.tot : Ta → Nat
  | .mk _ a b c e => Tm.tot e + a.length + b.length + c.length + 1
def Ta.tots : List Ta → Nat
  | [] => 0
  | a :: r => Ta.tot a + Ta.tots r
end
/-! names behind signs -/
/-! there is always an answer -/
end Go.Proofs
namespace Go.Proofs
open Go.Av
set_option maxHeartbeats 4000000
set_option maxRecDepth 100000
/-! coercions and terms as texts -/
/-! there is always a text -/
end Go.Proofs
namespace Go.Proofs
open Go.Av
set_option maxHeartbeats 4000000
set_option maxRecDepth 100000
/-! terms as texts: there is always one -/
/-! how deep -/
mutual
def Cx.tdep : Cx → Nat
  | .mk k _ _ t ks => max (if k == 2 || k == 9 then t.depth else 0) (Cx.tdeps ks)
def Cx.tdeps : List Cx → Nat
  | [] => 0
  | e :: r => max (Cx.tdep e) (Cx.tdeps r)
end
end Go.Proofs
namespace Go.Proofs
open Go.Av
set_option maxHeartbeats 4000000
set_option maxRecDepth 100000
/-! a text that was written is scanned to what it is of -/
def kt (t : Tok) : Int × List UInt8 := (t.kind, t.text)
/-- the scan, without places -/
def scanP : Nat → List UInt8 → Option (List (Int × List UInt8))
  | 0, _ => none
  | f + 1, s => match s.drop (gapN false s) with
    | [] => some []
    | c :: r => match tokS (c :: r) with
      | none => none
      | some (k, n) => match scanP f ((c :: r).drop n) with
        | none => none
        | some l => some ((k, (c :: r).take n) :: l)
theorem scanP_S : ∀ (f pos : Nat) (s : List UInt8) (k : List (Int × List UInt8)), scanP f s = some k → ∃ l, scanS f pos (s.drop (gapN false s)) = .ok l ∧ l.map kt = k
  | 0, _, _, _, h => by cases h
  | f + 1, pos, s, k, h => by
    simp only [scanP] at h
    generalize s.drop (gapN false s) = q at h ⊢
    cases q with
    | nil => simp only at h; injection h with h; subst h; exact ⟨[], rfl, rfl⟩
    | cons c r =>
      simp only at h
      split at h
      · cases h
      · rename_i k1 n ht
        split at h
        · cases h
        · rename_i l1 h1
          injection h with h; subst h
          obtain ⟨l, h2, h3⟩ := scanP_S f (pos + n + gapN false ((c :: r).drop n)) ((c :: r).drop n) l1 h1
          refine ⟨⟨k1, (c :: r).take n, pos⟩ :: l, ?_, by simp [kt, h3]⟩
          simp only [scanS, ht, h2]
theorem scanP_fuel : ∀ (f g : Nat) (s : List UInt8) (k : List (Int × List UInt8)), scanP f s = some k → f ≤ g → scanP g s = some k
  | 0, _, _, _, h, _ => by cases h
  | f + 1, g, s, k, h, hg => by
    obtain ⟨g, rfl⟩ : ∃ g', g = g' + 1 := ⟨g - 1, by omega⟩
    simp only [scanP] at h ⊢
    generalize s.drop (gapN false s) = q at h ⊢
    cases q with
    | nil => exact h
    | cons c r =>
      simp only at h ⊢
      split at h
      · cases h
      · rename_i k1 n ht
        split at h
        · cases h
        · rename_i l1 h1
          simp only [scanP_fuel f g _ _ h1 (by omega)]
          exact h
/-- does no word go on here? -/
def sepB : List UInt8 → Bool
  | [] => true
  | c :: _ => !wordB c
/-- x is scanned to k, whatever stands behind it (if b: that must not go on with a word) -/
def Lx (x : List UInt8) (k : List (Int × List UInt8)) (b : Bool) : Prop := ∀ f s l, (b = true → sepB s = true) → scanP f s = some l → ∃ g, scanP g (x ++ s) = some (k ++ l)
/-- how a text begins -/
def headSep (x : List UInt8) : Bool := match x with
  | [] => false
  | c :: _ => !wordB c
theorem Lx_append {x y : List UInt8} {k k' : List (Int × List UInt8)} {b b' : Bool} (hx : Lx x k b) (hy : Lx y k' b') (h : b = true → headSep y = true) : Lx (x ++ y) (k ++ k') b' := by
  intro f s l hs hl
  obtain ⟨g, hg⟩ := hy f s l hs hl
  obtain ⟨g2, hg2⟩ := hx g (y ++ s) (k' ++ l) (fun hb => by
    have := h hb
    cases y with
    | nil => simp [headSep] at this
    | cons c r => exact this) hg
  exact ⟨g2, by rw [List.append_assoc, List.append_assoc]; exact hg2⟩
theorem gap_space (s : List UInt8) : gapN false (32 :: s) = gapN false s + 1 := rfl
theorem Lx_space : Lx [32] [] false := fun f s l _ h => ⟨f, by
  cases f with
  | zero => cases h
  | succ f => simpa only [scanP, List.cons_append, List.nil_append, gap_space, List.drop_succ_cons] using h⟩
theorem tokS_ne {s : List UInt8} {k : Int} {n : Nat} (h : tokS s = some (k, n)) : gapN false s = 0 := by
  cases s with
  | nil => rfl
  | cons c r =>
    by_cases h1 : c = 35
    · subst h1; simp [tokS, lowerB, upperB, digitB, signs] at h
    · by_cases h2 : c = 10
      · subst h2; simp [tokS, lowerB, upperB, digitB, signs] at h
      · by_cases h3 : c = 32
        · subst h3; simp [tokS, lowerB, upperB, digitB, signs] at h
        · by_cases h4 : c = 9
          · subst h4; simp [tokS, lowerB, upperB, digitB, signs] at h
          · simp [gapN, h1, h2, h3, h4]
theorem Lx_tok {x : List UInt8} {k : Int} {b : Bool} (h : ∀ s, (b = true → sepB s = true) → tokS (x ++ s) = some (k, x.length)) : Lx x [(k, x)] b := by
  intro f s l hs hl
  have ht := h s hs
  have hle := tokS_le ht
  refine ⟨f + 1, ?_⟩
  have hg := tokS_ne ht
  cases x with
  | nil => simp at hle
  | cons c r =>
    simp only [List.cons_append] at ht hg ⊢
    simp only [scanP, hg, List.drop_zero, ht]
    have hd : (c :: (r ++ s)).drop (c :: r).length = s := by rw [← List.cons_append]; simp
    have htk : (c :: (r ++ s)).take (c :: r).length = c :: r := by rw [← List.cons_append]; simp
    simp only [hd, htk, hl, List.nil_append]
theorem Lx_sign (c : UInt8) (hs : signs.contains c = true) (h1 : (lowerB c || upperB c) = false) (h2 : digitB c = false) (h3 : (c == 63) = false) (h4 : c ≠ 45 ∧ c ≠ 124) : Lx [c] [(6, [c])] false := by
  refine Lx_tok fun s _ => ?_
  have h5 : ((c :: s).take 2 == [45, 62] || (c :: s).take 2 == [124, 62]) = false := by
    cases s with
    | nil => simp
    | cons d s => simp [h4.1, h4.2]
  simp only [List.cons_append, List.nil_append, tokS, List.headD_cons, h1, h2, h3, h5, hs, Bool.false_eq_true, if_false, if_true]
  rfl
theorem spanN_sep {p : UInt8 → Bool} : ∀ {x s : List UInt8}, spanN p x = x.length → (match s with | [] => true | c :: _ => !p c) = true → spanN p (x ++ s) = x.length
  | [], [], _, _ => rfl
  | [], c :: s, _, h => by simp only [List.nil_append, spanN]; rw [if_neg (by simpa using h)]; rfl
  | c :: x, s, hx, h => by
    simp only [spanN, List.length_cons] at hx
    split at hx
    · rename_i hc
      simp only [List.cons_append, spanN, hc, if_true, spanN_sep (by omega : spanN p x = x.length) h, List.length_cons]
    · omega
/-- a word of a kind -/
def isW (k : Int) (w : List UInt8) : Prop := tokS w = some (k, w.length) ∧ (lowerB (w.headD 0) || upperB (w.headD 0)) = true
theorem isW_span {k : Int} {w : List UInt8} (h : isW k w) : spanN wordB w = w.length ∧ w.length ≤ 16 ∧ kindS w = k ∧ w ≠ [] := by
  obtain ⟨h1, h2⟩ := h
  have hle := tokS_le h1
  unfold tokS at h1
  simp only [h2, if_true] at h1
  split at h1
  · cases h1
  · rename_i h3
    injection h1 with h1; injection h1 with h4 h5
    rw [h5, List.take_length] at h4
    exact ⟨h5, by omega, h4, fun h0 => by rw [h0] at hle; simp at hle⟩
theorem Lx_word {k : Int} {w : List UInt8} (h : isW k w) : Lx w [(k, w)] true := by
  obtain ⟨h1, h2, h3, h4⟩ := isW_span h
  refine Lx_tok fun s hs => ?_
  have hh : (w ++ s).headD 0 = w.headD 0 := by cases w with
    | nil => exact absurd rfl h4
    | cons c r => rfl
  have hsp : spanN wordB (w ++ s) = w.length := spanN_sep h1 (by
    have := hs rfl
    cases s with
    | nil => rfl
    | cons c s => exact this)
  unfold tokS
  simp only [hh, h.2, if_true, hsp]
  rw [if_neg (by omega), List.take_left', h3]
  rfl
/-- a keyword -/
theorem isW_kw {w : List UInt8} (h : decide (tokS w = some (3, w.length)) && (lowerB (w.headD 0) || upperB (w.headD 0)) = true) : isW 3 w := by
  simp only [Bool.and_eq_true, decide_eq_true_eq] at h
  exact h
end Go.Proofs
namespace Go.Proofs
open Go.Av
set_option maxHeartbeats 4000000
set_option maxRecDepth 100000
/-! numbers, written and read -/
/-! types, written and read -/
inductive WT : Ty → Prop
  | var (s : List UInt8) : isW 1 s → WT (.mk 1 s 0 [])
  | unk (n : Int) : 0 ≤ n → n < 1000000 → WT (.mk 2 [] n [])
  | con (s : List UInt8) (a : List Ty) : isW 2 s → (∀ x, x ∈ a → WT x) → WT (.mk 3 s 0 a)
  | fn (a b : Ty) : WT a → WT b → WT (.mk 4 [] 0 [a, b])
  | all (s : List UInt8) (t : Ty) : isW 1 s → WT t → WT (.mk 5 s 0 [t])
theorem WT.GT {t : Ty} (h : WT t) : GT t := by
  induction h with
  | var s h => exact .var s (isW_span h).2.1
  | unk n h1 h2 => exact .unk n h1 h2
  | con s a h _ ih => exact .con s a (isW_span h).2.1 ih
  | fn a b _ _ iha ihb => exact .fn a b iha ihb
  | all s t h _ ih => exact .all s t (isW_span h).2.1 ih
/-- no atom begins here -/
def fA (l : List Tok) : Bool := !(seesT l 1 [] || (seesT l 5 [] || (seesT l 2 [] || seesT l 6 [40])))
def fT (l : List Tok) : Bool := fA l && !seesT l 6 [45, 62]
theorem map_cons' {l : List Tok} {a : Int × List UInt8} {k : List (Int × List UInt8)} (h : l.map kt = a :: k) : ∃ t q, l = t :: q ∧ t.kind = a.1 ∧ t.text = a.2 ∧ q.map kt = k := by
  cases l with
  | nil => cases h
  | cons t q =>
    simp only [List.map_cons, List.cons.injEq] at h
    exact ⟨t, q, rfl, by rw [← h.1]; rfl, by rw [← h.1]; rfl, h.2⟩
theorem map_app' {l : List Tok} {a b : List (Int × List UInt8)} (h : l.map kt = a ++ b) : ∃ p q, l = p ++ q ∧ p.map kt = a ∧ q.map kt = b := List.map_eq_append_iff.1 h
end Go.Proofs
namespace Go.Proofs
open Go.Av
set_option maxHeartbeats 4000000
set_option maxRecDepth 100000
/-! types: what is written is read -/
end Go.Proofs
namespace Go.Proofs
open Go.Av
set_option maxHeartbeats 4000000
set_option maxRecDepth 100000
/-! a text that is scanned, with a line's end behind it -/
theorem spanN_nl {p : UInt8 → Bool} (hp : p 10 = false) (r : List UInt8) : ∀ s : List UInt8, spanN p (s ++ 10 :: r) = spanN p s
  | [] => by simp [spanN, hp]
  | c :: s => by simp only [List.cons_append, spanN, spanN_nl hp r s]
theorem wordB10 : wordB 10 = false := by decide
theorem digitB10 : digitB 10 = false := by decide
theorem numberS_nl (s r : List UInt8) : numberS (s ++ 10 :: r) = numberS s := by
  unfold numberS
  rw [spanN_nl digitB10]
  cases s with
  | nil => simp [spanN]
  | cons c s => simp
theorem take2_nl (a b : UInt8) (ha : a ≠ 10) (hb : b ≠ 10) (s r : List UInt8) : ((s ++ 10 :: r).take 2 == [a, b]) = (s.take 2 == [a, b]) := by
  match s with
  | [] => simp [ha.symm]
  | [c] => simp [hb.symm]
  | c :: d :: s => simp
theorem tokS_nl {s : List UInt8} {k : Int} {n : Nat} (h : tokS s = some (k, n)) (r : List UInt8) : tokS (s ++ 10 :: r) = some (k, n) := by
  have hle := tokS_le h
  have hne : s ≠ [] := fun e => by rw [e] at hle; have h1 := hle.2; simp at h1; omega
  have hh : (s ++ 10 :: r).headD 0 = s.headD 0 := by cases s with
    | nil => exact absurd rfl hne
    | cons c s => rfl
  have hd : (s ++ 10 :: r).drop 1 = s.drop 1 ++ 10 :: r := by cases s with
    | nil => exact absurd rfl hne
    | cons c s => rfl
  have ht : (s ++ 10 :: r).take (spanN wordB s) = s.take (spanN wordB s) := by
    have := spanN_le wordB s
    rw [List.take_append_of_le_length this]
  unfold tokS at h ⊢
  simp only at h ⊢
  rw [hh, hd, spanN_nl wordB10, numberS_nl, numberS_nl, ht, take2_nl 45 62 (by decide) (by decide), take2_nl 124 62 (by decide) (by decide)]
  exact h
theorem gap_nl (r : List UInt8) : ∀ (s : List UInt8) (rm : Bool), gapN rm (s ++ 10 :: r) = if gapN rm s < s.length then gapN rm s else s.length + 1 + gapN false r
  | [], rm => by
    simp only [List.nil_append, gapN, List.length_nil, Nat.lt_irrefl, if_false]
    have : ((10 : UInt8) == 35) = false := by decide
    simp only [this, Bool.false_eq_true, if_false, beq_self_eq_true, if_true]; omega
  | c :: s, rm => by
    have h1 := gap_nl r s true; have h2 := gap_nl r s false; have h3 := gap_nl r s rm
    simp only [List.cons_append, gapN, List.length_cons]
    split
    · rw [h1]; split <;> split <;> omega
    · split
      · rw [h2]; split <;> split <;> omega
      · split
        · simp
        · rw [h3]; split <;> split <;> omega
theorem scanP_nl : ∀ (f : Nat) (s : List UInt8) (k : List (Int × List UInt8)), scanP f s = some k → ∀ (g : Nat) (r : List UInt8) (l : List (Int × List UInt8)), scanP g r = some l → ∃ h, scanP h (s ++ 10 :: r) = some (k ++ l)
  | 0, _, _, h => by cases h
  | f + 1, s, k, h => by
    intro g r l hr
    simp only [scanP] at h
    have hle := gapN_le s false
    by_cases hlt : gapN false s < s.length
    · have hgap : gapN false (s ++ 10 :: r) = gapN false s := by rw [gap_nl, if_pos hlt]
      have hdr : (s ++ 10 :: r).drop (gapN false s) = s.drop (gapN false s) ++ 10 :: r := List.drop_append_of_le_length hle
      generalize hq : s.drop (gapN false s) = q at h hdr
      cases q with
      | nil => have := congrArg List.length hq; simp at this; omega
      | cons c q =>
        simp only at h
        split at h
        · cases h
        · rename_i k1 n ht
          split at h
          · cases h
          · rename_i l1 h1
            injection h with h; subst h
            have hn := tokS_le ht
            obtain ⟨h2, h3⟩ := scanP_nl f _ _ h1 g r l hr
            refine ⟨h2 + 1, ?_⟩
            have e1 : (c :: (q ++ 10 :: r)).drop n = (c :: q).drop n ++ 10 :: r := by rw [← List.cons_append]; exact List.drop_append_of_le_length hn.2
            have e2 : (c :: (q ++ 10 :: r)).take n = (c :: q).take n := by rw [← List.cons_append]; exact List.take_append_of_le_length hn.2
            have ht' := tokS_nl ht r
            rw [List.cons_append] at ht'
            simp only [scanP, hgap, hdr, List.cons_append, ht', e1, e2, h3]
    · have hq : s.drop (gapN false s) = [] := List.drop_eq_nil_of_le (by omega)
      rw [hq] at h
      simp only at h; injection h with h; subst h
      obtain ⟨g, rfl⟩ : ∃ g', g = g' + 1 := by cases g with
        | zero => cases hr
        | succ g => exact ⟨g, rfl⟩
      refine ⟨g + 1, ?_⟩
      have hgap : gapN false (s ++ 10 :: r) = s.length + 1 + gapN false r := by rw [gap_nl, if_neg hlt]
      have hdr : (s ++ 10 :: r).drop (s.length + 1 + gapN false r) = r.drop (gapN false r) := by
        rw [show s.length + 1 + gapN false r = s.length + (1 + gapN false r) by omega, List.drop_length_add_append, Nat.add_comm, List.drop_succ_cons]
      simp only [scanP] at hr ⊢
      rw [hgap, hdr]
      simpa using hr
theorem Lx_nl {f : Nat} {s : List UInt8} {k : List (Int × List UInt8)} (h : scanP f s = some k) : Lx (s ++ [10]) k false := by
  intro g r l _ hr
  rw [List.append_assoc]
  exact scanP_nl f s k h g r l hr
/-- the scan with places is that without -/
theorem scanS_P : ∀ (f pos : Nat) (s : List UInt8) (l : List Tok), scanS f pos (s.drop (gapN false s)) = .ok l → scanP f s = some (l.map kt)
  | 0, _, _, _, h => by cases h
  | f + 1, pos, s, l, h => by
    simp only [scanP]
    generalize s.drop (gapN false s) = q at h ⊢
    cases q with
    | nil => simp only [scanS] at h; injection h with h; subst h; rfl
    | cons c r =>
      simp only [scanS] at h ⊢
      split at h
      · cases h
      · rename_i k n ht
        split at h
        · rename_i l1 h1
          injection h with h; subst h
          rw [ht]
          simp only
          rw [scanS_P f _ _ _ h1]
          simp [kt]
        · cases h
/-! a type that is read with nothing behind it, with more behind it -/
theorem sees_app {l : List Tok} (h : l ≠ []) (rest : List Tok) (k : Int) (s : List UInt8) : seesT (l ++ rest) k s = seesT l k s := by
  cases l with
  | nil => exact absurd rfl h
  | cons t l => rfl
theorem text_app {l : List Tok} (h : l ≠ []) (rest : List Tok) : textT (l ++ rest) = textT l := by
  cases l with
  | nil => exact absurd rfl h
  | cons t l => rfl
theorem tail_app {l : List Tok} (h : l ≠ []) (rest : List Tok) : (l ++ rest).tail = l.tail ++ rest := by
  cases l with
  | nil => exact absurd rfl h
  | cons t l => rfl
theorem sees_nil (k : Int) (s : List UInt8) : seesT [] k s = false := rfl
theorem sees_ne {l : List Tok} {k : Int} {s : List UInt8} (h : seesT l k s = true) : l ≠ [] := fun e => by rw [e] at h; cases h
theorem names_app : ∀ {l : List Tok} (rest : List Tok), l.drop (namesT l).length ≠ [] → namesT (l ++ rest) = namesT l ∧ (l ++ rest).drop (namesT l).length = l.drop (namesT l).length ++ rest
  | [], _, h => absurd rfl h
  | t :: l, rest, h => by
    by_cases ht : (t.kind == 1) = true
    · simp only [namesT, ht, if_true, List.length_cons, List.drop_succ_cons, List.cons_append] at h ⊢
      obtain ⟨h1, h2⟩ := names_app rest h
      exact ⟨by rw [h1], h2⟩
    · simp [namesT, ht]
theorem app_ne {f : Nat} {l l' : List Tok} {t : Ty} (h : tyR f .app l = some (t, true, l')) : l ≠ [] := by
  intro e; subst e
  cases f with
  | zero => cases h
  | succ f =>
    simp only [tyR, sees_nil, Bool.false_eq_true, if_false] at h
    cases f with
    | zero => cases h
    | succ f => simp [tyR, sees_nil] at h
theorem tyR_more : ∀ (f : Nat) (m : TM) (l : List Tok) (t : Ty) (l' rest : List Tok), fT rest = true → tyR f m l = some (t, true, l') → tyR f m (l ++ rest) = some (t, true, l' ++ rest) := by
  intro f
  induction f with
  | zero => intro m l t l' rest _ h; cases h
  | succ f ih =>
    intro m l t l' rest hr h
    have hr' := hr
    simp only [fT, fA, Bool.and_eq_true, Bool.not_eq_true', Bool.or_eq_false_iff] at hr'
    obtain ⟨⟨r1, r2, r3, r4⟩, r5⟩ := hr'
    have arrow : ∀ q : List Tok, seesT (q ++ rest) 6 [45, 62] = seesT q 6 [45, 62] := fun q => by
      cases q with
      | nil => rw [List.nil_append, r5]; rfl
      | cons c q => rfl
    cases m with
    | typ =>
      simp only [tyR] at h ⊢
      by_cases h1 : seesT l 3 [102, 111, 114, 97, 108, 108] = true
      · have hne := sees_ne h1
        rw [if_pos h1] at h
        rw [sees_app hne, if_pos h1, tail_app hne]
        exact ih _ _ _ _ _ hr h
      · rw [if_neg h1] at h
        cases ha : tyR f .app l with
        | none => rw [ha] at h; cases h
        | some x =>
          obtain ⟨a, ok, l1⟩ := x
          rw [ha] at h
          simp only at h
          cases ok with
          | false => simp at h
          | true =>
            have hne := app_ne ha
            rw [sees_app hne, if_neg h1, ih _ _ _ _ _ hr ha]
            simp only [if_true] at h ⊢
            rw [arrow]
            by_cases h2 : seesT l1 6 [45, 62] = true
            · rw [if_pos h2] at h ⊢
              rw [tail_app (sees_ne h2)]
              cases hb : tyR f .typ l1.tail with
              | none => rw [hb] at h; cases h
              | some y =>
                obtain ⟨b, ok2, l2⟩ := y
                rw [hb] at h
                simp only [Option.some.injEq, Prod.mk.injEq] at h
                obtain ⟨e1, e2, e3⟩ := h
                subst e2 e3
                rw [ih _ _ _ _ _ hr hb]
                simp [e1]
            · rw [if_neg h2] at h ⊢
              simp only [Option.some.injEq, Prod.mk.injEq] at h ⊢
              exact ⟨h.1, trivial, by rw [h.2.2]⟩
    | all =>
      simp only [tyR] at h ⊢
      by_cases h1 : seesT (l.drop (namesT l).length) 6 [46] = true
      · obtain ⟨n1, n2⟩ := names_app rest (sees_ne h1)
        rw [if_pos h1] at h
        rw [n1, n2, sees_app (sees_ne h1), if_pos h1, tail_app (sees_ne h1)]
        cases hn : namesT l with
        | nil => rw [hn] at h; simp at h
        | cons n ns =>
          rw [hn] at h
          simp only at h ⊢
          simp only [List.length_cons] at h ⊢
          cases hb : tyR f .typ (l.drop (ns.length + 1)).tail with
          | none => rw [hb] at h; cases h
          | some y =>
            obtain ⟨b, ok2, l2⟩ := y
            rw [hb] at h
            simp only [Option.some.injEq, Prod.mk.injEq] at h
            obtain ⟨e1, e2, e3⟩ := h
            subst e2 e3
            rw [ih _ _ _ _ _ hr hb]
            simp [← e1]
      · rw [if_neg h1] at h
        simp at h
    | app =>
      have hne : l ≠ [] := app_ne h
      simp only [tyR] at h ⊢
      rw [sees_app hne, text_app hne, tail_app hne]
      split at h
      · rename_i h1; rw [if_pos h1]; exact ih _ _ _ _ _ hr h
      · rename_i h1; rw [if_neg h1]; exact ih _ _ _ _ _ hr h
    | loop name acc =>
      simp only [tyR] at h ⊢
      have hs : (seesT (l ++ rest) 1 [] || (seesT (l ++ rest) 5 [] || (seesT (l ++ rest) 2 [] || seesT (l ++ rest) 6 [40]))) = (seesT l 1 [] || (seesT l 5 [] || (seesT l 2 [] || seesT l 6 [40]))) := by
        cases l with
        | nil => rw [List.nil_append, r1, r2, r3, r4]; rfl
        | cons c l => rfl
      rw [hs]
      split at h
      · rename_i h1
        rw [if_pos h1]
        cases ha : tyR f .atom l with
        | none => rw [ha] at h; cases h
        | some x =>
          obtain ⟨a, ok, l1⟩ := x
          rw [ha] at h
          simp only at h
          cases ok with
          | false => simp at h
          | true =>
            rw [ih _ _ _ _ _ hr ha]
            simp only [if_true] at h ⊢
            exact ih _ _ _ _ _ hr h
      · rename_i h1
        rw [if_neg h1]
        simp only [Option.some.injEq, Prod.mk.injEq] at h ⊢
        exact ⟨h.1, trivial, by rw [h.2.2]⟩
    | atom =>
      have hne : l ≠ [] := by
        intro e; subst e
        simp [tyR, sees_nil] at h
      simp only [tyR] at h ⊢
      simp only [sees_app hne, text_app hne, tail_app hne]
      split at h
      · rename_i h1; rw [if_pos h1]
        simp only [Option.some.injEq, Prod.mk.injEq] at h ⊢
        exact ⟨h.1, trivial, by rw [h.2.2]⟩
      · rename_i h1; rw [if_neg h1]
        split at h
        · rename_i h2; rw [if_pos h2]
          simp only [Option.some.injEq, Prod.mk.injEq] at h ⊢
          exact ⟨h.1, trivial, by rw [h.2.2]⟩
        · rename_i h2; rw [if_neg h2]
          split at h
          · rename_i h3; rw [if_pos h3]
            simp only [Option.some.injEq, Prod.mk.injEq] at h ⊢
            exact ⟨h.1, trivial, by rw [h.2.2]⟩
          · rename_i h3; rw [if_neg h3]
            split at h
            · rename_i h4; rw [if_pos h4]
              cases ha : tyR f .typ l.tail with
              | none => rw [ha] at h; cases h
              | some x =>
                obtain ⟨a, ok, l1⟩ := x
                rw [ha] at h
                simp only at h
                cases ok with
                | false => simp at h
                | true =>
                  rw [ih _ _ _ _ _ hr ha]
                  simp only [if_true, Option.some.injEq, Prod.mk.injEq] at h ⊢
                  obtain ⟨e1, e2, e3⟩ := h
                  rw [sees_app (sees_ne e2), e2]
                  rw [e2] at e3
                  simp only [if_true] at e3 ⊢
                  exact ⟨e1, trivial, by rw [tail_app (sees_ne e2), e3]⟩
            · simp at h
end Go.Proofs
namespace Go.Proofs
open Go.Av
set_option maxHeartbeats 4000000
set_option maxRecDepth 100000
theorem scanO_P {s : List UInt8} {l : List Tok} (h : scanO s = (l, 0)) : scanP (s.length + 1) s = some (l.map kt) ∧ s.length ≤ 4000 := by
  unfold scanO at h
  split at h
  · injection h with _ h; cases h
  · rename_i hl
    cases hs : scanS (s.length + 1) (gapN false s) (s.drop (gapN false s)) with
    | ok l' =>
      rw [hs] at h
      injection h with h _; subst h
      exact ⟨scanS_P _ _ _ _ hs, by omega⟩
    | error p => rw [hs] at h; injection h with _ h; cases h
theorem P_scanO {f : Nat} {s : List UInt8} {k : List (Int × List UInt8)} (hl : s.length ≤ 4000) (h : scanP f s = some k) : ∃ l, scanO s = (l, 0) ∧ l.map kt = k := by
  have h1 := scanP_fuel f (max f (s.length + 1)) s k h (by omega)
  obtain ⟨l, h2, h3⟩ := scanP_S _ (gapN false s) s k h1
  have hd : (s.drop (gapN false s)).length ≤ s.length := by simp
  rw [scanS_fuel _ (s.length + 1) _ _ (by omega) (by omega)] at h2
  refine ⟨l, ?_, h3⟩
  unfold scanO
  rw [if_neg (by omega), h2]
/-! places do not matter for what is read -/
def zTok (t : Tok) : Tok := ⟨t.kind, t.text, 0⟩
theorem sees_z (l : List Tok) (k : Int) (s : List UInt8) : seesT (l.map zTok) k s = seesT l k s := by cases l <;> rfl
theorem text_z (l : List Tok) : textT (l.map zTok) = textT l := by cases l <;> rfl
theorem names_z : ∀ l : List Tok, namesT (l.map zTok) = namesT l
  | [] => rfl
  | t :: l => by simp only [List.map_cons, namesT, names_z l]; rfl
theorem tail_z (l : List Tok) : (l.map zTok).tail = l.tail.map zTok := by cases l <;> rfl
theorem drop_z (l : List Tok) (n : Nat) : (l.map zTok).drop n = (l.drop n).map zTok := (List.map_drop ..).symm
def zRes (x : Ty × Bool × List Tok) : Ty × Bool × List Tok := (x.1, x.2.1, x.2.2.map zTok)
theorem tyR_z : ∀ (f : Nat) (m : TM) (l : List Tok), tyR f m (l.map zTok) = (tyR f m l).map zRes := by
  intro f
  induction f with
  | zero => intro m l; rfl
  | succ f ih =>
    intro m l
    cases m with
    | typ =>
      simp only [tyR, sees_z, tail_z, ih]
      split
      · rfl
      · cases tyR f .app l with
        | none => rfl
        | some x =>
          obtain ⟨a, ok, l1⟩ := x
          simp only [Option.map_some, zRes, sees_z, tail_z, ih]
          split
          · split
            · cases tyR f .typ l1.tail <;> rfl
            · rfl
          · rfl
    | all =>
      simp only [tyR, sees_z, names_z, tail_z, drop_z, ih]
      split
      · cases hn : namesT l with
        | nil => rfl
        | cons n ns =>
          simp only
          cases tyR f .typ (l.drop (n :: ns).length).tail <;> rfl
      · rfl
    | app =>
      simp only [tyR, sees_z, text_z, tail_z, ih]
      split <;> rfl
    | loop name acc =>
      simp only [tyR, sees_z, ih]
      split
      · cases tyR f .atom l with
        | none => rfl
        | some x =>
          obtain ⟨a, ok, l1⟩ := x
          simp only [Option.map_some, zRes, ih]
          split <;> rfl
      · rfl
    | atom =>
      simp only [tyR, sees_z, text_z, tail_z, ih]
      split
      · rfl
      · split
        · rfl
        · split
          · rfl
          · split
            · cases tyR f .typ l.tail with
              | none => rfl
              | some x =>
                obtain ⟨a, ok, l1⟩ := x
                simp only [Option.map_some, zRes, sees_z, tail_z]
                split
                · split <;> rfl
                · rfl
            · rfl
theorem z_of_kt {p l : List Tok} (h : p.map kt = l.map kt) : p.map zTok = l.map zTok := by
  have e : ∀ q : List Tok, q.map zTok = (q.map kt).map fun x => (⟨x.1, x.2, 0⟩ : Tok) := fun q => by simp [zTok, kt]
  rw [e, e, h]
theorem tyR_kt {f : Nat} {p l : List Tok} {t : Ty} (h : p.map kt = l.map kt) (hr : tyR f .typ l = some (t, true, [])) : tyR f .typ p = some (t, true, []) := by
  have h1 := tyR_z f .typ l
  rw [hr, ← z_of_kt h, tyR_z] at h1
  cases hp : tyR f .typ p with
  | none => rw [hp] at h1; cases h1
  | some x =>
    obtain ⟨a, ok, l1⟩ := x
    rw [hp] at h1
    simp only [Option.map_some, zRes, Option.some.injEq, Prod.mk.injEq, List.map_nil, List.map_eq_nil_iff] at h1
    rw [h1.1, h1.2.1, h1.2.2]
/-! the text of a data declaration -/
def parT : Nat → List UInt8
  | 0 => []
  | n + 1 => parT n ++ [32, UInt8.ofNat (97 + n)]
def parN : Nat → List (List UInt8)
  | 0 => []
  | n + 1 => parN n ++ [[UInt8.ofNat (97 + n)]]
theorem parW (n : Nat) (h : n < 6) : isW 1 [UInt8.ofNat (97 + n)] := by
  have : n = 0 ∨ n = 1 ∨ n = 2 ∨ n = 3 ∨ n = 4 ∨ n = 5 := by omega
  unfold isW
  rcases this with h | h | h | h | h | h <;> subst h <;> decide
theorem parT_len : ∀ n, (parT n).length = 2 * n
  | 0 => rfl
  | n + 1 => by simp [parT, parT_len n]; omega
theorem parN_len : ∀ n, (parN n).length = n
  | 0 => rfl
  | n + 1 => by simp [parN, parN_len n]
theorem par_Lx : ∀ n, n ≤ 6 → Lx (parT n ++ [32]) ((parN n).map fun x => ((1 : Int), x)) false
  | 0, _ => Lx_space
  | n + 1, h => by
    have h1 := par_Lx n (by omega)
    have h2 := Lx_append (Lx_append h1 (Lx_word (parW n (by omega))) (fun h => by cases h)) Lx_space (fun _ => rfl)
    simpa [parT, parN, List.append_assoc] using h2
theorem par_head (n : Nat) : headSep (parT n ++ [32]) = true := by
  cases n with
  | zero => rfl
  | succ n =>
    induction n with
    | zero => rfl
    | succ n ih => 
      have : ∀ m, 0 < m → ∃ r, parT m = 32 :: r := by
        intro m hm
        induction m with
        | zero => omega
        | succ m ihm =>
          by_cases h0 : m = 0
          · subst h0; exact ⟨_, rfl⟩
          · obtain ⟨r, hr⟩ := ihm (by omega)
            exact ⟨r ++ [32, UInt8.ofNat (97 + m)], by simp [parT, hr]⟩
      obtain ⟨r, hr⟩ := this (n + 1 + 1) (by omega)
      rw [hr]; rfl
def dataT (n : Nat) (s r : List UInt8) : List UInt8 := [100, 97, 116, 97, 32, 68] ++ parT n ++ [32, 123, 32, 75, 32, 58, 32] ++ s ++ [10, 59, 32, 76, 58] ++ r ++ [10, 125]
def dataK (n : Nat) (ks kr : List (Int × List UInt8)) : List (Int × List UInt8) :=
  (3, [100, 97, 116, 97]) :: (2, [68]) :: ((parN n).map (fun x => ((1 : Int), x)) ++ (6, [123]) :: (2, [75]) :: (6, [58]) :: (ks ++ (6, [59]) :: (2, [76]) :: (6, [58]) :: (kr ++ [(6, [125])])))
theorem data_Lx {n : Nat} (hn : n ≤ 6) {f g : Nat} {s r : List UInt8} {ks kr : List (Int × List UInt8)} (hs : scanP f s = some ks) (hr : scanP g r = some kr) : ∃ h, scanP h (dataT n s r) = some (dataK n ks kr) := by
  have sg : ∀ c : UInt8, signs.contains c = true → (lowerB c || upperB c) = false → digitB c = false → (c == 63) = false → c ≠ 45 ∧ c ≠ 124 → Lx [c] [(6, [c])] false := Lx_sign
  have w1 : Lx [100, 97, 116, 97] [(3, [100, 97, 116, 97])] true := Lx_word (isW_kw (by decide))
  have w2 : Lx [68] [(2, [68])] true := Lx_word ⟨by decide, by decide⟩
  have w3 : Lx [75] [(2, [75])] true := Lx_word ⟨by decide, by decide⟩
  have w4 : Lx [76] [(2, [76])] true := Lx_word ⟨by decide, by decide⟩
  have a1 := Lx_append (Lx_append w1 Lx_space (fun _ => rfl)) w2 (fun h => by cases h)
  have a2 := Lx_append a1 (par_Lx n hn) (fun _ => par_head n)
  have a3 := Lx_append (Lx_append a2 (sg 123 (by decide) (by decide) (by decide) (by decide) (by decide)) (fun h => by cases h)) Lx_space (fun h => by cases h)
  have a4 := Lx_append (Lx_append a3 w3 (fun h => by cases h)) Lx_space (fun _ => rfl)
  have a5 := Lx_append (Lx_append a4 (sg 58 (by decide) (by decide) (by decide) (by decide) (by decide)) (fun h => by cases h)) Lx_space (fun h => by cases h)
  have a6 := Lx_append a5 (Lx_nl hs) (fun h => by cases h)
  have a7 := Lx_append (Lx_append a6 (sg 59 (by decide) (by decide) (by decide) (by decide) (by decide)) (fun h => by cases h)) Lx_space (fun h => by cases h)
  have a8 := Lx_append (Lx_append a7 w4 (fun h => by cases h)) (sg 58 (by decide) (by decide) (by decide) (by decide) (by decide)) (fun _ => by decide)
  have a9 := Lx_append (Lx_append a8 (Lx_nl hr) (fun h => by cases h)) (sg 125 (by decide) (by decide) (by decide) (by decide) (by decide)) (fun h => by cases h)
  obtain ⟨h, hh⟩ := a9 1 [] [] (fun h => by cases h) rfl
  refine ⟨h, ?_⟩
  simpa [dataT, dataK, List.append_assoc] using hh
end Go.Proofs
