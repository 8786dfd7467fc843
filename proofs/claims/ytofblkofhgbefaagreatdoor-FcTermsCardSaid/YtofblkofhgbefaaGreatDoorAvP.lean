/- What is written is scanned and read again. -/
import Derived.Test.YtofblkofhgbefaaGreatDoorAvJ
import Derived.Test.YtofblkofhgbefaaGreatDoorAvL
namespace Go.Proofs
open Go.Av
set_option maxHeartbeats 4000000
set_option maxRecDepth 100000
/-! a text that was written is scanned to what it is of -/
def kt (t : Tok) : Int × List UInt8 := (t.kind, t.text)
/-- the scan, without places -/
def scanP : Nat → List UInt8 → Option (List (Int × List UInt8))
  | 0, _ => none
  | f + 1, s => match s.drop (gapN false s) with
    | [] => some []
    | c :: r => match tokS (c :: r) with
      | none => none
      | some (k, n) => match scanP f ((c :: r).drop n) with
        | none => none
        | some l => some ((k, (c :: r).take n) :: l)
theorem scanP_S : ∀ (f pos : Nat) (s : List UInt8) (k : List (Int × List UInt8)), scanP f s = some k → ∃ l, scanS f pos (s.drop (gapN false s)) = .ok l ∧ l.map kt = k
  | 0, _, _, _, h => by cases h
  | f + 1, pos, s, k, h => by
    simp only [scanP] at h
    generalize s.drop (gapN false s) = q at h ⊢
    cases q with
    | nil => simp only at h; injection h with h; subst h; exact ⟨[], rfl, rfl⟩
    | cons c r =>
      simp only at h
      split at h
      · cases h
      · rename_i k1 n ht
        split at h
        · cases h
        · rename_i l1 h1
          injection h with h; subst h
          obtain ⟨l, h2, h3⟩ := scanP_S f (pos + n + gapN false ((c :: r).drop n)) ((c :: r).drop n) l1 h1
          refine ⟨⟨k1, (c :: r).take n, pos⟩ :: l, ?_, by simp [kt, h3]⟩
          simp only [scanS, ht, h2]
theorem scanP_fuel : ∀ (f g : Nat) (s : List UInt8) (k : List (Int × List UInt8)), scanP f s = some k → f ≤ g → scanP g s = some k
  | 0, _, _, _, h, _ => by cases h
  | f + 1, g, s, k, h, hg => by
    obtain ⟨g, rfl⟩ : ∃ g', g = g' + 1 := ⟨g - 1, by omega⟩
    simp only [scanP] at h ⊢
    generalize s.drop (gapN false s) = q at h ⊢
    cases q with
    | nil => exact h
    | cons c r =>
      simp only at h ⊢
      split at h
      · cases h
      · rename_i k1 n ht
        split at h
        · cases h
        · rename_i l1 h1
          simp only [scanP_fuel f g _ _ h1 (by omega)]
          exact h
/-- does no word go on here? -/
def sepB : List UInt8 → Bool
  | [] => true
  | c :: _ => !wordB c
/-- x is scanned to k, whatever stands behind it (if b: that must not go on with a word) -/
def Lx (x : List UInt8) (k : List (Int × List UInt8)) (b : Bool) : Prop := ∀ f s l, (b = true → sepB s = true) → scanP f s = some l → ∃ g, scanP g (x ++ s) = some (k ++ l)
/-- how a text begins -/
def headSep (x : List UInt8) : Bool := match x with
  | [] => false
  | c :: _ => !wordB c
theorem Lx_append {x y : List UInt8} {k k' : List (Int × List UInt8)} {b b' : Bool} (hx : Lx x k b) (hy : Lx y k' b') (h : b = true → headSep y = true) : Lx (x ++ y) (k ++ k') b' := by
  intro f s l hs hl
  obtain ⟨g, hg⟩ := hy f s l hs hl
  obtain ⟨g2, hg2⟩ := hx g (y ++ s) (k' ++ l) (fun hb => by
    have := h hb
    cases y with
    | nil => simp [headSep] at this
    | cons c r => exact this) hg
  exact ⟨g2, by rw [List.append_assoc, List.append_assoc]; exact hg2⟩
theorem gap_space (s : List UInt8) : gapN false (32 :: s) = gapN false s + 1 := rfl
theorem Lx_space : Lx [32] [] false := fun f s l _ h => ⟨f, by
  cases f with
  | zero => cases h
  | succ f => simpa only [scanP, List.cons_append, List.nil_append, gap_space, List.drop_succ_cons] using h⟩
theorem tokS_ne {s : List UInt8} {k : Int} {n : Nat} (h : tokS s = some (k, n)) : gapN false s = 0 := by
  cases s with
  | nil => rfl
  | cons c r =>
    by_cases h1 : c = 35
    · subst h1; simp [tokS, lowerB, upperB, digitB, signs] at h
    · by_cases h2 : c = 10
      · subst h2; simp [tokS, lowerB, upperB, digitB, signs] at h
      · by_cases h3 : c = 32
        · subst h3; simp [tokS, lowerB, upperB, digitB, signs] at h
        · by_cases h4 : c = 9
          · subst h4; simp [tokS, lowerB, upperB, digitB, signs] at h
          · simp [gapN, h1, h2, h3, h4]
theorem Lx_tok {x : List UInt8} {k : Int} {b : Bool} (h : ∀ s, (b = true → sepB s = true) → tokS (x ++ s) = some (k, x.length)) : Lx x [(k, x)] b := by
  intro f s l hs hl
  have ht := h s hs
  have hle := tokS_le ht
  refine ⟨f + 1, ?_⟩
  have hg := tokS_ne ht
  cases x with
  | nil => simp at hle
  | cons c r =>
    simp only [List.cons_append] at ht hg ⊢
    simp only [scanP, hg, List.drop_zero, ht]
    have hd : (c :: (r ++ s)).drop (c :: r).length = s := by rw [← List.cons_append]; simp
    have htk : (c :: (r ++ s)).take (c :: r).length = c :: r := by rw [← List.cons_append]; simp
    simp only [hd, htk, hl, List.nil_append]
theorem Lx_sign (c : UInt8) (hs : signs.contains c = true) (h1 : (lowerB c || upperB c) = false) (h2 : digitB c = false) (h3 : (c == 63) = false) (h4 : c ≠ 45 ∧ c ≠ 124) : Lx [c] [(6, [c])] false := by
  refine Lx_tok fun s _ => ?_
  have h5 : ((c :: s).take 2 == [45, 62] || (c :: s).take 2 == [124, 62]) = false := by
    cases s with
    | nil => simp
    | cons d s => simp [h4.1, h4.2]
  simp only [List.cons_append, List.nil_append, tokS, List.headD_cons, h1, h2, h3, h5, hs, Bool.false_eq_true, if_false, if_true]
  rfl
theorem Lx_arrow : Lx [45, 62] [(6, [45, 62])] false := Lx_tok fun s _ => by
  simp [tokS, lowerB, upperB, digitB]
theorem Lx_cast : Lx [124, 62] [(6, [124, 62])] false := Lx_tok fun s _ => by
  simp [tokS, lowerB, upperB, digitB]
theorem spanN_sep {p : UInt8 → Bool} : ∀ {x s : List UInt8}, spanN p x = x.length → (match s with | [] => true | c :: _ => !p c) = true → spanN p (x ++ s) = x.length
  | [], [], _, _ => rfl
  | [], c :: s, _, h => by simp only [List.nil_append, spanN]; rw [if_neg (by simpa using h)]; rfl
  | c :: x, s, hx, h => by
    simp only [spanN, List.length_cons] at hx
    split at hx
    · rename_i hc
      simp only [List.cons_append, spanN, hc, if_true, spanN_sep (by omega : spanN p x = x.length) h, List.length_cons]
    · omega
/-- a word of a kind -/
def isW (k : Int) (w : List UInt8) : Prop := tokS w = some (k, w.length) ∧ (lowerB (w.headD 0) || upperB (w.headD 0)) = true
theorem isW_span {k : Int} {w : List UInt8} (h : isW k w) : spanN wordB w = w.length ∧ w.length ≤ 16 ∧ kindS w = k ∧ w ≠ [] := by
  obtain ⟨h1, h2⟩ := h
  have hle := tokS_le h1
  unfold tokS at h1
  simp only [h2, if_true] at h1
  split at h1
  · cases h1
  · rename_i h3
    injection h1 with h1; injection h1 with h4 h5
    rw [h5, List.take_length] at h4
    exact ⟨h5, by omega, h4, fun h0 => by rw [h0] at hle; simp at hle⟩
theorem Lx_word {k : Int} {w : List UInt8} (h : isW k w) : Lx w [(k, w)] true := by
  obtain ⟨h1, h2, h3, h4⟩ := isW_span h
  refine Lx_tok fun s hs => ?_
  have hh : (w ++ s).headD 0 = w.headD 0 := by cases w with
    | nil => exact absurd rfl h4
    | cons c r => rfl
  have hsp : spanN wordB (w ++ s) = w.length := spanN_sep h1 (by
    have := hs rfl
    cases s with
    | nil => rfl
    | cons c s => exact this)
  unfold tokS
  simp only [hh, h.2, if_true, hsp]
  rw [if_neg (by omega), List.take_left', h3]
  rfl
/-- a keyword -/
theorem isW_kw {w : List UInt8} (h : decide (tokS w = some (3, w.length)) && (lowerB (w.headD 0) || upperB (w.headD 0)) = true) : isW 3 w := by
  simp only [Bool.and_eq_true, decide_eq_true_eq] at h
  exact h
theorem word_headSep {k : Int} {w : List UInt8} (h : isW k w) : ∃ c r, w = c :: r ∧ wordB c = true := by
  obtain ⟨h1, h2, h3, h4⟩ := isW_span h
  cases w with
  | nil => exact absurd rfl h4
  | cons c r =>
    refine ⟨c, r, rfl, ?_⟩
    simp only [spanN, List.length_cons] at h1
    split at h1
    · assumption
    · omega
/-- what was scanned is scanned so again -/
theorem tok_again {s : List UInt8} {k : Int} {n : Nat} (h : tokS s = some (k, n)) (hk : k = 1 ∨ k = 2) : isW k (s.take n) := by
  have hle := tokS_le h
  unfold tokS at h
  simp only at h
  split at h
  · rename_i h1
    split at h
    · cases h
    · rename_i h2
      injection h with h; injection h with h3 h4
      subst h4
      have hsp : ∀ s : List UInt8, spanN wordB (s.take (spanN wordB s)) = spanN wordB s := by
        intro s
        induction s with
        | nil => rfl
        | cons c r ih =>
          by_cases hc : wordB c = true
          · simp only [spanN, hc, if_true, List.take_succ_cons, ih]
          · simp [spanN, hc]
      have hlen : (s.take (spanN wordB s)).length = spanN wordB s := by simp only [List.length_take]; omega
      have hhd : (s.take (spanN wordB s)).headD 0 = s.headD 0 := by
        cases s with
        | nil => rfl
        | cons c r =>
          obtain ⟨m, hm⟩ : ∃ m, spanN wordB (c :: r) = m + 1 := ⟨spanN wordB (c :: r) - 1, by omega⟩
          rw [hm, List.take_succ_cons]; rfl
      refine ⟨?_, by rw [hhd]; exact h1⟩
      unfold tokS
      simp only [hhd, h1, if_true, hsp, hlen]
      rw [if_neg h2, List.take_of_length_le (by rw [hlen]; exact Nat.le_refl _), h3]
  · split at h
    · split at h
      · cases h
      · injection h with h; injection h with h _; omega
    · split at h
      · split at h
        · cases h
        · injection h with h; injection h with h _; omega
      · split at h
        · injection h with h; injection h with h _; omega
        · split at h
          · injection h with h; injection h with h _; omega
          · cases h
end Go.Proofs
namespace Go.Proofs
open Go.Av
set_option maxHeartbeats 4000000
set_option maxRecDepth 100000
/-! numbers, written and read -/
theorem itoa_digits : ∀ (n : Nat), (∀ x ∈ Lib.itoa (n : Int), digitB x = true) ∧ numS (Lib.itoa (n : Int)) = n ∧ Lib.itoa (n : Int) ≠ [] ∧ (0 < n → (Lib.itoa (n : Int)).head? ≠ some 48) := by
  intro n
  induction n using Nat.strongRecOn with
  | _ n ih =>
    have dig : ∀ m : Nat, m < 10 → digitB (UInt8.ofNat (48 + m)) = true ∧ (UInt8.ofNat (48 + m)).toNat = 48 + m := by
      intro m hm
      have ht : (UInt8.ofNat (48 + m)).toNat = 48 + m := by simp; omega
      refine ⟨?_, ht⟩
      unfold digitB
      rw [ht]
      simp; omega
    by_cases h : n < 10
    · rw [dig_lt n h]
      have := dig n h
      refine ⟨by intro x hx; rw [List.mem_singleton.1 hx]; exact this.1, ?_, by simp, ?_⟩
      · simp only [numS, List.foldl_cons, List.foldl_nil, this.2]; omega
      · intro h0 h1
        simp only [List.head?_cons, Option.some.injEq] at h1
        have h2 := congrArg UInt8.toNat h1
        rw [this.2] at h2
        have : (48 : UInt8).toNat = 48 := rfl
        omega
    · rw [dig_ge n (by omega)]
      obtain ⟨h1, h2, h3, h4⟩ := ih (n / 10) (by omega)
      have hd := dig (n % 10) (by omega)
      refine ⟨?_, ?_, by simp, ?_⟩
      · intro x hx
        rcases List.mem_append.1 hx with hx | hx
        · exact h1 x hx
        · rw [List.mem_singleton.1 hx]; exact hd.1
      · rw [numS_snoc, h2, hd.2]; omega
      · intro _
        rw [List.head?_append]
        have := h4 (by omega)
        cases hq : Lib.itoa ((n / 10 : Nat) : Int) with
        | nil => exact absurd hq h3
        | cons c r => rw [hq] at this; simpa using this
theorem spanN_full {p : UInt8 → Bool} : ∀ {x : List UInt8}, (∀ c ∈ x, p c = true) → spanN p x = x.length
  | [], _ => rfl
  | c :: x, h => by
    simp only [spanN, h c (List.mem_cons_self ..), if_true, spanN_full (fun d hd => h d (List.mem_cons_of_mem _ hd)), List.length_cons]
theorem digit_word {c : UInt8} (h : digitB c = true) : wordB c = true ∧ (lowerB c || upperB c) = false := by
  have := digit_bound h
  unfold wordB lowerB upperB
  rw [h]
  simp; omega
theorem numberS_sep {n : Nat} (hn : n < 1000000) {s : List UInt8} (hs : sepB s = true) : numberS (Lib.itoa (n : Int) ++ s) = (Lib.itoa (n : Int)).length ∧ 0 < (Lib.itoa (n : Int)).length := by
  obtain ⟨h1, h2, h3, h4⟩ := itoa_digits n
  have hl := itoa_len 5 n (by omega)
  have hp : 0 < (Lib.itoa (n : Int)).length := List.length_pos_iff.2 h3
  have hsp : spanN digitB (Lib.itoa (n : Int) ++ s) = (Lib.itoa (n : Int)).length := spanN_sep (spanN_full h1) (by
    cases s with
    | nil => rfl
    | cons c s =>
      simp only [sepB, Bool.not_eq_true'] at hs ⊢
      cases hd : digitB c
      · rfl
      · rw [(digit_word hd).1] at hs; cases hs)
  refine ⟨?_, hp⟩
  unfold numberS
  rw [hsp]
  rw [if_neg ?_]
  simp only [Bool.or_eq_true, Bool.and_eq_true, decide_eq_true_eq, beq_iff_eq, not_or, not_and]
  refine ⟨by omega, fun hlen h48 => ?_⟩
  have h0 : 0 < n := by
    rcases Nat.eq_zero_or_pos n with h0 | h0
    · subst h0
      rw [dig_lt 0 (by omega)] at hlen
      simp at hlen
    · exact h0
  have := h4 h0
  cases hq : Lib.itoa (n : Int) with
  | nil => exact h3 hq
  | cons c r => rw [hq] at this h48; simp at this h48; exact this h48
theorem Lx_num {n : Nat} (hn : n < 1000000) : Lx (Lib.itoa (n : Int)) [(4, Lib.itoa (n : Int))] true := by
  refine Lx_tok fun s hs => ?_
  obtain ⟨h1, h2⟩ := numberS_sep hn (hs rfl)
  obtain ⟨d1, _, d3, _⟩ := itoa_digits n
  obtain ⟨c, r, hc⟩ : ∃ c r, Lib.itoa (n : Int) = c :: r := by
    cases hq : Lib.itoa (n : Int) with
    | nil => exact absurd hq d3
    | cons c r => exact ⟨c, r, rfl⟩
  have hd := d1 c (by rw [hc]; exact List.mem_cons_self ..)
  have hh : (Lib.itoa (n : Int) ++ s).headD 0 = c := by rw [hc]; rfl
  unfold tokS
  simp only [hh, (digit_word hd).2, hd, Bool.false_eq_true, if_false, if_true, h1]
  rw [if_neg (by omega)]
theorem Lx_unk {n : Nat} (hn : n < 1000000) : Lx (63 :: Lib.itoa (n : Int)) [(5, 63 :: Lib.itoa (n : Int))] true := by
  refine Lx_tok fun s hs => ?_
  obtain ⟨h1, h2⟩ := numberS_sep hn (hs rfl)
  have hu : (lowerB 63 || upperB 63) = false ∧ digitB 63 = false := by decide
  unfold tokS
  simp only [List.cons_append, List.headD_cons, hu.1, hu.2, Bool.false_eq_true, if_false, List.drop_succ_cons, List.drop_zero, h1, beq_self_eq_true, if_true]
  rw [if_neg (by omega)]
  rfl
theorem metaN_itoa (n : Nat) : metaN (63 :: Lib.itoa (n : Int)) = (n : Int) := by
  obtain ⟨h1, h2, h3, _⟩ := itoa_digits n
  simp only [metaN, List.tail_cons, atoi_num h1 h3, Option.getD_some, h2]
/-! types, written and read -/
inductive WT : Ty → Prop
  | var (s : List UInt8) : isW 1 s → WT (.mk 1 s 0 [])
  | unk (n : Int) : 0 ≤ n → n < 1000000 → WT (.mk 2 [] n [])
  | con (s : List UInt8) (a : List Ty) : isW 2 s → (∀ x, x ∈ a → WT x) → WT (.mk 3 s 0 a)
  | fn (a b : Ty) : WT a → WT b → WT (.mk 4 [] 0 [a, b])
  | all (s : List UInt8) (t : Ty) : isW 1 s → WT t → WT (.mk 5 s 0 [t])
theorem WT.GT {t : Ty} (h : WT t) : GT t := by
  induction h with
  | var s h => exact .var s (isW_span h).2.1
  | unk n h1 h2 => exact .unk n h1 h2
  | con s a h _ ih => exact .con s a (isW_span h).2.1 ih
  | fn a b _ _ iha ihb => exact .fn a b iha ihb
  | all s t h _ ih => exact .all s t (isW_span h).2.1 ih
/-- no atom begins here -/
def fA (l : List Tok) : Bool := !(seesT l 1 [] || (seesT l 5 [] || (seesT l 2 [] || seesT l 6 [40])))
def fT (l : List Tok) : Bool := fA l && !seesT l 6 [45, 62]
/-- the tokens are read to t in this mode, where what follows is so -/
def Rt (m : TM) (k : List (Int × List UInt8)) (t : Ty) (fol : List Tok → Bool) : Prop := ∀ l, l.map kt = k → ∀ rest, fol rest = true → ∃ f, ∀ g, f ≤ g → tyR g m (l ++ rest) = some (t, true, rest)
theorem map_cons' {l : List Tok} {a : Int × List UInt8} {k : List (Int × List UInt8)} (h : l.map kt = a :: k) : ∃ t q, l = t :: q ∧ t.kind = a.1 ∧ t.text = a.2 ∧ q.map kt = k := by
  cases l with
  | nil => cases h
  | cons t q =>
    simp only [List.map_cons, List.cons.injEq] at h
    exact ⟨t, q, rfl, by rw [← h.1]; rfl, by rw [← h.1]; rfl, h.2⟩
theorem map_app' {l : List Tok} {a b : List (Int × List UInt8)} (h : l.map kt = a ++ b) : ∃ p q, l = p ++ q ∧ p.map kt = a ∧ q.map kt = b := List.map_eq_append_iff.1 h
theorem sees_head {t : Tok} {q : List Tok} (k : Int) (s : List UInt8) : seesT (t :: q) k s = (t.kind == k && (s == [] || t.text == s)) := rfl
def anyF : List Tok → Bool := fun _ => true
/-- a type in brackets is an atom -/
theorem Rt_par {k : List (Int × List UInt8)} {t : Ty} (h : Rt .typ k t fT) : Rt .atom ((6, [40]) :: (k ++ [(6, [41])])) t anyF := by
  intro l hl rest _
  obtain ⟨a, q, rfl, a1, a2, hq⟩ := map_cons' hl
  obtain ⟨p, z, rfl, hp, hz⟩ := map_app' hq
  obtain ⟨c, z', rfl, c1, c2, hz'⟩ := map_cons' hz
  have : z' = [] := by simpa using hz'
  subst this
  have hf : fT (c :: rest) = true := by simp [fT, fA, sees_head, c1, c2]
  obtain ⟨f, hf⟩ := h p hp (c :: rest) hf
  refine ⟨f + 1, fun g hg => ?_⟩
  obtain ⟨g, rfl⟩ : ∃ g', g = g' + 1 := ⟨g - 1, by omega⟩
  have h1 := hf g (by omega)
  simp only [List.cons_append, List.append_assoc, List.nil_append, tyR, sees_head, a1, a2, List.tail_cons, h1, c1, c2]
  simp
theorem Rt_app_atom {k : List (Int × List UInt8)} {t : Ty} (h : Rt .atom k t anyF) (hk : ∀ a q, k = a :: q → a.1 ≠ 2) (hne : k ≠ []) : Rt .app k t anyF := by
  intro l hl rest hr
  obtain ⟨f, hf⟩ := h l hl rest rfl
  refine ⟨f + 1, fun g hg => ?_⟩
  obtain ⟨g, rfl⟩ : ∃ g', g = g' + 1 := ⟨g - 1, by omega⟩
  have h1 := hf g (by omega)
  cases l with
  | nil => exact absurd hl.symm hne
  | cons a q =>
    have h2 : seesT (a :: q ++ rest) 2 [] = false := by
      simp only [List.cons_append, sees_head]
      simp only [List.map_cons] at hl
      have := hk (kt a) (q.map kt) hl.symm
      have : (a.kind == 2) = false := by simpa [kt] using this
      rw [this]; rfl
    simp only [tyR, h2, Bool.false_eq_true, if_false]
    exact h1
theorem Rt_typ_app {k : List (Int × List UInt8)} {t : Ty} (h : Rt .app k t fA) (hk : ∀ a q, k = a :: q → a.1 ≠ 3) (hne : k ≠ []) : Rt .typ k t fT := by
  intro l hl rest hr
  simp only [fT, Bool.and_eq_true, Bool.not_eq_true'] at hr
  obtain ⟨f, hf⟩ := h l hl rest hr.1
  refine ⟨f + 1, fun g hg => ?_⟩
  obtain ⟨g, rfl⟩ : ∃ g', g = g' + 1 := ⟨g - 1, by omega⟩
  have h1 := hf g (by omega)
  cases l with
  | nil => exact absurd hl.symm hne
  | cons a q =>
    have h2 : seesT (a :: q ++ rest) 3 [102, 111, 114, 97, 108, 108] = false := by
      simp only [List.cons_append, sees_head]
      simp only [List.map_cons] at hl
      have := hk (kt a) (q.map kt) hl.symm
      have : (a.kind == 3) = false := by simpa [kt] using this
      rw [this]; rfl
    simp only [tyR, h2, Bool.false_eq_true, if_false, h1, if_true, hr.2]
/-- arguments -/
theorem Rt_args : ∀ (ks : List (List (Int × List UInt8))) (ts : List Ty) (name : List UInt8) (acc : List Ty), ks.length = ts.length → (∀ (i : Nat) k t, ks[i]? = some k → ts[i]? = some t → Rt .atom k t anyF ∧ ∃ a q, k = a :: q ∧ (a.1 = 1 ∨ a.1 = 5 ∨ a.1 = 2 ∨ a = (6, [40]))) →
    Rt (.loop name acc) ks.flatten (.mk 3 name 0 (acc ++ ts)) fA
  | [], [], name, acc, _, _ => by
    intro l hl rest hr
    simp only [List.flatten_nil, List.map_eq_nil_iff] at hl
    subst hl
    refine ⟨1, fun g hg => ?_⟩
    obtain ⟨g, rfl⟩ : ∃ g', g = g' + 1 := ⟨g - 1, by omega⟩
    simp only [fA, Bool.not_eq_true'] at hr
    simp only [List.nil_append, tyR, hr, Bool.false_eq_true, if_false, List.append_nil]
  | k :: ks, t :: ts, name, acc, hlen, h => by
    intro l hl rest hr
    simp only [List.flatten_cons] at hl
    obtain ⟨p, q, rfl, hp, hq⟩ := map_app' hl
    obtain ⟨h1, a, k', hk, ha⟩ := h 0 k t rfl rfl
    obtain ⟨f1, hf1⟩ := h1 p hp (q ++ rest) rfl
    have ih := Rt_args ks ts name (acc ++ [t]) (by simpa using hlen) (fun i k t hk ht => h (i + 1) k t (by simpa using hk) (by simpa using ht))
    obtain ⟨f2, hf2⟩ := ih q hq rest hr
    refine ⟨max f1 f2 + 1, fun g hg => ?_⟩
    obtain ⟨g, rfl⟩ : ∃ g', g = g' + 1 := ⟨g - 1, by omega⟩
    have e1 := hf1 g (by omega)
    have e2 := hf2 g (by omega)
    have hs : (seesT (p ++ q ++ rest) 1 [] || (seesT (p ++ q ++ rest) 5 [] || (seesT (p ++ q ++ rest) 2 [] || seesT (p ++ q ++ rest) 6 [40]))) = true := by
      rw [hk] at hp
      obtain ⟨b, z, rfl, b1, b2, _⟩ := map_cons' hp
      simp only [List.cons_append, sees_head, b1, b2]
      rcases ha with ha | ha | ha | ha <;> simp [ha]
    simp only [tyR, hs, if_true]
    rw [List.append_assoc]
    simp only [e1, if_true]
    rw [show acc ++ t :: ts = acc ++ [t] ++ ts by simp]
    exact e2
end Go.Proofs
namespace Go.Proofs
open Go.Av
set_option maxHeartbeats 4000000
set_option maxRecDepth 100000
/-! types: what is written is read -/
theorem namesT_ks : ∀ (ns : List (List UInt8)) (l rest : List Tok) (kb : List (Int × List UInt8)), l.map kt = ns.map (fun n => ((1 : Int), n)) ++ ((6, [46]) :: kb) →
    namesT (l ++ rest) = ns ∧ ∃ d p, l.drop ns.length = d :: p ∧ d.kind = 6 ∧ d.text = [46] ∧ p.map kt = kb
  | [], l, rest, kb, h => by
    obtain ⟨d, p, rfl, d1, d2, hp⟩ := map_cons' h
    refine ⟨?_, d, p, rfl, d1, d2, hp⟩
    simp only [List.cons_append, namesT, d1]; rfl
  | n :: ns, l, rest, kb, h => by
    simp only [List.map_cons, List.cons_append] at h
    obtain ⟨d, p, rfl, d1, d2, hp⟩ := map_cons' h
    obtain ⟨i1, i2⟩ := namesT_ks ns p rest kb hp
    refine ⟨?_, by simpa using i2⟩
    simp only [List.cons_append, namesT, d1, d2, i1, beq_self_eq_true, if_true]
def alls (ns : List (List UInt8)) (t : Ty) : Ty := ns.foldr (fun n t => .mk 5 n 0 [t]) t
/-- what is known of the text of a type -/
structure TF (t : Ty) (s : List UInt8) (k : List (Int × List UInt8)) : Prop where
  lx : Lx s k true
  typ : Rt .typ k t fT
  app : decide (t.kind < 4) = true → Rt .app k t fA ∧ k ≠ [] ∧ ∀ a q, k = a :: q → a.1 ≠ 3
  atom : atomicT t = true → Rt .atom k t anyF ∧ ∃ a q, k = a :: q ∧ (a.1 = 1 ∨ a.1 = 5 ∨ a.1 = 2)
def TFact (t : Ty) : Prop := (∃ s k, (∀ f, 3 * t.sz ≤ f → prR f .pr t = some s) ∧ TF t s k) ∧
  ∃ s ns kb body, (∀ f, 3 * t.sz + 1 ≤ f → prR f .tail t = some s) ∧ Lx s (ns.map (fun n => ((1 : Int), n)) ++ ((6, [46]) :: kb)) true ∧ headSep s = true ∧ t = alls ns body ∧ Rt .typ kb body fT
theorem Lx_weak {x : List UInt8} {k : List (Int × List UInt8)} {b : Bool} (h : Lx x k b) : Lx x k true := fun f s l hs hl => h f s l (fun _ => hs rfl) hl
/-- an argument -/
theorem arg_fact {t : Ty} (hT : GT t) (hs : t.sz ≤ 1000000) (h : TFact t) : ∃ s k, (∀ f, 3 * t.sz + 1 ≤ f → prR f .arg t = some s) ∧ Lx s k true ∧ Rt .atom k t anyF ∧ ∃ a q, k = a :: q ∧ (a.1 = 1 ∨ a.1 = 5 ∨ a.1 = 2 ∨ a = (6, [40])) := by
  obtain ⟨⟨s, k, h1, h2⟩, _⟩ := h
  obtain ⟨s', hb, h3⟩ := arg_tot hT hs (prR_tot hT hs)
  have hk := hT.goodK
  unfold Go.Proofs.goodK at hk
  have h4 := h3 (3 * t.sz + 1) (Nat.le_refl _)
  simp only [prR, hk, if_true, h1 (3 * t.sz) (Nat.le_refl _)] at h4
  cases hc : atomicT t
  · rw [hc] at h4
    simp only [Bool.false_eq_true, if_false] at h4
    obtain ⟨rfl, _⟩ := short_some h4
    refine ⟨_, (6, [40]) :: (k ++ [(6, [41])]), h3, ?_, Rt_par h2.typ, _, _, rfl, .inr (.inr (.inr rfl))⟩
    have l1 : Lx [40] [(6, [40])] false := Lx_sign 40 (by decide) (by decide) (by decide) (by decide) (by decide)
    have l2 : Lx [41] [(6, [41])] false := Lx_sign 41 (by decide) (by decide) (by decide) (by decide) (by decide)
    have := Lx_append (Lx_append l1 h2.lx (fun h => by cases h)) l2 (fun _ => by decide)
    exact Lx_weak this
  · rw [hc] at h4
    simp only [if_true] at h4
    injection h4 with h4; subst h4
    obtain ⟨a1, a, q, a2, a3⟩ := h2.atom hc
    exact ⟨_, k, h3, h2.lx, a1, a, q, a2, by rcases a3 with a3 | a3 | a3 <;> simp [a3]⟩
theorem left_fact {t : Ty} (hT : GT t) (hs : t.sz ≤ 1000000) (h : TFact t) : ∃ s k, (∀ f, 3 * t.sz + 1 ≤ f → prR f .left t = some s) ∧ Lx s k true ∧ Rt .app k t fA ∧ k ≠ [] ∧ ∀ a q, k = a :: q → a.1 ≠ 3 := by
  obtain ⟨⟨s, k, h1, h2⟩, _⟩ := h
  obtain ⟨s', hb, h3⟩ := left_tot hT hs (prR_tot hT hs)
  have hk := hT.goodK
  unfold Go.Proofs.goodK at hk
  have h4 := h3 (3 * t.sz + 1) (Nat.le_refl _)
  simp only [prR, hk, if_true, h1 (3 * t.sz) (Nat.le_refl _)] at h4
  cases hc : decide (t.kind < 4)
  · rw [hc] at h4
    simp only [Bool.false_eq_true, if_false] at h4
    obtain ⟨rfl, _⟩ := short_some h4
    have hat := Rt_app_atom (Rt_par h2.typ) (fun a q h => by injection h with h _; rw [← h]; simp) (by simp)
    refine ⟨_, (6, [40]) :: (k ++ [(6, [41])]), h3, ?_, fun l hl rest _ => hat l hl rest rfl, by simp, fun a q h => by injection h with h _; rw [← h]; simp⟩
    have l1 : Lx [40] [(6, [40])] false := Lx_sign 40 (by decide) (by decide) (by decide) (by decide) (by decide)
    have l2 : Lx [41] [(6, [41])] false := Lx_sign 41 (by decide) (by decide) (by decide) (by decide) (by decide)
    have := Lx_append (Lx_append l1 h2.lx (fun h => by cases h)) l2 (fun _ => by decide)
    exact Lx_weak this
  · rw [hc] at h4
    simp only [if_true] at h4
    injection h4 with h4; subst h4
    have := h2.app hc
    exact ⟨_, k, h3, h2.lx, this.1, this.2.1, this.2.2⟩
/-- all arguments, with a space ahead of each -/
theorem args_fact : ∀ (l : List Ty), (∀ x, x ∈ l → GT x) → Ty.szs l ≤ 1000000 → (∀ x, x ∈ l → x.sz ≤ 1000000 → TFact x) → ∃ (ss : List (List UInt8)) (ks : List (List (Int × List UInt8))), (∀ f, 3 * Ty.szs l + 1 ≤ f → argsR (prR f .arg) l = some ss) ∧ ks.length = l.length ∧
    (∀ (name : List UInt8) (kn : List (Int × List UInt8)), Lx name kn true → Lx (Lib.join (name :: ss) [32]) (kn ++ ks.flatten) true) ∧
    ∀ (i : Nat) k t, ks[i]? = some k → l[i]? = some t → Rt .atom k t anyF ∧ ∃ a q, k = a :: q ∧ (a.1 = 1 ∨ a.1 = 5 ∨ a.1 = 2 ∨ a = (6, [40]))
  | [], _, _, _ => ⟨[], [], fun f _ => rfl, rfl, fun name kn h => by simpa [Lib.join] using h, fun i k t hk => by simp at hk⟩
  | x :: r, hg, hs, hp => by
    simp only [Ty.szs] at hs
    obtain ⟨s, k, h1, h2, h3, h4⟩ := arg_fact (hg x (List.mem_cons_self ..)) (by omega) (hp x (List.mem_cons_self ..) (by omega))
    obtain ⟨ss, ks, i1, i2, i3, i4⟩ := args_fact r (fun y hy => hg y (List.mem_cons_of_mem _ hy)) (by omega) (fun y hy => hp y (List.mem_cons_of_mem _ hy))
    refine ⟨s :: ss, k :: ks, fun f hf => ?_, by simp [i2], fun name kn hn => ?_, fun i k' t hk ht => ?_⟩
    · simp only [Ty.szs] at hf
      simp only [argsR, h1 f (by omega), i1 f (by omega)]
    · have hx : Lx (name ++ [32] ++ s) (kn ++ [] ++ k) true := Lx_append (Lx_append hn Lx_space (fun _ => by decide)) h2 (fun h => by cases h)
      rw [List.append_nil] at hx
      have := i3 _ _ hx
      rw [List.flatten_cons, ← List.append_assoc]
      have e : Lib.join (name :: s :: ss) [32] = Lib.join ((name ++ [32] ++ s) :: ss) [32] := by
        cases ss with
        | nil => simp [Lib.join]
        | cons y ys => simp [Lib.join, List.intercalate, List.intersperse]
      rw [e]; exact this
    · cases i with
      | zero => simp at hk ht; subst hk ht; exact ⟨h3, h4⟩
      | succ i => exact i4 i k' t (by simpa using hk) (by simpa using ht)
theorem ty_fact {t : Ty} (h : WT t) : t.sz ≤ 1000000 → TFact t := by
  -- a type that is no 'for all' behind the names: a point, and itself
  have tl : ∀ {t : Ty}, GT t → t.sz ≤ 1000000 → (t.kind == 5) = false → (∃ s k, (∀ f, 3 * t.sz ≤ f → prR f .pr t = some s) ∧ TF t s k) → TFact t := by
    intro t hT hs hk hp
    refine ⟨hp, ?_⟩
    obtain ⟨s, k, h1, h2⟩ := hp
    obtain ⟨s', hb, h3⟩ := (prR_tot hT hs).2
    have h4 := h3 (3 * t.sz + 1) (Nat.le_refl _)
    simp only [prR, hk, Bool.false_eq_true, if_false, h1 (3 * t.sz) (Nat.le_refl _)] at h4
    obtain ⟨rfl, _⟩ := short_some h4
    refine ⟨_, [], k, t, h3, ?_, by rfl, rfl, h2.typ⟩
    have l1 : Lx [46] [(6, [46])] false := Lx_sign 46 (by decide) (by decide) (by decide) (by decide) (by decide)
    have := Lx_append (Lx_append l1 Lx_space (fun h => by cases h)) h2.lx (fun h => by cases h)
    simpa using this
  induction h with
  | var s hw =>
    intro hs
    have hT : GT (.mk 1 s 0 []) := (WT.var s hw).GT
    refine tl hT hs rfl ?_
    obtain ⟨s', hb, h3⟩ := (prR_tot hT hs).1
    have h4 := h3 (3 * (Ty.mk 1 s 0 []).sz + 1) (by omega)
    simp only [prR, Ty.kind] at h4
    have e := (short_some (show short s = some s' from h4)).1.symm
    subst e
    have hat : Rt .atom [(1, s)] (.mk 1 s 0 []) anyF := by
      intro l hl rest _
      obtain ⟨a, q, rfl, a1, a2, hq⟩ := map_cons' hl
      have : q = [] := by simpa using hq
      subst this
      refine ⟨1, fun g hg => ?_⟩
      obtain ⟨g, rfl⟩ : ∃ g', g = g' + 1 := ⟨g - 1, by omega⟩
      simp [tyR, sees_head, a1, a2, textT]
    have hap := Rt_app_atom hat (fun a q h => by injection h with h _; rw [← h]; simp) (by simp)
    have hapA : Rt .app [(1, s)] (.mk 1 s 0 []) fA := fun l hl rest _ => hap l hl rest rfl
    refine ⟨s, [(1, s)], h3, Lx_word hw, Rt_typ_app hapA (fun a q h => by injection h with h _; rw [← h]; simp) (by simp), fun _ => ⟨hapA, by simp, fun a q h => by injection h with h _; rw [← h]; simp⟩, fun _ => ⟨hat, _, _, rfl, .inl rfl⟩⟩
  | unk n h0 h1 =>
    intro hs
    have hT : GT (.mk 2 [] n []) := .unk n h0 h1
    refine tl hT hs rfl ?_
    obtain ⟨s', hb, h3⟩ := (prR_tot hT hs).1
    have h4 := h3 (3 * (Ty.mk 2 [] n []).sz + 1) (by omega)
    have hc : (0 ≤ n ∧ n < 1000000000) = True := eq_true ⟨h0, by omega⟩
    simp only [prR, Ty.kind, Ty.n, beq_self_eq_true, if_true, hc] at h4
    obtain ⟨rfl, _⟩ := short_some h4
    obtain ⟨m, rfl⟩ : ∃ m : Nat, n = m := ⟨n.toNat, by omega⟩
    have hat : Rt .atom [(5, 63 :: Lib.itoa (m : Int))] (.mk 2 [] m []) anyF := by
      intro l hl rest _
      obtain ⟨a, q, rfl, a1, a2, hq⟩ := map_cons' hl
      have : q = [] := by simpa using hq
      subst this
      refine ⟨1, fun g hg => ?_⟩
      obtain ⟨g, rfl⟩ : ∃ g', g = g' + 1 := ⟨g - 1, by omega⟩
      simp [tyR, sees_head, a1, a2, textT, metaN_itoa]
    have hap := Rt_app_atom hat (fun a q h => by injection h with h _; rw [← h]; simp) (by simp)
    have hapA : Rt .app [(5, 63 :: Lib.itoa (m : Int))] (.mk 2 [] m []) fA := fun l hl rest _ => hap l hl rest rfl
    refine ⟨_, [(5, 63 :: Lib.itoa (m : Int))], h3, Lx_unk (by omega), Rt_typ_app hapA (fun a q h => by injection h with h _; rw [← h]; simp) (by simp), fun _ => ⟨hapA, by simp, fun a q h => by injection h with h _; rw [← h]; simp⟩, fun _ => ⟨hat, _, _, rfl, .inr (.inl rfl)⟩⟩
  | con s a hw ha ih =>
    intro hs
    have hT : GT (.mk 3 s 0 a) := (WT.con s a hw ha).GT
    refine tl hT hs rfl ?_
    rw [sz_mk] at hs
    obtain ⟨ss, ks, i1, i2, i3, i4⟩ := args_fact a (fun x hx => (ha x hx).GT) (by omega) ih
    obtain ⟨s', hb, h3⟩ := (prR_tot hT (by rw [sz_mk]; exact hs)).1
    obtain ⟨F, hF⟩ : ∃ F, F = 3 * Ty.szs a + 3 := ⟨_, rfl⟩
    have h4 := h3 (F + 1) (by rw [sz_mk]; omega)
    simp only [prR, Ty.kind, Ty.args, Ty.name, i1 F (by omega)] at h4
    obtain ⟨rfl, _⟩ := short_some (show short (Lib.join (s :: ss) [32]) = some s' from h4)
    have hapA : Rt .app ((2, s) :: ks.flatten) (.mk 3 s 0 a) fA := by
      intro l hl rest hr
      obtain ⟨b, q, rfl, b1, b2, hq⟩ := map_cons' hl
      obtain ⟨f, hf⟩ := Rt_args ks a s [] i2 i4 q hq rest hr
      refine ⟨f + 1, fun g hg => ?_⟩
      obtain ⟨g, rfl⟩ : ∃ g', g = g' + 1 := ⟨g - 1, by omega⟩
      have := hf g (by omega)
      simp only [List.nil_append] at this
      simp only [List.cons_append, tyR, sees_head, b1, b2, textT, List.tail_cons, beq_self_eq_true, Bool.true_or, Bool.and_self, if_true, this]
    have hnk : ∀ a' q, (2, s) :: ks.flatten = a' :: q → a'.1 ≠ 3 := fun a' q h => by injection h with h _; rw [← h]; simp
    refine ⟨_, (2, s) :: ks.flatten, h3, ?_, Rt_typ_app hapA hnk (by simp), fun _ => ⟨hapA, by simp, hnk⟩, fun hat => ?_⟩
    · exact i3 s [(2, s)] (Lx_word hw)
    · have h0 : a = [] := by
        simp only [atomicT, Ty.kind, Ty.args] at hat
        simpa using hat
      subst h0
      have hk0 : ks = [] := by simpa using i2
      subst hk0
      refine ⟨?_, _, _, rfl, .inr (.inr rfl)⟩
      intro l hl rest _
      obtain ⟨b, q, rfl, b1, b2, hq⟩ := map_cons' hl
      have : q = [] := by simpa using hq
      subst this
      refine ⟨1, fun g hg => ?_⟩
      obtain ⟨g, rfl⟩ : ∃ g', g = g' + 1 := ⟨g - 1, by omega⟩
      simp [tyR, sees_head, b1, b2, textT]
  | fn x y hx hy ihx ihy =>
    intro hs
    have hT : GT (.mk 4 [] 0 [x, y]) := (WT.fn x y hx hy).GT
    refine tl hT hs rfl ?_
    rw [sz_mk, szs_two] at hs
    obtain ⟨a, ka, a1, a2, a3, a4, a5⟩ := left_fact hx.GT (by omega) (ihx (by omega))
    obtain ⟨⟨b, kb, b1, b2⟩, _⟩ := ihy (by omega)
    obtain ⟨s', hb, h3⟩ := (prR_tot hT (by rw [sz_mk, szs_two]; exact hs)).1
    have := sz_pos y
    obtain ⟨F, hF⟩ : ∃ F, F = 3 * (x.sz + y.sz) + 3 := ⟨_, rfl⟩
    have h4 := h3 (F + 1) (by rw [sz_mk, szs_two]; omega)
    simp only [prR, Ty.kind, Ty.args, kids2, a1 F (by omega), b1 F (by omega)] at h4
    obtain ⟨rfl, _⟩ := short_some (show short (a ++ [32, 45, 62, 32] ++ b) = some s' from h4)
    refine ⟨_, ka ++ ((6, [45, 62]) :: kb), h3, ?_, ?_, fun h => by simp [Ty.kind] at h, fun h => by simp [atomicT, Ty.kind] at h⟩
    · have l0 : Lx ([32] ++ [45, 62] ++ [32]) ([] ++ [(6, [45, 62])] ++ []) false := Lx_append (Lx_append Lx_space Lx_arrow (fun h => by cases h)) Lx_space (fun h => by cases h)
      have := Lx_append (Lx_append a2 l0 (fun _ => by decide)) b2.lx (fun h => by cases h)
      simpa using this
    · intro l hl rest hr
      obtain ⟨p, q, rfl, hp, hq⟩ := map_app' hl
      obtain ⟨c, z, rfl, c1, c2, hz⟩ := map_cons' hq
      have hfa : fA (c :: z ++ rest) = true := by simp [fA, sees_head, c1, c2]
      obtain ⟨f1, hf1⟩ := a3 p hp (c :: z ++ rest) hfa
      obtain ⟨f2, hf2⟩ := b2.typ z hz rest hr
      refine ⟨max f1 f2 + 1, fun g hg => ?_⟩
      obtain ⟨g, rfl⟩ : ∃ g', g = g' + 1 := ⟨g - 1, by omega⟩
      have e1 := hf1 g (by omega)
      have e2 := hf2 g (by omega)
      have h2 : seesT (p ++ (c :: z) ++ rest) 3 [102, 111, 114, 97, 108, 108] = false := by
        cases p with
        | nil => exact absurd hp.symm a4
        | cons d p =>
          simp only [List.cons_append, sees_head]
          simp only [List.map_cons] at hp
          have := a5 (kt d) (p.map kt) hp.symm
          have : (d.kind == 3) = false := by simpa [kt] using this
          rw [this]; rfl
      simp only [tyR, h2, Bool.false_eq_true, if_false]
      rw [List.append_assoc, e1]
      simp only [if_true, List.cons_append, sees_head, c1, c2, beq_self_eq_true, Bool.or_true, Bool.and_self, List.tail_cons, e2]
  | all s x hw hx ih =>
    intro hs
    have hT : GT (.mk 5 s 0 [x]) := (WT.all s x hw hx).GT
    rw [sz_mk, szs_one] at hs
    obtain ⟨_, a, ns, kb, body, a1, a2, a3, a4, a5⟩ := ih (by omega)
    have htot := prR_tot hT (by rw [sz_mk, szs_one]; exact hs)
    refine ⟨?_, ?_⟩
    · obtain ⟨s', hb, h3⟩ := htot.1
      obtain ⟨F, hF⟩ : ∃ F, F = 3 * x.sz + 3 := ⟨_, rfl⟩
      have h4 := h3 (F + 1) (by rw [sz_mk, szs_one]; omega)
      simp only [prR, Ty.kind, Ty.args, Ty.name, kids1, a1 F (by omega)] at h4
      obtain ⟨rfl, _⟩ := short_some (show short ([102, 111, 114, 97, 108, 108, 32] ++ s ++ a) = some s' from h4)
      refine ⟨_, (3, [102, 111, 114, 97, 108, 108]) :: ((s :: ns).map (fun n => ((1 : Int), n)) ++ ((6, [46]) :: kb)), h3, ?_, ?_, fun h => by simp [Ty.kind] at h, fun h => by simp [atomicT, Ty.kind] at h⟩
      · have l0 : Lx ([102, 111, 114, 97, 108, 108] ++ [32]) ([(3, [102, 111, 114, 97, 108, 108])] ++ []) false := Lx_append (Lx_word (isW_kw (by decide))) Lx_space (fun _ => by decide)
        have := Lx_append (Lx_append l0 (Lx_word hw) (fun h => by cases h)) a2 (fun _ => a3)
        simpa using this
      · intro l hl rest hr
        obtain ⟨c, z, rfl, c1, c2, hz⟩ := map_cons' hl
        obtain ⟨n1, d, p, n2, d1, d2, hp⟩ := namesT_ks (s :: ns) z rest kb hz
        obtain ⟨f, hf⟩ := a5 p hp rest hr
        have hle : (s :: ns).length ≤ z.length := by
          have := congrArg List.length n2
          simp only [List.length_drop, List.length_cons] at this ⊢
          omega
        have hdrop : (z ++ rest).drop (s :: ns).length = d :: (p ++ rest) := by
          rw [List.drop_append_of_le_length hle, n2]; rfl
        refine ⟨f + 2, fun g hg => ?_⟩
        obtain ⟨g, rfl⟩ : ∃ g', g = g' + 2 := ⟨g - 2, by omega⟩
        have e := hf g (by omega)
        rw [show g + 2 = (g + 1) + 1 from rfl, tyR]
        simp only [List.cons_append, sees_head, c1, c2, beq_self_eq_true, Bool.or_true, Bool.and_self, if_true, List.tail_cons]
        rw [tyR]
        simp only [n1, hdrop, sees_head, d1, d2, beq_self_eq_true, Bool.or_true, Bool.and_self, if_true, List.tail_cons, e]
        rw [a4]; rfl
    · obtain ⟨s', hb, h3⟩ := htot.2
      obtain ⟨F, hF⟩ : ∃ F, F = 3 * x.sz + 3 := ⟨_, rfl⟩
      have h4 := h3 (F + 1) (by rw [sz_mk, szs_one]; omega)
      simp only [prR, Ty.kind, Ty.args, Ty.name, kids1, a1 F (by omega)] at h4
      obtain ⟨rfl, _⟩ := short_some (show short ([32] ++ s ++ a) = some s' from h4)
      refine ⟨_, s :: ns, kb, body, h3, ?_, by rfl, by rw [a4]; rfl, a5⟩
      have := Lx_append (Lx_append Lx_space (Lx_word hw) (fun h => by cases h)) a2 (fun _ => a3)
      simpa using this
end Go.Proofs
namespace Go.Proofs
open Go.Av
set_option maxHeartbeats 4000000
set_option maxRecDepth 100000
/-! coercions: what is written is read -/
inductive WC : Cx → Prop
  | var (s : List UInt8) : isW 1 s → WC (.mk 1 s 0 zTy [])
  | refl (t : Ty) : WT t → WC (.mk 2 [] 0 t [])
  | sym (x : Cx) : WC x → WC (.mk 3 [] 0 zTy [x])
  | trans (x y : Cx) : WC x → WC y → WC (.mk 4 [] 0 zTy [x, y])
  | con (s : List UInt8) (l : List Cx) : isW 2 s → (∀ x, x ∈ l → WC x) → WC (.mk 5 s 0 zTy l)
  | fn (x y : Cx) : WC x → WC y → WC (.mk 6 [] 0 zTy [x, y])
  | all (s : List UInt8) (x : Cx) : isW 1 s → WC x → WC (.mk 7 s 0 zTy [x])
  | nth (n : Int) (x : Cx) : 0 ≤ n → n < 1000000 → WC x → WC (.mk 8 [] n zTy [x])
  | inst (x : Cx) (t : Ty) : WC x → WT t → WC (.mk 9 [] 0 t [x])
theorem WC.GC {c : Cx} (h : WC c) : GC c := by
  induction h with
  | var s h => exact .var s (isW_span h).2.1
  | refl t h => exact .refl t h.GT
  | sym x _ ih => exact .sym x ih
  | trans x y _ _ ihx ihy => exact .trans x y ihx ihy
  | con s l h _ ih => exact .con s l (isW_span h).2.1 ih
  | fn x y _ _ ihx ihy => exact .fn x y ihx ihy
  | all s x h _ ih => exact .all s x (isW_span h).2.1 ih
  | nth n x h0 h1 _ ih => exact .nth n x h0 h1 ih
  | inst x t _ hT ih => exact .inst x t ih hT.GT
/-- the tokens are read to c -/
def Rc (k : List (Int × List UInt8)) (c : Cx) : Prop := ∀ l, l.map kt = k → ∀ rest, ∃ f, ∀ g, f ≤ g → cxR g .co ⟨l ++ rest, false⟩ = some (c, ⟨rest, false⟩)
def CFact (c : Cx) : Prop := ∃ s k, (∀ F f, 3 * c.tot ≤ F → c.tot ≤ f → kpR F f c = some s) ∧ Lx s k true ∧ Rc k c ∧ ∃ a q, k = a :: q ∧ a ≠ (6, [41])
theorem Lx_par {s : List UInt8} {k : List (Int × List UInt8)} (h : Lx s k true) : Lx ([40] ++ s ++ [41]) ((6, [40]) :: (k ++ [(6, [41])])) true := by
  have l1 : Lx [40] [(6, [40])] false := Lx_sign 40 (by decide) (by decide) (by decide) (by decide) (by decide)
  have l2 : Lx [41] [(6, [41])] false := Lx_sign 41 (by decide) (by decide) (by decide) (by decide) (by decide)
  exact Lx_weak (Lx_append (Lx_append l1 h (fun h => by cases h)) l2 (fun _ => by decide))
theorem Lx_ang {s : List UInt8} {k : List (Int × List UInt8)} (h : Lx s k true) : Lx ([60] ++ s ++ [62]) ((6, [60]) :: (k ++ [(6, [62])])) true := by
  have l1 : Lx [60] [(6, [60])] false := Lx_sign 60 (by decide) (by decide) (by decide) (by decide) (by decide)
  have l2 : Lx [62] [(6, [62])] false := Lx_sign 62 (by decide) (by decide) (by decide) (by decide) (by decide)
  exact Lx_weak (Lx_append (Lx_append l1 h (fun h => by cases h)) l2 (fun _ => by decide))
/-- a type in < and > is read -/
theorem typK_read {k : List (Int × List UInt8)} {t : Ty} (h : Rt .typ k t fT) {l : List Tok} (hl : l.map kt = (6, [60]) :: (k ++ [(6, [62])])) (rest : List Tok) :
    ∃ f, ∀ g, f ≤ g → typK g ⟨l ++ rest, false⟩ = some (t, ⟨rest, false⟩) := by
  obtain ⟨a, q, rfl, a1, a2, hq⟩ := map_cons' hl
  obtain ⟨p, z, rfl, hp, hz⟩ := map_app' hq
  obtain ⟨c, z', rfl, c1, c2, hz'⟩ := map_cons' hz
  have : z' = [] := by simpa using hz'
  subst this
  have hf : fT (c :: rest) = true := by simp [fT, fA, sees_head, c1, c2]
  obtain ⟨f, hf⟩ := h p hp (c :: rest) hf
  refine ⟨f, fun g hg => ?_⟩
  have e := hf g hg
  have hn : nextR ⟨a :: (p ++ [c]) ++ rest, false⟩ 6 [60] = ⟨p ++ (c :: rest), false⟩ := by
    simp [nextR, sees_head, a1, a2]
  unfold typK
  rw [hn]
  simp only [e, if_true]
  simp [nextR, sees_head, c1, c2]
/-- kids, with a space ahead of each -/
theorem kids_fact : ∀ (l : List Cx), Cx.tots l ≤ 1000000 → (∀ c, c ∈ l → c.tot ≤ 1000000 → CFact c) → ∃ (ss : List (List UInt8)) (ks : List (List (Int × List UInt8))), (∀ F f, 3 * Cx.tots l ≤ F → Cx.tots l ≤ f → allR (kpR F f) l = some ss) ∧ ks.length = l.length ∧
    (∀ (i : Nat) k c, ks[i]? = some k → l[i]? = some c → Rc k c ∧ ∃ a q, k = a :: q ∧ a ≠ (6, [41])) ∧
    ∀ (ws : List (List UInt8)) (w : List UInt8) (kw : List (Int × List UInt8)), Lx (Lib.join (w :: ws) [32]) kw true → Lx (Lib.join (w :: ws ++ ss) [32]) (kw ++ ks.flatten) true
  | [], _, _ => ⟨[], [], fun F f _ _ => rfl, rfl, fun i k c hk => by simp at hk, fun ws w kw h => by simpa using h⟩
  | x :: r, hs, hp => by
    simp only [Cx.tots] at hs
    obtain ⟨s, k, h1, h2, h3, h4⟩ := hp x (List.mem_cons_self ..) (by omega)
    obtain ⟨ss, ks, i1, i2, i3, i4⟩ := kids_fact r (by omega) (fun y hy => hp y (List.mem_cons_of_mem _ hy))
    refine ⟨s :: ss, k :: ks, fun F f hF hf => ?_, by simp [i2], fun i k' c hk hc => ?_, fun ws w kw hw => ?_⟩
    · simp only [Cx.tots] at hF hf
      simp only [allR, h1 F f (by omega) (by omega), i1 F f (by omega) (by omega)]
    · cases i with
      | zero => simp at hk hc; subst hk hc; exact ⟨h3, h4⟩
      | succ i => exact i3 i k' c (by simpa using hk) (by simpa using hc)
    · have hx : Lx (Lib.join (w :: (ws ++ [s])) [32]) (kw ++ k) true := by
        have e : Lib.join (w :: (ws ++ [s])) [32] = Lib.join (w :: ws) [32] ++ [32] ++ s := by
          rw [← List.cons_append]; exact join_snoc _ _ _ (by simp)
        rw [e]
        have := Lx_append (Lx_append hw Lx_space (fun _ => by decide)) h2 (fun h => by cases h)
        simpa using this
      have := i4 (ws ++ [s]) w (kw ++ k) hx
      simpa using this
/-- so many kids are read -/
theorem kids_read : ∀ (ks : List (List (Int × List UInt8))) (cs acc : List Cx), ks.length = cs.length → (∀ (i : Nat) k c, ks[i]? = some k → cs[i]? = some c → Rc k c ∧ ∃ a q, k = a :: q ∧ a ≠ (6, [41])) →
    ∀ l, l.map kt = ks.flatten → ∀ rest, ∃ f, ∀ g, f ≤ g → cxR g (.kids cs.length acc) ⟨l ++ rest, false⟩ = some (.mk 0 [] 0 zTy (acc ++ cs), ⟨rest, false⟩)
  | [], [], acc, _, _, l, hl, rest => by
    simp only [List.flatten_nil, List.map_eq_nil_iff] at hl
    subst hl
    refine ⟨1, fun g hg => ?_⟩
    obtain ⟨g, rfl⟩ : ∃ g', g = g' + 1 := ⟨g - 1, by omega⟩
    simp [cxR]
  | k :: ks, c :: cs, acc, hlen, h, l, hl, rest => by
    simp only [List.flatten_cons] at hl
    obtain ⟨p, q, rfl, hp, hq⟩ := map_app' hl
    obtain ⟨h1, _⟩ := h 0 k c rfl rfl
    obtain ⟨f1, hf1⟩ := h1 p hp (q ++ rest)
    obtain ⟨f2, hf2⟩ := kids_read ks cs (acc ++ [c]) (by simpa using hlen) (fun i k c hk hc => h (i + 1) k c (by simpa using hk) (by simpa using hc)) q hq rest
    refine ⟨max f1 f2 + 1, fun g hg => ?_⟩
    obtain ⟨g, rfl⟩ : ∃ g', g = g' + 1 := ⟨g - 1, by omega⟩
    have e1 := hf1 g (by omega)
    have e2 := hf2 g (by omega)
    simp only [List.length_cons, cxR, Bool.false_eq_true, if_false]
    rw [List.append_assoc, e1]
    simp only [e2]
    rw [List.append_assoc]; rfl
/-- kids up to a bracket are read -/
theorem con_read : ∀ (ks : List (List (Int × List UInt8))) (cs acc : List Cx), ks.length = cs.length → (∀ (i : Nat) k c, ks[i]? = some k → cs[i]? = some c → Rc k c ∧ ∃ a q, k = a :: q ∧ a ≠ (6, [41])) →
    ∀ l, l.map kt = ks.flatten → ∀ rest, seesT rest 6 [41] = true → ∃ f, ∀ g, f ≤ g → cxR g (.con acc) ⟨l ++ rest, false⟩ = some (.mk 0 [] 0 zTy (acc ++ cs), ⟨rest, false⟩)
  | [], [], acc, _, _, l, hl, rest, hr => by
    simp only [List.flatten_nil, List.map_eq_nil_iff] at hl
    subst hl
    refine ⟨1, fun g hg => ?_⟩
    obtain ⟨g, rfl⟩ : ∃ g', g = g' + 1 := ⟨g - 1, by omega⟩
    simp [cxR, hr]
  | k :: ks, c :: cs, acc, hlen, h, l, hl, rest, hr => by
    simp only [List.flatten_cons] at hl
    obtain ⟨p, q, rfl, hp, hq⟩ := map_app' hl
    obtain ⟨h1, a, k', hk, ha⟩ := h 0 k c rfl rfl
    obtain ⟨f1, hf1⟩ := h1 p hp (q ++ rest)
    obtain ⟨f2, hf2⟩ := con_read ks cs (acc ++ [c]) (by simpa using hlen) (fun i k c hk hc => h (i + 1) k c (by simpa using hk) (by simpa using hc)) q hq rest hr
    have hs : seesT (p ++ q ++ rest) 6 [41] = false ∧ 0 < (p ++ q ++ rest).length := by
      rw [hk] at hp
      obtain ⟨b, z, rfl, b1, b2, _⟩ := map_cons' hp
      refine ⟨?_, by simp⟩
      simp only [List.cons_append, sees_head, b1, b2]
      cases h6 : a.1 == 6
      · rfl
      · cases h7 : a.2 == [41]
        · rfl
        · exact absurd (Prod.ext (by simpa using h6) (by simpa using h7)) ha
    refine ⟨max f1 f2 + 1, fun g hg => ?_⟩
    obtain ⟨g, rfl⟩ : ∃ g', g = g' + 1 := ⟨g - 1, by omega⟩
    have e1 := hf1 g (by omega)
    have e2 := hf2 g (by omega)
    simp only [cxR, hs.1, hs.2, Bool.not_false, decide_true, Bool.and_self, if_true]
    rw [List.append_assoc, e1]
    simp only [e2]
    rw [List.append_assoc]; rfl
theorem next_hit {t : Tok} {q : List Tok} {k : Int} {s : List UInt8} (h1 : t.kind = k) (h2 : (s == [] || t.text == s) = true) : nextR ⟨t :: q, false⟩ k s = ⟨q, false⟩ ∧ nextW ⟨t :: q, false⟩ k s = t.text := by
  have h3 : seesT (t :: q) k s = true := by rw [sees_head, h1, h2]; simp
  unfold nextR nextW
  simp only [h3, if_true]
  exact ⟨rfl, rfl⟩
/-- a rule without a type -/
theorem rule_fact {kd n : Int} {s : List UInt8} {l : List Cx} {w : List UInt8} {ws : List (List UInt8)} {kx : List (Int × List UInt8)} (hC : GC (.mk kd s n zTy l)) (hs : (Cx.mk kd s n zTy l).tot ≤ 1000000)
    (hk : 3 ≤ kd ∧ kd ≤ 8) (_hwd : w = wordC kd) (hkc : kindC w = kd) (hw : headW (.mk kd s n zTy l) = some (w :: ws)) (hlx : Lx (Lib.join (w :: ws) [32]) ((2, w) :: kx) true)
    (hx : ∀ q : List Tok, q.map kt = kx → ∀ rest, headC kd ⟨q ++ rest, false⟩ = (s, n, ⟨rest, false⟩))
    (hn : (kd == 5) = false → l.length = if kd == 4 || kd == 6 then 2 else 1) (hp : ∀ c, c ∈ l → c.tot ≤ 1000000 → CFact c) : CFact (.mk kd s n zTy l) := by
  have hs' := hs
  rw [cx_tot_mk, zTy_sz] at hs'
  obtain ⟨ss, ks, i1, i2, i3, i4⟩ := kids_fact l (by omega) hp
  obtain ⟨s', hb, h3⟩ := kpR_tot hC hs
  have k1 : (kd == 1) = false := by simp; omega
  have k2 : (kd == 2) = false := by simp; omega
  have k9 : (kd == 9) = false := by simp; omega
  have k0 : (kd == 0) = false := by simp; omega
  have h4 := h3 (3 * Cx.tots l + 3) (Cx.tots l + 1) (by rw [cx_tot_mk, zTy_sz]; omega) (by rw [cx_tot_mk, zTy_sz]; omega)
  simp only [kpR, cxmk, k1, k2, k9, Bool.false_eq_true, if_false, hw, i1 (3 * Cx.tots l + 3) (Cx.tots l) (by omega) (by omega)] at h4
  rw [if_pos ⟨hk.1, by omega⟩] at h4
  obtain ⟨rfl, _⟩ := short_some h4
  have hL := Lx_par (i4 ws w _ hlx)
  refine ⟨_, _, h3, hL, ?_, _, _, rfl, by decide⟩
  intro q hq rest
  obtain ⟨a, q1, rfl, a1, a2, hq1⟩ := map_cons' hq
  obtain ⟨q2, z, rfl, hq2, hz⟩ := map_app' hq1
  obtain ⟨d, z', rfl, d1, d2, hz'⟩ := map_cons' hz
  have : z' = [] := by simpa using hz'
  subst this
  obtain ⟨b, q3, rfl, b1, b2, hq3⟩ := map_cons' (by simpa using hq2)
  obtain ⟨q4, q5, rfl, hq4, hq5⟩ := map_app' hq3
  have hread : ∃ f, ∀ g, f ≤ g → cxR g (if kd == 5 then .con [] else .kids (if kd == 4 || kd == 6 then 2 else 1) []) ⟨q5 ++ (d :: rest), false⟩ = some (.mk 0 [] 0 zTy l, ⟨d :: rest, false⟩) := by
    cases h5 : kd == 5
    · have := kids_read ks l [] i2 i3 q5 hq5 (d :: rest)
      rw [hn h5] at this
      simpa using this
    · have := con_read ks l [] i2 i3 q5 hq5 (d :: rest) (by simp [sees_head, d1, d2])
      simpa using this
  obtain ⟨f, hf⟩ := hread
  refine ⟨f + 1, fun g hg => ?_⟩
  obtain ⟨g, rfl⟩ : ∃ g', g = g' + 1 := ⟨g - 1, by omega⟩
  have e := hf g (by omega)
  have n1 := next_hit (t := a) (q := b :: (q4 ++ (q5 ++ (d :: rest)))) (k := 6) (s := [40]) a1 (by simp [a2])
  have n2 := next_hit (t := b) (q := q4 ++ (q5 ++ (d :: rest))) (k := 2) (s := []) b1 rfl
  have n3 := next_hit (t := d) (q := rest) (k := 6) (s := [41]) d1 (by simp [d2])
  have el : a :: (b :: (q4 ++ q5) ++ [d]) ++ rest = a :: (b :: (q4 ++ (q5 ++ (d :: rest)))) := by simp
  have hh := hx q4 hq4 (q5 ++ (d :: rest))
  rw [el]
  have s1 : seesT (a :: (b :: (q4 ++ (q5 ++ (d :: rest))))) 6 [60] = false := by simp [sees_head, a1, a2]
  have s2 : seesT (a :: (b :: (q4 ++ (q5 ++ (d :: rest))))) 6 [40] = true := by simp [sees_head, a1, a2]
  simp only [cxR, s1, s2, n1.1, n2.1, n2.2, b2, hkc, k0, k9, hh, e, n3.1, Bool.false_eq_true, if_false, if_true, Bool.false_and, cxmk]
theorem word2 (kd : Int) (h : 3 ≤ kd ∧ kd ≤ 9) : isW 2 (wordC kd) ∧ kindC (wordC kd) = kd := by
  obtain ⟨h1, h2⟩ := h
  have : kd = 3 ∨ kd = 4 ∨ kd = 5 ∨ kd = 6 ∨ kd = 7 ∨ kd = 8 ∨ kd = 9 := by omega
  rcases this with rfl | rfl | rfl | rfl | rfl | rfl | rfl <;> exact ⟨⟨by decide, by decide⟩, by decide⟩
theorem join_one (w : List UInt8) : Lib.join [w] [32] = w := by simp [Lib.join, List.intercalate]
theorem join_two (w v : List UInt8) : Lib.join [w, v] [32] = w ++ [32] ++ v := by simp [Lib.join, List.intercalate]
theorem co_fact {c : Cx} (h : WC c) : c.tot ≤ 1000000 → CFact c := by
  have noX : ∀ kd : Int, (kd == 5) = false → (kd == 7) = false → (kd == 8) = false → ∀ q : List Tok, q.map kt = [] → ∀ rest, headC kd ⟨q ++ rest, false⟩ = ([], 0, ⟨rest, false⟩) := by
    intro kd h5 h7 h8 q hq rest
    have : q = [] := by simpa using hq
    subst this
    unfold headC
    rw [h5, h7, h8]; rfl
  have lw : ∀ kd : Int, 3 ≤ kd ∧ kd ≤ 9 → Lx (Lib.join [wordC kd] [32]) [(2, wordC kd)] true := fun kd hk => by rw [join_one]; exact Lx_word (word2 kd hk).1
  induction h with
  | var s hw =>
    intro hs
    have hC : GC (.mk 1 s 0 zTy []) := (WC.var s hw).GC
    obtain ⟨s', hb, h3⟩ := kpR_tot hC hs
    have h4 := h3 (3 * (Cx.mk 1 s 0 zTy []).tot) ((Cx.mk 1 s 0 zTy []).tot + 1) (Nat.le_refl _) (by omega)
    simp only [kpR, cxmk] at h4
    have e := (short_some (show short s = some s' from h4)).1.symm
    subst e
    refine ⟨s, [(1, s)], h3, Lx_word hw, ?_, _, _, rfl, by simp⟩
    intro l hl rest
    obtain ⟨a, q, rfl, a1, a2, hq⟩ := map_cons' hl
    have : q = [] := by simpa using hq
    subst this
    refine ⟨1, fun g hg => ?_⟩
    obtain ⟨g, rfl⟩ : ∃ g', g = g' + 1 := ⟨g - 1, by omega⟩
    have n1 := next_hit (t := a) (q := rest) (k := 1) (s := []) a1 rfl
    have s1 : seesT (a :: rest) 6 [60] = false ∧ seesT (a :: rest) 6 [40] = false := by simp [sees_head, a1]
    simp only [List.cons_append, List.nil_append, cxR, s1.1, s1.2, n1.1, n1.2, a2, Bool.false_eq_true, if_false]
  | refl t hT =>
    intro hs
    have hC : GC (.mk 2 [] 0 t []) := .refl t hT.GT
    have hs' := hs
    rw [cx_tot_mk, cx_tots_nil] at hs'
    obtain ⟨⟨a, ka, a1, a2⟩, _⟩ := ty_fact hT (by omega)
    obtain ⟨s', hb, h3⟩ := kpR_tot hC hs
    have h4 := h3 (3 * t.sz) (t.sz + 1) (by rw [cx_tot_mk, cx_tots_nil]; omega) (by rw [cx_tot_mk, cx_tots_nil]; omega)
    simp only [kpR, cxmk, a1 (3 * t.sz) (Nat.le_refl _)] at h4
    obtain ⟨rfl, _⟩ := short_some (show short ([60] ++ a ++ [62]) = some s' from h4)
    refine ⟨_, _, h3, Lx_ang a2.lx, ?_, _, _, rfl, by decide⟩
    intro l hl rest
    obtain ⟨f, hf⟩ := typK_read a2.typ hl rest
    obtain ⟨b, q, rfl, b1, b2, hq⟩ := map_cons' hl
    refine ⟨f + 1, fun g hg => ?_⟩
    obtain ⟨g, rfl⟩ : ∃ g', g = g' + 1 := ⟨g - 1, by omega⟩
    have e := hf g (by omega)
    have s1 : seesT (b :: q ++ rest) 6 [60] = true := by simp [sees_head, b1, b2]
    simp only [cxR, s1, e, Bool.false_eq_true, if_false, if_true]
  | sym x hx ih =>
    intro hs
    have hs' := hs
    rw [cx_tot_mk, cx_tots_one] at hs'
    exact rule_fact (WC.sym x hx).GC hs (by decide) rfl (word2 3 (by decide)).2 rfl (lw 3 (by decide)) (noX 3 (by decide) (by decide) (by decide)) (fun _ => rfl) (by intro c hc _; rw [List.mem_singleton.1 hc]; exact ih (by omega))
  | trans x y hx hy ihx ihy =>
    intro hs
    have hs' := hs
    rw [cx_tot_mk, cx_tots_two] at hs'
    refine rule_fact (WC.trans x y hx hy).GC hs (by decide) rfl (word2 4 (by decide)).2 rfl (lw 4 (by decide)) (noX 4 (by decide) (by decide) (by decide)) (fun _ => rfl) ?_
    intro c hc _
    rcases List.mem_cons.1 hc with rfl | hc
    · exact ihx (by omega)
    · rw [List.mem_singleton.1 hc]; exact ihy (by omega)
  | con s l hw hl ih =>
    intro hs
    refine rule_fact (ws := [s]) (kx := [(2, s)]) (WC.con s l hw hl).GC hs (by decide) rfl (word2 5 (by decide)).2 rfl ?_ ?_ (fun h => absurd h (by decide)) ih
    · rw [join_two]
      have := Lx_append (Lx_append (Lx_word (word2 5 (by decide)).1) Lx_space (fun _ => by decide)) (Lx_word hw) (fun h => by cases h)
      simpa using this
    · intro q hq rest
      obtain ⟨a, q, rfl, a1, a2, hq⟩ := map_cons' hq
      have : q = [] := by simpa using hq
      subst this
      have n1 := next_hit (t := a) (q := rest) (k := 2) (s := []) a1 rfl
      simp only [headC, List.cons_append, List.nil_append, n1.1, n1.2, a2]; rfl
  | fn x y hx hy ihx ihy =>
    intro hs
    have hs' := hs
    rw [cx_tot_mk, cx_tots_two] at hs'
    refine rule_fact (WC.fn x y hx hy).GC hs (by decide) rfl (word2 6 (by decide)).2 rfl (lw 6 (by decide)) (noX 6 (by decide) (by decide) (by decide)) (fun _ => rfl) ?_
    intro c hc _
    rcases List.mem_cons.1 hc with rfl | hc
    · exact ihx (by omega)
    · rw [List.mem_singleton.1 hc]; exact ihy (by omega)
  | all s x hw hx ih =>
    intro hs
    have hs' := hs
    rw [cx_tot_mk, cx_tots_one] at hs'
    refine rule_fact (ws := [s]) (kx := [(1, s)]) (WC.all s x hw hx).GC hs (by decide) rfl (word2 7 (by decide)).2 rfl ?_ ?_ (fun _ => rfl) (by intro c hc _; rw [List.mem_singleton.1 hc]; exact ih (by omega))
    · rw [join_two]
      have := Lx_append (Lx_append (Lx_word (word2 7 (by decide)).1) Lx_space (fun _ => by decide)) (Lx_word hw) (fun h => by cases h)
      simpa using this
    · intro q hq rest
      obtain ⟨a, q, rfl, a1, a2, hq⟩ := map_cons' hq
      have : q = [] := by simpa using hq
      subst this
      have n1 := next_hit (t := a) (q := rest) (k := 1) (s := []) a1 rfl
      simp only [headC, List.cons_append, List.nil_append, n1.1, n1.2, a2]; rfl
  | nth n x h0 h1 hx ih =>
    intro hs
    have hs' := hs
    rw [cx_tot_mk, cx_tots_one] at hs'
    obtain ⟨m, rfl⟩ : ∃ m : Nat, n = m := ⟨n.toNat, by omega⟩
    have hc : (0 ≤ (m : Int) ∧ (m : Int) < 1000000000) = True := eq_true ⟨h0, by omega⟩
    refine rule_fact (ws := [Lib.itoa (m : Int)]) (kx := [(4, Lib.itoa (m : Int))]) (WC.nth m x h0 h1 hx).GC hs (by decide) rfl (word2 8 (by decide)).2 (by simp only [headW, cxmk, hc, if_true]; rfl) ?_ ?_ (fun _ => rfl) (by intro c hc _; rw [List.mem_singleton.1 hc]; exact ih (by omega))
    · rw [join_two]
      have := Lx_append (Lx_append (Lx_word (word2 8 (by decide)).1) Lx_space (fun _ => by decide)) (Lx_num (n := m) (by omega)) (fun h => by cases h)
      simpa using this
    · intro q hq rest
      obtain ⟨a, q, rfl, a1, a2, hq⟩ := map_cons' hq
      have : q = [] := by simpa using hq
      subst this
      have n1 := next_hit (t := a) (q := rest) (k := 4) (s := []) a1 rfl
      obtain ⟨d1, d2, d3, _⟩ := itoa_digits m
      simp only [headC, List.cons_append, List.nil_append, n1.1, n1.2, a2, numC, atoi_num d1 d3, Option.getD_some, d2]; rfl
  | inst x t hx hT ih =>
    intro hs
    have hs' := hs
    rw [cx_tot_mk, cx_tots_one] at hs'
    have hC : GC (.mk 9 [] 0 t [x]) := (WC.inst x t hx hT).GC
    have := sz_pos t
    obtain ⟨⟨b, kb, b1, b2⟩, _⟩ := ty_fact hT (by omega)
    obtain ⟨ss, ks, i1, i2, i3, i4⟩ := kids_fact [x] (by rw [cx_tots_one]; omega) (by intro c hc _; rw [List.mem_singleton.1 hc]; exact ih (by omega))
    obtain ⟨s', hb, h3⟩ := kpR_tot hC hs
    have hw : headW (.mk 9 [] 0 t [x]) = some [wordC 9] := rfl
    have h4 := h3 (3 * (t.sz + x.tot)) (t.sz + x.tot + 1) (by rw [cx_tot_mk, cx_tots_one]; omega) (by rw [cx_tot_mk, cx_tots_one]; omega)
    simp only [kpR, cxmk, hw, i1 (3 * (t.sz + x.tot)) (t.sz + x.tot) (by rw [cx_tots_one]; omega) (by rw [cx_tots_one]; omega), b1 (3 * (t.sz + x.tot)) (by omega)] at h4
    obtain ⟨rfl, _⟩ := short_some (show short ([40] ++ Lib.join ([wordC 9] ++ ss ++ [[60] ++ b ++ [62]]) [32] ++ [41]) = some s' from h4)
    have hL0 := i4 [] (wordC 9) _ (lw 9 (by decide))
    have hL1 : Lx (Lib.join ([wordC 9] ++ ss ++ [[60] ++ b ++ [62]]) [32]) ([(2, wordC 9)] ++ ks.flatten ++ ((6, [60]) :: (kb ++ [(6, [62])]))) true := by
      rw [join_snoc _ _ _ (by simp)]
      have := Lx_append (Lx_append hL0 Lx_space (fun _ => by decide)) (Lx_ang b2.lx) (fun h => by cases h)
      simpa using this
    refine ⟨_, _, h3, Lx_par hL1, ?_, _, _, rfl, by decide⟩
    intro q hq rest
    obtain ⟨a, q1, rfl, a1, a2, hq1⟩ := map_cons' hq
    obtain ⟨q2, z, rfl, hq2, hz⟩ := map_app' hq1
    obtain ⟨d, z', rfl, d1, d2, hz'⟩ := map_cons' hz
    have : z' = [] := by simpa using hz'
    subst this
    obtain ⟨q2', q6, rfl, hq2', hq6⟩ := map_app' hq2
    obtain ⟨c, q5, rfl, c1, c2, hq5⟩ := map_cons' (by simpa using hq2')
    obtain ⟨f1, hf1⟩ := kids_read ks [x] [] i2 i3 q5 hq5 (q6 ++ (d :: rest))
    obtain ⟨f2, hf2⟩ := typK_read b2.typ hq6 (d :: rest)
    refine ⟨max f1 f2 + 1, fun g hg => ?_⟩
    obtain ⟨g, rfl⟩ : ∃ g', g = g' + 1 := ⟨g - 1, by omega⟩
    have e1 := hf1 g (by omega)
    have e2 := hf2 g (by omega)
    have n1 := next_hit (t := a) (q := c :: (q5 ++ (q6 ++ (d :: rest)))) (k := 6) (s := [40]) a1 (by simp [a2])
    have n2 := next_hit (t := c) (q := q5 ++ (q6 ++ (d :: rest))) (k := 2) (s := []) c1 rfl
    have n3 := next_hit (t := d) (q := rest) (k := 6) (s := [41]) d1 (by simp [d2])
    have el : a :: (c :: q5 ++ q6 ++ [d]) ++ rest = a :: (c :: (q5 ++ (q6 ++ (d :: rest)))) := by simp
    rw [el]
    have s1 : seesT (a :: (c :: (q5 ++ (q6 ++ (d :: rest))))) 6 [60] = false := by simp [sees_head, a1, a2]
    have s2 : seesT (a :: (c :: (q5 ++ (q6 ++ (d :: rest))))) 6 [40] = true := by simp [sees_head, a1, a2]
    have hkc := (word2 9 (by decide)).2
    have hh : headC 9 ⟨q5 ++ (q6 ++ (d :: rest)), false⟩ = ([], 0, ⟨q5 ++ (q6 ++ (d :: rest)), false⟩) := rfl
    simp only [List.length_cons, List.length_nil, List.nil_append] at e1
    simp only [cxR, s1, s2, n1.1, n2.1, n2.2, c2, hkc, hh, Bool.false_eq_true, if_false, if_true]
    simp only [Int.reduceBEq, Bool.false_eq_true, if_false, Bool.or_self, e1, Bool.not_false, Bool.true_and, if_true, e2, n3.1, cxmk]
end Go.Proofs
namespace Go.Proofs
open Go.Av
set_option maxHeartbeats 4000000
set_option maxRecDepth 100000
/-! terms: what is written is read -/
def WN (l : List (List UInt8)) : Prop := ∀ v, v ∈ l → isW 1 v
inductive WM : Tm → Prop
  | nam (k : Int) (s : List UInt8) : (k = 1 ∨ k = 2) → isW k s → WM (.mk k s zTy zCx [] [])
  | lam (s : List UInt8) (t : Ty) (x : Tm) : isW 1 s → WT t → WM x → WM (.mk 3 s t zCx [x] [])
  | tlam (s : List UInt8) (x : Tm) : isW 1 s → WM x → WM (.mk 4 s zTy zCx [x] [])
  | app (x y : Tm) : WM x → WM y → WM (.mk 5 [] zTy zCx [x, y] [])
  | tapp (t : Ty) (x : Tm) : WT t → WM x → WM (.mk 6 [] t zCx [x] [])
  | capp (c : Cx) (x : Tm) : WC c → WM x → WM (.mk 7 [] zTy c [x] [])
  | lett (s : List UInt8) (t : Ty) (x y : Tm) : isW 1 s → WT t → WM x → WM y → WM (.mk 8 s t zCx [x, y] [])
  | cas (t : Ty) (x : Tm) (al : List Ta) : WT t → WM x → (∀ a, a ∈ al → WM a.body) → (∀ a, a ∈ al → isW 2 a.con ∧ WN a.types ∧ WN a.cos ∧ WN a.vars) → WM (.mk 9 [] t zCx [x] al)
  | cast (c : Cx) (x : Tm) : WC c → WM x → WM (.mk 10 [] zTy c [x] [])
theorem WN.N16 {l : List (List UInt8)} (h : WN l) : N16 l := fun v hv => (isW_span (h v hv)).2.1
theorem WM.GM {e : Tm} (h : WM e) : GM e := by
  induction h with
  | nam k s hk hw => exact .nam k s hk (isW_span hw).2.1
  | lam s t x hw hT _ ih => exact .lam s t x (isW_span hw).2.1 hT.GT ih
  | tlam s x hw _ ih => exact .tlam s x (isW_span hw).2.1 ih
  | app x y _ _ ihx ihy => exact .app x y ihx ihy
  | tapp t x hT _ ih => exact .tapp t x hT.GT ih
  | capp c x hC _ ih => exact .capp c x hC.GC ih
  | lett s t x y hw hT _ _ ihx ihy => exact .lett s t x y (isW_span hw).2.1 hT.GT ihx ihy
  | cas t x al hT _ _ hn ihx ihb => exact .cas t x al hT.GT ihx ihb (fun a ha => ⟨(isW_span (hn a ha).1).2.1, (hn a ha).2.1.N16, (hn a ha).2.2.1.N16, (hn a ha).2.2.2.N16⟩)
  | cast c x hC _ ih => exact .cast c x hC.GC ih
/-- the tokens are read to e -/
def Rm (k : List (Int × List UInt8)) (e : Tm) : Prop := ∀ l, l.map kt = k → ∀ rest, ∃ f, ∀ g, f ≤ g → trR g .term ⟨l ++ rest, false⟩ = some (e, ⟨rest, false⟩)
def headM (k : List (Int × List UInt8)) : Prop := ∃ a q, k = a :: q ∧ (a.1 = 1 ∨ a.1 = 2 ∨ a = (6, [40]))
def MFact (e : Tm) : Prop := ∃ s k, (∀ F f, 3 * e.tot ≤ F → e.tot ≤ f → mpR F f e = some s) ∧ Lx s k true ∧ Rm k e ∧ headM k
theorem hitR {t : Tok} {q : List Tok} {k : Int} {s : List UInt8} (h1 : t.kind = k) (h2 : (s == [] || t.text == s) = true) :
    seesR ⟨t :: q, false⟩ k s = true ∧ takeR ⟨t :: q, false⟩ k s = ⟨q, false⟩ ∧ takesR ⟨t :: q, false⟩ k s = ⟨q, false⟩ ∧ wordR ⟨t :: q, false⟩ k s = t.text := by
  have h : seesR ⟨t :: q, false⟩ k s = true := by unfold seesR; simp only; rw [sees_head, h1, h2]; simp
  refine ⟨h, ?_, ?_, ?_⟩
  · rw [takeR_eq h]; rfl
  · rw [takesR_eq h]; rfl
  · unfold wordR; rw [if_pos h]; rfl
theorem missR {t : Tok} {q : List Tok} {k : Int} {s : List UInt8} (h : (t.kind == k && (s == [] || t.text == s)) = false) : seesR ⟨t :: q, false⟩ k s = false := by
  simp only [seesR, sees_head, h, Bool.and_false]
theorem typR_read {k : List (Int × List UInt8)} {t : Ty} (h : Rt .typ k t fT) {l : List Tok} (hl : l.map kt = k) {rest : List Tok} (hr : fT rest = true) : ∃ f, ∀ g, f ≤ g → typR g ⟨l ++ rest, false⟩ = some (t, ⟨rest, false⟩) := by
  obtain ⟨f, hf⟩ := h l hl rest hr
  refine ⟨f, fun g hg => ?_⟩
  unfold typR
  simp only [hf g hg, Bool.false_eq_true, if_false, if_true]
theorem coR2_read {k : List (Int × List UInt8)} {c : Cx} (h : Rc k c) {l : List Tok} (hl : l.map kt = k) (rest : List Tok) : ∃ f, ∀ g, f ≤ g → coR2 g ⟨l ++ rest, false⟩ = some (c, ⟨rest, false⟩) := by
  obtain ⟨f, hf⟩ := h l hl rest
  refine ⟨f, fun g hg => ?_⟩
  unfold coR2
  simp only [hf g hg, Bool.false_eq_true, if_false]
theorem nameR_read {n : List UInt8} {k : List (Int × List UInt8)} {t : Ty} (h : Rt .typ k t fT) {l : List Tok} (hl : l.map kt = (1, n) :: (6, [58]) :: k) {rest : List Tok} (hr : fT rest = true) :
    ∃ f, ∀ g, f ≤ g → nameR g ⟨l ++ rest, false⟩ = some (t, ⟨rest, false⟩) ∧ wordR ⟨l ++ rest, false⟩ 1 [] = n := by
  obtain ⟨a, q, rfl, a1, a2, hq⟩ := map_cons' hl
  obtain ⟨b, p, rfl, b1, b2, hp⟩ := map_cons' hq
  obtain ⟨f, hf⟩ := typR_read h hp hr
  refine ⟨f, fun g hg => ?_⟩
  have n1 := hitR (t := a) (q := b :: (p ++ rest)) (k := 1) (s := []) a1 rfl
  have n2 := hitR (t := b) (q := p ++ rest) (k := 6) (s := [58]) b1 (by simp [b2])
  simp only [List.cons_append]
  refine ⟨?_, by rw [n1.2.2.2]; exact a2⟩
  unfold nameR
  rw [n1.2.1, n2.2.1]
  exact hf g hg
/-! pieces of text -/
theorem L40 : Lx [40] [(6, [40])] false := Lx_sign 40 (by decide) (by decide) (by decide) (by decide) (by decide)
theorem L41 : Lx [41] [(6, [41])] false := Lx_sign 41 (by decide) (by decide) (by decide) (by decide) (by decide)
theorem L58 : Lx ([32] ++ [58] ++ [32]) ([] ++ [(6, [58])] ++ []) false := Lx_append (Lx_append Lx_space (Lx_sign 58 (by decide) (by decide) (by decide) (by decide) (by decide)) (fun h => by cases h)) Lx_space (fun h => by cases h)
theorem L46 : Lx ([46] ++ [32]) ([(6, [46])] ++ []) false := Lx_append (Lx_sign 46 (by decide) (by decide) (by decide) (by decide) (by decide)) Lx_space (fun h => by cases h)
theorem L61 : Lx ([32] ++ [61] ++ [32]) ([] ++ [(6, [61])] ++ []) false := Lx_append (Lx_append Lx_space (Lx_sign 61 (by decide) (by decide) (by decide) (by decide) (by decide)) (fun h => by cases h)) Lx_space (fun h => by cases h)
theorem L64 : Lx ([32] ++ [64] ++ [32]) ([] ++ [(6, [64])] ++ []) false := Lx_append (Lx_append Lx_space (Lx_sign 64 (by decide) (by decide) (by decide) (by decide) (by decide)) (fun h => by cases h)) Lx_space (fun h => by cases h)
theorem L126 : Lx ([32] ++ [126] ++ [32]) ([] ++ [(6, [126])] ++ []) false := Lx_append (Lx_append Lx_space (Lx_sign 126 (by decide) (by decide) (by decide) (by decide) (by decide)) (fun h => by cases h)) Lx_space (fun h => by cases h)
theorem Lcast : Lx ([32] ++ [124, 62] ++ [32]) ([] ++ [(6, [124, 62])] ++ []) false := Lx_append (Lx_append Lx_space Lx_cast (fun h => by cases h)) Lx_space (fun h => by cases h)
theorem Larr : Lx ([32] ++ [45, 62] ++ [32]) ([] ++ [(6, [45, 62])] ++ []) false := Lx_append (Lx_append Lx_space Lx_arrow (fun h => by cases h)) Lx_space (fun h => by cases h)
theorem Lin : Lx ([32] ++ [105, 110] ++ [32]) ([] ++ [(3, [105, 110])] ++ []) false := Lx_append (Lx_append Lx_space (Lx_word (isW_kw (by decide))) (fun h => by cases h)) Lx_space (fun _ => by decide)
theorem Lof : Lx ([32] ++ [111, 102] ++ [32] ++ [123]) ([] ++ [(3, [111, 102])] ++ [] ++ [(6, [123])]) false := Lx_append (Lx_append (Lx_append Lx_space (Lx_word (isW_kw (by decide))) (fun h => by cases h)) Lx_space (fun _ => by decide)) (Lx_sign 123 (by decide) (by decide) (by decide) (by decide) (by decide)) (fun h => by cases h)
theorem Lend : Lx ([125] ++ [41]) ([(6, [125])] ++ [(6, [41])]) false := Lx_append (Lx_sign 125 (by decide) (by decide) (by decide) (by decide) (by decide)) L41 (fun h => by cases h)
theorem Llam : Lx ([40] ++ [92]) ([(6, [40])] ++ [(6, [92])]) false := Lx_append L40 (Lx_sign 92 (by decide) (by decide) (by decide) (by decide) (by decide)) (fun h => by cases h)
theorem Lall : Lx ([40] ++ [33]) ([(6, [40])] ++ [(6, [33])]) false := Lx_append L40 (Lx_sign 33 (by decide) (by decide) (by decide) (by decide) (by decide)) (fun h => by cases h)
theorem Llet : Lx ([40] ++ [108, 101, 116] ++ [32]) ([(6, [40])] ++ [(3, [108, 101, 116])] ++ []) false := Lx_append (Lx_append L40 (Lx_word (isW_kw (by decide))) (fun h => by cases h)) Lx_space (fun _ => by decide)
theorem Lcase : Lx ([40] ++ [99, 97, 115, 101] ++ [32]) ([(6, [40])] ++ [(3, [99, 97, 115, 101])] ++ []) false := Lx_append (Lx_append L40 (Lx_word (isW_kw (by decide))) (fun h => by cases h)) Lx_space (fun _ => by decide)
/-- a term in brackets: its form is read -/
theorem term_par {k : List (Int × List UInt8)} {e : Tm} (h : ∀ l, l.map kt = k → ∀ rest, seesT rest 6 [41] = true → ∃ f, ∀ g, f ≤ g → trR g .form ⟨l ++ rest, false⟩ = some (e, ⟨rest, false⟩)) : Rm ((6, [40]) :: (k ++ [(6, [41])])) e := by
  intro l hl rest
  obtain ⟨a, q, rfl, a1, a2, hq⟩ := map_cons' hl
  obtain ⟨p, z, rfl, hp, hz⟩ := map_app' hq
  obtain ⟨c, z', rfl, c1, c2, hz'⟩ := map_cons' hz
  have : z' = [] := by simpa using hz'
  subst this
  obtain ⟨f, hf⟩ := h p hp (c :: rest) (by simp [sees_head, c1, c2])
  refine ⟨f + 1, fun g hg => ?_⟩
  obtain ⟨g, rfl⟩ : ∃ g', g = g' + 1 := ⟨g - 1, by omega⟩
  have e1 := hf g (by omega)
  have n1 := hitR (t := a) (q := p ++ (c :: rest)) (k := 6) (s := [40]) a1 (by simp [a2])
  have n2 := hitR (t := c) (q := rest) (k := 6) (s := [41]) c1 (by simp [c2])
  have m1 : seesR ⟨a :: (p ++ (c :: rest)), false⟩ 1 [] = false := missR (by simp [a1])
  have m2 : seesR ⟨a :: (p ++ (c :: rest)), false⟩ 2 [] = false := missR (by simp [a1])
  have el : a :: (p ++ [c]) ++ rest = a :: (p ++ (c :: rest)) := by simp
  rw [el]
  simp only [trR, m1, m2, n1.2.1, e1, n2.2.1, Bool.false_eq_true, if_false]
/-- how a form of an application begins -/
theorem form_head {k : List (Int × List UInt8)} (h : headM k) {l : List Tok} (hl : l.map kt = k) (rest : List Tok) : seesR ⟨l ++ rest, false⟩ 6 [92] = false ∧ seesR ⟨l ++ rest, false⟩ 6 [33] = false ∧ seesR ⟨l ++ rest, false⟩ 3 [108, 101, 116] = false ∧ seesR ⟨l ++ rest, false⟩ 3 [99, 97, 115, 101] = false ∧
    seesR ⟨l ++ rest, false⟩ 6 [64] = false ∧ seesR ⟨l ++ rest, false⟩ 6 [126] = false ∧ seesR ⟨l ++ rest, false⟩ 6 [124, 62] = false := by
  obtain ⟨a, q, rfl, ha⟩ := h
  obtain ⟨b, p, rfl, b1, b2, _⟩ := map_cons' hl
  simp only [List.cons_append]
  refine ⟨missR ?_, missR ?_, missR ?_, missR ?_, missR ?_, missR ?_, missR ?_⟩ <;> rw [b1, b2] <;> rcases ha with ha | ha | ha <;> simp [ha]
end Go.Proofs
namespace Go.Proofs
open Go.Av
set_option maxHeartbeats 4000000
set_option maxRecDepth 100000
/-! terms: the forms -/
theorem fT_41 {rest : List Tok} (h : seesT rest 6 [41] = true) : fT rest = true := by
  cases rest with
  | nil => cases h
  | cons a q =>
    simp only [sees_head, Bool.and_eq_true, beq_iff_eq, Bool.or_eq_true] at h
    have h2 : a.text = [41] := by rcases h.2 with h2 | h2 <;> first | exact h2 | (simp at h2; done) | simp_all
    simp [fT, fA, sees_head, h.1, h2]
theorem fT_sign {a : Tok} {q : List Tok} {s : List UInt8} (h1 : a.kind = 6) (h2 : a.text = s) (h3 : s ≠ [40] ∧ s ≠ [45, 62]) : fT (a :: q) = true := by
  have e1 : (s == [40]) = false := by simpa using h3.1
  have e2 : (s == [45, 62]) = false := by simpa using h3.2
  simp [fT, fA, sees_head, h1, h2, e1, e2]
theorem fT_kw {a : Tok} {q : List Tok} (h1 : a.kind = 3) : fT (a :: q) = true := by
  simp [fT, fA, sees_head, h1]
theorem headM_par (k : List (Int × List UInt8)) : headM ((6, [40]) :: k) := ⟨_, _, rfl, .inr (.inr rfl)⟩
/-- names behind a sign -/
def markK (s : List UInt8) (ns : List (List UInt8)) : List (Int × List UInt8) := ns.flatMap fun v => [(6, s), (1, v)]
theorem marks_read (s : List UInt8) : ∀ (ns : List (List UInt8)) (l : List Tok), l.map kt = markK s ns → ∀ rest, seesT rest 6 s = false → ∀ f acc, ns.length ≤ f → marksR f s acc ⟨l ++ rest, false⟩ = (acc ++ ns, ⟨rest, false⟩)
  | [], l, hl, rest, hr, f, acc, _ => by
    simp only [markK, List.flatMap_nil, List.map_eq_nil_iff] at hl
    subst hl
    cases f with
    | zero => simp [marksR]
    | succ f => simp [marksR, seesR, hr]
  | n :: ns, l, hl, rest, hr, f, acc, hf => by
    simp only [markK, List.flatMap_cons, List.cons_append, List.nil_append] at hl
    obtain ⟨a, q, rfl, a1, a2, hq⟩ := map_cons' hl
    obtain ⟨b, p, rfl, b1, b2, hp⟩ := map_cons' hq
    obtain ⟨f, rfl⟩ : ∃ f', f = f' + 1 := ⟨f - 1, by simp only [List.length_cons] at hf; omega⟩
    have n1 := hitR (t := a) (q := b :: (p ++ rest)) (k := 6) (s := s) a1 (by simp [a2])
    have n2 := hitR (t := b) (q := p ++ rest) (k := 1) (s := []) b1 rfl
    have ih := marks_read s ns p hp rest hr f (acc ++ [n]) (by simp only [List.length_cons] at hf; omega)
    simp only [List.cons_append, marksR, n1.1, if_true, n1.2.2.1, n2.2.1, n2.2.2.2, b2, ih]
    simp
theorem marks_read' (s : List UInt8) {ns : List (List UInt8)} {l : List Tok} (hl : l.map kt = markK s ns) {rest : List Tok} (hr : seesT rest 6 s = false) : marks s ⟨l ++ rest, false⟩ = (ns, ⟨rest, false⟩) := by
  have hlen : ns.length ≤ (l ++ rest).length := by
    have := congrArg List.length hl
    have h2 : (markK s ns).length = 2 * ns.length := by
      clear hl this
      induction ns with
      | nil => rfl
      | cons n ns ih => simp only [markK, List.flatMap_cons, List.length_append, List.length_cons, List.length_nil] at ih ⊢; omega
    rw [List.length_map, h2] at this
    rw [List.length_append]; omega
  have := marks_read s ns l hl rest hr (l ++ rest).length [] hlen
  simpa [marks] using this
theorem names_read : ∀ (ns : List (List UInt8)) (l : List Tok), l.map kt = ns.map (fun n => ((1 : Int), n)) → ∀ rest, seesT rest 1 [] = false → namesT (l ++ rest) = ns ∧ (l ++ rest).drop ns.length = rest
  | [], l, h, rest, hr => by
    have : l = [] := by simpa using h
    subst this
    refine ⟨?_, rfl⟩
    cases rest with
    | nil => rfl
    | cons a q =>
      have : (a.kind == 1) = false := by simpa [sees_head] using hr
      simp [namesT, this]
  | n :: ns, l, h, rest, hr => by
    simp only [List.map_cons] at h
    obtain ⟨d, p, rfl, d1, d2, hp⟩ := map_cons' h
    obtain ⟨i1, i2⟩ := names_read ns p hp rest hr
    refine ⟨by simp only [List.cons_append, namesT, d1, d2, i1, beq_self_eq_true, if_true], by simpa using i2⟩
/-- what stands in an alternative ahead of the arrow -/
def altK (a : Ta) : List (Int × List UInt8) := (2, a.con) :: (markK [64] a.types ++ (markK [126] a.cos ++ a.vars.map fun n => ((1 : Int), n)))
theorem mark_head {s t : List UInt8} {ns : List (List UInt8)} {l : List Tok} (hl : l.map kt = markK s ns) (hst : (s == t) = false) (ht : (t == []) = false) {rest : List Tok} (hr : seesT rest 6 t = false) : seesT (l ++ rest) 6 t = false := by
  cases ns with
  | nil =>
    have : l = [] := by simpa [markK] using hl
    subst this; exact hr
  | cons n ns =>
    simp only [markK, List.flatMap_cons, List.cons_append, List.nil_append] at hl
    obtain ⟨a, q, rfl, a1, a2, hq⟩ := map_cons' hl
    simp only [List.cons_append, sees_head, a1, a2, hst, ht]; rfl
theorem names_head {ns : List (List UInt8)} {l : List Tok} (hl : l.map kt = ns.map fun n => ((1 : Int), n)) {t : List UInt8} {rest : List Tok} (hr : seesT rest 6 t = false) : seesT (l ++ rest) 6 t = false := by
  cases ns with
  | nil =>
    have : l = [] := by simpa using hl
    subst this; exact hr
  | cons n ns =>
    simp only [List.map_cons] at hl
    obtain ⟨a, q, rfl, a1, a2, hq⟩ := map_cons' hl
    simp [sees_head, a1]
theorem altA_read {a : Ta} {l : List Tok} (hl : l.map kt = altK a) {b : Tok} {rest : List Tok} (b1 : b.kind = 6) (b2 : b.text = [45, 62]) :
    wordR ⟨l ++ b :: rest, false⟩ 2 [] = a.con ∧ altA ⟨l ++ b :: rest, false⟩ = (a.types, a.cos, a.vars, ⟨b :: rest, false⟩) := by
  unfold altK at hl
  obtain ⟨c, q, rfl, c1, c2, hq⟩ := map_cons' hl
  obtain ⟨l1, q1, rfl, h1, hq1⟩ := map_app' hq
  obtain ⟨l2, l3, rfl, h2, h3⟩ := map_app' hq1
  have r64 : seesT (b :: rest) 6 [64] = false := by simp [sees_head, b1, b2]
  have r126 : seesT (b :: rest) 6 [126] = false := by simp [sees_head, b1, b2]
  have rn : seesT (b :: rest) 1 [] = false := by simp [sees_head, b1]
  have n1 := hitR (t := c) (q := l1 ++ (l2 ++ (l3 ++ b :: rest))) (k := 2) (s := []) c1 rfl
  have e1 := marks_read' [64] h1 (rest := l2 ++ (l3 ++ b :: rest)) (mark_head h2 (by decide) (by decide) (names_head h3 r64))
  have e2 := marks_read' [126] h2 (rest := l3 ++ b :: rest) (names_head h3 r126)
  obtain ⟨e3, e4⟩ := names_read a.vars l3 h3 (b :: rest) rn
  have el : c :: (l1 ++ (l2 ++ l3)) ++ b :: rest = c :: (l1 ++ (l2 ++ (l3 ++ b :: rest))) := by simp
  rw [el]
  refine ⟨by rw [n1.2.2.2, c2], ?_⟩
  unfold altA
  simp only [n1.2.1, e1, e2, behindR, namesR, Bool.false_eq_true, if_false, e3, e4]
/-! words, joined -/
theorem join_cons2 (w v : List UInt8) (r : List (List UInt8)) (sep : List UInt8) : Lib.join (w :: v :: r) sep = w ++ (sep ++ Lib.join (v :: r) sep) := by
  simp [Lib.join, List.intercalate, List.intersperse]
theorem join_words : ∀ (ws : List (List UInt8 × List (Int × List UInt8))) (w : List UInt8) (kw : List (Int × List UInt8)), Lx w kw true → (∀ x ∈ ws, Lx x.1 x.2 true) → Lx (Lib.join (w :: ws.map Prod.fst) [32]) (kw ++ (ws.map Prod.snd).flatten) true
  | [], w, kw, hw, _ => by
    rw [List.map_nil, join_one]; simpa using hw
  | (v, kv) :: ws, w, kw, hw, h => by
    have ih := join_words ws v kv (h (v, kv) (List.mem_cons_self ..)) (fun x hx => h x (List.mem_cons_of_mem _ hx))
    rw [List.map_cons, List.map_cons, join_cons2, List.flatten_cons]
    have := Lx_append hw (Lx_append Lx_space ih (fun h => by cases h)) (fun _ => rfl)
    simpa using this
theorem L64' : Lx [64] [(6, [64])] false := Lx_sign 64 (by decide) (by decide) (by decide) (by decide) (by decide)
theorem L126' : Lx [126] [(6, [126])] false := Lx_sign 126 (by decide) (by decide) (by decide) (by decide) (by decide)
theorem L59 : Lx [59, 32] [(6, [59])] false := by
  have := Lx_append (Lx_sign 59 (by decide) (by decide) (by decide) (by decide) (by decide)) Lx_space (fun h => by cases h)
  simpa using this
/-- an alternative's words with their tokens -/
def altP (a : Ta) : List (List UInt8 × List (Int × List UInt8)) :=
  a.types.map (fun v => ([64] ++ v, [((6 : Int), [64]), (1, v)])) ++ (a.cos.map (fun v => ([126] ++ v, [((6 : Int), [126]), (1, v)])) ++ a.vars.map fun v => (v, [((1 : Int), v)]))
theorem altP_fst (a : Ta) : a.con :: (altP a).map Prod.fst = altW a := by
  simp only [altP, altW, List.map_append, List.map_map, List.cons_append, List.nil_append, List.append_assoc]
  congr 2
  congr 1
  simp [Function.comp_def]
theorem altP_snd (a : Ta) : (2, a.con) :: ((altP a).map Prod.snd).flatten = altK a := by
  simp only [altP, altK, markK, List.map_append, List.map_map, List.flatten_append, List.flatMap_def, Function.comp_def]
  congr 3
  induction a.vars with
  | nil => rfl
  | cons v r ih => simp only [List.map_cons, List.flatten_cons, ih]; rfl
theorem alt_lx {a : Ta} (h : isW 2 a.con ∧ WN a.types ∧ WN a.cos ∧ WN a.vars) : Lx (Lib.join (altW a) [32]) (altK a) true := by
  rw [← altP_fst, ← altP_snd]
  refine join_words (altP a) a.con [(2, a.con)] (Lx_word h.1) ?_
  intro x hx
  simp only [altP, List.mem_append, List.mem_map] at hx
  rcases hx with ⟨v, hv, rfl⟩ | ⟨v, hv, rfl⟩ | ⟨v, hv, rfl⟩
  · exact Lx_append L64' (Lx_word (h.2.1 v hv)) (fun h => by cases h)
  · exact Lx_append L126' (Lx_word (h.2.2.1 v hv)) (fun h => by cases h)
  · exact Lx_word (h.2.2.2 v hv)
/-! alternatives -/
theorem alts_one {a : Ta} {kb : List (Int × List UInt8)} (hb : Rm kb a.body) {l : List Tok} (hl : l.map kt = altK a ++ ((6, [45, 62]) :: kb)) (rest : List Tok) :
    ∃ f, ∀ g, f ≤ g → ∃ r4, trR g .term (takeR (altA ⟨l ++ rest, false⟩).2.2.2 6 [45, 62]) = some (a.body, r4) ∧ r4 = ⟨rest, false⟩ ∧
      Ta.mk (wordR ⟨l ++ rest, false⟩ 2 []) (altA ⟨l ++ rest, false⟩).1 (altA ⟨l ++ rest, false⟩).2.1 (altA ⟨l ++ rest, false⟩).2.2.1 a.body = a := by
  obtain ⟨p, q, rfl, hp, hq⟩ := map_app' hl
  obtain ⟨b, q', rfl, b1, b2, hq'⟩ := map_cons' hq
  obtain ⟨e1, e2⟩ := altA_read hp (b := b) (rest := q' ++ rest) b1 b2
  obtain ⟨f, hf⟩ := hb q' hq' rest
  have n1 := hitR (t := b) (q := q' ++ rest) (k := 6) (s := [45, 62]) b1 (by simp [b2])
  have el : p ++ b :: q' ++ rest = p ++ b :: (q' ++ rest) := by simp
  refine ⟨f, fun g hg => ⟨⟨rest, false⟩, ?_, rfl, ?_⟩⟩
  · rw [el, e2]
    simp only [n1.2.1, hf g hg]
  · rw [el, e1, e2]
    cases a; rfl
def AFact (al : List Ta) : Prop := ∃ ss k, (∀ F f, 3 * Ta.tots al ≤ F → Ta.tots al ≤ f → altsM (mpR F f) al = some ss) ∧ ((al = [] ∧ ss = [] ∧ k = []) ∨ (ss ≠ [] ∧ Lx (Lib.join ss [59, 32]) k true ∧ (∃ c q, k = (2, c) :: q) ∧ headSep (Lib.join ss [59, 32]) = false ∧
  ∀ l, l.map kt = k → ∀ rest, seesT rest 6 [59] = false → ∀ acc, ∃ f, ∀ g, f ≤ g → trR g (.alts acc) ⟨l ++ rest, false⟩ = some (.mk 0 [] zTy zCx [] (acc ++ al), ⟨rest, false⟩)))
theorem alts_fact : ∀ (al : List Ta), Ta.tots al ≤ 1000000 → (∀ a, a ∈ al → isW 2 a.con ∧ WN a.types ∧ WN a.cos ∧ WN a.vars) → (∀ a, a ∈ al → a.body.tot ≤ 1000000 → MFact a.body) → AFact al
  | [], _, _, _ => ⟨[], [], fun F f _ _ => rfl, .inl ⟨rfl, rfl, rfl⟩⟩
  | a :: r, hs, hw, hp => by
    have ha : (a :: r).length ≤ (a :: r).length := Nat.le_refl _
    have ht : Ta.tots (a :: r) = a.body.tot + a.types.length + a.cos.length + a.vars.length + 1 + Ta.tots r := by cases a; simp [Ta.tots, Ta.tot, Ta.body, Ta.types, Ta.cos, Ta.vars]
    obtain ⟨s, kb, s1, s2, s3, s4⟩ := hp a (List.mem_cons_self ..) (by omega)
    have hwa := hw a (List.mem_cons_self ..)
    have hlx : Lx (altM a s) (altK a ++ ((6, [45, 62]) :: kb)) true := by
      have := Lx_append (Lx_append (alt_lx hwa) Larr (fun _ => by decide)) s2 (fun h => by cases h)
      simpa [altM] using this
    have hhead : headSep (altM a s) = false := by
      obtain ⟨c, q, hc, hcw⟩ := word_headSep hwa.1
      have : ∃ z, Lib.join (altW a) [32] = c :: z := by
        unfold altW
        rw [List.append_assoc, List.append_assoc]
        cases hx : (a.types.map ([64] ++ ·) ++ (a.cos.map ([126] ++ ·) ++ a.vars)) with
        | nil => exact ⟨q, by rw [List.append_nil, join_one, hc]⟩
        | cons v r => exact ⟨_, by rw [List.cons_append, List.nil_append, join_cons2, hc, List.cons_append]⟩
      obtain ⟨z, hz⟩ := this
      unfold altM
      rw [hz]
      simp [headSep, hcw]
    rcases alts_fact r (by omega) (fun x hx => hw x (List.mem_cons_of_mem _ hx)) (fun x hx => hp x (List.mem_cons_of_mem _ hx)) with ⟨ss, k, h1, h2⟩
    have hal : ∀ F f, 3 * Ta.tots (a :: r) ≤ F → Ta.tots (a :: r) ≤ f → altsM (mpR F f) (a :: r) = some (altM a s :: ss) := by
      intro F f hF hf
      simp only [altsM, s1 F f (by omega) (by omega), h1 F f (by omega) (by omega)]
    rcases h2 with ⟨rfl, rfl, rfl⟩ | ⟨hne, h2, ⟨c0, q0, hk0⟩, h2', h3⟩
    · refine ⟨[altM a s], altK a ++ ((6, [45, 62]) :: kb), hal, .inr ⟨by simp, ?_, ⟨_, _, rfl⟩, ?_, ?_⟩⟩
      · rw [show Lib.join [altM a s] [59, 32] = altM a s by simp [Lib.join, List.intercalate]]; exact hlx
      · rw [show Lib.join [altM a s] [59, 32] = altM a s by simp [Lib.join, List.intercalate]]; exact hhead
      · intro l hl rest hr acc
        obtain ⟨f, hf⟩ := alts_one s3 hl rest
        refine ⟨f + 1, fun g hg => ?_⟩
        obtain ⟨g, rfl⟩ : ∃ g', g = g' + 1 := ⟨g - 1, by omega⟩
        obtain ⟨r4, e1, rfl, e2⟩ := hf g (by omega)
        have hr' : seesR ⟨rest, false⟩ 6 [59] = false := by simp [seesR, hr]
        simp only [trR, e1, hr', Bool.false_eq_true, if_false, e2]
    · obtain ⟨x, ss', rfl⟩ : ∃ x y, ss = x :: y := by cases ss with
        | nil => exact absurd rfl hne
        | cons x y => exact ⟨x, y, rfl⟩
      refine ⟨altM a s :: x :: ss', (altK a ++ ((6, [45, 62]) :: kb)) ++ ((6, [59]) :: k), hal, .inr ⟨by simp, ?_, ⟨_, _, rfl⟩, ?_, ?_⟩⟩
      · rw [join_cons2]
        have := Lx_append hlx (Lx_append L59 h2 (fun h => by cases h)) (fun _ => by rfl)
        simpa using this
      · rw [join_cons2]
        cases hm : altM a s with
        | nil =>
          exfalso
          have : (altM a s).length = 0 := by rw [hm]; rfl
          simp [altM] at this
        | cons c z => rw [hm] at hhead; exact hhead
      · intro l hl rest hr acc
        obtain ⟨p, q, rfl, hp', hq⟩ := map_app' hl
        obtain ⟨b, q', rfl, b1, b2, hq'⟩ := map_cons' hq
        obtain ⟨f, hf⟩ := alts_one s3 hp' (b :: (q' ++ rest))
        obtain ⟨f2, hf2⟩ := h3 q' hq' rest hr (acc ++ [a])
        refine ⟨max f f2 + 1, fun g hg => ?_⟩
        obtain ⟨g, rfl⟩ : ∃ g', g = g' + 1 := ⟨g - 1, by omega⟩
        obtain ⟨r4, e1, rfl, e2⟩ := hf g (by omega)
        have e3 := hf2 g (by omega)
        have n1 := hitR (t := b) (q := q' ++ rest) (k := 6) (s := [59]) b1 (by simp [b2])
        have el : p ++ b :: q' ++ rest = p ++ b :: (q' ++ rest) := by simp
        rw [el]
        simp only [trR, e1, n1.1, n1.2.2.1, if_true, e2, e3]
        simp
end Go.Proofs
namespace Go.Proofs
open Go.Av
set_option maxHeartbeats 8000000
set_option maxRecDepth 100000
/-! a term that was written is read again -/
theorem term_fact {e : Tm} (h : WM e) : e.tot ≤ 1000000 → MFact e := by
  have lz := zTy_sz
  have lc := zCx_tot
  induction h with
  | nam k s hk hw =>
    intro hs
    obtain ⟨s', hb, h3⟩ := mpR_tot (WM.nam k s hk hw).GM hs
    have h4 := h3 (3 * (Tm.mk k s zTy zCx [] []).tot) ((Tm.mk k s zTy zCx [] []).tot + 1) (Nat.le_refl _) (by omega)
    have e : short s = some s' := by
      rcases hk with rfl | rfl
      · simp only [mpR, tmk] at h4
        exact h4
      · simp only [mpR, tmk] at h4
        exact h4
    have e2 := (short_some e).1.symm
    subst e2
    refine ⟨_, [(k, s)], h3, Lx_word hw, ?_, _, _, rfl, by rcases hk with rfl | rfl <;> simp⟩
    intro l hl rest
    obtain ⟨a, q, rfl, a1, a2, hq⟩ := map_cons' hl
    have : q = [] := by simpa using hq
    subst this
    refine ⟨1, fun g hg => ?_⟩
    obtain ⟨g, rfl⟩ : ∃ g', g = g' + 1 := ⟨g - 1, by omega⟩
    rcases hk with rfl | rfl
    · have n1 := hitR (t := a) (q := rest) (k := 1) (s := []) a1 rfl
      simp only [List.cons_append, List.nil_append, trR, n1.1, if_true, n1.2.1, n1.2.2.2, a2]
    · have n1 := hitR (t := a) (q := rest) (k := 2) (s := []) a1 rfl
      have m1 : seesR ⟨a :: rest, false⟩ 1 [] = false := missR (by simp [a1])
      simp only [List.cons_append, List.nil_append, trR, m1, n1.1, if_true, n1.2.1, n1.2.2.2, a2, Bool.false_eq_true, if_false]
  | lam s t x hw hT hx ih =>
    intro hs
    have hs' := hs
    rw [tm_tot_mk, tm_tots_one, ta_tots_nil] at hs'
    obtain ⟨a, ka, a1, a2, a3, a4⟩ := ih (by omega)
    obtain ⟨⟨b, kb, b1, b2⟩, _⟩ := ty_fact hT (by omega)
    obtain ⟨s', hb, h3⟩ := mpR_tot (WM.lam s t x hw hT hx).GM hs
    have h4 := h3 (3 * (Tm.mk 3 s t zCx [x] []).tot) ((Tm.mk 3 s t zCx [x] []).tot + 1) (Nat.le_refl _) (by omega)
    have q1 := a1 (3 * (Tm.mk 3 s t zCx [x] []).tot) (Tm.mk 3 s t zCx [x] []).tot (by rw [tm_tot_mk, tm_tots_one]; omega) (by rw [tm_tot_mk, tm_tots_one]; omega)
    have q2 := b1 (3 * (Tm.mk 3 s t zCx [x] []).tot) (by rw [tm_tot_mk]; omega)
    simp only [mpR, tmk, kids1m, q1, q2] at h4
    obtain ⟨rfl, _⟩ := short_some (show short ([40, 92] ++ s ++ [32, 58, 32] ++ b ++ [46, 32] ++ a ++ [41]) = some s' from h4)
    refine ⟨_, (6, [40]) :: (((6, [92]) :: (((1, s) :: (6, [58]) :: kb) ++ ((6, [46]) :: ka))) ++ [(6, [41])]), h3, ?_, term_par ?_, headM_par _⟩
    · have := Lx_append (Lx_append (Lx_append (Lx_append (Lx_append (Lx_append Llam (Lx_word hw) (fun h => by cases h)) L58 (fun _ => by decide)) b2.lx (fun h => by cases h)) L46 (fun _ => by decide)) a2 (fun h => by cases h)) L41 (fun _ => by decide)
      simpa using Lx_weak this
    · intro l hl rest hr
      obtain ⟨c, q, rfl, c1, c2, hq⟩ := map_cons' hl
      obtain ⟨p, q', rfl, hp, hq'⟩ := map_app' hq
      obtain ⟨d, z, rfl, d1, d2, hz⟩ := map_cons' hq'
      obtain ⟨f1, hf1⟩ := nameR_read b2.typ hp (rest := d :: (z ++ rest)) (fT_sign d1 d2 (by decide))
      obtain ⟨f2, hf2⟩ := a3 z hz rest
      refine ⟨max f1 f2 + 1, fun g hg => ?_⟩
      obtain ⟨g, rfl⟩ : ∃ g', g = g' + 1 := ⟨g - 1, by omega⟩
      obtain ⟨e1, e2⟩ := hf1 g (by omega)
      have e3 := hf2 g (by omega)
      have n1 := hitR (t := c) (q := p ++ d :: (z ++ rest)) (k := 6) (s := [92]) c1 (by simp [c2])
      have n2 := hitR (t := d) (q := z ++ rest) (k := 6) (s := [46]) d1 (by simp [d2])
      have el : c :: (p ++ d :: z) ++ rest = c :: (p ++ d :: (z ++ rest)) := by simp
      rw [el]
      simp only [trR, n1.1, if_true, n1.2.2.1, e1, e2, n2.2.1, e3]
  | tlam s x hw hx ih =>
    intro hs
    have hs' := hs
    rw [tm_tot_mk, tm_tots_one, ta_tots_nil] at hs'
    obtain ⟨a, ka, a1, a2, a3, a4⟩ := ih (by omega)
    obtain ⟨s', hb, h3⟩ := mpR_tot (WM.tlam s x hw hx).GM hs
    have h4 := h3 (3 * (Tm.mk 4 s zTy zCx [x] []).tot) ((Tm.mk 4 s zTy zCx [x] []).tot + 1) (Nat.le_refl _) (by omega)
    have q1 := a1 (3 * (Tm.mk 4 s zTy zCx [x] []).tot) (Tm.mk 4 s zTy zCx [x] []).tot (by rw [tm_tot_mk, tm_tots_one]; omega) (by rw [tm_tot_mk, tm_tots_one]; omega)
    simp only [mpR, tmk, kids1m, q1] at h4
    obtain ⟨rfl, _⟩ := short_some (show short ([40, 33] ++ s ++ [46, 32] ++ a ++ [41]) = some s' from h4)
    refine ⟨_, (6, [40]) :: (((6, [33]) :: ((1, s) :: ((6, [46]) :: ka))) ++ [(6, [41])]), h3, ?_, term_par ?_, headM_par _⟩
    · have := Lx_append (Lx_append (Lx_append (Lx_append Lall (Lx_word hw) (fun h => by cases h)) L46 (fun _ => by decide)) a2 (fun h => by cases h)) L41 (fun _ => by decide)
      simpa using Lx_weak this
    · intro l hl rest hr
      obtain ⟨c, q, rfl, c1, c2, hq⟩ := map_cons' hl
      obtain ⟨b, q', rfl, b1, b2, hq'⟩ := map_cons' hq
      obtain ⟨d, z, rfl, d1, d2, hz⟩ := map_cons' hq'
      obtain ⟨f2, hf2⟩ := a3 z hz rest
      refine ⟨f2 + 1, fun g hg => ?_⟩
      obtain ⟨g, rfl⟩ : ∃ g', g = g' + 1 := ⟨g - 1, by omega⟩
      have e3 := hf2 g (by omega)
      have m1 : seesR ⟨c :: b :: d :: (z ++ rest), false⟩ 6 [92] = false := missR (by simp [c1, c2])
      have n1 := hitR (t := c) (q := b :: d :: (z ++ rest)) (k := 6) (s := [33]) c1 (by simp [c2])
      have n3 := hitR (t := b) (q := d :: (z ++ rest)) (k := 1) (s := []) b1 rfl
      have n2 := hitR (t := d) (q := z ++ rest) (k := 6) (s := [46]) d1 (by simp [d2])
      simp only [List.cons_append, trR, m1, n1.1, if_true, n1.2.2.1, n3.2.1, n3.2.2.2, b2, n2.2.1, e3, Bool.false_eq_true, if_false]
  | app x y hx hy ihx ihy =>
    intro hs
    have hs' := hs
    rw [tm_tot_mk, tm_tots_two, ta_tots_nil] at hs'
    obtain ⟨a, ka, a1, a2, a3, a4⟩ := ihx (by omega)
    obtain ⟨b, kb, b1, b2, b3, b4⟩ := ihy (by omega)
    obtain ⟨s', hb, h3⟩ := mpR_tot (WM.app x y hx hy).GM hs
    have h4 := h3 (3 * (Tm.mk 5 [] zTy zCx [x, y] []).tot) ((Tm.mk 5 [] zTy zCx [x, y] []).tot + 1) (Nat.le_refl _) (by omega)
    have q1 := a1 (3 * (Tm.mk 5 [] zTy zCx [x, y] []).tot) (Tm.mk 5 [] zTy zCx [x, y] []).tot (by rw [tm_tot_mk, tm_tots_two]; omega) (by rw [tm_tot_mk, tm_tots_two]; omega)
    have q2 := b1 (3 * (Tm.mk 5 [] zTy zCx [x, y] []).tot) (Tm.mk 5 [] zTy zCx [x, y] []).tot (by rw [tm_tot_mk, tm_tots_two]; omega) (by rw [tm_tot_mk, tm_tots_two]; omega)
    simp only [mpR, tmk, kids2m, q1, q2] at h4
    obtain ⟨rfl, _⟩ := short_some (show short ([40] ++ a ++ [32] ++ b ++ [41]) = some s' from h4)
    refine ⟨_, (6, [40]) :: ((ka ++ kb) ++ [(6, [41])]), h3, ?_, term_par ?_, headM_par _⟩
    · have := Lx_append (Lx_append (Lx_append (Lx_append L40 a2 (fun h => by cases h)) Lx_space (fun _ => by decide)) b2 (fun h => by cases h)) L41 (fun _ => by decide)
      simpa using Lx_weak this
    · intro l hl rest hr
      obtain ⟨p, q, rfl, hp, hq⟩ := map_app' hl
      obtain ⟨f1, hf1⟩ := a3 p hp (q ++ rest)
      obtain ⟨f2, hf2⟩ := b3 q hq rest
      have m1 := form_head a4 hp (q ++ rest)
      have m2 := form_head b4 hq rest
      refine ⟨max f1 f2 + 1, fun g hg => ?_⟩
      obtain ⟨g, rfl⟩ : ∃ g', g = g' + 1 := ⟨g - 1, by omega⟩
      have e1 := hf1 g (by omega)
      have e2 := hf2 g (by omega)
      rw [List.append_assoc]
      simp only [trR, m1.1, m1.2.1, m1.2.2.1, m1.2.2.2.1, e1, m2.2.2.2.2.1, m2.2.2.2.2.2.1, m2.2.2.2.2.2.2, e2, Bool.false_eq_true, if_false]
  | tapp t x hT hx ih =>
    intro hs
    have hs' := hs
    rw [tm_tot_mk, tm_tots_one, ta_tots_nil] at hs'
    obtain ⟨a, ka, a1, a2, a3, a4⟩ := ih (by omega)
    obtain ⟨⟨b, kb, b1, b2⟩, _⟩ := ty_fact hT (by omega)
    obtain ⟨s', hb, h3⟩ := mpR_tot (WM.tapp t x hT hx).GM hs
    have h4 := h3 (3 * (Tm.mk 6 [] t zCx [x] []).tot) ((Tm.mk 6 [] t zCx [x] []).tot + 1) (Nat.le_refl _) (by omega)
    have q1 := a1 (3 * (Tm.mk 6 [] t zCx [x] []).tot) (Tm.mk 6 [] t zCx [x] []).tot (by rw [tm_tot_mk, tm_tots_one]; omega) (by rw [tm_tot_mk, tm_tots_one]; omega)
    have q2 := b1 (3 * (Tm.mk 6 [] t zCx [x] []).tot) (by rw [tm_tot_mk]; omega)
    simp only [mpR, tmk, kids1m, q1, q2] at h4
    obtain ⟨rfl, _⟩ := short_some (show short ([40] ++ a ++ [32, 64, 32] ++ b ++ [41]) = some s' from h4)
    refine ⟨_, (6, [40]) :: ((ka ++ ((6, [64]) :: kb)) ++ [(6, [41])]), h3, ?_, term_par ?_, headM_par _⟩
    · have := Lx_append (Lx_append (Lx_append (Lx_append L40 a2 (fun h => by cases h)) L64 (fun _ => by decide)) b2.lx (fun h => by cases h)) L41 (fun _ => by decide)
      simpa using Lx_weak this
    · intro l hl rest hr
      obtain ⟨p, q, rfl, hp, hq⟩ := map_app' hl
      obtain ⟨d, z, rfl, d1, d2, hz⟩ := map_cons' hq
      obtain ⟨f1, hf1⟩ := a3 p hp (d :: (z ++ rest))
      obtain ⟨f2, hf2⟩ := typR_read b2.typ hz (fT_41 hr)
      have m1 := form_head a4 hp (d :: (z ++ rest))
      refine ⟨max f1 f2 + 1, fun g hg => ?_⟩
      obtain ⟨g, rfl⟩ : ∃ g', g = g' + 1 := ⟨g - 1, by omega⟩
      have e1 := hf1 g (by omega)
      have e2 := hf2 g (by omega)
      have n2 := hitR (t := d) (q := z ++ rest) (k := 6) (s := [64]) d1 (by simp [d2])
      have el : p ++ d :: z ++ rest = p ++ d :: (z ++ rest) := by simp
      rw [el]
      simp only [trR, m1.1, m1.2.1, m1.2.2.1, m1.2.2.2.1, e1, n2.1, n2.2.2.1, e2, Bool.false_eq_true, if_false, if_true]
  | capp c x hC hx ih =>
    intro hs
    have hs' := hs
    rw [tm_tot_mk, tm_tots_one, ta_tots_nil] at hs'
    obtain ⟨a, ka, a1, a2, a3, a4⟩ := ih (by omega)
    obtain ⟨b, kb, b1, b2, b3, _⟩ := co_fact hC (by omega)
    obtain ⟨s', hb, h3⟩ := mpR_tot (WM.capp c x hC hx).GM hs
    have h4 := h3 (3 * (Tm.mk 7 [] zTy c [x] []).tot) ((Tm.mk 7 [] zTy c [x] []).tot + 1) (Nat.le_refl _) (by omega)
    have q1 := a1 (3 * (Tm.mk 7 [] zTy c [x] []).tot) (Tm.mk 7 [] zTy c [x] []).tot (by rw [tm_tot_mk, tm_tots_one]; omega) (by rw [tm_tot_mk, tm_tots_one]; omega)
    have q2 := b1 (3 * (Tm.mk 7 [] zTy c [x] []).tot) (3 * (Tm.mk 7 [] zTy c [x] []).tot) (by rw [tm_tot_mk]; omega) (by rw [tm_tot_mk]; omega)
    simp only [mpR, tmk, kids1m, q1, q2] at h4
    obtain ⟨rfl, _⟩ := short_some (show short ([40] ++ a ++ [32, 126, 32] ++ b ++ [41]) = some s' from h4)
    refine ⟨_, (6, [40]) :: ((ka ++ ((6, [126]) :: kb)) ++ [(6, [41])]), h3, ?_, term_par ?_, headM_par _⟩
    · have := Lx_append (Lx_append (Lx_append (Lx_append L40 a2 (fun h => by cases h)) L126 (fun _ => by decide)) b2 (fun h => by cases h)) L41 (fun _ => by decide)
      simpa using Lx_weak this
    · intro l hl rest hr
      obtain ⟨p, q, rfl, hp, hq⟩ := map_app' hl
      obtain ⟨d, z, rfl, d1, d2, hz⟩ := map_cons' hq
      obtain ⟨f1, hf1⟩ := a3 p hp (d :: (z ++ rest))
      obtain ⟨f2, hf2⟩ := coR2_read b3 hz rest
      have m1 := form_head a4 hp (d :: (z ++ rest))
      have m2 : seesR ⟨d :: (z ++ rest), false⟩ 6 [64] = false := missR (by simp [d1, d2])
      refine ⟨max f1 f2 + 1, fun g hg => ?_⟩
      obtain ⟨g, rfl⟩ : ∃ g', g = g' + 1 := ⟨g - 1, by omega⟩
      have e1 := hf1 g (by omega)
      have e2 := hf2 g (by omega)
      have n2 := hitR (t := d) (q := z ++ rest) (k := 6) (s := [126]) d1 (by simp [d2])
      have el : p ++ d :: z ++ rest = p ++ d :: (z ++ rest) := by simp
      rw [el]
      simp only [trR, m1.1, m1.2.1, m1.2.2.1, m1.2.2.2.1, e1, m2, n2.1, n2.2.2.1, e2, Bool.false_eq_true, if_false, if_true]
  | lett s t x y hw hT hx hy ihx ihy =>
    intro hs
    have hs' := hs
    rw [tm_tot_mk, tm_tots_two, ta_tots_nil] at hs'
    obtain ⟨a, ka, a1, a2, a3, a4⟩ := ihx (by omega)
    obtain ⟨b, kb, b1, b2, b3, b4⟩ := ihy (by omega)
    obtain ⟨⟨c, kc, c1, c2⟩, _⟩ := ty_fact hT (by omega)
    obtain ⟨s', hb, h3⟩ := mpR_tot (WM.lett s t x y hw hT hx hy).GM hs
    have h4 := h3 (3 * (Tm.mk 8 s t zCx [x, y] []).tot) ((Tm.mk 8 s t zCx [x, y] []).tot + 1) (Nat.le_refl _) (by omega)
    have q1 := a1 (3 * (Tm.mk 8 s t zCx [x, y] []).tot) (Tm.mk 8 s t zCx [x, y] []).tot (by rw [tm_tot_mk, tm_tots_two]; omega) (by rw [tm_tot_mk, tm_tots_two]; omega)
    have q2 := b1 (3 * (Tm.mk 8 s t zCx [x, y] []).tot) (Tm.mk 8 s t zCx [x, y] []).tot (by rw [tm_tot_mk, tm_tots_two]; omega) (by rw [tm_tot_mk, tm_tots_two]; omega)
    have q3 := c1 (3 * (Tm.mk 8 s t zCx [x, y] []).tot) (by rw [tm_tot_mk]; omega)
    simp only [mpR, tmk, kids2m, q1, q2, q3] at h4
    obtain ⟨rfl, _⟩ := short_some (show short ([40, 108, 101, 116, 32] ++ s ++ [32, 58, 32] ++ c ++ [32, 61, 32] ++ a ++ [32, 105, 110, 32] ++ b ++ [41]) = some s' from h4)
    refine ⟨_, (6, [40]) :: (((3, [108, 101, 116]) :: (((1, s) :: (6, [58]) :: kc) ++ ((6, [61]) :: (ka ++ ((3, [105, 110]) :: kb))))) ++ [(6, [41])]), h3, ?_, term_par ?_, headM_par _⟩
    · have := Lx_append (Lx_append (Lx_append (Lx_append (Lx_append (Lx_append (Lx_append (Lx_append Llet (Lx_word hw) (fun h => by cases h)) L58 (fun _ => by decide)) c2.lx (fun h => by cases h)) L61 (fun _ => by decide)) a2 (fun h => by cases h)) Lin (fun _ => by decide)) b2 (fun h => by cases h)) L41 (fun _ => by decide)
      simpa using Lx_weak this
    · intro l hl rest hr
      obtain ⟨o, q, rfl, o1, o2, hq⟩ := map_cons' hl
      obtain ⟨p, q', rfl, hp, hq'⟩ := map_app' hq
      obtain ⟨d, z, rfl, d1, d2, hz⟩ := map_cons' hq'
      obtain ⟨u, z', rfl, hu, hz'⟩ := map_app' hz
      obtain ⟨i, v, rfl, i1, i2, hv⟩ := map_cons' hz'
      obtain ⟨f1, hf1⟩ := nameR_read c2.typ hp (rest := d :: (u ++ i :: (v ++ rest))) (fT_sign d1 d2 (by decide))
      obtain ⟨f2, hf2⟩ := a3 u hu (i :: (v ++ rest))
      obtain ⟨f3, hf3⟩ := b3 v hv rest
      refine ⟨max f1 (max f2 f3) + 1, fun g hg => ?_⟩
      obtain ⟨g, rfl⟩ : ∃ g', g = g' + 1 := ⟨g - 1, by omega⟩
      obtain ⟨e1, e2⟩ := hf1 g (by omega)
      have e3 := hf2 g (by omega)
      have e4 := hf3 g (by omega)
      have m1 : seesR ⟨o :: (p ++ d :: (u ++ i :: (v ++ rest))), false⟩ 6 [92] = false := missR (by simp [o1])
      have m2 : seesR ⟨o :: (p ++ d :: (u ++ i :: (v ++ rest))), false⟩ 6 [33] = false := missR (by simp [o1])
      have n1 := hitR (t := o) (q := p ++ d :: (u ++ i :: (v ++ rest))) (k := 3) (s := [108, 101, 116]) o1 (by simp [o2])
      have n2 := hitR (t := d) (q := u ++ i :: (v ++ rest)) (k := 6) (s := [61]) d1 (by simp [d2])
      have n3 := hitR (t := i) (q := v ++ rest) (k := 3) (s := [105, 110]) i1 (by simp [i2])
      have el : o :: (p ++ d :: (u ++ i :: v)) ++ rest = o :: (p ++ d :: (u ++ i :: (v ++ rest))) := by simp
      rw [el]
      simp only [trR, m1, m2, n1.1, if_true, n1.2.1, e1, e2, n2.2.1, e3, n3.2.1, e4, Bool.false_eq_true, if_false]
  | cas t x al hT hx hb0 hn ihx ihb =>
    intro hs
    have hs' := hs
    rw [tm_tot_mk, tm_tots_one] at hs'
    obtain ⟨a, ka, a1, a2, a3, a4⟩ := ihx (by omega)
    obtain ⟨⟨c, kc, c1, c2⟩, _⟩ := ty_fact hT (by omega)
    obtain ⟨ss, kl, l1, l2⟩ := alts_fact al (by omega) hn ihb
    obtain ⟨s', hb, h3⟩ := mpR_tot (WM.cas t x al hT hx hb0 hn).GM hs
    have h4 := h3 (3 * (Tm.mk 9 [] t zCx [x] al).tot) ((Tm.mk 9 [] t zCx [x] al).tot + 1) (Nat.le_refl _) (by omega)
    have q1 := a1 (3 * (Tm.mk 9 [] t zCx [x] al).tot) (Tm.mk 9 [] t zCx [x] al).tot (by rw [tm_tot_mk, tm_tots_one]; omega) (by rw [tm_tot_mk, tm_tots_one]; omega)
    have q2 := l1 (3 * (Tm.mk 9 [] t zCx [x] al).tot) (Tm.mk 9 [] t zCx [x] al).tot (by rw [tm_tot_mk]; omega) (by rw [tm_tot_mk]; omega)
    have q3 := c1 (3 * (Tm.mk 9 [] t zCx [x] al).tot) (by rw [tm_tot_mk]; omega)
    simp only [mpR, tmk, kids1m, q1, q2, q3] at h4
    obtain ⟨rfl, _⟩ := short_some (show short ([40, 99, 97, 115, 101, 32] ++ a ++ [32, 58, 32] ++ c ++ [32, 111, 102, 32, 123] ++ Lib.join ss [59, 32] ++ [125, 41]) = some s' from h4)
    refine ⟨_, (6, [40]) :: (((3, [99, 97, 115, 101]) :: (ka ++ ((6, [58]) :: (kc ++ ((3, [111, 102]) :: (6, [123]) :: (kl ++ [(6, [125])])))))) ++ [(6, [41])]), h3, ?_, term_par ?_, headM_par _⟩
    · have h0 := Lx_append (Lx_append (Lx_append (Lx_append Lcase a2 (fun h => by cases h)) L58 (fun _ => by decide)) c2.lx (fun h => by cases h)) Lof (fun _ => by decide)
      rcases l2 with ⟨_, rfl, rfl⟩ | ⟨_, l2, _⟩
      · have := Lx_append h0 Lend (fun h => by cases h)
        have hj : Lib.join [] [59, 32] = [] := by simp [Lib.join]
        rw [hj]
        simpa using Lx_weak this
      · have := Lx_append (Lx_append h0 l2 (fun h => by cases h)) Lend (fun _ => by decide)
        simpa using Lx_weak this
    · intro l hl rest hr
      obtain ⟨o, q, rfl, o1, o2, hq⟩ := map_cons' hl
      obtain ⟨p, q', rfl, hp, hq'⟩ := map_app' hq
      obtain ⟨d, z, rfl, d1, d2, hz⟩ := map_cons' hq'
      obtain ⟨u, z', rfl, hu, hz'⟩ := map_app' hz
      obtain ⟨i, v, rfl, i1, i2, hv⟩ := map_cons' hz'
      obtain ⟨j, v', rfl, j1, j2, hv'⟩ := map_cons' hv
      obtain ⟨w, y', rfl, hw, hy'⟩ := map_app' hv'
      obtain ⟨n, y, rfl, n1, n2, hy⟩ := map_cons' hy'
      have : y = [] := by simpa using hy
      subst this
      obtain ⟨f1, hf1⟩ := a3 p hp (d :: (u ++ i :: j :: (w ++ n :: rest)))
      obtain ⟨f2, hf2⟩ := typR_read c2.typ hu (rest := i :: j :: (w ++ n :: rest)) (fT_kw i1)
      have m1 : seesR ⟨o :: (p ++ d :: (u ++ i :: j :: (w ++ n :: rest))), false⟩ 6 [92] = false := missR (by simp [o1])
      have m2 : seesR ⟨o :: (p ++ d :: (u ++ i :: j :: (w ++ n :: rest))), false⟩ 6 [33] = false := missR (by simp [o1])
      have m3 : seesR ⟨o :: (p ++ d :: (u ++ i :: j :: (w ++ n :: rest))), false⟩ 3 [108, 101, 116] = false := missR (by simp [o1, o2])
      have t1 := hitR (t := o) (q := p ++ d :: (u ++ i :: j :: (w ++ n :: rest))) (k := 3) (s := [99, 97, 115, 101]) o1 (by simp [o2])
      have t2 := hitR (t := d) (q := u ++ i :: j :: (w ++ n :: rest)) (k := 6) (s := [58]) d1 (by simp [d2])
      have t3 := hitR (t := i) (q := j :: (w ++ n :: rest)) (k := 3) (s := [111, 102]) i1 (by simp [i2])
      have t4 := hitR (t := j) (q := w ++ n :: rest) (k := 6) (s := [123]) j1 (by simp [j2])
      have t5 := hitR (t := n) (q := rest) (k := 6) (s := [125]) n1 (by simp [n2])
      have el : o :: (p ++ d :: (u ++ i :: j :: (w ++ [n]))) ++ rest = o :: (p ++ d :: (u ++ i :: j :: (w ++ n :: rest))) := by simp
      rw [el]
      rcases l2 with ⟨rfl, rfl, rfl⟩ | ⟨_, _, ⟨c0, k0, hk0⟩, _, l3⟩
      · have : w = [] := by simpa using hw
        subst this
        refine ⟨max f1 f2 + 1, fun g hg => ?_⟩
        obtain ⟨g, rfl⟩ : ∃ g', g = g' + 1 := ⟨g - 1, by omega⟩
        have e1 := hf1 g (by omega)
        have e2 := hf2 g (by omega)
        simp only [List.nil_append] at *
        simp only [trR, m1, m2, m3, t1.1, if_true, t1.2.1, e1, t2.2.1, e2, t3.2.1, t4.2.1, t5.1, t5.2.2.1, Bool.false_eq_true, if_false]
      · obtain ⟨f3, hf3⟩ := l3 w hw (n :: rest) (by simp [sees_head, n1, n2]) []
        have m4 : seesR ⟨w ++ n :: rest, false⟩ 6 [125] = false := by
          rw [hk0] at hw
          obtain ⟨b, b', rfl, b1, b2, _⟩ := map_cons' hw
          exact missR (by simp [b1])
        refine ⟨max f1 (max f2 f3) + 1, fun g hg => ?_⟩
        obtain ⟨g, rfl⟩ : ∃ g', g = g' + 1 := ⟨g - 1, by omega⟩
        have e1 := hf1 g (by omega)
        have e2 := hf2 g (by omega)
        have e3 := hf3 g (by omega)
        simp only [trR, m1, m2, m3, t1.1, if_true, t1.2.1, e1, t2.2.1, e2, t3.2.1, t4.2.1, m4, e3, t5.2.1, tmk, List.nil_append, Bool.false_eq_true, if_false]
  | cast c x hC hx ih =>
    intro hs
    have hs' := hs
    rw [tm_tot_mk, tm_tots_one, ta_tots_nil] at hs'
    obtain ⟨a, ka, a1, a2, a3, a4⟩ := ih (by omega)
    obtain ⟨b, kb, b1, b2, b3, _⟩ := co_fact hC (by omega)
    obtain ⟨s', hb, h3⟩ := mpR_tot (WM.cast c x hC hx).GM hs
    have h4 := h3 (3 * (Tm.mk 10 [] zTy c [x] []).tot) ((Tm.mk 10 [] zTy c [x] []).tot + 1) (Nat.le_refl _) (by omega)
    have q1 := a1 (3 * (Tm.mk 10 [] zTy c [x] []).tot) (Tm.mk 10 [] zTy c [x] []).tot (by rw [tm_tot_mk, tm_tots_one]; omega) (by rw [tm_tot_mk, tm_tots_one]; omega)
    have q2 := b1 (3 * (Tm.mk 10 [] zTy c [x] []).tot) (3 * (Tm.mk 10 [] zTy c [x] []).tot) (by rw [tm_tot_mk]; omega) (by rw [tm_tot_mk]; omega)
    simp only [mpR, tmk, kids1m, q1, q2] at h4
    obtain ⟨rfl, _⟩ := short_some (show short ([40] ++ a ++ [32, 124, 62, 32] ++ b ++ [41]) = some s' from h4)
    refine ⟨_, (6, [40]) :: ((ka ++ ((6, [124, 62]) :: kb)) ++ [(6, [41])]), h3, ?_, term_par ?_, headM_par _⟩
    · have := Lx_append (Lx_append (Lx_append (Lx_append L40 a2 (fun h => by cases h)) Lcast (fun _ => by decide)) b2 (fun h => by cases h)) L41 (fun _ => by decide)
      simpa using Lx_weak this
    · intro l hl rest hr
      obtain ⟨p, q, rfl, hp, hq⟩ := map_app' hl
      obtain ⟨d, z, rfl, d1, d2, hz⟩ := map_cons' hq
      obtain ⟨f1, hf1⟩ := a3 p hp (d :: (z ++ rest))
      obtain ⟨f2, hf2⟩ := coR2_read b3 hz rest
      have m1 := form_head a4 hp (d :: (z ++ rest))
      have m2 : seesR ⟨d :: (z ++ rest), false⟩ 6 [64] = false := missR (by simp [d1, d2])
      have m3 : seesR ⟨d :: (z ++ rest), false⟩ 6 [126] = false := missR (by simp [d1, d2])
      refine ⟨max f1 f2 + 1, fun g hg => ?_⟩
      obtain ⟨g, rfl⟩ : ∃ g', g = g' + 1 := ⟨g - 1, by omega⟩
      have e1 := hf1 g (by omega)
      have e2 := hf2 g (by omega)
      have n2 := hitR (t := d) (q := z ++ rest) (k := 6) (s := [124, 62]) d1 (by simp [d2])
      have el : p ++ d :: z ++ rest = p ++ d :: (z ++ rest) := by simp
      rw [el]
      simp only [trR, m1.1, m1.2.1, m1.2.2.1, m1.2.2.2.1, e1, m2, m3, n2.1, n2.2.2.1, e2, Bool.false_eq_true, if_false, if_true]
end Go.Proofs
namespace Go.Proofs
open Go.Av
set_option maxHeartbeats 4000000
set_option maxRecDepth 100000
/-! what is read is of words: it can be read again -/
def tokW (t : Tok) : Prop := tokF t ∧ (t.kind = 1 ∨ t.kind = 2 → isW t.kind t.text)
theorem scanS_W : ∀ (f pos : Nat) (s : List UInt8) (l : List Tok), scanS f pos s = .ok l → ∀ t ∈ l, (t.kind = 1 ∨ t.kind = 2 → isW t.kind t.text)
  | 0, _, _, _, h => by cases h
  | f + 1, pos, s, l, h => by
    simp only [scanS] at h
    split at h
    · injection h with h; subst h; intro t ht; cases ht
    · split at h
      · cases h
      · rename_i k n ht
        split at h
        · rename_i l1 h1
          injection h with h; subst h
          intro t htm
          rcases List.mem_cons.1 htm with rfl | htm
          · exact fun hk => tok_again ht hk
          · exact scanS_W f _ _ _ h1 t htm
        · cases h
theorem scanO_W (s : List UInt8) : ∀ t ∈ (scanO s).1, tokW t := by
  intro t ht
  refine ⟨(scanO_F s).2 t ht, ?_⟩
  unfold scanO at ht
  split at ht
  · simp at ht
  · split at ht
    · rename_i l hl
      exact scanS_W _ _ _ _ hl t ht
    · simp at ht
theorem wF {l : List Tok} (h : ∀ t ∈ l, tokW t) : ∀ t ∈ l, tokF t := fun t ht => (h t ht).1
theorem w3 {l : List Tok} (h : ∀ t ∈ l, tokW t) : ∀ t ∈ l, tokOK3 t := fun t ht => (h t ht).1.1
theorem memW {l' l : List Tok} (hl : ∀ t ∈ l, tokW t) (h : l' <:+ l) : ∀ t ∈ l', tokW t := fun t ht => hl t (h.subset ht)
theorem textW {l : List Tok} (hl : ∀ t ∈ l, tokW t) {k : Int} (hk : k = 1 ∨ k = 2) (h : seesT l k [] = true) : isW k (textT l) := by
  obtain ⟨t, r, rfl⟩ := seesT_cons h
  have hk' : t.kind = k := by simpa [seesT] using h
  have := (hl t (List.mem_cons_self ..)).2 (by rw [hk']; exact hk)
  rw [hk'] at this
  exact this
theorem takeW {r : Rd} (hl : ∀ t ∈ r.l, tokW t) {k : Int} (hk : k = 1 ∨ k = 2) (h : (takeR r k []).bad = false) : isW k (wordR r k []) := by
  have h1 := takeR_good h
  unfold wordR
  rw [if_pos h1]
  unfold seesR at h1
  simp only [Bool.and_eq_true] at h1
  exact textW hl hk h1.2
theorem nextW_W {r : Rd} (hl : ∀ t ∈ r.l, tokW t) {k : Int} (hk : k = 1 ∨ k = 2) (h : (nextR r k []).bad = false) : isW k (nextW r k []) := by
  obtain ⟨h1, _, _, h2⟩ := nextR_good h
  rw [h2]
  exact textW hl hk h1
theorem namesT_W : ∀ {l : List Tok}, (∀ t ∈ l, tokW t) → WN (namesT l)
  | [], _, n, h => by simp [namesT] at h
  | t :: r, hl, n, h => by
    simp only [namesT] at h
    split at h
    · rename_i hk
      rcases List.mem_cons.1 h with rfl | h
      · have hk' : t.kind = 1 := by simpa using hk
        have := (hl t (List.mem_cons_self ..)).2 (.inl hk')
        rw [hk'] at this
        exact this
      · exact namesT_W (fun x hx => hl x (List.mem_cons_of_mem _ hx)) n h
    · simp at h
theorem alls_W : ∀ (ns : List (List UInt8)) (t : Ty), WN ns → WT t → WT (ns.foldr (fun n t => .mk 5 n 0 [t]) t)
  | [], t, _, h => by simpa using h
  | n :: r, t, hn, h => by
    simp only [List.foldr_cons]
    exact .all _ _ (hn n (List.mem_cons_self ..)) (alls_W r t (fun x hx => hn x (List.mem_cons_of_mem _ hx)) h)
def TW (t : Ty) : TM → Prop
  | .loop name acc => isW 2 name → (∀ x, x ∈ acc → WT x) → WT t
  | _ => WT t
theorem tyR_W : ∀ (f : Nat) (m : TM) (l : List Tok) (t : Ty) (l' : List Tok), (∀ t ∈ l, tokW t) → tyR f m l = some (t, true, l') → TW t m := by
  intro f
  induction f with
  | zero => intro m l t l' _ h; cases h
  | succ f ih =>
    intro m l t l' hl h
    have ht := memW hl (tail_suf l)
    cases m with
    | typ =>
      simp only [tyR] at h
      split at h
      · exact ih .all _ _ _ ht h
      · split at h
        · cases h
        · rename_i a ok1 l1 h1
          cases ok1
          · simp at h
          · simp only [if_true] at h
            have i1 := ih _ _ _ _ hl h1
            have hl1 := memW hl (tyR_suf _ _ _ _ _ _ h1)
            split at h
            · split at h
              · cases h
              · rename_i b ok2 l2 h2
                injection h with h; injection h with h h5; injection h5 with h5 h6
                subst h h5 h6
                exact .fn _ _ i1 (ih _ _ _ _ (memW hl1 (tail_suf l1)) h2)
            · injection h with h; injection h with h h5; injection h5 with h5 h6
              subst h h6
              exact i1
    | all =>
      simp only [tyR] at h
      split at h
      · have hn := namesT_W hl
        split at h
        · simp at h
        · rename_i n ns hns
          rw [hns] at hn
          split at h
          · cases h
          · rename_i t1 ok l2 h3
            injection h with h; injection h with h h5; injection h5 with h5 h6
            subst h h5 h6
            exact alls_W (n :: ns) t1 hn (ih _ _ _ _ (memW hl ((tail_suf _).trans (List.drop_suffix _ _))) h3)
      · simp at h
    | app =>
      simp only [tyR] at h
      split at h
      · rename_i h1
        exact ih _ _ _ _ ht h (textW hl (.inr rfl) h1) (by simp)
      · exact ih .atom _ _ _ hl h
    | loop name acc =>
      intro hn hacc
      simp only [tyR] at h
      split at h
      · split at h
        · cases h
        · rename_i x ok l1 h1
          cases ok
          · simp at h
          · simp only [if_true] at h
            have i1 := ih _ _ _ _ hl h1
            exact ih _ _ _ _ (memW hl (tyR_suf _ _ _ _ _ _ h1)) h hn (by
              intro y hy
              rcases List.mem_append.1 hy with hy | hy
              · exact hacc y hy
              · rw [List.mem_singleton.1 hy]; exact i1)
      · injection h with h; injection h with h h5; injection h5 with h5 h6
        subst h h6
        exact .con _ _ hn hacc
    | atom =>
      simp only [tyR] at h
      split at h
      · rename_i h1
        injection h with h; injection h with h h5; injection h5 with h5 h6
        subst h h6
        exact .var _ (textW hl (.inl rfl) h1)
      · split at h
        · rename_i h1
          injection h with h; injection h with h h5; injection h5 with h5 h6
          subst h h6
          exact .con _ _ (textW hl (.inr rfl) h1) (by simp)
        · split at h
          · rename_i h1
            injection h with h; injection h with h h5; injection h5 with h5 h6
            subst h h6
            exact .unk _ (metaN_ok (w3 hl) h1).1 (metaN_ok (w3 hl) h1).2
          · split at h
            · split at h
              · cases h
              · rename_i t1 ok l1 h3
                cases ok
                · simp at h
                · simp only [if_true] at h
                  injection h with h; injection h with h h5; injection h5 with h5 h6
                  subst h h6
                  exact ih .typ _ _ _ ht h3
            · simp at h
theorem typK_W {f : Nat} {r : Rd} {t : Ty} {r' : Rd} (hl : ∀ t ∈ r.l, tokW t) (h : typK f r = some (t, r')) (hg : r'.bad = false) : WT t := by
  unfold typK at h
  split at h
  · cases h
  · rename_i t1 ok l1 h1
    cases ok
    · simp only [Bool.false_eq_true, if_false] at h
      injection h with h; injection h with _ h; subst h; cases hg
    · simp only [if_true] at h
      injection h with h; injection h with h5 h; subst h5 h
      exact tyR_W _ .typ _ _ _ (memW hl (nextR_suf _ _ _)) h1
theorem typR_W {f : Nat} {r : Rd} {t : Ty} {r' : Rd} (hl : ∀ t ∈ r.l, tokW t) (h : typR f r = some (t, r')) (hg : r'.bad = false) : WT t := by
  have hb := typR_good h hg
  unfold typR at h
  rw [hb] at h
  simp only [Bool.false_eq_true, if_false] at h
  split at h
  · cases h
  · rename_i t1 ok l1 h1
    cases ok
    · simp only [Bool.false_eq_true, if_false] at h
      injection h with h; injection h with _ h; subst h; cases hg
    · simp only [if_true] at h
      injection h with h; injection h with h5 h; subst h5 h
      exact tyR_W _ .typ _ _ _ hl h1
/-! coercions -/
def CW (x : Cx) : KM → Prop
  | .co => WC x
  | .con acc => (∀ c, c ∈ acc → WC c) → (∀ c, c ∈ x.kids → WC c)
  | .kids _ acc => (∀ c, c ∈ acc → WC c) → (∀ c, c ∈ x.kids → WC c)
theorem cxR_W : ∀ (f : Nat) (m : KM) (r : Rd) (x : Cx) (r' : Rd), (∀ t ∈ r.l, tokW t) → cxR f m r = some (x, r') → r'.bad = false → CW x m := by
  intro f
  induction f with
  | zero => intro m r x r' _ h; cases h
  | succ f ih =>
    intro m r x r' hl h hg
    have fin : ∀ {a b : Cx} {p q : Rd}, some (a, p) = some (b, q) → a = b ∧ p = q := fun h1 => by
      injection h1 with h1; injection h1 with h2 h1; exact ⟨h2, h1⟩
    cases m with
    | co =>
      simp only [cxR] at h
      split at h
      · rename_i hb; obtain ⟨_, rfl⟩ := fin h; rw [hb] at hg; cases hg
      · split at h
        · split at h
          · cases h
          · rename_i t r1 h1
            obtain ⟨rfl, rfl⟩ := fin h
            exact .refl _ (typK_W hl h1 hg)
        · split at h
          · split at h
            · obtain ⟨_, rfl⟩ := fin h
              have := (nextR_good hg).2.1
              cases this
            · rename_i hk0
              split at h
              · cases h
              · rename_i x1 r4 h4
                have s2 := (nextR_suf (nextR r 6 [40]) 2 []).trans (nextR_suf r 6 [40])
                generalize hk : kindC (nextW (nextR r 6 [40]) 2 []) = k at h h4 hk0
                have key : r4.bad = false → (headC k (nextR (nextR r 6 [40]) 2 [])).2.2.bad = false := fun g4 => cxR_good _ _ _ _ _ h4 g4
                have cases7 := kindC_cases (nextW (nextR r 6 [40]) 2 [])
                rw [hk] at cases7
                have hh := cxR_ok _ _ _ _ _ (memF (wF hl) ((headC_suf k _).trans s2)) h4
                have hw := ih _ _ _ _ (memW hl ((headC_suf k _).trans s2)) h4
                rcases cases7 with rfl | rfl | rfl | rfl | rfl | rfl | rfl | rfl
                · exact absurd rfl hk0
                · simp only [headC, Int.reduceBEq, Bool.false_and, Bool.false_eq_true, if_false, Bool.or_self] at h hh key hw
                  obtain ⟨rfl, rfl⟩ := fin h
                  have g := nextR_good hg
                  have i := hh g.2.1 (by simp)
                  have w := hw g.2.1 (by simp)
                  obtain ⟨y, hy⟩ := len1 (by simpa using i.2.2)
                  rw [hy] at w ⊢
                  exact .sym _ (w y (by simp))
                · simp only [headC, Int.reduceBEq, Bool.false_and, Bool.false_eq_true, if_false, Bool.or_false, if_true] at h hh key hw
                  obtain ⟨rfl, rfl⟩ := fin h
                  have g := nextR_good hg
                  have i := hh g.2.1 (by simp)
                  have w := hw g.2.1 (by simp)
                  obtain ⟨y, z, hy⟩ := len2 (by simpa using i.2.2)
                  rw [hy] at w ⊢
                  exact .trans _ _ (w y (by simp)) (w z (by simp))
                · simp only [headC, Int.reduceBEq, Bool.false_and, Bool.false_eq_true, if_false, if_true] at h hh key hw
                  obtain ⟨rfl, rfl⟩ := fin h
                  have g := nextR_good hg
                  have w := hw g.2.1 (by simp)
                  exact .con _ _ (nextW_W (memW hl s2) (.inr rfl) (key g.2.1)) w
                · simp only [headC, Int.reduceBEq, Bool.false_and, Bool.false_eq_true, if_false, Bool.false_or, if_true] at h hh key hw
                  obtain ⟨rfl, rfl⟩ := fin h
                  have g := nextR_good hg
                  have i := hh g.2.1 (by simp)
                  have w := hw g.2.1 (by simp)
                  obtain ⟨y, z, hy⟩ := len2 (by simpa using i.2.2)
                  rw [hy] at w ⊢
                  exact .fn _ _ (w y (by simp)) (w z (by simp))
                · simp only [headC, Int.reduceBEq, Bool.false_and, Bool.false_eq_true, if_false, Bool.or_self, if_true] at h hh key hw
                  obtain ⟨rfl, rfl⟩ := fin h
                  have g := nextR_good hg
                  have i := hh g.2.1 (by simp)
                  have w := hw g.2.1 (by simp)
                  obtain ⟨y, hy⟩ := len1 (by simpa using i.2.2)
                  rw [hy] at w ⊢
                  exact .all _ _ (nextW_W (memW hl s2) (.inl rfl) (key g.2.1)) (w y (by simp))
                · simp only [headC, Int.reduceBEq, Bool.false_and, Bool.false_eq_true, if_false, Bool.or_self, if_true] at h hh key hw
                  obtain ⟨rfl, rfl⟩ := fin h
                  have g := nextR_good hg
                  have i := hh g.2.1 (by simp)
                  have w := hw g.2.1 (by simp)
                  have n5 := numC_ok (memF (wF hl) s2) (key g.2.1)
                  obtain ⟨y, hy⟩ := len1 (by simpa using i.2.2)
                  rw [hy] at w ⊢
                  exact .nth _ _ n5.1 n5.2.1 (w y (by simp))
                · simp only [headC, Int.reduceBEq, Bool.true_and, Bool.false_eq_true, if_false, Bool.or_self, beq_self_eq_true] at h hh key hw
                  split at h
                  · split at h
                    · cases h
                    · rename_i t r5 h5
                      obtain ⟨rfl, rfl⟩ := fin h
                      have g := nextR_good hg
                      have s4 := (cxR_suf _ _ _ _ _ h4).trans ((headC_suf 9 _).trans s2)
                      have kt := typK_good (tok3 (memF (wF hl) s4)) h5 g.2.1
                      have i := hh kt.1 (by simp)
                      have w := hw kt.1 (by simp)
                      obtain ⟨y, hy⟩ := len1 (by simpa using i.2.2)
                      rw [hy] at w ⊢
                      exact .inst _ _ (w y (by simp)) (typK_W (memW hl s4) h5 g.2.1)
                  · rename_i hb
                    obtain ⟨_, rfl⟩ := fin h
                    have := (nextR_good hg).2.1
                    rw [this] at hb
                    exact absurd rfl hb
          · obtain ⟨rfl, rfl⟩ := fin h
            exact .var _ (nextW_W hl (.inl rfl) hg)
    | con acc =>
      intro ha
      simp only [cxR] at h
      split at h
      · split at h
        · cases h
        · rename_i x1 r1 h1
          have g1 := cxR_good _ _ _ _ _ h hg
          exact ih _ _ _ _ (memW hl (cxR_suf _ _ _ _ _ h1)) h hg (snocC ha (ih _ _ _ _ hl h1 g1))
      · obtain ⟨rfl, rfl⟩ := fin h
        exact ha
    | kids n acc =>
      intro ha
      cases n with
      | zero =>
        simp only [cxR] at h
        obtain ⟨rfl, rfl⟩ := fin h
        exact ha
      | succ n =>
        simp only [cxR] at h
        split at h
        · rename_i hb; obtain ⟨_, rfl⟩ := fin h; rw [hb] at hg; cases hg
        · split at h
          · cases h
          · rename_i x1 r1 h1
            have g1 := cxR_good _ _ _ _ _ h hg
            exact ih _ _ _ _ (memW hl (cxR_suf _ _ _ _ _ h1)) h hg (snocC ha (ih _ _ _ _ hl h1 g1))
theorem coR2_W {f : Nat} {r : Rd} {c : Cx} {r' : Rd} (hl : ∀ t ∈ r.l, tokW t) (h : coR2 f r = some (c, r')) (hg : r'.bad = false) : WC c := by
  unfold coR2 at h
  split at h
  · rename_i hb; injection h with h; injection h with _ h; subst h; rw [hb] at hg; cases hg
  · split at h
    · cases h
    · rename_i x r1 h1
      split at h
      · injection h with h; injection h with _ h; subst h; cases hg
      · injection h with h; injection h with h2 h; subst h2 h
        exact cxR_W _ .co _ _ _ hl h1 hg
/-! terms -/
theorem marksR_W : ∀ (f : Nat) (s : List UInt8) (acc : List (List UInt8)) (r : Rd), (∀ t ∈ r.l, tokW t) → WN acc → (marksR f s acc r).2.bad = false → WN (marksR f s acc r).1
  | 0, _, _, _, _, ha, _ => ha
  | f + 1, s, acc, r, hl, ha, hg => by
    simp only [marksR] at hg ⊢
    split
    · rename_i h1
      rw [if_pos h1] at hg
      have hl1 := memW hl (takesR_suf r 6 s)
      have hl2 := memW hl1 (takeR_suf (takesR r 6 s) 1 [])
      have hb := (marksR_good f s [] (takeR (takesR r 6 s) 1 []) (wF hl2) N16_nil (by
        have : ∀ (f : Nat) (a b : List (List UInt8)) (r : Rd), (marksR f s a r).2 = (marksR f s b r).2 := by
          intro f
          induction f with
          | zero => intro a b r; rfl
          | succ f ih => intro a b r; simp only [marksR]; split
                         · exact ih _ _ _
                         · rfl
        rw [this f [] (acc ++ [wordR (takesR r 6 s) 1 []])]; exact hg)).1
      refine marksR_W f s _ _ hl2 ?_ hg
      intro v hv
      rcases List.mem_append.1 hv with hv | hv
      · exact ha v hv
      · rw [List.mem_singleton.1 hv]; exact takeW hl1 (.inl rfl) hb
    · exact ha
theorem altA_W {r : Rd} (hl : ∀ t ∈ r.l, tokW t) (hg : (altA r).2.2.2.bad = false) : isW 2 (wordR r 2 []) ∧ WN (altA r).1 ∧ WN (altA r).2.1 ∧ WN (altA r).2.2.1 := by
  unfold altA at *
  simp only at hg ⊢
  have k3 := behindR_len hg
  have l1 := memW hl (takeR_suf r 2 [])
  have l2 := memW l1 (marksR_suf (takeR r 2 []).l.length [64] [] (takeR r 2 []))
  have l3 := memW l2 (marksR_suf (marks [64] (takeR r 2 [])).2.l.length [126] [] (marks [64] (takeR r 2 [])).2)
  have nil : WN [] := fun v hv => by cases hv
  have k2 := marksR_good _ _ _ _ (wF l2) N16_nil k3.2
  have k1 := marksR_good _ _ _ _ (wF l1) N16_nil k2.1
  refine ⟨takeW hl (.inr rfl) k1.1, marksR_W _ _ _ _ l1 nil k2.1, marksR_W _ _ _ _ l2 nil k3.2, ?_⟩
  unfold namesR
  split
  · exact nil
  · exact namesT_W l3
def WAl (al : List Ta) : Prop := ∀ a, a ∈ al → WM a.body ∧ (isW 2 a.con ∧ WN a.types ∧ WN a.cos ∧ WN a.vars)
def MW (x : Tm) : TrM → Prop
  | .alts acc => WAl acc → WAl x.alts
  | _ => WM x
theorem nameR_W {f : Nat} {r : Rd} {t : Ty} {r' : Rd} (hl : ∀ t ∈ r.l, tokW t) (h : nameR f r = some (t, r')) (hg : r'.bad = false) : WT t ∧ isW 1 (wordR r 1 []) := by
  unfold nameR at h
  have g := typR_good h hg
  have k1 := takeR_len g
  exact ⟨typR_W (memW hl ((takeR_suf _ _ _).trans (takeR_suf _ _ _))) h hg, takeW hl (.inl rfl) k1.2⟩
theorem trR_W : ∀ (f : Nat) (m : TrM) (r : Rd) (x : Tm) (r' : Rd), (∀ t ∈ r.l, tokW t) → trR f m r = some (x, r') → r'.bad = false → MW x m := by
  intro f
  induction f with
  | zero => intro m r x r' _ h; cases h
  | succ f ih =>
    intro m r x r' hl h hg
    have fin : ∀ {a b : Tm} {p q : Rd}, some (a, p) = some (b, q) → a = b ∧ p = q := fun h1 => by
      injection h1 with h1; injection h1 with h2 h1; exact ⟨h2, h1⟩
    cases m with
    | term =>
      simp only [trR] at h
      split at h
      · obtain ⟨rfl, rfl⟩ := fin h
        exact .nam 1 _ (.inl rfl) (takeW hl (.inl rfl) hg)
      · split at h
        · obtain ⟨rfl, rfl⟩ := fin h
          exact .nam 2 _ (.inr rfl) (takeW hl (.inr rfl) hg)
        · split at h
          · rename_i hb; obtain ⟨_, rfl⟩ := fin h; rw [hb] at hg; cases hg
          · split at h
            · cases h
            · rename_i t r2 h2
              obtain ⟨rfl, rfl⟩ := fin h
              exact ih .form _ _ _ (memW hl (takeR_suf _ _ _)) h2 (takeR_len hg).2
    | form =>
      simp only [trR] at h
      split at h
      · rename_i h0
        split at h
        · cases h
        · rename_i t r3 h3
          split at h
          · cases h
          · rename_i x1 r5 h5
            obtain ⟨rfl, rfl⟩ := fin h
            have k4 := takeR_len (trR_good h5 hg)
            have l0 := memW hl (takesR_suf r 6 [92])
            have i3 := nameR_W l0 h3 k4.2
            exact .lam _ _ _ i3.2 i3.1 (ih .term _ _ _ (memW l0 ((takeR_suf _ _ _).trans (nameR_suf h3))) h5 hg)
      · split at h
        · rename_i h0
          split at h
          · cases h
          · rename_i x1 r5 h5
            obtain ⟨rfl, rfl⟩ := fin h
            have k4 := takeR_len (trR_good h5 hg)
            have l0 := memW hl (takesR_suf r 6 [33])
            exact .tlam _ _ (takeW l0 (.inl rfl) k4.2) (ih .term _ _ _ (memW l0 ((takeR_suf _ _ _).trans (takeR_suf _ _ _))) h5 hg)
        · split at h
          · split at h
            · cases h
            · rename_i t r3 h3
              split at h
              · cases h
              · rename_i x1 r5 h5
                split at h
                · cases h
                · rename_i y r7 h7
                  obtain ⟨rfl, rfl⟩ := fin h
                  have k6 := takeR_len (trR_good h7 hg)
                  have k4 := takeR_len (trR_good h5 k6.2)
                  have l0 := memW hl (takeR_suf r 3 [108, 101, 116])
                  have l4 := memW l0 ((takeR_suf r3 6 [61]).trans (nameR_suf h3))
                  have i3 := nameR_W l0 h3 k4.2
                  exact .lett _ _ _ _ i3.2 i3.1 (ih .term _ _ _ l4 h5 k6.2) (ih .term _ _ _ (memW l4 ((takeR_suf _ _ _).trans (trR_suf _ _ _ _ _ h5))) h7 hg)
          · split at h
            · split at h
              · cases h
              · rename_i x1 r1 h1
                split at h
                · cases h
                · rename_i t r3 h3
                  have l0 := memW hl (takeR_suf r 3 [99, 97, 115, 101])
                  have l1 := memW l0 (trR_suf _ _ _ _ _ h1)
                  have l3 := memW l1 ((typR_suf h3).trans (takeR_suf _ _ _))
                  have l5 := memW l3 ((takeR_suf (takeR r3 3 [111, 102]) 6 [123]).trans (takeR_suf r3 3 [111, 102]))
                  have key : (takeR (takeR r3 3 [111, 102]) 6 [123]).bad = false → WM x1 ∧ WT t := by
                    intro g5
                    have k5 := takeR_len g5
                    have k4 := takeR_len k5.2
                    have g3 := typR_good h3 k4.2
                    have k2 := takeR_len g3
                    exact ⟨ih .term _ _ _ l0 h1 k2.2, typR_W (memW l1 (takeR_suf _ _ _)) h3 k4.2⟩
                  split at h
                  · rename_i h5
                    obtain ⟨rfl, rfl⟩ := fin h
                    have k5 := takesR_len h5
                    have k := key k5.2.2
                    exact .cas _ _ _ k.2 k.1 (by simp) (by simp)
                  · split at h
                    · cases h
                    · rename_i y r6 h6
                      obtain ⟨rfl, rfl⟩ := fin h
                      have k6 := takeR_len hg
                      have k := key (trR_good h6 k6.2)
                      have j : WAl y.alts := ih (.alts []) _ _ _ l5 h6 k6.2 (by intro a ha; cases ha)
                      exact .cas _ _ _ k.2 k.1 (fun a ha => (j a ha).1) (fun a ha => (j a ha).2)
            · split at h
              · cases h
              · rename_i x1 r1 h1
                have l1 := memW hl (trR_suf _ _ _ _ _ h1)
                split at h
                · rename_i h2
                  have k2 := takesR_len h2
                  have i1 := ih .term _ _ _ hl h1 k2.2.2
                  split at h
                  · cases h
                  · rename_i t r3 h3
                    obtain ⟨rfl, rfl⟩ := fin h
                    exact .tapp _ _ (typR_W (memW l1 (takesR_suf _ _ _)) h3 hg) i1
                · split at h
                  · rename_i h2
                    have k2 := takesR_len h2
                    have i1 := ih .term _ _ _ hl h1 k2.2.2
                    split at h
                    · cases h
                    · rename_i t r3 h3
                      obtain ⟨rfl, rfl⟩ := fin h
                      exact .capp _ _ (coR2_W (memW l1 (takesR_suf _ _ _)) h3 hg) i1
                  · split at h
                    · rename_i h2
                      have k2 := takesR_len h2
                      have i1 := ih .term _ _ _ hl h1 k2.2.2
                      split at h
                      · cases h
                      · rename_i t r3 h3
                        obtain ⟨rfl, rfl⟩ := fin h
                        exact .cast _ _ (coR2_W (memW l1 (takesR_suf _ _ _)) h3 hg) i1
                    · split at h
                      · cases h
                      · rename_i y r2 h2
                        obtain ⟨rfl, rfl⟩ := fin h
                        have g1 := trR_good h2 hg
                        exact .app _ _ (ih .term _ _ _ hl h1 g1) (ih .term _ _ _ l1 h2 hg)
    | alts acc =>
      intro ha
      simp only [trR] at h
      split at h
      · cases h
      · rename_i b r4 h4
        have l4 := memW hl ((takeR_suf (altA r).2.2.2 6 [45, 62]).trans (altA_suf r))
        have snoc : r4.bad = false → WAl (acc ++ [.mk (wordR r 2 []) (altA r).1 (altA r).2.1 (altA r).2.2.1 b]) := by
          intro g4 a hm
          have k4 := takeR_len (trR_good h4 g4)
          rcases List.mem_append.1 hm with hm | hm
          · exact ha a hm
          · rw [List.mem_singleton.1 hm]
            exact ⟨ih .term _ _ _ l4 h4 g4, altA_W hl k4.2⟩
        split at h
        · rename_i h5
          have k5 := takesR_len h5
          have l5 := memW l4 ((takesR_suf r4 6 [59]).trans (trR_suf _ _ _ _ _ h4))
          exact ih (.alts _) _ _ _ l5 h hg (snoc k5.2.2)
        · obtain ⟨rfl, rfl⟩ := fin h
          exact snoc hg
/-! what was written, read again -/
theorem scanO_again {t : List UInt8} {k : List (Int × List UInt8)} (h : Lx t k true) : scanO t = ([], 2) ∨ ∃ l, scanO t = (l, 0) ∧ l.map kt = k := by
  by_cases hlen : t.length > 4000
  · left; unfold scanO; rw [if_pos hlen]
  · right
    obtain ⟨g, hg⟩ := h 1 [] [] (fun _ => rfl) rfl
    rw [List.append_nil, List.append_nil] at hg
    have hfuel : ∀ (f : Nat) (s : List UInt8) (k : List (Int × List UInt8)), scanP f s = some k → scanP (s.length + 1) s = some k := by
      intro f
      induction f with
      | zero => intro s k h; cases h
      | succ f ih =>
        intro s k h
        simp only [scanP] at h ⊢
        have hd : (s.drop (gapN false s)).length ≤ s.length := by simp
        generalize s.drop (gapN false s) = q at h hd ⊢
        cases q with
        | nil => exact h
        | cons c r =>
          simp only at h ⊢
          split at h
          · cases h
          · rename_i k1 n ht
            have hle := tokS_le ht
            split at h
            · cases h
            · rename_i l1 h1
              have h2 := ih _ _ h1
              have hdl : ((c :: r).drop n).length + 1 ≤ s.length := by rw [List.length_drop]; omega
              rw [scanP_fuel _ s.length _ _ h2 hdl]
              exact h
    obtain ⟨l, h1, h2⟩ := scanP_S (t.length + 1) (gapN false t) t k (hfuel g t k hg)
    refine ⟨l, ?_, h2⟩
    unfold scanO
    rw [if_neg hlen, h1]
end Go.Proofs
namespace Go.Proofs
open Go.Av
set_option maxHeartbeats 4000000
set_option maxRecDepth 100000
/-! what was written, read again -/
theorem term_again {f : Nat} {s : List UInt8} {p : Tm × Int} (h : tmO f s = some p) (h0 : p.2 = 0) : ∃ t, (∀ F f, 3 * p.1.tot ≤ F → p.1.tot ≤ f → mpR F f p.1 = some t) ∧ ((∃ g, tmO g t = some (zTm, 2)) ∨ ∃ g, tmO g t = some (p.1, 0)) := by
  have hgood := tmO_good h h0
  have hw : WM p.1 := by
    unfold tmO at h
    split at h
    · rename_i he
      injection h with h; subst h
      simp only at h0
      rw [h0] at he
      exact absurd he (by decide)
    · split at h
      · cases h
      · rename_i x r hd
        injection h with h; subst h
        unfold endM at h0 ⊢
        cases hb : r.bad
        · rw [hb] at h0
          split at h0
          · exact absurd h0 (by decide)
          · split at h0
            · exact absurd h0 (by decide)
            · rename_i h3 h4
              rw [if_neg (by simpa using h3), if_neg h4]
              exact trR_W _ .term _ _ _ (scanO_W s) hd hb
        · rw [hb] at h0; simp at h0
  obtain ⟨t, k, h1, h2, h3, h4⟩ := term_fact hw (by omega)
  refine ⟨t, h1, ?_⟩
  rcases scanO_again h2 with h5 | ⟨l, h5, h6⟩
  · left
    refine ⟨0, ?_⟩
    unfold tmO
    rw [h5]; rfl
  · right
    obtain ⟨g, hg⟩ := h3 l h6 []
    refine ⟨g, ?_⟩
    have := hg g (Nat.le_refl _)
    rw [List.append_nil] at this
    unfold tmO
    rw [h5]
    simp only [this, bne_self_eq_false, Bool.false_eq_true, if_false]
    unfold endM
    simp only [hgood.2.2, List.length_nil, Nat.lt_irrefl, decide_false, Bool.or_self, Bool.false_eq_true, if_false]
end Go.Proofs
