/- Names that are read are not empty; what passes is declared. -/
import Derived.Test.YteidnocfcilajaaGreatDoorAvM
namespace Go.Proofs
open Go.Av
set_option maxHeartbeats 16000000
set_option maxRecDepth 100000
/-! what is read has names that are not empty -/
def NE (l : List Tok) : Prop := ∀ t ∈ l, t.text ≠ []
theorem NE.suf {l' l : List Tok} (hl : NE l) (h : l' <:+ l) : NE l' := fun t ht => hl t (h.subset ht)
theorem scanS_ne : ∀ (f pos : Nat) (s : List UInt8) (l : List Tok), scanS f pos s = .ok l → NE l
  | 0, pos, s, l, h => by simp [scanS] at h
  | f + 1, pos, s, l, h => by
    cases s with
    | nil => simp only [scanS] at h; injection h with h; subst h; intro t ht; cases ht
    | cons x r =>
      simp only [scanS] at h
      split at h
      · cases h
      · rename_i k n ht
        have hle := tokS_le ht
        split at h
        · rename_i l1 h1
          injection h with h; subst h
          have ih := scanS_ne f _ _ _ h1
          intro t ht
          rcases List.mem_cons.1 ht with rfl | ht
          · intro e
            have := congrArg List.length e
            simp only [List.length_take, List.length_nil] at this
            omega
          · exact ih t ht
        · cases h
theorem scanO_ne (s : List UInt8) : NE (scanO s).1 := by
  unfold scanO
  split
  · intro t ht; cases ht
  · split
    · rename_i l h
      exact scanS_ne _ _ _ _ h
    · intro t ht; cases ht
theorem wordR_ne {r : Rd} (hl : NE r.l) {k : Int} {s : List UInt8} (h : (takeR r k s).bad = false) : wordR r k s ≠ [] := by
  have h1 := takeR_good h
  obtain ⟨_, t, q, hq⟩ := seesR_cons h1
  unfold wordR
  rw [h1, hq]
  simp only [if_true, textT]
  exact hl t (by rw [hq]; simp)
theorem namesT_ne : ∀ {l : List Tok}, NE l → ∀ n ∈ namesT l, n ≠ []
  | [], _, n, hn => by simp [namesT] at hn
  | t :: r, hl, n, hn => by
    unfold namesT at hn
    split at hn
    · rcases List.mem_cons.1 hn with rfl | hn
      · exact hl t (by simp)
      · exact namesT_ne (fun u hu => hl u (by simp [hu])) n hn
    · cases hn
theorem namesR_ne {r : Rd} (hl : NE r.l) : ∀ n ∈ namesR r, n ≠ [] := by
  unfold namesR; split
  · simp
  · exact namesT_ne hl
inductive NX : Ex → Prop
  | mk (e : Ex) : (e.kind = 1 ∨ e.kind = 2 ∨ e.kind = 3 ∨ e.kind = 5 → e.name ≠ []) → (∀ x ∈ e.kids, NX x) → (∀ a ∈ e.alts, NX a.body) → (∀ a ∈ e.alts, a.con ≠ [] ∧ ∀ v ∈ a.vars, v ≠ []) → NX e
theorem NX.nam {e : Ex} (h : NX e) (hk : e.kind = 1 ∨ e.kind = 2 ∨ e.kind = 3 ∨ e.kind = 5) : e.name ≠ [] := by cases h with | mk _ h _ _ _ => exact h hk
theorem NX.kid {e x : Ex} (h : NX e) (hx : x ∈ e.kids) : NX x := by cases h with | mk _ _ h _ _ => exact h x hx
theorem NX.alt {e : Ex} {a : Al} (h : NX e) (hx : a ∈ e.alts) : NX a.body := by cases h with | mk _ _ _ h _ => exact h a hx
theorem NX.altn {e : Ex} {a : Al} (h : NX e) (hx : a ∈ e.alts) : a.con ≠ [] ∧ ∀ v ∈ a.vars, v ≠ [] := by cases h with | mk _ _ _ _ h => exact h a hx
theorem NX.mk1 {k : Int} {s : List UInt8} {b : Bool} {t : Ty} {ks : List Ex} {al : List Al} (h1 : (k = 1 ∨ k = 2 ∨ k = 3 ∨ k = 5) → s ≠ []) (h2 : ∀ x ∈ ks, NX x) (h3 : ∀ a ∈ al, NX a.body ∧ a.con ≠ [] ∧ ∀ v ∈ a.vars, v ≠ []) : NX (.mk k s b t ks al) :=
  .mk _ h1 h2 (fun a ha => (h3 a ha).1) (fun a ha => (h3 a ha).2)
def NAs (al : List Al) : Prop := ∀ a ∈ al, NX a.body ∧ a.con ≠ [] ∧ ∀ v ∈ a.vars, v ≠ []
def NOK (x : Ex) : XM → Prop
  | .loop e => NX e → NX x
  | .alts acc => NAs acc → NAs x.alts
  | _ => NX x
theorem exR_ne : ∀ (f : Nat) (m : XM) (r : Rd) (x : Ex) (r' : Rd), NE r.l → exR f m r = some (x, r') → r'.bad = false → NOK x m := by
  intro f
  induction f with
  | zero => intro m r x r' _ h; cases h
  | succ f ih =>
    intro m r x r' hl h hg
    have fin : ∀ {a b : Ex} {p q : Rd}, some (a, p) = some (b, q) → a = b ∧ p = q := fun h1 => by
      injection h1 with h1; injection h1 with h2 h1; exact ⟨h2, h1⟩
    have nil : NAs [] := fun a ha => (by cases ha)
    cases m with
    | expr =>
      simp only [exR] at h
      split at h
      · rename_i hb
        obtain ⟨_, rfl⟩ := fin h
        rw [hb] at hg; cases hg
      · split at h
        · rename_i h1
          split at h
          · cases h
          · rename_i x1 r1 h2
            obtain ⟨rfl, rfl⟩ := fin h
            have g2 := exR_good h2 hg
            have k2 := takeR_len g2
            have i : NX x1 := ih _ _ _ _ (hl.suf ((takeR_suf _ _ _).trans ((takeR_suf _ _ _).trans (takesR_suf _ _ _)))) h2 hg
            exact .mk1 (fun _ => wordR_ne (hl.suf (takesR_suf _ _ _)) k2.2) (fun y hy => by rw [List.mem_singleton.1 hy]; exact i) nil
        · split at h
          · exact (show NOK x .lets from ih _ _ _ _ (hl.suf (takesR_suf _ _ _)) h hg)
          · split at h
            · split at h
              · cases h
              · rename_i x1 r1 h2
                have s1 := (exR_suf _ _ _ _ _ h2).trans (takesR_suf _ _ _)
                have s2 := (takeR_suf (takeR r1 3 [111, 102]) 6 [123]).trans ((takeR_suf r1 3 [111, 102]).trans s1)
                split at h
                · rename_i h3
                  obtain ⟨rfl, rfl⟩ := fin h
                  have k3 := takesR_len h3
                  have k4 := takeR_len k3.2.2
                  have k5 := takeR_len k4.2
                  have i : NX x1 := ih _ _ _ _ (hl.suf (takesR_suf _ _ _)) h2 k5.2
                  exact .mk1 (by omega) (fun y hy => by rw [List.mem_singleton.1 hy]; exact i) nil
                · split at h
                  · cases h
                  · rename_i y r4 h4
                    obtain ⟨rfl, rfl⟩ := fin h
                    have k6 := takeR_len hg
                    have g4 := exR_good h4 k6.2
                    have k4 := takeR_len g4
                    have k5 := takeR_len k4.2
                    have i : NX x1 := ih _ _ _ _ (hl.suf (takesR_suf _ _ _)) h2 k5.2
                    have j : NAs [] → NAs y.alts := ih _ _ _ _ (hl.suf s2) h4 k6.2
                    exact .mk1 (by omega) (fun y hy => by rw [List.mem_singleton.1 hy]; exact i) (j nil)
            · split at h
              · cases h
              · rename_i e r1 h1
                have g1 := exR_good h hg
                have i : NX e := ih _ _ _ _ hl h1 g1
                exact (show NX e → NX x from ih _ _ _ _ (hl.suf (exR_suf _ _ _ _ _ h1)) h hg) i
    | loop e =>
      intro he
      simp only [exR] at h
      split at h
      · split at h
        · cases h
        · rename_i e1 r1 h1
          have g1 := exR_good h hg
          have i : NX e1 := ih _ _ _ _ hl h1 g1
          exact (show NX (.mk 4 [] false zTy [e, e1] []) → NX x from ih _ _ _ _ (hl.suf (exR_suf _ _ _ _ _ h1)) h hg) (.mk1 (by omega) (fun y hy => by
            rcases List.mem_cons.1 hy with rfl | hy
            · exact he
            · rw [List.mem_singleton.1 hy]; exact i) nil)
      · obtain ⟨rfl, rfl⟩ := fin h
        exact he
    | lets =>
      simp only [exR] at h
      split at h
      · rename_i h1
        have k1 := takesR_len h1
        split at h
        · cases h
        · rename_i t r2 h2
          have s2 := (typR_suf h2).trans ((takesR_suf _ _ _).trans (takeR_suf _ _ _))
          split at h
          · cases h
          · rename_i x r3 h3
            have s3 := (exR_suf _ _ _ _ _ h3).trans ((takeR_suf _ _ _).trans s2)
            split at h
            · cases h
            · rename_i y r4 h4
              obtain ⟨rfl, rfl⟩ := fin h
              have g4 := takeR_len (exR_good h4 hg)
              have i3 : NX x := ih _ _ _ _ (hl.suf ((takeR_suf _ _ _).trans s2)) h3 g4.2
              have i4 : NX y := ih _ _ _ _ (hl.suf ((takeR_suf _ _ _).trans s3)) h4 hg
              exact .mk1 (fun _ => wordR_ne hl k1.2.2) (fun z hz => by
                rcases List.mem_cons.1 hz with rfl | hz
                · exact i3
                · rw [List.mem_singleton.1 hz]; exact i4) nil
      · split at h
        · cases h
        · rename_i x r3 h3
          have s3 := (exR_suf _ _ _ _ _ h3).trans ((takeR_suf _ _ _).trans (takeR_suf _ _ _))
          split at h
          · cases h
          · rename_i y r4 h4
            obtain ⟨rfl, rfl⟩ := fin h
            have g4 := takeR_len (exR_good h4 hg)
            have g3 := takeR_len (exR_good h3 g4.2)
            have i3 : NX x := ih _ _ _ _ (hl.suf ((takeR_suf _ _ _).trans (takeR_suf _ _ _))) h3 g4.2
            have i4 : NX y := ih _ _ _ _ (hl.suf ((takeR_suf _ _ _).trans s3)) h4 hg
            exact .mk1 (fun _ => wordR_ne hl g3.2) (fun z hz => by
              rcases List.mem_cons.1 hz with rfl | hz
              · exact i3
              · rw [List.mem_singleton.1 hz]; exact i4) nil
    | atom =>
      simp only [exR] at h
      split at h
      · obtain ⟨rfl, rfl⟩ := fin h
        exact .mk1 (fun _ => wordR_ne hl hg) (fun y hy => by cases hy) nil
      · split at h
        · obtain ⟨rfl, rfl⟩ := fin h
          exact .mk1 (fun _ => wordR_ne hl hg) (fun y hy => by cases hy) nil
        · split at h
          · cases h
          · rename_i e r1 h1
            split at h
            · rename_i h3
              split at h
              · cases h
              · rename_i t r2 h2
                obtain ⟨rfl, rfl⟩ := fin h
                have k2 := takesR_len h3
                have i1 : NX e := ih _ _ _ _ (hl.suf (takeR_suf _ _ _)) h1 k2.2.2
                exact .mk1 (by omega) (fun y hy => by rw [List.mem_singleton.1 hy]; exact i1) nil
            · obtain ⟨rfl, rfl⟩ := fin h
              have k3 := takeR_len hg
              exact (show NOK e .expr from ih _ _ _ _ (hl.suf (takeR_suf _ _ _)) h1 k3.2)
    | alts acc =>
      intro ha
      simp only [exR] at h
      split at h
      · cases h
      · rename_i b r4 h4
        have s4 := (exR_suf _ _ _ _ _ h4).trans ((takeR_suf _ _ _).trans ((behindR_suf _).trans (takeR_suf _ _ _)))
        have key : r4.bad = false → NAs (acc ++ [.mk (wordR r 2 []) (namesR (takeR r 2 [])) b]) := by
          intro g4
          have k3 := takeR_len (exR_good h4 g4)
          have k2 := behindR_len k3.2
          have i : NX b := ih _ _ _ _ (hl.suf ((takeR_suf _ _ _).trans ((behindR_suf _).trans (takeR_suf _ _ _)))) h4 g4
          intro a hm
          rcases List.mem_append.1 hm with hm | hm
          · exact ha a hm
          · rw [List.mem_singleton.1 hm]
            exact ⟨i, wordR_ne hl k2.2, namesR_ne (hl.suf (takeR_suf _ _ _))⟩
        split at h
        · rename_i h5
          have k5 := takesR_len h5
          exact (show NAs _ → NAs x.alts from ih _ _ _ _ (hl.suf ((takesR_suf _ _ _).trans s4)) h hg) (key k5.2.2)
        · obtain ⟨rfl, rfl⟩ := fin h
          exact key hg
/-! declarations -/
structure ND (d : De) : Prop where
  name : d.name ≠ []
  vars : ∀ v ∈ d.vars, v ≠ []
  cons : ∀ c ∈ d.cons, c.name ≠ []
  val : d.kind = 3 → NX d.val
theorem coR_ne {f : Nat} {q : Rd} {c : Co} {r : Rd} (hl : NE q.l) (h : coR f q = some (c, r)) (hg : r.bad = false) : c.name ≠ [] := by
  have g := coR_good h hg
  unfold coR at h
  split at h
  · cases h
  · rename_i t r1 h1
    injection h with h; injection h with h2 h; subst h2 h
    have k1 := takeR_len g
    exact wordR_ne hl k1.2
theorem cosR_ne {f : Nat} : ∀ {g : Nat} {acc : List Co} {q : Rd} {cs : List Co} {r : Rd}, NE q.l → (∀ c ∈ acc, c.name ≠ []) → cosR f g acc q = some (cs, r) → r.bad = false → ∀ c ∈ cs, c.name ≠ [] := by
  intro g
  induction g with
  | zero => intro acc q cs r _ _ h; cases h
  | succ g ih =>
    intro acc q cs r hl ha h hg
    simp only [cosR] at h
    split at h
    · cases h
    · rename_i c r1 h1
      have key : r1.bad = false → ∀ c' ∈ acc ++ [c], c'.name ≠ [] := by
        intro g1 c' hc
        rcases List.mem_append.1 hc with hc | hc
        · exact ha c' hc
        · rw [List.mem_singleton.1 hc]; exact coR_ne hl h1 g1
      split at h
      · rename_i h2
        have k2 := takesR_len h2
        exact ih (hl.suf ((takesR_suf _ _ _).trans (coR_suf h1))) (key k2.2.2) h hg
      · injection h with h; injection h with h2 h; subst h2 h
        exact key hg
theorem deR_ne {f : Nat} {r : Rd} {d : De} {r' : Rd} (hl : NE r.l) (h : deR f r = some (d, r')) (hg : r'.bad = false) : ND d := by
  unfold deR at h
  split at h
  · rename_i h1
    have sb := (behindR_suf (takeR (takesR r 3 [100, 97, 116, 97]) 2 [])).trans ((takeR_suf _ _ _).trans (takesR_suf _ _ _))
    have hw := @wordR_ne (takesR r 3 [100, 97, 116, 97]) (hl.suf (takesR_suf _ _ _)) 2 []
    have hn := namesR_ne (r := takeR (takesR r 3 [100, 97, 116, 97]) 2 []) (hl.suf ((takeR_suf _ _ _).trans (takesR_suf _ _ _)))
    split at h
    · rename_i h2
      injection h with h; injection h with h3 h; subst h3 h
      have k2 := takesR_len h2
      have k3 := takeR_len k2.2.2
      have k4 := behindR_len k3.2
      exact ⟨hw k4.2, hn, fun c hc => (by cases hc), fun h => by simp at h⟩
    · split at h
      · cases h
      · rename_i cs r5 h3
        injection h with h; injection h with h4 h; subst h4 h
        have k6 := takeR_len hg
        have g3 := cosR_good h3 k6.2
        have k3 := takeR_len g3
        have k4 := behindR_len k3.2
        exact ⟨hw k4.2, hn, cosR_ne (hl.suf ((takeR_suf _ _ _).trans sb)) (fun c hc => (by cases hc)) h3 k6.2, fun h => by simp at h⟩
  · split at h
    · rename_i h1
      have k1 := takesR_len h1
      split at h
      · cases h
      · rename_i t r2 h2
        injection h with h; injection h with h4 h; subst h4 h
        exact ⟨wordR_ne hl k1.2.2, fun v hv => (by cases hv), fun v hv => (by cases hv), fun h => by simp at h⟩
    · split at h
      · cases h
      · rename_i x r3 h3
        injection h with h; injection h with h4 h; subst h4 h
        have k1 := takeR_len (exR_good h3 hg)
        have i : NX x := exR_ne _ _ _ _ _ (hl.suf ((takeR_suf _ _ _).trans (takeR_suf _ _ _))) h3 hg
        exact ⟨wordR_ne hl k1.2, fun v hv => (by cases hv), fun v hv => (by cases hv), fun _ => i⟩
theorem desR_ne {f : Nat} : ∀ {g : Nat} {acc : List De} {q : Rd} {ds : List De} {r : Rd}, NE q.l → (∀ d ∈ acc, ND d) → desR f g acc q = some (ds, r) → r.bad = false → ∀ d ∈ ds, ND d := by
  intro g
  induction g with
  | zero => intro acc q cs r _ _ h; cases h
  | succ g ih =>
    intro acc q cs r hl ha h hg
    simp only [desR] at h
    split at h
    · cases h
    · rename_i c r1 h1
      have key : r1.bad = false → ∀ d ∈ acc ++ [c], ND d := by
        intro g1 c' hc
        rcases List.mem_append.1 hc with hc | hc
        · exact ha c' hc
        · rw [List.mem_singleton.1 hc]; exact deR_ne hl h1 g1
      split at h
      · rename_i h2
        have k2 := takesR_len h2
        exact ih (hl.suf ((takesR_suf _ _ _).trans (deR_suf h1))) (key k2.2.2) h hg
      · injection h with h; injection h with h2 h; subst h2 h
        exact key hg
theorem parse_ne {f : Nat} {s : List UInt8} {p : List De × Int} (h : parseO f s = some p) (h0 : p.2 = 0) : ∀ d ∈ p.1, ND d := by
  unfold parseO at h
  split at h
  · injection h with h; subst h; intro d hd; cases hd
  · split at h
    · cases h
    · rename_i ds r hd
      injection h with h; subst h
      unfold endO at h0 ⊢
      cases hb : r.bad
      · have k : ∀ d ∈ ds, ND d := by
          unfold desO at hd
          split at hd
          · injection hd with hd; injection hd with h3 hd; subst h3; intro d hd; cases hd
          · rename_i t q hq
            have hne := scanO_ne s
            rw [hq] at hne
            exact desR_ne (q := ⟨t :: q, false⟩) hne (fun d hd => (by cases hd)) hd hb
        rw [hb] at h0
        split at h0
        · exact absurd h0 (by decide)
        · split at h0
          · exact absurd h0 (by decide)
          · rename_i h3 h4
            rw [if_neg (by simpa using h3), if_neg h4]
            exact k
      · rw [hb] at h0; simp at h0
end Go.Proofs
namespace Go.Proofs
open Go.Av
set_option maxHeartbeats 16000000
set_option maxRecDepth 100000
/-! what passes is declared -/
theorem walk_rel {α β : Type} {ext ext' : List (List UInt8) → List (List UInt8) → List (List UInt8)} {fa : Ex → List (List UInt8) → α → α} {fb : Al → α → α} {fa' : Ex → List (List UInt8) → β → β} {fb' : Al → β → β} (R : α → β → Prop)
    (hfa : ∀ e b b' a a', NX e → R a a' → R (fa e b a) (fa' e b' a')) (hfb : ∀ x a a', (x.con ≠ [] ∧ ∀ v ∈ x.vars, v ≠ []) → R a a' → R (fb x a) (fb' x a')) :
    ∀ (n : Nat) (e : Ex), e.tot ≤ n → NX e → ∀ b b' a a', R a a' → R (walkE ext fa fb e b a) (walkE ext' fa' fb' e b' a') := by
  intro n
  induction n with
  | zero => intro e he; exfalso; have := tot_eq e; have := ty_pos e; omega
  | succ n ih =>
    have hks : ∀ (l : List Ex) b b' a a', Ex.tots l ≤ n → (∀ x ∈ l, NX x) → R a a' → R (walkKs ext fa fb l b a) (walkKs ext' fa' fb' l b' a') := by
      intro l
      induction l with
      | nil => intro b b' a a' _ _ h; rw [walkKs_nil, walkKs_nil]; exact h
      | cons e r ihr =>
        intro b b' a a' hl hn h
        rw [tots_cons] at hl
        rw [walkKs_cons, walkKs_cons]
        exact ihr b b' _ _ (by omega) (fun x hx => hn x (by simp [hx])) (ih e (by omega) (hn e (by simp)) b b' a a' h)
    have hal : ∀ (l : List Al) b b' a a', Al.tots l ≤ n → (∀ x ∈ l, NX x.body ∧ x.con ≠ [] ∧ ∀ v ∈ x.vars, v ≠ []) → R a a' → R (walkAs ext fa fb l b a) (walkAs ext' fa' fb' l b' a') := by
      intro l
      induction l with
      | nil => intro b b' a a' _ _ h; rw [walkAs_nil, walkAs_nil]; exact h
      | cons e r ihr =>
        intro b b' a a' hl hn h
        rw [altots_cons, altot_eq] at hl
        rw [walkAs_cons, walkAs_cons, walkA_eq, walkA_eq]
        have he := hn e (by simp)
        exact ihr b b' _ _ (by omega) (fun x hx => hn x (by simp [hx])) (ih e.body (by omega) he.1 _ _ _ _ (hfb e a a' he.2 h))
    intro e he hn b b' a a' h
    have ht := tot_eq e
    have hp := ty_pos e
    have h0 := hfa e b b' a a' hn h
    rw [walkE_eq, walkE_eq]
    split
    · exact hks e.kids _ _ _ _ (by omega) (fun x hx => hn.kid hx) h0
    · split
      · have hk : ∀ x ∈ e.kids, NX x := fun x hx => hn.kid hx
        have hkt : Ex.tots e.kids ≤ n := by omega
        revert hk hkt
        cases e.kids with
        | nil => intro _ _; rw [walkLet_nil, walkLet_nil]; exact h0
        | cons x r =>
          intro hk hkt
          rw [tots_cons] at hkt
          rw [walkLet_cons, walkLet_cons]
          exact hks r _ _ _ _ (by omega) (fun y hy => hk y (by simp [hy])) (ih x (by omega) (hk x (by simp)) _ _ _ _ h0)
      · exact hal e.alts _ _ _ _ (by omega) (fun x hx => ⟨hn.alt hx, hn.altn hx⟩) (hks e.kids _ _ _ _ (by omega) (fun x hx => hn.kid hx) h0)
theorem walk_inv {α : Type} {ext : List (List UInt8) → List (List UInt8) → List (List UInt8)} {fa : Ex → List (List UInt8) → α → α} {fb : Al → α → α} (P : α → Prop)
    (hfa : ∀ e b a, NX e → P a → P (fa e b a)) (hfb : ∀ x a, (x.con ≠ [] ∧ ∀ v ∈ x.vars, v ≠ []) → P a → P (fb x a)) {e : Ex} (hn : NX e) {b : List (List UInt8)} {a : α} (h : P a) : P (walkE ext fa fb e b a) :=
  walk_rel (β := Unit) (ext' := fun b _ => b) (fa' := fun _ _ u => u) (fb' := fun _ u => u) (fun a _ => P a) (fun e b _ a _ he ha => hfa e b a he ha) (fun x a _ hx ha => hfb x a hx ha) _ e (Nat.le_refl _) hn b b a () h
def NS (l : List (List UInt8)) : Prop := ∀ x ∈ l, x ≠ []
theorem add_ns {l : List (List UInt8)} {n : List UInt8} (h : NS l) (hn : n ≠ []) : NS (addS l n) := by
  unfold addS; split
  · exact h
  · intro x hx
    rcases List.mem_append.1 hx with hx | hx
    · exact h x hx
    · rw [List.mem_singleton.1 hx]; exact hn
theorem adds_ns : ∀ {ns l : List (List UInt8)}, NS l → NS ns → NS (ns.foldl addS l)
  | [], _, h, _ => h
  | n :: r, l, h, hn => adds_ns (ns := r) (add_ns h (hn n (by simp))) fun x hx => hn x (by simp [hx])
theorem free_ns {e : Ex} (hn : NX e) : NS (freeS e) := by
  refine walk_inv NS (fun e b a he ha => ?_) (fun x a _ ha => ha) hn (fun x hx => by cases hx)
  unfold faF
  split
  · rename_i hc
    simp only [Bool.and_eq_true, beq_iff_eq] at hc
    exact add_ns ha (he.nam (.inl hc.1))
  · exact ha
theorem cons_ns {e : Ex} (hn : NX e) : NS (consS e) := by
  refine walk_inv NS (fun e b a he ha => ?_) (fun x a hx ha => add_ns ha hx.1) hn (fun x hx => by cases hx)
  unfold faC
  split
  · rename_i hc
    simp only [beq_iff_eq] at hc
    exact add_ns ha (he.nam (.inr (.inl hc)))
  · exact ha
theorem bound_ns {e : Ex} (hn : NX e) : NS (boundS e) := by
  refine walk_inv NS (fun e b a he ha => ?_) (fun x a hx ha => adds_ns ha hx.2) hn (fun x hx => by cases hx)
  unfold faB
  split
  · rename_i hc
    simp only [Bool.or_eq_true, beq_iff_eq] at hc
    exact add_ns ha (he.nam (by rcases hc with h | h <;> simp [h]))
  · exact ha
theorem tw_mem (all o : List (List UInt8)) : ∀ (l : List (List UInt8)) (i : Nat), (twR all o l i).2 = true → (twR all o l i).1 ∈ l
  | [], i, h => by cases h
  | x :: r, i, h => by
    unfold twR at h ⊢
    split
    · exact List.mem_cons_self ..
    · rename_i hc
      rw [if_neg hc] at h
      exact List.mem_cons_of_mem _ (tw_mem all o r (i + 1) h)
theorem tw_none (all o : List (List UInt8)) : ∀ (l : List (List UInt8)) (i : Nat), (twR all o l i).2 = false → (twR all o l i).1 = []
  | [], i, h => rfl
  | x :: r, i, h => by
    unfold twR at h ⊢
    split
    · rename_i hc; rw [if_pos hc] at h; cases h
    · rename_i hc
      rw [if_neg hc] at h
      exact tw_none all o r (i + 1) h
theorem out_mem {l o : List (List UInt8)} (h : (outS l o).2 = true) : (outS l o).1 ∈ l := by
  unfold outS at h ⊢
  split
  · rename_i hc; rw [hc] at h; cases h
  · rename_i n hc; exact List.mem_of_find?_eq_some hc
theorem out_none {l o : List (List UInt8)} (h : (outS l o).2 = false) : ∀ x ∈ l, o.contains x = true := by
  unfold outS at h
  split at h
  · rename_i hc
    intro x hx
    have := List.find?_eq_none.1 hc x hx
    simpa using this
  · cases h
def bindsL (l : List De) : List (List UInt8) := (l.filter (·.kind == 3)).map De.name
def sigsL (l : List De) : List (List UInt8) := (l.filter (·.kind == 2)).map De.name
def freshB : List (List UInt8) → List De → Bool
  | _, [] => true
  | acc, d :: r => if d.kind == 3 then !acc.contains d.name && freshB (acc ++ [d.name]) r else freshB acc r
theorem tw_one {n : List UInt8} {o : List (List UInt8)} : twR [n] o [n] 0 = if o.contains n then (n, true) else ([], false) := by
  unfold twR
  simp only [List.take_zero, List.contains_nil, Bool.false_or]
  split
  · rfl
  · rfl
theorem kindNe {k a b : Int} (h : (k == a) = true) (hab : a ≠ b) : (k == b) = false := by
  rw [beq_iff_eq] at h; rw [h, beq_eq_false_iff_ne]; exact hab
theorem declAll_ok : ∀ (l : List De) (T T' : Tab), declAll T l = .ok T' → T'.binds = T.binds ++ bindsL l ∧ T'.sigs = T.sigs ++ sigsL l ∧ freshB T.binds l = true
  | [], T, T', h => by
    unfold declAll at h
    injection h with h; subst h
    simp [bindsL, sigsL, freshB]
  | d :: r, T, T', h => by
    unfold declAll at h
    split at h
    · cases h
    · rename_i hc
      have ih := declAll_ok r _ _ h
      unfold bindsL sigsL freshB
      rw [List.filter_cons, List.filter_cons]
      unfold declS at hc ih
      cases k2 : d.kind == 2
      · cases k3 : d.kind == 3
        · simp only [k2, k3, Bool.false_eq_true, if_false] at hc ih ⊢
          split at ih
          · exact ih
          · split at ih
            · exact ih
            · exact ih
        · simp only [k2, k3, Bool.false_eq_true, if_false, if_true] at hc ih ⊢
          rw [tw_one] at hc
          split at hc
          · exact absurd rfl hc
          · rename_i hn
            refine ⟨?_, ih.2.1, ?_⟩
            · rw [ih.1, List.map_cons, List.append_assoc]; rfl
            · rw [ih.2.2]
              simp only [Bool.not_eq_true] at hn
              rw [hn]; rfl
      · have k3 := kindNe (b := 3) k2 (by decide)
        simp only [k2, k3, Bool.false_eq_true, if_false, if_true] at hc ih ⊢
        refine ⟨ih.1, ?_, ih.2.2⟩
        rw [ih.2.1, List.map_cons, List.append_assoc]; rfl
theorem decl_name {T : Tab} {d : De} (hd : ND d) (h : (declS T d).1.2 = true) : (declS T d).1.1 ≠ [] := by
  have one : ∀ o, (twR [d.name] o [d.name] 0).2 = true → (twR [d.name] o [d.name] 0).1 ≠ [] := fun o ho => by
    have := tw_mem _ _ _ _ ho
    rw [List.mem_singleton.1 this]; exact hd.name
  unfold declS at h ⊢
  split
  · rename_i hc; rw [if_pos hc] at h; exact one _ h
  · rename_i hc; rw [if_neg hc] at h
    split
    · rename_i hc2; rw [if_pos hc2] at h; exact one _ h
    · rename_i hc2; rw [if_neg hc2] at h
      split
      · rename_i hc3; exact one _ hc3
      · rename_i hc3; rw [if_neg hc3] at h
        split
        · rename_i hc4; exact hd.vars _ (tw_mem _ _ _ _ hc4)
        · rename_i hc4; rw [if_neg hc4] at h
          obtain ⟨c, hc, e⟩ := List.mem_map.1 (tw_mem _ _ _ _ h)
          rw [← e]; exact hd.cons c hc
theorem declAll_err : ∀ (l : List De) (T : Tab) (n : List UInt8), (∀ d ∈ l, ND d) → declAll T l = .error n → n ≠ []
  | [], T, n, _, h => by unfold declAll at h; cases h
  | d :: r, T, n, hl, h => by
    unfold declAll at h
    split at h
    · rename_i hc
      injection h with h; subst h
      exact decl_name (hl d (by simp)) hc
    · exact declAll_err r _ n (fun x hx => hl x (by simp [hx])) h
theorem sigs_ns {l : List De} (h : ∀ d ∈ l, ND d) : NS (sigsL l) := by
  intro x hx
  obtain ⟨d, hd, rfl⟩ := List.mem_map.1 hx
  exact (h d (List.mem_filter.1 hd).1).name
theorem rest_code {T : Tab} {e : Ex} (hn : NX e) : (restS T e).2 = 0 ∧ (restS T e).1 = [] ∨ ((restS T e).1 ≠ [] ∧ ((restS T e).2 = 90 ∨ (restS T e).2 = 91)) := by
  unfold restS
  split
  · rename_i hc
    refine .inr ⟨?_, .inl rfl⟩
    have := walk_inv (ext := withS) (fa := faT) (fb := fbT) (fun p : Bool × List UInt8 => p.1 = true → p.2 ≠ []) (fun _ _ _ _ h => h) (fun x a hx ha => by
      unfold fbT
      split
      · rename_i hc
        intro _
        simp only [Bool.and_eq_true] at hc
        exact hx.2 _ (tw_mem _ _ _ _ hc.1)
      · exact ha) hn (b := []) (a := (false, [])) (fun h => by cases h)
    exact this hc
  · split
    · rename_i hc; exact .inr ⟨free_ns hn _ (out_mem hc), .inr rfl⟩
    · split
      · rename_i hc; exact .inr ⟨cons_ns hn _ (out_mem hc), .inr rfl⟩
      · exact .inl ⟨rfl, rfl⟩
theorem bindR_code {T : Tab} {e : Ex} (hn : NX e) : ∀ (l : List (List UInt8)), NS l → ((bindR T e l).2 = 0 ∧ (bindR T e l).1 = []) ∨ ((bindR T e l).1 ≠ [] ∧ ((bindR T e l).2 = 90 ∨ (bindR T e l).2 = 91))
  | [], _ => rest_code hn
  | x :: r, h => by
    unfold bindR
    split
    · exact .inr ⟨h x (by simp), .inl rfl⟩
    · exact bindR_code hn r fun y hy => h y (by simp [hy])
theorem bindAll_code {T : Tab} : ∀ (l : List De), (∀ d ∈ l, ND d) → ((bindAll T l).2 = 0 ∧ (bindAll T l).1 = []) ∨ ((bindAll T l).1 ≠ [] ∧ ((bindAll T l).2 = 90 ∨ (bindAll T l).2 = 91))
  | [], _ => .inl ⟨rfl, rfl⟩
  | d :: r, h => by
    unfold bindAll
    split
    · exact bindAll_code r fun x hx => h x (by simp [hx])
    · rename_i hk
      split
      · rename_i hc
        have hv := (h d (by simp)).val (by simpa using hk)
        rcases bindR_code (T := T) hv (boundS d.val) (bound_ns hv) with h1 | h1
        · have e : bindS T d.val = bindR T d.val (boundS d.val) := rfl
          rw [e, h1.1] at hc; simp at hc
        · exact .inr h1
      · exact bindAll_code r fun x hx => h x (by simp [hx])
theorem chk_code {l : List De} (h : ∀ d ∈ l, ND d) : ((chkS l).2 = 0 ∧ (chkS l).1 = []) ∨ ((chkS l).1 ≠ [] ∧ ((chkS l).2 = 90 ∨ (chkS l).2 = 91 ∨ (chkS l).2 = 92)) := by
  unfold chkS chkR
  split
  · rename_i n hn
    exact .inr ⟨declAll_err l _ n h hn, .inl rfl⟩
  · rename_i T hT
    split
    · rename_i hc
      refine .inr ⟨?_, .inr (.inr rfl)⟩
      have e := (declAll_ok l _ _ hT).2.1
      have hs : NS T.sigs := by rw [e]; simpa using sigs_ns h
      exact hs _ (out_mem hc)
    · rcases bindAll_code (T := T) l h with h1 | ⟨h1, h2⟩
      · exact .inl h1
      · exact .inr ⟨h1, by rcases h2 with h2 | h2 <;> simp [h2]⟩
theorem bindR_zero {T : Tab} {e : Ex} : ∀ (l : List (List UInt8)), (bindR T e l).2 = 0 → (∀ x ∈ l, T.binds.contains x = false) ∧ (restS T e).2 = 0
  | [], h => ⟨fun x hx => (by cases hx), h⟩
  | x :: r, h => by
    unfold bindR at h
    split at h
    · exact absurd h (by simp)
    · rename_i hc
      have ih := bindR_zero r h
      refine ⟨fun y hy => ?_, ih.2⟩
      rcases List.mem_cons.1 hy with rfl | hy
      · simpa using hc
      · exact ih.1 y hy
theorem rest_zero {T : Tab} {e : Ex} (h : (restS T e).2 = 0) : ∀ x ∈ freeS e, T.binds.contains x = true := by
  unfold restS at h
  split at h
  · exact absurd h (by simp)
  · split at h
    · exact absurd h (by simp)
    · rename_i hc
      exact out_none (by simpa using hc)
theorem bindAll_zero {T : Tab} : ∀ (l : List De), (bindAll T l).2 = 0 → ∀ d ∈ l, d.kind = 3 → (bindS T d.val).2 = 0
  | [], _, d, hd, _ => by cases hd
  | x :: r, h, d, hd, hk => by
    unfold bindAll at h
    split at h
    · rename_i hc
      rcases List.mem_cons.1 hd with rfl | hd
      · rw [hk] at hc; exact absurd hc (by decide)
      · exact bindAll_zero r h d hd hk
    · split at h
      · rename_i hc
        rw [h] at hc; exact absurd hc (by decide)
      · rename_i hc
        rcases List.mem_cons.1 hd with rfl | hd
        · simpa using hc
        · exact bindAll_zero r h d hd hk
/-- of a program that passes -/
theorem chk_zero {l : List De} (h : (chkS l).2 = 0) : freshB [] l = true ∧ (∀ d ∈ l, d.kind = 2 → (bindsL l).contains d.name = true) ∧ ∀ d ∈ l, d.kind = 3 → (∀ x ∈ freeS d.val, (bindsL l).contains x = true) ∧ ∀ x ∈ boundS d.val, (bindsL l).contains x = false := by
  unfold chkS chkR at h
  split at h
  · exact absurd h (by simp)
  · rename_i T hT
    obtain ⟨h1, h2, h3⟩ := declAll_ok l _ _ hT
    simp only [List.nil_append] at h1 h2
    split at h
    · exact absurd h (by simp)
    · rename_i hc
      have ho := out_none (l := T.sigs) (o := T.binds) (by simpa using hc)
      rw [h1, h2] at ho
      refine ⟨h3, fun d hd hk => ho _ (List.mem_map.2 ⟨d, List.mem_filter.2 ⟨hd, by simp [hk]⟩, rfl⟩), fun d hd hk => ?_⟩
      have hb := bindAll_zero l h d hd hk
      obtain ⟨k1, k2⟩ := bindR_zero _ hb
      have k3 := rest_zero k2
      rw [h1] at k1 k3
      exact ⟨k3, k1⟩
end Go.Proofs
namespace Go.Proofs
open Go.Av
set_option maxHeartbeats 16000000
set_option maxRecDepth 100000
theorem binds_len (l : List De) : (bindsL l).length ≤ l.length := by
  unfold bindsL; rw [List.length_map]; exact List.length_filter_le _ _
theorem bindsL_cons (d : De) (r : List De) : bindsL (d :: r) = if d.kind == 3 then d.name :: bindsL r else bindsL r := by
  unfold bindsL
  rw [List.filter_cons]
  split <;> rfl
theorem dec_true (s : List UInt8) (h : s ≠ []) : (s == []) = false := by
  cases s with
  | nil => exact absurd rfl h
  | cons a r => rfl
theorem declares_law_den (s : List UInt8) : den E 7 [.str s] [] = some (.bool true, []) := by
  rw [den_eq prim_7, body_7]
  have ha := awake_den
  obtain ⟨p, hp⟩ := parseO_tot s
  have h1 := (parse_two hp).1
  unfold parV at h1
  cases h0 : (p.2 != 0)
  · have h00 : p.2 = 0 := by rw [bne_not] at h0; simpa using h0
    have key := parse_good hp h00
    have hne := parse_ne hp h00
    have hc := check_den p.1 (fun d hd hk => (key.1 d hd).sx hk) (by have := key.2; omega)
    have hcode := chk_code hne
    unfold seV at hc
    cases hz : ((chkS p.1).2 != 0)
    · have hz0 : (chkS p.1).2 = 0 := by rw [bne_not] at hz; simpa using hz
      have hn0 : (chkS p.1).1 = [] := by
        rcases hcode with h | ⟨_, h⟩
        · exact h.2
        · rw [hz0] at h; simp at h
      obtain ⟨f1, f2, f3⟩ := chk_zero hz0
      have hlen := desum_len p.1
      have hkl : p.1.length ≤ 12000 := by have := key.2; omega
      have hds : De.sum p.1 ≤ 12000 := key.2
      have hgx : ∀ d ∈ p.1, d.kind = 3 → SX d.val := fun d hd hk => (key.1 d hd).sx hk
      rw [hn0] at hc
      generalize chkS p.1 = c at *
      generalize p.1 = l at *
      clear hcode key hne
      have hbl := binds_len l
      simp only [go_sem, ↓reduceIte, Nat.reduceEqDiff, Nat.reduceAdd, reduceCtorEq, Tryz.f7, ha, h1, h0, hc, hz]
      refine run_ind (fun x : Nat × List (List UInt8) => x.1 ≤ l.length ∧ freshB x.2 (l.drop x.1) = true ∧ x.2 ++ bindsL (l.drop x.1) = bindsL l)
        (fun x => ⟨[(3, .bool true), (4, .slice (l.map deV)), (6, .str []), (8, .own 9 0 (x.2.map .str)), (9, .int .i64 x.1)], [], [], 1⟩)
        (fun _ => some (.bool true, [])) (fun x => l.length - x.1) (0, []) ⟨Nat.zero_le _, f1, rfl⟩ ?_ ?_
      · simp only [go_sem, ↓reduceIte, Nat.reduceEqDiff, reduceCtorEq, Int.cast_ofNat_Int, List.map_nil]
      · rintro ⟨i, b⟩ ⟨hi, hf, hb⟩ h
        simp only at hi hf hb h ⊢
        by_cases hlt : i < l.length
        · obtain ⟨d, hx⟩ := getS hlt
          rw [dropGet hx] at hf hb
          have w1 : IntKind.i64.wrap ((i : Int) + 1) = ((i + 1 : Nat) : Int) := wrapN (i + 1) (by omega)
          have hbb : b.length ≤ l.length := by
            have := congrArg List.length hb
            rw [List.length_append] at this; omega
          unfold freshB at hf
          rw [bindsL_cons] at hb
          cases k3 : d.kind == 3
          · simp only [k3, Bool.false_eq_true, if_false] at hf hb
            simp only [go_sem, ↓reduceIte, Nat.reduceEqDiff, Nat.reduceAdd, Nat.one_ne_zero, List.length_map, natlt, decide_eq_true hlt, natge0, tonat, deGet, hx, deV, deC, k3]
            refine h (i + 1, b) _ ⟨by omega, hf, hb⟩ (by simp only; omega) ?_
            simp only [go_sem, ↓reduceIte, Nat.reduceEqDiff, w1]
          · simp only [k3, if_true, Bool.and_eq_true, Bool.not_eq_true'] at hf hb
            have dh := has_den b d.name (by omega)
            rw [hf.1] at dh
            have a2 : b.length + 1 ≤ appMax := by unfold appMax; omega
            simp only [go_sem, ↓reduceIte, Nat.reduceEqDiff, Nat.reduceAdd, Nat.reduceMul, Nat.reduceLeDiff, Nat.one_ne_zero, Nat.reduceLT, decide_true, List.length_map, natlt, decide_eq_true hlt, natge0, tonat, deGet, hx, deV, deC, k3, dh, a2]
            refine h (i + 1, b ++ [d.name]) _ ⟨by omega, hf.2, ?_⟩ (by simp only; omega) ?_
            · simp only [List.append_assoc]; exact hb
            · simp only [go_sem, ↓reduceIte, Nat.reduceEqDiff, w1, List.map_append]
        · have hie : i = l.length := by omega
          subst hie
          rw [List.drop_length] at hb
          have hbe : b = bindsL l := by rw [← hb]; simp [bindsL]
          subst hbe
          clear h hf hb
          simp only [go_sem, ↓reduceIte, Nat.reduceEqDiff, Nat.reduceAdd, beq_self_eq_true, decide_false, List.length_map, natlt, Nat.lt_irrefl]
          refine run_ind (fun i : Nat => i ≤ l.length) (fun i => ⟨[(3, .bool true), (4, .slice (l.map deV)), (6, .str []), (8, .own 9 0 ((bindsL l).map .str)), (11, .int .i64 i)], [], [], 1⟩)
            (fun _ => some (.bool true, [])) (fun i => l.length - i) 0 (Nat.zero_le _) ?_ ?_
          · simp only [go_sem, ↓reduceIte, Nat.reduceEqDiff, Int.cast_ofNat_Int]
          · intro i hi h
            by_cases hlt : i < l.length
            · obtain ⟨d, hx⟩ := getS hlt
              have hm := List.mem_of_getElem? hx
              have w1 : IntKind.i64.wrap ((i : Int) + 1) = ((i + 1 : Nat) : Int) := wrapN (i + 1) (by omega)
              have dh := has_den (bindsL l) d.name (by omega)
              have hdt := desum_mem hm
              cases k3 : d.kind != 3
              · have hk : d.kind = 3 := by simpa using k3
                have k2 : (d.kind == 2) = false := by rw [hk]; rfl
                obtain ⟨g1, g2⟩ := f3 d hm hk
                have hvt : d.val.tot < 500000 := by unfold De.tot at hdt; omega
                have d1 := free_den d.val (hgx d hm hk) (by omega)
                have d2 := bound_den d.val (hgx d hm hk) (by omega)
                have l1 := free_le d.val
                have l2 := bound_le d.val
                rw [exC_eq] at d1 d2
                generalize freeS d.val = a at *
                generalize boundS d.val = b at *
                simp only [go_sem, ↓reduceIte, Nat.reduceEqDiff, Nat.reduceAdd, Nat.reduceLeDiff, Nat.one_ne_zero, reduceCtorEq, List.length_map, natlt, decide_eq_true hlt, natge0, tonat, deGet, hx, deV, deC, k2, k3, dh, d1, d2]
                refine run_ind (fun k : Nat => k ≤ a.length) (fun k => ⟨[(3, .bool true), (4, .slice (l.map deV)), (6, .str []), (8, .own 9 0 ((bindsL l).map .str)), (11, .int .i64 i), (13, .slice (a.map .str)), (14, .slice (b.map .str)), (15, .int .i64 k)], [], [], 1⟩)
                  (fun _ => some (.bool true, [])) (fun k => a.length - k) 0 (Nat.zero_le _) ?_ ?_
                · simp only [go_sem, ↓reduceIte, Nat.reduceEqDiff, Int.cast_ofNat_Int]
                · intro k hkk hr
                  by_cases hkl : k < a.length
                  · obtain ⟨v, hv⟩ := getS hkl
                    have w2 : IntKind.i64.wrap ((k : Int) + 1) = ((k + 1 : Nat) : Int) := wrapN (k + 1) (by omega)
                    have dv := has_den (bindsL l) v (by omega)
                    rw [g1 v (List.mem_of_getElem? hv)] at dv
                    simp only [go_sem, ↓reduceIte, Nat.reduceEqDiff, Nat.reduceAdd, List.length_map, natlt, decide_eq_true hkl, natge0, tonat, strsGet, hv, dv]
                    refine hr (k + 1) _ (by omega) (by omega) ?_
                    simp only [go_sem, ↓reduceIte, Nat.reduceEqDiff, w2]
                  · have hke : k = a.length := by omega
                    subst hke
                    clear hr
                    simp only [go_sem, ↓reduceIte, Nat.reduceEqDiff, Nat.reduceAdd, beq_self_eq_true, decide_false, List.length_map, natlt, Nat.lt_irrefl]
                    refine run_ind (fun k : Nat => k ≤ b.length) (fun k => ⟨[(3, .bool true), (4, .slice (l.map deV)), (6, .str []), (8, .own 9 0 ((bindsL l).map .str)), (11, .int .i64 i), (14, .slice (b.map .str)), (17, .int .i64 k)], [], [], 1⟩)
                      (fun _ => some (.bool true, [])) (fun k => b.length - k) 0 (Nat.zero_le _) ?_ ?_
                    · simp only [go_sem, ↓reduceIte, Nat.reduceEqDiff, Int.cast_ofNat_Int]
                    · intro k hkk hr
                      by_cases hkl : k < b.length
                      · obtain ⟨v, hv⟩ := getS hkl
                        have w2 : IntKind.i64.wrap ((k : Int) + 1) = ((k + 1 : Nat) : Int) := wrapN (k + 1) (by omega)
                        have dv := has_den (bindsL l) v (by omega)
                        rw [g2 v (List.mem_of_getElem? hv)] at dv
                        simp only [go_sem, ↓reduceIte, Nat.reduceEqDiff, Nat.reduceAdd, List.length_map, natlt, decide_eq_true hkl, natge0, tonat, strsGet, hv, dv]
                        refine hr (k + 1) _ (by omega) (by omega) ?_
                        simp only [go_sem, ↓reduceIte, Nat.reduceEqDiff, w2]
                      · have hke : k = b.length := by omega
                        subst hke
                        clear hr
                        simp only [go_sem, ↓reduceIte, Nat.reduceEqDiff, Nat.reduceAdd, beq_self_eq_true, decide_false, List.length_map, natlt, Nat.lt_irrefl]
                        refine h (i + 1) _ (by omega) (by omega) ?_
                        simp only [go_sem, ↓reduceIte, Nat.reduceEqDiff, w1]
              · cases k2 : d.kind == 2
                · simp only [go_sem, ↓reduceIte, Nat.reduceEqDiff, Nat.reduceAdd, Nat.one_ne_zero, beq_self_eq_true, List.length_map, natlt, decide_eq_true hlt, natge0, tonat, deGet, hx, deV, deC, k2, k3, dh]
                  refine h (i + 1) _ (by omega) (by omega) ?_
                  simp only [go_sem, ↓reduceIte, Nat.reduceEqDiff, w1]
                · have g := f2 d hm (by simpa using k2)
                  rw [g] at dh
                  simp only [go_sem, ↓reduceIte, Nat.reduceEqDiff, Nat.reduceAdd, Nat.one_ne_zero, beq_self_eq_true, List.length_map, natlt, decide_eq_true hlt, natge0, tonat, deGet, hx, deV, deC, k2, k3, dh]
                  refine h (i + 1) _ (by omega) (by omega) ?_
                  simp only [go_sem, ↓reduceIte, Nat.reduceEqDiff, w1]
            · have hie : i = l.length := by omega
              subst hie
              simp only [go_sem, ↓reduceIte, Nat.reduceEqDiff, Nat.reduceAdd, beq_self_eq_true, decide_false, List.length_map, natlt, Nat.lt_irrefl]
    · have hz1 : (chkS p.1).2 ≠ 0 := by simpa using hz
      rcases hcode with ⟨h, _⟩ | ⟨g1, g2⟩
      · exact absurd h hz1
      · have hnn := dec_true (chkS p.1).1 g1
        generalize chkS p.1 = c at *
        obtain ⟨cn, cc⟩ := c
        simp only at g2 hnn hc hz
        rcases g2 with rfl | rfl | rfl
        · simp only [go_sem, ↓reduceIte, Nat.reduceEqDiff, Nat.reduceAdd, reduceCtorEq, beq_self_eq_true, Tryz.f7, ha, h1, h0, hc, hz, hnn]
        · simp only [go_sem, ↓reduceIte, Nat.reduceEqDiff, Nat.reduceAdd, reduceCtorEq, beq_self_eq_true, Tryz.f7, ha, h1, h0, hc, hz, hnn, show ((91 : Int) == 90) = false from rfl]
        · simp only [go_sem, ↓reduceIte, Nat.reduceEqDiff, Nat.reduceAdd, reduceCtorEq, beq_self_eq_true, Tryz.f7, ha, h1, h0, hc, hz, hnn, show ((92 : Int) == 90) = false from rfl, show ((92 : Int) == 91) = false from rfl]
  · simp only [go_sem, ↓reduceIte, Nat.reduceEqDiff, Nat.reduceAdd, reduceCtorEq, Tryz.f7, ha, h1, h0]
end Go.Proofs
