/- Who is free when an expression is put in the place of a name: the law comes out true. -/
import Derived.Test.YtnodmhkacfcmfaaGreatDoorAvP
import Derived.Test.YtnodmhkacfcmfaaGreatDoorAvM
namespace Go.Proofs
open Go.Av
set_option maxHeartbeats 16000000
set_option maxRecDepth 100000
/-! what is free when an expression is put in the place of a name -/
mutual
def fvE (v : List UInt8) : Ex → Bool
  | .mk k s _ _ ks al => (k == 1 && s == v) || (if k == 3 then !(s == v) && fvKs v ks else if k == 5 then fvLet v s ks else fvKs v ks || fvAs v al)
def fvKs (v : List UInt8) : List Ex → Bool
  | [] => false
  | e :: r => fvE v e || fvKs v r
def fvLet (v s : List UInt8) : List Ex → Bool
  | [] => false
  | e :: r => fvE v e || (!(s == v) && fvKs v r)
def fvA (v : List UInt8) : Al → Bool
  | .mk _ vs e => !vs.contains v && fvE v e
def fvAs (v : List UInt8) : List Al → Bool
  | [] => false
  | a :: r => fvA v a || fvAs v r
end
mutual
def bdE (v : List UInt8) : Ex → Bool
  | .mk k s _ _ ks al => ((k == 3 || k == 5) && s == v) || bdKs v ks || (if k == 3 || k == 5 then false else bdAs v al)
def bdKs (v : List UInt8) : List Ex → Bool
  | [] => false
  | e :: r => bdE v e || bdKs v r
def bdA (v : List UInt8) : Al → Bool
  | .mk _ vs e => vs.contains v || bdE v e
def bdAs (v : List UInt8) : List Al → Bool
  | [] => false
  | a :: r => bdA v a || bdAs v r
end
theorem fvE_eq (v : List UInt8) (e : Ex) : fvE v e = ((e.kind == 1 && e.name == v) || (if e.kind == 3 then !(e.name == v) && fvKs v e.kids else if e.kind == 5 then fvLet v e.name e.kids else fvKs v e.kids || fvAs v e.alts)) := by
  cases e; simp only [fvE, Ex.kind, Ex.name, Ex.kids, Ex.alts]; rfl
theorem fvA_eq (v : List UInt8) (a : Al) : fvA v a = (!a.vars.contains v && fvE v a.body) := by cases a; simp only [fvA, Al.vars, Al.body]
theorem bdE_eq (v : List UInt8) (e : Ex) : bdE v e = (((e.kind == 3 || e.kind == 5) && e.name == v) || bdKs v e.kids || (if e.kind == 3 || e.kind == 5 then false else bdAs v e.alts)) := by
  cases e; simp only [bdE, Ex.kind, Ex.name, Ex.kids, Ex.alts]; rfl
theorem bdA_eq (v : List UInt8) (a : Al) : bdA v a = (a.vars.contains v || bdE v a.body) := by cases a; simp only [bdA, Al.vars, Al.body]
theorem addS_has (l : List (List UInt8)) (n v : List UInt8) : (addS l n).contains v = (l.contains v || n == v) := by
  unfold addS
  cases h : l.contains n
  · simp only [Bool.false_eq_true, if_false]
    rw [Bool.eq_iff_iff]; simp; constructor
    · rintro (h | rfl); exact .inl h; exact .inr rfl
    · rintro (h | rfl); exact .inl h; exact .inr rfl
  · simp only [if_true]
    rw [Bool.eq_iff_iff]; simp
    rintro rfl; simpa using h
theorem withS_has (ns : List (List UInt8)) : ∀ (b : List (List UInt8)) (v : List UInt8), (withS b ns).contains v = (b.contains v || ns.contains v) := by
  unfold withS
  induction ns with
  | nil => intro b v; simp
  | cons n ns ih =>
    intro b v
    rw [List.foldl_cons, ih, addS_has, List.contains_cons, Bool.or_assoc]
    congr 2
    rw [Bool.eq_iff_iff]; simp; exact eq_comm
theorem walk_free (v : List UInt8) : ∀ (f : Nat) (e : Ex), e.tot ≤ f → ∀ b acc, (walkE withS faF fbF e b acc).contains v = (acc.contains v || (fvE v e && !b.contains v)) := by
  intro f
  induction f with
  | zero => intro e h; have := tot_pos e; omega
  | succ f ih =>
    intro e he b acc
    have ht := tot_eq e
    have hs := sz_pos e.ty
    have ks : ∀ (l : List Ex), (∀ x ∈ l, x.tot ≤ f) → ∀ b acc, (walkKs withS faF fbF l b acc).contains v = (acc.contains v || (fvKs v l && !b.contains v)) := by
      intro l
      induction l with
      | nil => intro _ b acc; rw [walkKs_nil]; simp [fvKs]
      | cons x l ihl =>
        intro h b acc
        rw [walkKs_cons, ihl (fun y hy => h y (List.mem_cons_of_mem _ hy)), ih x (h x (List.mem_cons_self ..))]
        simp only [fvKs]
        cases acc.contains v <;> cases fvE v x <;> cases fvKs v l <;> cases b.contains v <;> rfl
    have hal : ∀ (l : List Al), (∀ x ∈ l, x.body.tot ≤ f) → ∀ b acc, (walkAs withS faF fbF l b acc).contains v = (acc.contains v || (fvAs v l && !b.contains v)) := by
      intro l
      induction l with
      | nil => intro _ b acc; rw [walkAs_nil]; simp [fvAs]
      | cons x l ihl =>
        intro h b acc
        rw [walkAs_cons, ihl (fun y hy => h y (List.mem_cons_of_mem _ hy)), walkA_eq, ih x.body (h x (List.mem_cons_self ..)), withS_has]
        simp only [fvAs, fvA_eq, fbF]
        cases acc.contains v <;> cases fvE v x.body <;> cases fvAs v l <;> cases b.contains v <;> cases x.vars.contains v <;> rfl
    have hk : ∀ x ∈ e.kids, x.tot ≤ f := fun x hx => by have := tots_mem hx; omega
    have ha : ∀ x ∈ e.alts, x.body.tot ≤ f := fun x hx => by have := paltots_mem hx; have := paltot_eq x; omega
    have h0 : (faF e b acc).contains v = (acc.contains v || ((e.kind == 1 && e.name == v) && !b.contains v)) := by
      unfold faF
      cases h1 : e.kind == 1
      · simp
      · cases h2 : b.contains e.name
        · simp only [Bool.not_false, Bool.and_self, if_true, addS_has, Bool.true_and]
          cases h3 : e.name == v
          · simp
          · rw [← eq_of_beq h3, h2]; simp
        · simp only [Bool.not_true, Bool.and_false, Bool.false_eq_true, if_false, Bool.true_and]
          cases h3 : e.name == v
          · simp
          · rw [← eq_of_beq h3, h2]; simp
    rw [walkE_eq, fvE_eq]
    cases h3 : e.kind == 3
    · cases h5 : e.kind == 5
      · simp only [Bool.false_eq_true, if_false]
        rw [hal _ ha, ks _ hk, h0]
        generalize (e.kind == 1 && e.name == v) = p
        cases acc.contains v <;> cases p <;> cases fvKs v e.kids <;> cases fvAs v e.alts <;> cases b.contains v <;> rfl
      · simp only [Bool.false_eq_true, if_false, if_true]
        cases hl : e.kids with
        | nil =>
          rw [walkLet_nil, h0]; simp [fvLet]
        | cons x l =>
          rw [hl] at hk
          rw [walkLet_cons, ks l (fun y hy => hk y (List.mem_cons_of_mem _ hy)), ih x (hk x (List.mem_cons_self ..)), h0, withS_has]
          simp only [fvLet, List.contains_cons, List.contains_nil, Bool.or_false]
          have hc : (v == e.name) = (e.name == v) := by rw [Bool.eq_iff_iff]; simp; exact eq_comm
          rw [hc]
          generalize (e.kind == 1 && e.name == v) = p
          cases acc.contains v <;> cases p <;> cases fvE v x <;> cases fvKs v l <;> cases b.contains v <;> cases (e.name == v) <;> rfl
    · simp only [if_true]
      rw [ks _ hk, h0, withS_has]
      simp only [List.contains_cons, List.contains_nil, Bool.or_false]
      have hc : (v == e.name) = (e.name == v) := by rw [Bool.eq_iff_iff]; simp; exact eq_comm
      rw [hc]
      generalize (e.kind == 1 && e.name == v) = p
      cases acc.contains v <;> cases p <;> cases fvKs v e.kids <;> cases b.contains v <;> cases (e.name == v) <;> rfl
theorem walk_bound (v : List UInt8) : ∀ (f : Nat) (e : Ex), GX e → e.tot ≤ f → ∀ b acc, (walkE withS faB fbB e b acc).contains v = (acc.contains v || bdE v e) := by
  intro f
  induction f with
  | zero => intro e _ h; have := tot_pos e; omega
  | succ f ih =>
    intro e gx he b acc
    have ht := tot_eq e
    have hs := sz_pos e.ty
    have ks : ∀ (l : List Ex), (∀ x ∈ l, GX x ∧ x.tot ≤ f) → ∀ b acc, (walkKs withS faB fbB l b acc).contains v = (acc.contains v || bdKs v l) := by
      intro l
      induction l with
      | nil => intro _ b acc; rw [walkKs_nil]; simp [bdKs]
      | cons x l ihl =>
        intro h b acc
        have hx := h x (List.mem_cons_self ..)
        rw [walkKs_cons, ihl (fun y hy => h y (List.mem_cons_of_mem _ hy)), ih x hx.1 hx.2]
        simp only [bdKs, Bool.or_assoc]
    have hal : ∀ (l : List Al), (∀ x ∈ l, GX x.body ∧ x.body.tot ≤ f) → ∀ b acc, (walkAs withS faB fbB l b acc).contains v = (acc.contains v || bdAs v l) := by
      intro l
      induction l with
      | nil => intro _ b acc; rw [walkAs_nil]; simp [bdAs]
      | cons x l ihl =>
        intro h b acc
        have hx := h x (List.mem_cons_self ..)
        rw [walkAs_cons, ihl (fun y hy => h y (List.mem_cons_of_mem _ hy)), walkA_eq, ih x.body hx.1 hx.2]
        have hw := withS_has x.vars acc v
        unfold withS at hw
        simp only [bdAs, bdA_eq, fbB, hw, Bool.or_assoc]
    have hk : ∀ x ∈ e.kids, GX x ∧ x.tot ≤ f := fun x hx => ⟨kids_gx gx x hx, by have := tots_mem hx; omega⟩
    have ha : ∀ x ∈ e.alts, GX x.body ∧ x.body.tot ≤ f := fun x hx => ⟨alts_gx gx x hx, by have := paltots_mem hx; have := paltot_eq x; omega⟩
    have h0 : (faB e b acc).contains v = (acc.contains v || ((e.kind == 3 || e.kind == 5) && e.name == v)) := by
      unfold faB
      cases h1 : (e.kind == 3 || e.kind == 5)
      · simp
      · simp only [if_true, addS_has, Bool.true_and]
    rw [walkE_eq, bdE_eq]
    cases h3 : e.kind == 3
    · cases h5 : e.kind == 5
      · rw [h3, h5] at h0
        simp only [Bool.false_eq_true, if_false, Bool.or_false, Bool.false_and, Bool.false_or] at h0 ⊢
        rw [hal _ ha, ks _ hk, h0, Bool.or_assoc]
      · rw [h3, h5] at h0
        simp only [Bool.false_eq_true, if_false, if_true, Bool.false_or, Bool.true_and, Bool.or_false] at h0 ⊢
        cases hl : e.kids with
        | nil => rw [walkLet_nil, h0]; simp [bdKs]
        | cons x l =>
          rw [hl] at hk
          rw [walkLet_cons, ks l (fun y hy => hk y (List.mem_cons_of_mem _ hy)), ih x (hk x (List.mem_cons_self ..)).1 (hk x (List.mem_cons_self ..)).2, h0]
          simp only [bdKs, Bool.or_assoc]
    · rw [h3] at h0
      simp only [if_true, Bool.true_or, Bool.true_and, Bool.or_false] at h0 ⊢
      rw [ks _ hk, h0, Bool.or_assoc]
end Go.Proofs
namespace Go.Proofs
open Go.Av
set_option maxHeartbeats 16000000
set_option maxRecDepth 100000
theorem fv_nam (v s : List UInt8) (k : Int) (hk : k = 1 ∨ k = 2) : fvE v (.mk k s false zTy [] []) = (k == 1 && s == v) := by
  rcases hk with rfl | rfl <;> simp [fvE, fvKs, fvAs]
theorem fv_lam (v s : List UInt8) (x : Ex) : fvE v (.mk 3 s false zTy [x] []) = (!(s == v) && fvE v x) := by
  simp [fvE, fvKs]
theorem fv_two (v s : List UInt8) (x y : Ex) : fvE v (.mk 4 s false zTy [x, y] []) = (fvE v x || fvE v y) := by
  simp [fvE, fvKs, fvAs]
theorem fv_let (v s : List UInt8) (b : Bool) (t : Ty) (x y : Ex) : fvE v (.mk 5 s b t [x, y] []) = (fvE v x || (!(s == v) && fvE v y)) := by
  simp [fvE, fvKs, fvLet]
theorem fv_cas (v s : List UInt8) (x : Ex) (al : List Al) : fvE v (.mk 6 s false zTy [x] al) = (fvE v x || fvAs v al) := by
  simp [fvE, fvKs]
theorem fv_ann (v s : List UInt8) (t : Ty) (x : Ex) : fvE v (.mk 7 s false t [x] []) = fvE v x := by
  simp [fvE, fvKs, fvAs]
theorem bd_lam (v s : List UInt8) (x : Ex) : bdE v (.mk 3 s false zTy [x] []) = (s == v || bdE v x) := by
  simp [bdE, bdKs]
theorem bd_two (v s : List UInt8) (x y : Ex) : bdE v (.mk 4 s false zTy [x, y] []) = (bdE v x || bdE v y) := by
  simp [bdE, bdKs, bdAs]
theorem bd_let (v s : List UInt8) (b : Bool) (t : Ty) (x y : Ex) : bdE v (.mk 5 s b t [x, y] []) = (s == v || (bdE v x || bdE v y)) := by
  simp [bdE, bdKs]
theorem bd_cas (v s : List UInt8) (x : Ex) (al : List Al) : bdE v (.mk 6 s false zTy [x] al) = (bdE v x || bdAs v al) := by
  simp [bdE, bdKs]
theorem bd_ann (v s : List UInt8) (t : Ty) (x : Ex) : bdE v (.mk 7 s false t [x] []) = bdE v x := by
  simp [bdE, bdKs, bdAs]
theorem put_lam (n s : List UInt8) (u x : Ex) : putE n u (.mk 3 s false zTy [x] []) = if s == n then .mk 3 s false zTy [x] [] else .mk 3 s false zTy [putE n u x] [] := by
  simp [putE, putK, putA]
theorem put_two (n s : List UInt8) (u x y : Ex) : putE n u (.mk 4 s false zTy [x, y] []) = .mk 4 s false zTy [putE n u x, putE n u y] [] := by
  simp [putE, putK, putA]
theorem put_let (n s : List UInt8) (b : Bool) (t : Ty) (u x y : Ex) : putE n u (.mk 5 s b t [x, y] []) = .mk 5 s b t [putE n u x, if s == n then y else putE n u y] [] := by
  cases h : s == n <;> simp [putE, putK, putA, h]
theorem put_cas (n s : List UInt8) (u x : Ex) (al : List Al) : putE n u (.mk 6 s false zTy [x] al) = .mk 6 s false zTy [putE n u x] (putA n u al) := by
  simp [putE, putK]
theorem put_ann (n s : List UInt8) (t : Ty) (u x : Ex) : putE n u (.mk 7 s false t [x] []) = .mk 7 s false t [putE n u x] [] := by
  simp [putE, putK, putA]
theorem beq_trans3 {a b c : List UInt8} (h : (a == b) = true) : (a == c) = (b == c) := by rw [eq_of_beq h]
theorem beq_symm' (a b : List UInt8) : (a == b) = (b == a) := by rw [Bool.eq_iff_iff]; simp; exact eq_comm
theorem fv_put (u : Ex) (n v : List UInt8) {e : Ex} (he : GX e) : (fvE v u = true → bdE v e = false) → fvE v (putE n u e) = ((fvE v e && !(v == n)) || (fvE v u && fvE n e)) := by
  induction he with
  | nam k s hk hs =>
    intro _
    rw [putE_eq]
    rcases hk with rfl | rfl
    · show fvE v (if (s == n) = true then u else .mk 1 s false zTy [] []) = _
      rw [fv_nam _ _ _ (.inl rfl), fv_nam _ _ _ (.inl rfl)]
      cases h : s == n
      · simp only [Bool.false_eq_true, if_false]
        rw [fv_nam _ _ _ (.inl rfl)]
        cases h2 : s == v
        · simp
        · rw [beq_trans3 h2] at h; rw [h]; rfl
      · simp only [if_true]
        rw [beq_symm' v n, beq_trans3 h]
        cases fvE v u <;> cases (n == v) <;> rfl
    · show fvE v (.mk 2 s false zTy (putK n u false []) (putA n u [])) = _
      simp only [putK, putA]
      rw [fv_nam _ _ _ (.inr rfl), fv_nam _ _ _ (.inr rfl)]
      simp
  | lam s x hs hx ih =>
    intro H
    rw [bd_lam] at H
    have ih := ih fun h => (Bool.or_eq_false_iff.1 (H h)).2
    rw [put_lam, fv_lam, fv_lam]
    cases h : s == n
    · simp only [Bool.false_eq_true, if_false]
      rw [fv_lam, ih]
      cases h2 : s == v
      · cases fvE v x <;> cases fvE v u <;> cases fvE n x <;> cases (v == n) <;> rfl
      · cases h3 : fvE v u
        · simp
        · have := H h3; rw [h2] at this; simp at this
    · simp only [if_true]
      rw [fv_lam, beq_symm' v n, ← beq_trans3 h]
      cases fvE v u <;> cases fvE v x <;> cases (s == v) <;> rfl
  | app x y hx hy ihx ihy =>
    intro H
    rw [bd_two] at H
    rw [put_two, fv_two, fv_two, fv_two, ihx fun h => (Bool.or_eq_false_iff.1 (H h)).1, ihy fun h => (Bool.or_eq_false_iff.1 (H h)).2]
    cases fvE v u <;> cases fvE v x <;> cases fvE v y <;> cases fvE n x <;> cases fvE n y <;> cases (v == n) <;> rfl
  | lett s t x y hs ht hx hy ihx ihy =>
    intro H
    rw [bd_let] at H
    have H2 := fun h => (Bool.or_eq_false_iff.1 (Bool.or_eq_false_iff.1 (H h)).2)
    rw [put_let, fv_let, fv_let, fv_let, ihx fun h => (H2 h).1]
    have ihy := ihy fun h => (H2 h).2
    cases h : s == n
    · simp only [Bool.false_eq_true, if_false]
      rw [ihy]
      cases h3 : fvE v u
      · cases fvE v x <;> cases fvE v y <;> cases fvE n x <;> cases fvE n y <;> cases (v == n) <;> cases (s == v) <;> rfl
      · rw [(Bool.or_eq_false_iff.1 (H h3)).1]
        cases fvE v x <;> cases fvE v y <;> cases fvE n x <;> cases fvE n y <;> cases (v == n) <;> rfl
    · simp only [if_true]
      rw [beq_symm' v n, ← beq_trans3 h]
      cases fvE v u <;> cases fvE v x <;> cases fvE v y <;> cases fvE n x <;> cases fvE n y <;> cases (s == v) <;> rfl
  | letu s x y hs hx hy ihx ihy =>
    intro H
    rw [bd_let] at H
    have H2 := fun h => (Bool.or_eq_false_iff.1 (Bool.or_eq_false_iff.1 (H h)).2)
    rw [put_let, fv_let, fv_let, fv_let, ihx fun h => (H2 h).1]
    have ihy := ihy fun h => (H2 h).2
    cases h : s == n
    · simp only [Bool.false_eq_true, if_false]
      rw [ihy]
      cases h3 : fvE v u
      · cases fvE v x <;> cases fvE v y <;> cases fvE n x <;> cases fvE n y <;> cases (v == n) <;> cases (s == v) <;> rfl
      · rw [(Bool.or_eq_false_iff.1 (H h3)).1]
        cases fvE v x <;> cases fvE v y <;> cases fvE n x <;> cases fvE n y <;> cases (v == n) <;> rfl
    · simp only [if_true]
      rw [beq_symm' v n, ← beq_trans3 h]
      cases fvE v u <;> cases fvE v x <;> cases fvE v y <;> cases fvE n x <;> cases fvE n y <;> cases (s == v) <;> rfl
  | cas x al hx ha hn ihx iha =>
    intro H
    rw [bd_cas] at H
    have key : ∀ (l : List Al), (∀ a, a ∈ l → a ∈ al) → (fvE v u = true → bdAs v l = false) → fvAs v (putA n u l) = ((fvAs v l && !(v == n)) || (fvE v u && fvAs n l)) := by
      intro l
      induction l with
      | nil => intro _ _; simp [putA, fvAs]
      | cons a l ihl =>
        intro hm Hl
        have Hl2 := fun h => (by have := Hl h; simp only [bdAs, bdA_eq] at this; exact this : ((a.vars.contains v || bdE v a.body) || bdAs v l) = false)
        have ia := iha a (hm a (List.mem_cons_self ..)) fun h => (Bool.or_eq_false_iff.1 (Bool.or_eq_false_iff.1 (Hl2 h)).1).2
        have il := ihl (fun b hb => hm b (List.mem_cons_of_mem _ hb)) fun h => (Bool.or_eq_false_iff.1 (Hl2 h)).2
        simp only [putA, fvAs, fvA_eq, putL_eq, almk_vars, almk_body, il]
        cases h : a.vars.contains n
        · simp only [Bool.false_eq_true, if_false]
          rw [ia]
          cases h3 : fvE v u
          · cases a.vars.contains v <;> cases fvE v a.body <;> cases fvE n a.body <;> cases fvAs v l <;> cases fvAs n l <;> cases (v == n) <;> rfl
          · rw [(Bool.or_eq_false_iff.1 (Bool.or_eq_false_iff.1 (Hl2 h3)).1).1]
            cases fvE v a.body <;> cases fvE n a.body <;> cases fvAs v l <;> cases fvAs n l <;> cases (v == n) <;> rfl
        · simp only [if_true]
          cases hv : v == n
          · cases a.vars.contains v <;> cases fvE v a.body <;> cases fvE n a.body <;> cases fvAs v l <;> cases fvAs n l <;> cases fvE v u <;> rfl
          · rw [eq_of_beq hv, h]
            cases fvE n a.body <;> cases fvAs n l <;> cases fvE n u <;> rfl
    rw [put_cas, fv_cas, fv_cas, fv_cas, ihx fun h => (Bool.or_eq_false_iff.1 (H h)).1, key al (fun _ h => h) fun h => (Bool.or_eq_false_iff.1 (H h)).2]
    cases fvE v u <;> cases fvE v x <;> cases fvAs v al <;> cases fvE n x <;> cases fvAs n al <;> cases (v == n) <;> rfl
  | ann x t hx ht ih =>
    intro H
    rw [bd_ann] at H
    rw [put_ann, fv_ann, fv_ann, fv_ann, ih H]
theorem GX.sx {e : Ex} (h : GX e) : SX e := by
  induction h with
  | nam k s hk _ => exact .mk _ (fun _ => ⟨rfl, rfl⟩) (fun h3 => by rcases hk with rfl | rfl <;> simp [Ex.kind] at h3) (fun h3 => by rcases hk with rfl | rfl <;> simp [Ex.kind] at h3) (by simp [Ex.kids]) (by simp [Ex.alts])
  | lam s x _ _ ih => exact .mk _ (by simp [Ex.kind]) (fun _ => ⟨⟨x, rfl⟩, rfl⟩) (by simp [Ex.kind]) (by simp [Ex.kids, ih]) (by simp [Ex.alts])
  | app x y _ _ ih1 ih2 => exact .mk _ (by simp [Ex.kind]) (by simp [Ex.kind]) (by simp [Ex.kind]) (by simp [Ex.kids, ih1, ih2]) (by simp [Ex.alts])
  | lett s t x y _ _ _ _ ih1 ih2 => exact .mk _ (by simp [Ex.kind]) (by simp [Ex.kind]) (fun _ => ⟨⟨x, y, rfl⟩, rfl⟩) (by simp [Ex.kids, ih1, ih2]) (by simp [Ex.alts])
  | letu s x y _ _ _ ih1 ih2 => exact .mk _ (by simp [Ex.kind]) (by simp [Ex.kind]) (fun _ => ⟨⟨x, y, rfl⟩, rfl⟩) (by simp [Ex.kids, ih1, ih2]) (by simp [Ex.alts])
  | cas x al _ _ _ ih1 ih2 => exact .mk _ (by simp [Ex.kind]) (by simp [Ex.kind]) (by simp [Ex.kind]) (by simp [Ex.kids, ih1]) (fun a ha => ih2 a ha)
  | ann x t _ _ ih => exact .mk _ (by simp [Ex.kind]) (by simp [Ex.kind]) (by simp [Ex.kind]) (by simp [Ex.kids, ih]) (by simp [Ex.alts])
/-- the law: who is free afterwards -/
theorem free_put {u x : Ex} (n : List UInt8) (gx : GX x) (H : ∀ w ∈ freeS u, (boundS x).contains w = false) (v : List UInt8) :
    (freeS (putE n u x)).contains v = (((freeS x).contains v && !(v == n)) || ((freeS u).contains v && (freeS x).contains n)) := by
  have h1 : ∀ w e, (freeS e).contains w = fvE w e := fun w e => by unfold freeS; rw [walk_free w _ e (Nat.le_refl _)]; simp
  have h2 : ∀ w, (boundS x).contains w = bdE w x := fun w => by unfold boundS; rw [walk_bound w _ x gx (Nat.le_refl _)]; simp
  rw [h1, h1, h1, h1]
  refine fv_put u n v gx fun h => ?_
  rw [← h2]
  refine H v ?_
  have := h1 v u
  rw [h] at this
  simpa using this
end Go.Proofs
namespace Go.Proofs
open Go.Av
set_option maxHeartbeats 64000000
set_option maxRecDepth 100000
/-! who is free when an expression is put in the place of a name: the law -/
theorem mem_has {l : List (List UInt8)} {i : Nat} {v : List UInt8} (h : l[i]? = some v) : l.contains v = true := by
  have := List.mem_of_getElem? h
  simpa using this
theorem take_has {l : List (List UInt8)} {i : Nat} {v : List UInt8} (h : l[i]? = some v) {p : List UInt8 → Prop} (h1 : ∀ w ∈ l.take i, p w) (h2 : p v) : ∀ w ∈ l.take (i + 1), p w := by
  rw [take_snoc h]
  intro w hw
  rcases List.mem_append.1 hw with h | h
  · exact h1 w h
  · rw [List.mem_singleton] at h; rw [h]; exact h2
theorem free_law_den (s r name : List UInt8) : den E 3 [.str s, .str r, .str name] [] = some (.bool true, []) := by
  rw [den_eq prim_3, body_3]
  have ha := awake44_den
  obtain ⟨p, hp⟩ := pexO_tot s
  obtain ⟨q, hq⟩ := pexO_tot r
  have a1 := (pex_two hp).1
  have b1 := (pex_two hq).1
  unfold pexV at a1 b1
  obtain ⟨x, ex⟩ := p
  obtain ⟨y, ey⟩ := q
  simp only at a1 b1
  cases h0 : (ex != 0)
  rotate_left
  · simp only [exC_eq] at a1 b1
    simp only [go_sem, ↓reduceIte, Nat.reduceEqDiff, Nat.reduceAdd, Nat.reduceLeDiff, Nat.reduceLT, reduceCtorEq, Tryz.f3, ha, a1, b1, h0]
  cases h1 : (ey != 0)
  rotate_left
  · simp only [exC_eq] at a1 b1
    simp only [go_sem, ↓reduceIte, Nat.reduceEqDiff, Nat.reduceAdd, Nat.reduceLeDiff, Nat.reduceLT, reduceCtorEq, Tryz.f3, ha, a1, b1, h0, h1]
  cases h2 : decide ((s.length : Int) > 400)
  rotate_left
  · simp only [exC_eq] at a1 b1
    simp only [go_sem, ↓reduceIte, Nat.reduceEqDiff, Nat.reduceAdd, Nat.reduceLeDiff, Nat.reduceLT, reduceCtorEq, Tryz.f3, ha, a1, b1, h0, h1, h2]
  cases h3 : decide ((r.length : Int) > 400)
  rotate_left
  · simp only [exC_eq] at a1 b1
    simp only [go_sem, ↓reduceIte, Nat.reduceEqDiff, Nat.reduceAdd, Nat.reduceLeDiff, Nat.reduceLT, reduceCtorEq, Tryz.f3, ha, a1, b1, h0, h1, h2, h3]
  have z0 : ex = 0 := by rw [bne_not] at h0; simpa using h0
  have z1 : ey = 0 := by rw [bne_not] at h1; simpa using h1
  have z2 : s.length ≤ 400 := by have := of_decide_eq_false h2; omega
  have z3 : r.length ≤ 400 := by have := of_decide_eq_false h3; omega
  obtain ⟨gx, tx⟩ := pex_short hp z0
  obtain ⟨gy, ty⟩ := pex_short hq z1
  simp only at gx tx gy ty
  have tp := putE_tot name y _ x (Nat.le_refl _)
  have tm : x.tot * y.tot ≤ 800 * 800 := Nat.mul_le_mul (by omega) (by omega)
  have d1 := eput_den _ x y name (Nat.le_refl _) (by omega)
  have gp := gy.put name gx
  have f1 := free_den x gx.sx (by omega)
  have f2 := free_den y gy.sx (by omega)
  have f3 := bound_den x gx.sx (by omega)
  have f4 := free_den _ gp.sx (show (putE name y x).tot < 1000000 by omega)
  have k1 := free_le x
  have k2 := free_le y
  have k3 := bound_le x
  have k4 := free_le (putE name y x)
  have law := fun H v => free_put (u := y) name gx H v
  generalize putE name y x = z at *
  generalize freeS x = fr at *
  generalize freeS y = mo at *
  generalize boundS x = bo at *
  generalize freeS z = nw at *
  simp only [exC_eq] at a1 b1 d1 f1 f2 f3 f4
  simp only [go_sem, ↓reduceIte, Nat.reduceEqDiff, Nat.reduceAdd, Nat.reduceLeDiff, Nat.reduceLT, reduceCtorEq, Tryz.f3, ha, a1, b1, h0, h1, h2, h3, f1, f2, f3]
  refine run_ind (fun i : Nat => i ≤ mo.length ∧ ∀ w ∈ mo.take i, bo.contains w = false)
    (fun i => ⟨[(2, .str name), (7, .bool true), (8, .ptr (.loc 8) 0), (10, .ptr (.loc 10) 0), (12, .slice (fr.map .str)), (13, .slice (mo.map .str)), (14, .slice (bo.map .str)), (15, .int .i64 i)], [], [(8, exC x), (10, exC y)], 1⟩)
    (fun _ => some (.bool true, [])) (fun i => mo.length - i) 0 ⟨Nat.zero_le _, by simp⟩ ?_ ?_
  · simp only [go_sem, ↓reduceIte, Nat.reduceEqDiff, reduceCtorEq, Int.cast_ofNat_Int, exC_eq]
  · rintro i ⟨hi, hc⟩ h
    by_cases hlt : i < mo.length
    · obtain ⟨v, hv⟩ := getS hlt
      have w1 : IntKind.i64.wrap ((i : Int) + 1) = ((i + 1 : Nat) : Int) := wrapN (i + 1) (by omega)
      have hb := has_den bo v (by omega)
      cases hbv : bo.contains v
      · rw [hbv] at hb
        simp only [go_sem, ↓reduceIte, Nat.reduceEqDiff, Nat.reduceAdd, natlt, List.length_map, decide_eq_true hlt, natge0, tonat, strsGet, hv, hb, exC_eq]
        refine h (i + 1) _ ⟨by omega, take_has hv hc hbv⟩ (by omega) ?_
        simp only [go_sem, ↓reduceIte, Nat.reduceEqDiff, w1, exC_eq]
      · rw [hbv] at hb
        simp only [go_sem, ↓reduceIte, Nat.reduceEqDiff, Nat.reduceAdd, natlt, List.length_map, decide_eq_true hlt, natge0, tonat, strsGet, hv, hb, exC_eq]
    · have hie : i = mo.length := by omega
      subst hie
      rw [List.take_length] at hc
      have law := law hc
      have hw := has_den fr name (by omega)
      generalize hwas : fr.contains name = was at hw law
      clear h
      simp only [go_sem, ↓reduceIte, Nat.reduceEqDiff, Nat.reduceAdd, Nat.reduceLeDiff, Nat.reduceLT, natlt, List.length_map, Nat.lt_irrefl, exC_eq, hw, d1, f4]
      refine run_ind (fun i : Nat => i ≤ nw.length)
        (fun i => ⟨[(2, .str name), (7, .bool true), (12, .slice (fr.map .str)), (13, .slice (mo.map .str)), (17, .bool was), (18, .slice (nw.map .str)), (19, .int .i64 i)], [], [], 1⟩)
        (fun _ => some (.bool true, [])) (fun i => nw.length - i) 0 (Nat.zero_le _) ?_ ?_
      · simp only [go_sem, ↓reduceIte, Nat.reduceEqDiff, Int.cast_ofNat_Int]
      · intro i hi h
        by_cases hlt : i < nw.length
        · obtain ⟨v, hv⟩ := getS hlt
          have w1 : IntKind.i64.wrap ((i : Int) + 1) = ((i + 1 : Nat) : Int) := wrapN (i + 1) (by omega)
          have e1 := has_den fr v (by omega)
          have e2 := has_den mo v (by omega)
          have lv := law v
          rw [mem_has hv] at lv
          generalize fr.contains v = a at e1 lv
          generalize mo.contains v = b at e2 lv
          generalize hqv : (v == name) = q at lv
          have go : ∀ t, headF E 3 t _ = _ → _ := fun t => h (i + 1) t (by omega) (by omega)
          cases a <;> cases q <;> cases b <;> cases was <;> first
            | exact absurd lv (by decide)
            | (simp only [go_sem, ↓reduceIte, Nat.reduceEqDiff, Nat.reduceAdd, natlt, List.length_map, decide_eq_true hlt, natge0, tonat, strsGet, hv, e1, e2, hqv]
               refine go _ ?_
               simp only [go_sem, ↓reduceIte, Nat.reduceEqDiff, w1])
        · have hie : i = nw.length := by omega
          subst hie
          clear h
          simp only [go_sem, ↓reduceIte, Nat.reduceEqDiff, Nat.reduceAdd, natlt, List.length_map, Nat.lt_irrefl]
          refine run_ind (fun i : Nat => i ≤ fr.length)
            (fun i => ⟨[(2, .str name), (7, .bool true), (12, .slice (fr.map .str)), (13, .slice (mo.map .str)), (17, .bool was), (18, .slice (nw.map .str)), (22, .int .i64 i)], [], [], 1⟩)
            (fun _ => some (.bool true, [])) (fun i => fr.length - i) 0 (Nat.zero_le _) ?_ ?_
          · simp only [go_sem, ↓reduceIte, Nat.reduceEqDiff, Int.cast_ofNat_Int]
          · intro i hi h
            by_cases hlt : i < fr.length
            · obtain ⟨v, hv⟩ := getS hlt
              have w1 : IntKind.i64.wrap ((i : Int) + 1) = ((i + 1 : Nat) : Int) := wrapN (i + 1) (by omega)
              have e1 := has_den nw v (by omega)
              have lv := law v
              rw [mem_has hv] at lv
              cases hqv : v == name
              · rw [hqv] at lv
                simp only [Bool.not_false, Bool.and_true, Bool.true_or] at lv
                rw [lv] at e1
                have hqn : (v != name) = true := by simp only [bne, hqv, Bool.not_false]
                simp only [go_sem, ↓reduceIte, Nat.reduceEqDiff, Nat.reduceAdd, natlt, List.length_map, decide_eq_true hlt, natge0, tonat, strsGet, hv, e1, hqv]
                refine h (i + 1) _ (by omega) (by omega) ?_
                simp only [go_sem, ↓reduceIte, Nat.reduceEqDiff, w1]
              · have hqn : (v != name) = false := by simp only [bne, hqv, Bool.not_true]
                simp only [go_sem, ↓reduceIte, Nat.reduceEqDiff, Nat.reduceAdd, natlt, List.length_map, decide_eq_true hlt, natge0, tonat, strsGet, hv, e1, hqv]
                refine h (i + 1) _ (by omega) (by omega) ?_
                simp only [go_sem, ↓reduceIte, Nat.reduceEqDiff, w1]
            · have hie : i = fr.length := by omega
              subst hie
              clear h
              simp only [go_sem, ↓reduceIte, Nat.reduceEqDiff, Nat.reduceAdd, natlt, List.length_map, Nat.lt_irrefl]
              refine run_ind (fun i : Nat => i ≤ mo.length)
                (fun i => ⟨[(7, .bool true), (13, .slice (mo.map .str)), (17, .bool was), (18, .slice (nw.map .str)), (24, .int .i64 i)], [], [], 1⟩)
                (fun _ => some (.bool true, [])) (fun i => mo.length - i) 0 (Nat.zero_le _) ?_ ?_
              · simp only [go_sem, ↓reduceIte, Nat.reduceEqDiff, Int.cast_ofNat_Int]
              · intro i hi h
                by_cases hlt : i < mo.length
                · obtain ⟨v, hv⟩ := getS hlt
                  have w1 : IntKind.i64.wrap ((i : Int) + 1) = ((i + 1 : Nat) : Int) := wrapN (i + 1) (by omega)
                  have e1 := has_den nw v (by omega)
                  have lv := law v
                  rw [mem_has hv] at lv
                  cases hws : was
                  · simp only [go_sem, ↓reduceIte, Nat.reduceEqDiff, Nat.reduceAdd, natlt, List.length_map, decide_eq_true hlt, natge0, tonat, strsGet, hv, e1]
                    refine h (i + 1) _ (by omega) (by omega) ?_
                    simp only [go_sem, ↓reduceIte, Nat.reduceEqDiff, w1, hws]
                  · rw [hws] at lv
                    simp only [Bool.and_self, Bool.or_true] at lv
                    rw [lv] at e1
                    simp only [go_sem, ↓reduceIte, Nat.reduceEqDiff, Nat.reduceAdd, natlt, List.length_map, decide_eq_true hlt, natge0, tonat, strsGet, hv, e1]
                    refine h (i + 1) _ (by omega) (by omega) ?_
                    simp only [go_sem, ↓reduceIte, Nat.reduceEqDiff, w1, hws]
                · have hie : i = mo.length := by omega
                  subst hie
                  simp only [go_sem, ↓reduceIte, Nat.reduceEqDiff, Nat.reduceAdd, natlt, List.length_map, Nat.lt_irrefl]
end Go.Proofs
