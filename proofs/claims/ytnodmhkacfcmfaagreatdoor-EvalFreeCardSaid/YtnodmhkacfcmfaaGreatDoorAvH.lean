/- What the readers of expressions and declarations give, and sizes and depths. -/
import Derived.Test.YtnodmhkacfcmfaaGreatDoorAvG
namespace Go.Proofs
open Go.Av
set_option maxHeartbeats 8000000
set_option maxRecDepth 100000
/-- the program's reader: its tokens; was something wrong? -/
structure Rd where
  l : List Tok
  bad : Bool
def rdV (r : Rd) : List AVal := [.slice (toksV r.l), .bool r.bad]
def seesR (r : Rd) (k : Int) (s : List UInt8) : Bool := !r.bad && seesT r.l k s
def takeR (r : Rd) (k : Int) (s : List UInt8) : Rd := if seesR r k s then ⟨r.l.tail, false⟩ else ⟨r.l, true⟩
def wordR (r : Rd) (k : Int) (s : List UInt8) : List UInt8 := if seesR r k s then textT r.l else []
def takesR (r : Rd) (k : Int) (s : List UInt8) : Rd := if seesR r k s then ⟨r.l.tail, false⟩ else r
theorem seesR_cons {r : Rd} {k : Int} {s : List UInt8} (h : seesR r k s = true) : r.bad = false ∧ ∃ t q, r.l = t :: q := by
  unfold seesR at h
  simp only [Bool.and_eq_true, Bool.not_eq_true'] at h
  exact ⟨h.1, seesT_cons h.2⟩
theorem rsees_den (r : Rd) (kind : Int) (text : List UInt8) : den E 37 [.ptr (.par 0) 0, .int .i64 kind, .str text] [rdV r] = some (.bool (seesR r kind text), [rdV r]) := by
  rw [den_eq prim_37, body_37]
  obtain ⟨l, bad⟩ := r
  unfold seesR rdV
  simp only
  cases bad
  · cases l with
    | nil => simp only [go_sem, ↓reduceIte, Nat.reduceEqDiff, Nat.reduceAdd, Nat.reduceLT, reduceCtorEq, Int.cast_ofNat_Int, Tryz.f37, toksV_nil, seesT, show decide ((0 : Int) > 0) = false from rfl]
    | cons t r =>
      have hl : decide ((((toksV r).length + 1 : Nat) : Int) > 0) = true := by simp
      cases h1 : t.kind == kind
      · simp only [go_sem, ↓reduceIte, Nat.reduceEqDiff, Nat.reduceAdd, Nat.reduceLT, reduceCtorEq, Tryz.f37, toksV_cons, hl, seesT, h1, Int.le_refl, Int.toNat_zero, List.length_cons]
      · cases h2 : text == []
        · cases h3 : t.text == text <;> simp only [go_sem, ↓reduceIte, Nat.reduceEqDiff, Nat.reduceAdd, Nat.reduceLT, reduceCtorEq, Tryz.f37, toksV_cons, hl, seesT, h1, h2, h3, Int.le_refl, Int.toNat_zero, List.length_cons]
        · simp only [go_sem, ↓reduceIte, Nat.reduceEqDiff, Nat.reduceAdd, Nat.reduceLT, reduceCtorEq, Tryz.f37, toksV_cons, hl, seesT, h1, h2, Int.le_refl, Int.toNat_zero, List.length_cons]
  · simp only [go_sem, ↓reduceIte, Nat.reduceEqDiff, Nat.reduceAdd, Nat.reduceLT, reduceCtorEq, Tryz.f37]
theorem rtake_den (r : Rd) (kind : Int) (text : List UInt8) : den E 32 [.ptr (.par 0) 0, .int .i64 kind, .str text] [rdV r] = some (.str (wordR r kind text), [rdV (takeR r kind text)]) := by
  rw [den_eq prim_32, body_32]
  have hs := rsees_den r kind text
  unfold wordR takeR
  cases h : seesR r kind text
  · rw [h] at hs
    unfold rdV at hs ⊢
    simp only [go_sem, ↓reduceIte, Nat.reduceEqDiff, Nat.reduceAdd, Nat.reduceLeDiff, Nat.reduceLT, reduceCtorEq, Tryz.f32, hs]
  · obtain ⟨hb, t, q, hl⟩ := seesR_cons h
    rw [h] at hs
    unfold rdV at hs ⊢
    rw [hl, toksV_cons, hb] at hs
    rw [hl, hb]
    simp only [go_sem, ↓reduceIte, Nat.reduceEqDiff, Nat.reduceAdd, Nat.reduceLeDiff, Nat.reduceLT, reduceCtorEq, Tryz.f32, hs, toksV_cons, textT, Int.le_refl, Int.toNat_zero, List.tail_cons, List.length_cons, Nat.le_refl, Int.toNat_one, Nat.le_add_left, Int.zero_le_ofNat, List.take_length]
theorem rtakes_den (r : Rd) (kind : Int) (text : List UInt8) : den E 31 [.ptr (.par 0) 0, .int .i64 kind, .str text] [rdV r] = some (.bool (seesR r kind text), [rdV (takesR r kind text)]) := by
  rw [den_eq prim_31, body_31]
  have hs := rsees_den r kind text
  unfold takesR
  cases h : seesR r kind text
  · rw [h] at hs
    unfold rdV at hs ⊢
    simp only [go_sem, ↓reduceIte, Nat.reduceEqDiff, Nat.reduceAdd, reduceCtorEq, Tryz.f31, hs]
  · obtain ⟨hb, t, q, hl⟩ := seesR_cons h
    rw [h] at hs
    unfold rdV at hs ⊢
    rw [hl, toksV_cons, hb] at hs
    rw [hl, hb]
    simp only [go_sem, ↓reduceIte, Nat.reduceEqDiff, Nat.reduceAdd, Nat.reduceLeDiff, Nat.reduceLT, reduceCtorEq, Tryz.f31, hs, toksV_cons, List.tail_cons, List.length_cons, Nat.le_refl, Int.toNat_one, Nat.le_add_left, Int.zero_le_ofNat, List.take_length]
/-- a type -/
def typR (f : Nat) (r : Rd) : Option (Ty × Rd) :=
  if r.bad then some (zTy, r) else match tyR f .typ r.l with
    | none => none
    | some (t, ok, l') => if ok then some (t, ⟨l', false⟩) else some (zTy, ⟨[], true⟩)
theorem rtyp_den (f : Nat) (r : Rd) (x : Ty × Rd) (hok : ∀ t ∈ r.l, tokOK t) (hlen : r.l.length < 1000000) (h : typR f r = some x) : den E 58 [.ptr (.par 0) 0] [rdV r] = some (tyV x.1, [rdV x.2]) := by
  rw [den_eq prim_58, body_58]
  unfold typR at h
  unfold rdV
  cases hb : r.bad
  · rw [hb] at h
    simp only [Bool.false_eq_true, if_false] at h
    split at h
    · cases h
    · rename_i t ok l' ht
      have hd := tread_den r.l f _ hok hlen ht
      cases ok
      · simp only [Bool.false_eq_true, if_false] at h hd
        injection h with h; subst h
        rw [zTyV] at hd
        simp only [go_sem, ↓reduceIte, Nat.reduceEqDiff, Nat.reduceAdd, Nat.reduceLeDiff, Nat.reduceLT, reduceCtorEq, Tryz.f58, hd, zTyV, toksV_nil]
      · simp only [if_true] at h hd
        injection h with h; subst h
        rw [tyV_eq] at hd
        simp only [go_sem, ↓reduceIte, Nat.reduceEqDiff, Nat.reduceAdd, Nat.reduceLeDiff, Nat.reduceLT, reduceCtorEq, Tryz.f58, hd, tyV_eq]
  · rw [hb] at h
    simp only [if_true] at h
    injection h with h; subst h
    simp only [go_sem, ↓reduceIte, Nat.reduceEqDiff, Nat.reduceAdd, Nat.reduceLeDiff, Nat.reduceLT, reduceCtorEq, Tryz.f58, hb, zTyV]
/-- variables -/
def namesR (r : Rd) : List (List UInt8) := if r.bad then [] else namesT r.l
def behindR (r : Rd) : Rd := ⟨r.l.drop (namesR r).length, r.bad⟩
theorem rnames_den (r : Rd) (hlen : r.l.length < 1000000) : den E 59 [.ptr (.par 0) 0] [rdV r] = some (.slice ((namesR r).map .str), [rdV (behindR r)]) := by
  rw [den_eq prim_59, body_59]
  simp only [go_sem, ↓reduceIte, Nat.reduceEqDiff, Nat.reduceAdd, reduceCtorEq, Tryz.f59]
  refine (run_ind (fun x : List (List UInt8) × List Tok => x.2 = r.l.drop x.1.length ∧ namesR r = x.1 ++ namesR ⟨x.2, r.bad⟩ ∧ x.1.length + x.2.length ≤ r.l.length) (fun x => ⟨[(0, .ptr (.par 0) 0), (3, .own 9 0 (x.1.map .str))], [rdV ⟨x.2, r.bad⟩], [], 1⟩)
    (fun _ => some (.slice ((namesR r).map .str), [rdV (behindR r)])) (fun x => x.2.length) ([], r.l) ⟨by simp, by simp, by simp⟩ ?_ ?_)
  · simp only [go_sem, ↓reduceIte, Nat.reduceEqDiff, reduceCtorEq, List.map_nil, rdV]
  · rintro ⟨names, lx⟩ ⟨hdrop, hnames, hle⟩ hrun
    simp only at hdrop hnames hle hrun ⊢
    have t1 := rsees_den ⟨lx, r.bad⟩ 1 []
    have t2 := rtake_den ⟨lx, r.bad⟩ 1 []
    cases b1 : seesR ⟨lx, r.bad⟩ 1 []
    · have hnx : namesR ⟨lx, r.bad⟩ = [] := by
        unfold seesR at b1
        unfold namesR
        cases hb : r.bad
        · simp only [hb, Bool.not_false, Bool.true_and] at b1
          simp only [Bool.false_eq_true, if_false]
          cases lx with
          | nil => rfl
          | cons t q => simp only [seesT] at b1; simp only [namesT]; rw [show (t.kind == 1) = false by simpa using b1]; rfl
        · rfl
      rw [hnx, List.append_nil] at hnames
      rw [b1] at t1
      have hbe : behindR r = ⟨lx, r.bad⟩ := by unfold behindR; rw [hnames, ← hdrop]
      rw [hbe, hnames]
      simp only [rdV] at t1 ⊢
      simp only [go_sem, ↓reduceIte, Nat.reduceEqDiff, Nat.reduceAdd, reduceCtorEq, t1]
    · obtain ⟨hb, tk, q, hl⟩ := seesR_cons b1
      simp only at hb hl
      subst hl
      have hk : (tk.kind == 1) = true := by unfold seesR at b1; simpa [seesT, hb] using b1
      have hnx : namesR ⟨tk :: q, r.bad⟩ = tk.text :: namesR ⟨q, r.bad⟩ := by simp only [namesR, hb, Bool.false_eq_true, if_false, namesT, hk, if_true]
      rw [b1] at t1
      simp only [wordR, takeR, b1, if_true, textT, List.tail_cons] at t2
      have hap : (names.map AVal.str).length + 1 ≤ appMax := by
        rw [List.length_map]; simp only [List.length_cons] at hle; unfold appMax; omega
      have hmap : names.map AVal.str ++ [.str tk.text] = (names ++ [tk.text]).map AVal.str := by simp
      simp only [rdV, hb] at t1 t2 hrun ⊢
      simp only [go_sem, ↓reduceIte, Nat.reduceEqDiff, Nat.reduceAdd, Nat.reduceMul, Nat.reduceLeDiff, Nat.reduceLT, reduceCtorEq, t1, t2, hap, hmap]
      refine hrun (names ++ [tk.text], q) _ ⟨?_, ?_, ?_⟩ ?_ ?_
      · simp only [List.length_append, List.length_singleton]
        rw [← List.drop_drop, ← hdrop]; rfl
      · rw [hnames, hnx, hb]; simp
      · simp only [List.length_append, List.length_singleton]; simp only [List.length_cons] at hle; omega
      · simp
      · simp only [go_sem, ↓reduceIte, reduceCtorEq]
end Go.Proofs
namespace Go.Proofs
open Go.Av
set_option maxHeartbeats 16000000
set_option maxRecDepth 100000
mutual
inductive Ex where
  | mk (kind : Int) (name : List UInt8) (told : Bool) (ty : Ty) (kids : List Ex) (alts : List Al)
inductive Al where
  | mk (con : List UInt8) (vars : List (List UInt8)) (body : Ex)
end
def Ex.kind : Ex → Int | .mk k _ _ _ _ _ => k
def Ex.name : Ex → List UInt8 | .mk _ s _ _ _ _ => s
def Ex.told : Ex → Bool | .mk _ _ b _ _ _ => b
def Ex.ty : Ex → Ty | .mk _ _ _ t _ _ => t
def Ex.kids : Ex → List Ex | .mk _ _ _ _ l _ => l
def Ex.alts : Ex → List Al | .mk _ _ _ _ _ l => l
def Al.con : Al → List UInt8 | .mk c _ _ => c
def Al.vars : Al → List (List UInt8) | .mk _ v _ => v
def Al.body : Al → Ex | .mk _ _ e => e
mutual
def exC : Ex → List AVal
  | .mk k s b t ks al => [.int .i64 k, .str s, .bool b, .int .i64 t.kind, .str t.name, .int .i64 t.n, .slice (tysV t.args), .slice (exsV ks), .slice (alsV al)]
def exsV : List Ex → List AVal
  | [] => []
  | e :: r => .agg (exC e) :: exsV r
def alV : Al → AVal
  | .mk c vs e => .agg (.str c :: .slice (vs.map .str) :: exC e)
def alsV : List Al → List AVal
  | [] => []
  | a :: r => alV a :: alsV r
end
theorem exC_eq (e : Ex) : exC e = [.int .i64 e.kind, .str e.name, .bool e.told, .int .i64 e.ty.kind, .str e.ty.name, .int .i64 e.ty.n, .slice (tysV e.ty.args), .slice (exsV e.kids), .slice (alsV e.alts)] := by
  cases e; simp [exC, Ex.kind, Ex.name, Ex.told, Ex.ty, Ex.kids, Ex.alts]
theorem exsV_nil : exsV [] = [] := by simp [exsV]
theorem exsV_cons (e : Ex) (r : List Ex) : exsV (e :: r) = .agg (exC e) :: exsV r := by simp [exsV]
theorem exsV_map (l : List Ex) : exsV l = l.map fun e => .agg (exC e) := by induction l <;> simp_all [exsV]
theorem alsV_nil : alsV [] = [] := by simp [alsV]
theorem alsV_cons (e : Al) (r : List Al) : alsV (e :: r) = alV e :: alsV r := by simp [alsV]
theorem alsV_map (l : List Al) : alsV l = l.map alV := by induction l <;> simp_all [alsV]
theorem alV_eq (a : Al) : alV a = .agg (.str a.con :: .slice (a.vars.map .str) :: exC a.body) := by cases a; simp [alV, Al.con, Al.vars, Al.body]
def zEx : Ex := .mk 0 [] false zTy [] []

inductive XM where
  | expr
  | lets
  | atom
  | loop (e : Ex)
  | alts (acc : List Al)
def exR : Nat → XM → Rd → Option (Ex × Rd)
  | 0, _, _ => none
  | f + 1, m, r => match m with
    | .expr => if r.bad then some (zEx, r)
      else if seesR r 6 [92] then (match exR f .expr (takeR (takeR (takesR r 6 [92]) 1 []) 6 [45, 62]) with
        | none => none
        | some (x, r4) => some (.mk 3 (wordR (takesR r 6 [92]) 1 []) false zTy [x] [], r4))
      else if seesR r 3 [108, 101, 116] then exR f .lets (takesR r 3 [108, 101, 116])
      else if seesR r 3 [99, 97, 115, 101] then (match exR f .expr (takesR r 3 [99, 97, 115, 101]) with
        | none => none
        | some (x, r1) => if seesR (takeR (takeR r1 3 [111, 102]) 6 [123]) 6 [125] then some (.mk 6 [] false zTy [x] [], takesR (takeR (takeR r1 3 [111, 102]) 6 [123]) 6 [125])
          else match exR f (.alts []) (takeR (takeR r1 3 [111, 102]) 6 [123]) with
            | none => none
            | some (y, r4) => some (.mk 6 [] false zTy [x] y.alts, takeR r4 6 [125]))
      else match exR f .atom r with
        | none => none
        | some (e, r1) => exR f (.loop e) r1
    | .loop e => if seesR r 1 [] || (seesR r 2 [] || seesR r 6 [40]) then (match exR f .atom r with
        | none => none
        | some (x, r1) => exR f (.loop (.mk 4 [] false zTy [e, x] [])) r1) else some (e, r)
    | .lets => if seesR (takeR r 1 []) 6 [58] then (match typR f (takesR (takeR r 1 []) 6 [58]) with
        | none => none
        | some (t, r2) => match exR f .expr (takeR r2 6 [61]) with
          | none => none
          | some (x, r3) => match exR f .expr (takeR r3 3 [105, 110]) with
            | none => none
            | some (y, r4) => some (.mk 5 (wordR r 1 []) true t [x, y] [], r4))
      else (match exR f .expr (takeR (takeR r 1 []) 6 [61]) with
          | none => none
          | some (x, r3) => match exR f .expr (takeR r3 3 [105, 110]) with
            | none => none
            | some (y, r4) => some (.mk 5 (wordR r 1 []) false zTy [x, y] [], r4))
    | .atom => if seesR r 1 [] then some (.mk 1 (wordR r 1 []) false zTy [] [], takeR r 1 [])
      else if seesR r 2 [] then some (.mk 2 (wordR r 2 []) false zTy [] [], takeR r 2 [])
      else (match exR f .expr (takeR r 6 [40]) with
        | none => none
        | some (e, r1) => if seesR r1 6 [58] then (match typR f (takesR r1 6 [58]) with
            | none => none
            | some (t, r2) => some (.mk 7 [] false t [e] [], takeR r2 6 [41])) else some (e, takeR r1 6 [41]))
    | .alts acc => match exR f .expr (takeR (behindR (takeR r 2 [])) 6 [45, 62]) with
      | none => none
      | some (b, r4) => if seesR r4 6 [59] then exR f (.alts (acc ++ [.mk (wordR r 2 []) (namesR (takeR r 2 [])) b])) (takesR r4 6 [59])
        else some (.mk 0 [] false zTy [] (acc ++ [.mk (wordR r 2 []) (namesR (takeR r 2 [])) b]), r4)

/-! what is left of the tokens -/
theorem takeR_suf (r : Rd) (k : Int) (s : List UInt8) : (takeR r k s).l <:+ r.l := by
  unfold takeR; split
  · exact tail_suf _
  · exact List.suffix_refl _
theorem takesR_suf (r : Rd) (k : Int) (s : List UInt8) : (takesR r k s).l <:+ r.l := by
  unfold takesR; split
  · exact tail_suf _
  · exact List.suffix_refl _
theorem behindR_suf (r : Rd) : (behindR r).l <:+ r.l := List.drop_suffix _ _
theorem typR_suf {f : Nat} {r : Rd} {t : Ty} {r' : Rd} (h : typR f r = some (t, r')) : r'.l <:+ r.l := by
  unfold typR at h
  split at h
  · injection h with h; injection h with _ h; subst h; exact List.suffix_refl _
  · split at h
    · cases h
    · rename_i t2 ok l2 h2
      split at h
      · injection h with h; injection h with _ h; subst h; exact tyR_suf _ _ _ _ _ _ h2
      · injection h with h; injection h with _ h; subst h; exact List.nil_suffix
theorem exR_suf : ∀ (f : Nat) (m : XM) (r : Rd) (x : Ex) (r' : Rd), exR f m r = some (x, r') → r'.l <:+ r.l := by
  intro f
  induction f with
  | zero => intro m r x r' h; cases h
  | succ f ih =>
    intro m r x r' h
    have fin : ∀ {a b : Ex} {p q : Rd}, some (a, p) = some (b, q) → p.l <:+ r.l → q.l <:+ r.l := fun h1 h2 => by
      injection h1 with h1; injection h1 with _ h1; subst h1; exact h2
    cases m with
    | expr =>
      simp only [exR] at h
      split at h
      · exact fin h (List.suffix_refl _)
      · split at h
        · split at h
          · cases h
          · rename_i x1 r1 h1
            exact fin h ((ih _ _ _ _ h1).trans ((takeR_suf _ _ _).trans ((takeR_suf _ _ _).trans (takesR_suf _ _ _))))
        · split at h
          · exact (ih _ _ _ _ h).trans (takesR_suf _ _ _)
          · split at h
            · split at h
              · cases h
              · rename_i x1 r1 h1
                have s1 := (ih _ _ _ _ h1).trans (takesR_suf _ _ _)
                have s2 := (takeR_suf (takeR r1 3 [111, 102]) 6 [123]).trans ((takeR_suf r1 3 [111, 102]).trans s1)
                split at h
                · exact fin h ((takesR_suf _ _ _).trans s2)
                · split at h
                  · cases h
                  · rename_i y r4 h4
                    exact fin h ((takeR_suf _ _ _).trans ((ih _ _ _ _ h4).trans s2))
            · split at h
              · cases h
              · rename_i e r1 h1
                exact (ih _ _ _ _ h).trans (ih _ _ _ _ h1)
    | loop e =>
      simp only [exR] at h
      split at h
      · split at h
        · cases h
        · rename_i e1 r1 h1
          exact (ih _ _ _ _ h).trans (ih _ _ _ _ h1)
      · exact fin h (List.suffix_refl _)
    | lets =>
      simp only [exR] at h
      split at h
      · split at h
        · cases h
        · rename_i t r2 h2
          have s2 := (typR_suf h2).trans ((takesR_suf _ _ _).trans (takeR_suf _ _ _))
          split at h
          · cases h
          · rename_i x r3 h3
            have s3 := (ih _ _ _ _ h3).trans ((takeR_suf _ _ _).trans s2)
            split at h
            · cases h
            · rename_i y r4 h4
              exact fin h ((ih _ _ _ _ h4).trans ((takeR_suf _ _ _).trans s3))
      · split at h
        · cases h
        · rename_i x r3 h3
          have s3 := (ih _ _ _ _ h3).trans ((takeR_suf _ _ _).trans (takeR_suf _ _ _))
          split at h
          · cases h
          · rename_i y r4 h4
            exact fin h ((ih _ _ _ _ h4).trans ((takeR_suf _ _ _).trans s3))
    | atom =>
      simp only [exR] at h
      split at h
      · exact fin h (takeR_suf _ _ _)
      · split at h
        · exact fin h (takeR_suf _ _ _)
        · split at h
          · cases h
          · rename_i e r1 h1
            have s1 := (ih _ _ _ _ h1).trans (takeR_suf _ _ _)
            split at h
            · split at h
              · cases h
              · rename_i t r2 h2
                exact fin h ((takeR_suf _ _ _).trans ((typR_suf h2).trans ((takesR_suf _ _ _).trans s1)))
            · exact fin h ((takeR_suf _ _ _).trans s1)
    | alts acc =>
      simp only [exR] at h
      split at h
      · cases h
      · rename_i b r4 h4
        have s4 := (ih _ _ _ _ h4).trans ((takeR_suf _ _ _).trans ((behindR_suf _).trans (takeR_suf _ _ _)))
        split at h
        · exact (ih _ _ _ _ h).trans ((takesR_suf _ _ _).trans s4)
        · exact fin h s4
end Go.Proofs
namespace Go.Proofs
open Go.Av
set_option maxHeartbeats 16000000
set_option maxRecDepth 100000
def XDen : XM → Rd → Ex × Rd → Prop
  | .expr, r, x => den E 12 [.ptr (.par 0) 0] [rdV r] = some (.agg (exC x.1), [rdV x.2])
  | .lets, r, x => den E 33 [.ptr (.par 0) 0] [rdV r] = some (.agg (exC x.1), [rdV x.2])
  | .atom, r, x => den E 36 [.ptr (.par 0) 0] [rdV r] = some (.agg (exC x.1), [rdV x.2])
  | _, _, _ => True
theorem zExC : exC zEx = [.int .i64 0, .str [], .bool false, .int .i64 0, .str [], .int .i64 0, .slice [], .slice [], .slice []] := by
  simp [zEx, exC, zTy, Ty.kind, Ty.name, Ty.n, Ty.args, tysV, exsV, alsV]
theorem exC_mk (k : Int) (s : List UInt8) (b : Bool) (t : Ty) (ks : List Ex) (al : List Al) : exC (.mk k s b t ks al) = [.int .i64 k, .str s, .bool b, .int .i64 t.kind, .str t.name, .int .i64 t.n, .slice (tysV t.args), .slice (exsV ks), .slice (alsV al)] := by simp [exC]
theorem zTy_k : zTy.kind = 0 := rfl
theorem zTy_s : zTy.name = [] := rfl
theorem zTy_n : zTy.n = 0 := rfl
theorem zTy_a : zTy.args = [] := rfl
theorem exmk (k : Int) (s : List UInt8) (b : Bool) (t : Ty) (ks : List Ex) (al : List Al) : (Ex.mk k s b t ks al).kind = k ∧ (Ex.mk k s b t ks al).name = s ∧ (Ex.mk k s b t ks al).told = b ∧ (Ex.mk k s b t ks al).ty = t ∧ (Ex.mk k s b t ks al).kids = ks ∧ (Ex.mk k s b t ks al).alts = al := ⟨rfl, rfl, rfl, rfl, rfl, rfl⟩
theorem const67 : List.mapM constCell [Value.string { data := #[] }, Value.slice none 0 0, Value.int IntKind.i64 0, Value.string { data := #[] }, Value.bool false, Value.int IntKind.i64 0, Value.string { data := #[] }, Value.int IntKind.i64 0, Value.slice none 0 0, Value.slice none 0 0, Value.slice none 0 0] =
    some [.str [], .slice [], .int .i64 0, .str [], .bool false, .int .i64 0, .str [], .int .i64 0, .slice [], .slice [], .slice []] := rfl
def exB (b : Bool) (e : Ex) : List AVal := match b with
  | false => exC e
  | true => [.int .i64 4, .str [], .bool false, .int .i64 0, .str [], .int .i64 0, .own 25 0 [], .slice (exsV e.kids), .own 54 0 []]
/-- an alternative -/
theorem altOne_den (q : Rd) (acc : List Al) (x : Ex × Rd) (hl : q.l.length < 1000000) (ha : acc.length + 1 ≤ 2000000) (hx : den E 12 [.ptr (.par 0) 0] [rdV (takeR (behindR (takeR q 2 [])) 6 [45, 62])] = some (.agg (exC x.1), [rdV x.2])) :
    den E 35 [.ptr (.par 0) 0] [[.ptr (.par 1) 0, .own 54 0 (alsV acc)], rdV q] = some (.tup [], [[.ptr (.par 1) 0, .own 54 0 (alsV (acc ++ [.mk (wordR q 2 []) (namesR (takeR q 2 [])) x.1]))], rdV x.2]) := by
  rw [den_eq prim_35, body_35]
  have a1 := rtake_den q 2 []
  have a2 := rnames_den (takeR q 2 []) (Nat.lt_of_le_of_lt (takeR_suf q 2 []).length_le hl)
  have a3 := rtake_den (behindR (takeR q 2 [])) 6 [45, 62]
  have hap : (alsV acc).length + 1 ≤ appMax := by rw [alsV_map, List.length_map]; unfold appMax; omega
  have hlen : ((alsV acc).length : Int) = ((alsV acc).length : Nat) := rfl
  have hmap : alsV (acc ++ [.mk (wordR q 2 []) (namesR (takeR q 2 [])) x.1]) = alsV acc ++ [.agg (.str (wordR q 2 []) :: .slice ((namesR (takeR q 2 [])).map .str) :: exC x.1)] := by
    rw [alsV_map, alsV_map, List.map_append, List.map_cons, List.map_nil]; simp [alV]
  simp only [rdV, exC_eq] at a1 a2 a3 hx hmap ⊢
  simp only [go_sem, ↓reduceIte, Nat.reduceEqDiff, Nat.reduceAdd, Nat.reduceSub, Nat.reduceMul, Nat.reduceLeDiff, Nat.reduceLT, reduceCtorEq, Tryz.f35, const67, a1, a2, a3, hx, hap, hmap]
theorem pieces0_den (r : Rd) (c : AVal) (h : seesR (takeR r 6 [123]) 6 [125] = true) (f : FuncId) (hc : ∃ T l, c = .own T 0 l) :
    den E 34 [.ptr (.par 0) 0, .func f [.ptr (.par 1) 0] []] [rdV r, [.ptr (.par 0) 0, c]] = some (.tup [], [rdV (takesR (takeR r 6 [123]) 6 [125]), [.ptr (.par 0) 0, c]]) := by
  obtain ⟨T, l, rfl⟩ := hc
  rw [den_eq prim_34, body_34]
  have a1 := rtake_den r 6 [123]
  have a2 := rtakes_den (takeR r 6 [123]) 6 [125]
  rw [h] at a2
  simp only [rdV] at a1 a2 ⊢
  simp only [go_sem, ↓reduceIte, Nat.reduceEqDiff, Nat.reduceAdd, reduceCtorEq, Tryz.f34, a1, a2]
theorem pieces_den (f : Nat) (r : Rd) (y : Ex × Rd) (hlen : r.l.length < 1000000) (h : seesR (takeR r 6 [123]) 6 [125] = false) (hy : exR f (.alts []) (takeR r 6 [123]) = some y)
    (IH : ∀ g, g < f → ∀ q x, q.l <:+ r.l → exR g .expr q = some x → den E 12 [.ptr (.par 0) 0] [rdV q] = some (.agg (exC x.1), [rdV x.2])) :
    den E 34 [.ptr (.par 0) 0, .func 35 [.ptr (.par 1) 0] []] [rdV r, [.ptr (.par 0) 0, .own 54 0 []]] = some (.tup [], [rdV (takeR y.2 6 [125]), [.ptr (.par 0) 0, .own 54 0 (alsV y.1.alts)]]) := by
  have step : ∀ g, g ≤ f → ∀ acc q y, q.l <:+ r.l → acc.length + 1 ≤ 2000000 → exR g (.alts acc) q = some y → ∃ g' acc' r4, g' < g ∧ r4.l <:+ q.l ∧ acc'.length = acc.length + 1 ∧
      den E 35 [.ptr (.par 0) 0] [[.ptr (.par 1) 0, .own 54 0 (alsV acc)], rdV q] = some (.tup [], [[.ptr (.par 1) 0, .own 54 0 (alsV acc')], rdV r4]) ∧
      (if seesR r4 6 [59] then exR g' (.alts acc') (takesR r4 6 [59]) else some (.mk 0 [] false zTy [] acc', r4)) = some y := by
    intro g hg acc q y hq hac h
    cases g with
    | zero => cases h
    | succ g =>
      simp only [exR] at h
      split at h
      · cases h
      · rename_i b r4 h4
        have sq := (takeR_suf (behindR (takeR q 2 [])) 6 [45, 62]).trans ((behindR_suf (takeR q 2 [])).trans (takeR_suf q 2 []))
        exact ⟨g, _, r4, Nat.lt_succ_self g, (exR_suf _ _ _ _ _ h4).trans sq, by simp, altOne_den q acc (b, r4) (Nat.lt_of_le_of_lt hq.length_le hlen) hac (IH g (by omega) _ _ (sq.trans hq) h4), h⟩
  rw [den_eq prim_34, body_34]
  have a1 := rtake_den r 6 [123]
  have a2 := rtakes_den (takeR r 6 [123]) 6 [125]
  rw [h] at a2
  have st := takeR_suf r 6 [123]
  obtain ⟨g0, acc0, r0, hg0, hs0, hl0, d0, e0⟩ := step f (Nat.le_refl _) [] _ y st (by simp) hy
  have ht0 : takesR (takeR r 6 [123]) 6 [125] = takeR r 6 [123] := by unfold takesR; rw [h]; rfl
  rw [ht0] at a2
  simp only [rdV, alsV_nil] at a1 a2 d0
  unfold rdV
  simp only [go_sem, ↓reduceIte, Nat.reduceEqDiff, Nat.reduceAdd, Nat.reduceBEq, reduceCtorEq, Tryz.f34, a1, a2, d0]
  refine run_ind (fun x : Nat × List Al × Rd => x.1 < f ∧ x.2.2.l <:+ r.l ∧ x.2.1.length + x.2.2.l.length ≤ r.l.length + 1 ∧ (if seesR x.2.2 6 [59] then exR x.1 (.alts x.2.1) (takesR x.2.2 6 [59]) else some (.mk 0 [] false zTy [] x.2.1, x.2.2)) = some y)
    (fun x => ⟨[(0, .ptr (.par 0) 0), (1, .func 35 [.ptr (.par 1) 0] [])], [rdV x.2.2, [.ptr (.par 0) 0, .own 54 0 (alsV x.2.1)]], [], 1⟩)
    (fun _ => some (.tup [], [rdV (takeR y.2 6 [125]), [.ptr (.par 0) 0, .own 54 0 (alsV y.1.alts)]])) (fun x => x.1) (g0, acc0, r0) ⟨hg0, hs0.trans st, ?_, e0⟩ ?_ ?_
  · have := hs0.length_le; have := st.length_le; simp only [List.length_nil] at hl0; simp only; omega
  · simp only [go_sem, ↓reduceIte, rdV]
  · rintro ⟨g, acc, q⟩ ⟨hg, hq, hle, he⟩ hrun
    simp only at hg hq hle he hrun ⊢
    have b1 := rtakes_den q 6 [59]
    cases h1 : seesR q 6 [59]
    · rw [h1] at he b1
      simp only [Bool.false_eq_true, if_false] at he
      injection he with he; subst he
      have hk : takesR q 6 [59] = q := by unfold takesR; rw [h1]; rfl
      rw [hk] at b1
      have b2 := rtake_den q 6 [125]
      simp only [rdV] at b1 b2 ⊢
      simp only [go_sem, ↓reduceIte, Nat.reduceEqDiff, Nat.reduceAdd, reduceCtorEq, b1, b2, Ex.alts]
    · rw [h1] at he b1
      simp only [if_true] at he
      obtain ⟨hb, t, w, hw⟩ := seesR_cons h1
      have hk : (takesR q 6 [59]).l.length + 1 = q.l.length := by unfold takesR; rw [h1, if_pos rfl, hw]; simp
      have hsq := takesR_suf q 6 [59]
      obtain ⟨g', acc', r', hg', hs', hl', d', e'⟩ := step g (by omega) acc _ y (hsq.trans hq) (by omega) he
      simp only [rdV] at b1 d' ⊢
      simp only [go_sem, ↓reduceIte, Nat.reduceEqDiff, Nat.reduceAdd, Nat.reduceBEq, reduceCtorEq, b1, d']
      refine hrun (g', acc', r') _ ⟨by omega, hs'.trans (hsq.trans hq), ?_, e'⟩ hg' ?_
      · have := hs'.length_le; simp only; omega
      · simp only [go_sem, ↓reduceIte, rdV]
theorem exR_den : ∀ (f : Nat) (m : XM) (r : Rd) (x : Ex × Rd), (∀ t ∈ r.l, tokOK t) → r.l.length < 1000000 → exR f m r = some x → XDen m r x := by
  intro f
  induction f using Nat.strongRecOn with
  | _ f ih =>
  intro m r x hok hlen h
  cases f with
  | zero => cases h
  | succ f =>
  have sub : ∀ {q : Rd}, q.l <:+ r.l → (∀ t ∈ q.l, tokOK t) ∧ q.l.length < 1000000 := fun hs => ⟨fun t ht => hok t (hs.subset ht), Nat.lt_of_le_of_lt hs.length_le hlen⟩
  cases m with
  | alts acc => trivial
  | loop e => trivial
  | lets =>
    simp only [XDen]
    simp only [exR] at h
    rw [den_eq prim_33, body_33]
    have a1 := rtake_den r 1 []
    have a2 := rtakes_den (takeR r 1 []) 6 [58]
    cases b2 : seesR (takeR r 1 []) 6 [58]
    · rw [b2] at h a2
      simp only [takesR, b2, Bool.false_eq_true, if_false] at h a2
      split at h
      · cases h
      · rename_i x1 r3 h3
        have sx := (takeR_suf (takeR r 1 []) 6 [61]).trans (takeR_suf r 1 [])
        have d3 := ih f (by omega) .expr _ _ (sub sx).1 (sub sx).2 h3
        have sx3 := (exR_suf _ _ _ _ _ h3).trans sx
        split at h
        · cases h
        · rename_i y r4 h4
          have sx4 := (takeR_suf r3 3 [105, 110]).trans sx3
          have d4 := ih f (by omega) .expr _ _ (sub sx4).1 (sub sx4).2 h4
          have a3 := rtake_den (takeR r 1 []) 6 [61]
          have a4 := rtake_den r3 3 [105, 110]
          injection h with h; subst h
          simp only [XDen, rdV, exC_eq] at a1 a2 a3 a4 d3 d4
          unfold rdV
          simp only [go_sem, ↓reduceIte, Nat.reduceEqDiff, Nat.reduceAdd, Nat.reduceMul, Nat.reduceLeDiff, Nat.reduceLT, reduceCtorEq, Tryz.f33, a1, a2, a3, a4, d3, d4, exC_eq, exmk, exsV_cons, exsV_nil, alsV_nil, tysV_nil, zTy_k, zTy_s, zTy_n, zTy_a]
    · rw [b2] at h a2
      simp only [if_true] at h
      split at h
      · cases h
      · rename_i t r2 h2
        have s2 := (takesR_suf (takeR r 1 []) 6 [58]).trans (takeR_suf r 1 [])
        have d2 := rtyp_den f _ _ (sub s2).1 (sub s2).2 h2
        have s2' := (typR_suf h2).trans s2
        split at h
        · cases h
        · rename_i x1 r3 h3
          have sx := (takeR_suf r2 6 [61]).trans s2'
          have d3 := ih f (by omega) .expr _ _ (sub sx).1 (sub sx).2 h3
          have sx3 := (exR_suf _ _ _ _ _ h3).trans sx
          split at h
          · cases h
          · rename_i y r4 h4
            have sx4 := (takeR_suf r3 3 [105, 110]).trans sx3
            have d4 := ih f (by omega) .expr _ _ (sub sx4).1 (sub sx4).2 h4
            have a3 := rtake_den r2 6 [61]
            have a4 := rtake_den r3 3 [105, 110]
            injection h with h; subst h
            simp only [XDen, rdV, exC_eq, tyV_eq] at a1 a2 a3 a4 d2 d3 d4
            unfold rdV
            simp only [go_sem, ↓reduceIte, Nat.reduceEqDiff, Nat.reduceAdd, Nat.reduceMul, Nat.reduceLeDiff, Nat.reduceLT, reduceCtorEq, Tryz.f33, a1, a2, a3, a4, d2, d3, d4, exC_eq, exmk, exsV_cons, exsV_nil, alsV_nil]
  | atom =>
    simp only [XDen]
    simp only [exR] at h
    rw [den_eq prim_36, body_36]
    have s1 := rsees_den r 1 []
    have s2 := rsees_den r 2 []
    cases b1 : seesR r 1 []
    · rw [b1] at h s1
      simp only [Bool.false_eq_true, if_false] at h
      cases b2 : seesR r 2 []
      · rw [b2] at h s2
        simp only [Bool.false_eq_true, if_false] at h
        have a1 := rtake_den r 6 [40]
        split at h
        · cases h
        · rename_i e r1 h1
          have sx := takeR_suf r 6 [40]
          have d1 := ih f (by omega) .expr _ _ (sub sx).1 (sub sx).2 h1
          have sx1 := (exR_suf _ _ _ _ _ h1).trans sx
          have a2 := rtakes_den r1 6 [58]
          cases b3 : seesR r1 6 [58]
          · rw [b3] at h a2
            simp only [takesR, b3, Bool.false_eq_true, if_false] at h a2
            injection h with h; subst h
            have a3 := rtake_den r1 6 [41]
            simp only [XDen, rdV, exC_eq] at s1 s2 a1 a2 a3 d1
            unfold rdV
            simp only [go_sem, ↓reduceIte, Nat.reduceEqDiff, Nat.reduceAdd, Nat.reduceLeDiff, Nat.reduceLT, reduceCtorEq, Tryz.f36, s1, s2, a1, a2, a3, d1, exC_eq]
          · rw [b3] at h a2
            simp only [if_true] at h
            split at h
            · cases h
            · rename_i t r2 h2
              have sx2 := (takesR_suf r1 6 [58]).trans sx1
              have d2 := rtyp_den f _ _ (sub sx2).1 (sub sx2).2 h2
              injection h with h; subst h
              have a3 := rtake_den r2 6 [41]
              simp only [XDen, rdV, exC_eq, tyV_eq] at s1 s2 a1 a2 a3 d1 d2
              unfold rdV
              simp only [go_sem, ↓reduceIte, Nat.reduceEqDiff, Nat.reduceAdd, Nat.reduceMul, Nat.reduceLeDiff, Nat.reduceLT, reduceCtorEq, Tryz.f36, s1, s2, a1, a2, a3, d1, d2, exC_eq, exmk, exsV_cons, exsV_nil, alsV_nil]
      · rw [b2] at h s2
        simp only [if_true] at h
        injection h with h; subst h
        have a1 := rtake_den r 2 []
        simp only [rdV] at s1 s2 a1
        unfold rdV
        simp only [go_sem, ↓reduceIte, Nat.reduceEqDiff, Nat.reduceAdd, Nat.reduceLeDiff, Nat.reduceLT, reduceCtorEq, Tryz.f36, s1, s2, a1, exC_eq, exmk, exsV_nil, alsV_nil, tysV_nil, zTy_k, zTy_s, zTy_n, zTy_a]
    · rw [b1] at h s1
      simp only [if_true] at h
      injection h with h; subst h
      have a1 := rtake_den r 1 []
      simp only [rdV] at s1 a1
      unfold rdV
      simp only [go_sem, ↓reduceIte, Nat.reduceEqDiff, Nat.reduceAdd, Nat.reduceLeDiff, Nat.reduceLT, reduceCtorEq, Tryz.f36, s1, a1, exC_eq, exmk, exsV_nil, alsV_nil, tysV_nil, zTy_k, zTy_s, zTy_n, zTy_a]
  | expr =>
    simp only [XDen]
    simp only [exR] at h
    rw [den_eq prim_12, body_12]
    cases hb : r.bad
    · rw [hb] at h
      simp only [Bool.false_eq_true, if_false] at h
      have a1 := rtakes_den r 6 [92]
      cases b1 : seesR r 6 [92]
      · have hk1 : takesR r 6 [92] = r := by unfold takesR; rw [b1]; rfl
        rw [b1] at h
        rw [hk1, b1] at a1
        simp only [Bool.false_eq_true, if_false] at h
        have a2 := rtakes_den r 3 [108, 101, 116]
        cases b2 : seesR r 3 [108, 101, 116]
        · have hk2 : takesR r 3 [108, 101, 116] = r := by unfold takesR; rw [b2]; rfl
          rw [b2] at h
          rw [hk2, b2] at a2
          simp only [Bool.false_eq_true, if_false] at h
          have a3 := rtakes_den r 3 [99, 97, 115, 101]
          cases b3 : seesR r 3 [99, 97, 115, 101]
          · have hk3 : takesR r 3 [99, 97, 115, 101] = r := by unfold takesR; rw [b3]; rfl
            rw [b3] at h
            rw [hk3, b3] at a3
            simp only [Bool.false_eq_true, if_false] at h
            split at h
            · cases h
            · rename_i e r1 h1
              have d1 := ih f (by omega) .atom _ _ hok hlen h1
              have sx := exR_suf _ _ _ _ _ h1
              simp only [XDen, rdV, hb, exC_eq] at a1 a2 a3 d1
              simp only [rdV, hb]
              simp only [go_sem, ↓reduceIte, Nat.reduceEqDiff, Nat.reduceAdd, Nat.reduceLeDiff, Nat.reduceLT, reduceCtorEq, Tryz.f12, a1, a2, a3, d1]
              refine run_ind (fun y : Nat × Bool × Ex × Rd => y.1 ≤ f ∧ y.2.2.2.l <:+ r.l ∧ (y.2.1 = true → ∃ ks, y.2.2.1 = .mk 4 [] false zTy ks []) ∧ exR y.1 (.loop y.2.2.1) y.2.2.2 = some x) (fun y => ⟨[(0, .ptr (.par 0) 0), (2, .ptr (.loc 2) 0), (6, .ptr (.loc 6) 0)], [rdV y.2.2.2],
                  [(2, [.int .i64 0, .str [], .bool false, .int .i64 0, .str [], .int .i64 0, .own 25 0 [], .own 29 0 [], .own 54 0 []]), (6, exB y.2.1 y.2.2.1)], 1⟩)
                (fun _ => some (.agg (exC x.1), [rdV x.2])) (fun y => y.1) (f, false, e, r1) ⟨Nat.le_refl _, sx, (fun h => by cases h), h⟩ ?_ ?_
              · simp only [go_sem, ↓reduceIte, Nat.reduceEqDiff, reduceCtorEq, rdV, exB, exC_eq]
              · rintro ⟨g, b, e2, q⟩ ⟨hg, hq, hb2, hx⟩ hrun
                simp only at hg hq hb2 hx hrun ⊢
                cases g with
                | zero => cases hx
                | succ g =>
                  simp only [exR] at hx
                  have c1 := rsees_den q 1 []
                  have c2 := rsees_den q 2 []
                  have c3 := rsees_den q 6 [40]
                  have step : (seesR q 1 [] || (seesR q 2 [] || seesR q 6 [40])) = true → ∃ y r2, exR g .atom q = some (y, r2) ∧ exR g (.loop (.mk 4 [] false zTy [e2, y] [])) r2 = some x := fun hb => by
                    rw [hb] at hx
                    simp only [if_true] at hx
                    split at hx
                    · cases hx
                    · rename_i y r2 h2
                      exact ⟨y, r2, h2, hx⟩
                  cases b
                  case' true => obtain ⟨ks, rfl⟩ := hb2 rfl
                  all_goals (
                    simp only [rdV, exC_eq] at c1 c2 c3 hrun ⊢
                    cases n1 : seesR q 1 []
                    · cases n2 : seesR q 2 []
                      · cases n3 : seesR q 6 [40]
                        · rw [n1, n2, n3] at hx
                          simp only [Bool.or_false, Bool.false_eq_true, if_false] at hx
                          injection hx with hx; subst hx
                          simp only [go_sem, ↓reduceIte, Nat.reduceEqDiff, Nat.reduceAdd, Nat.reduceLeDiff, Nat.reduceLT, reduceCtorEq, exB, c1, c2, c3, n1, n2, n3, exC_eq, exmk, alsV_nil, tysV_nil, zTy_k, zTy_s, zTy_n, zTy_a]
                        · obtain ⟨y, r2, h2, h3⟩ := step (by simp [n1, n2, n3])
                          have d2 := ih g (by omega) .atom _ _ (sub hq).1 (sub hq).2 h2
                          simp only [XDen, rdV, exC_eq] at d2
                          simp only [go_sem, ↓reduceIte, Nat.reduceEqDiff, Nat.reduceAdd, Nat.reduceMul, Nat.reduceLeDiff, Nat.reduceLT, reduceCtorEq, exB, c1, c2, c3, n1, n2, n3, d2, exC_eq, exmk]
                          refine hrun (g, true, _, r2) _ ⟨by omega, (exR_suf _ _ _ _ _ h2).trans hq, (fun _ => ⟨_, rfl⟩), h3⟩ (by simp only; omega) ?_
                          simp only [go_sem, ↓reduceIte, Nat.reduceEqDiff, reduceCtorEq, exB, exC_eq, exmk, exsV_cons, exsV_nil, alsV_nil, tysV_nil, zTy_k, zTy_s, zTy_n, zTy_a]
                      · obtain ⟨y, r2, h2, h3⟩ := step (by simp [n1, n2])
                        have d2 := ih g (by omega) .atom _ _ (sub hq).1 (sub hq).2 h2
                        simp only [XDen, rdV, exC_eq] at d2
                        simp only [go_sem, ↓reduceIte, Nat.reduceEqDiff, Nat.reduceAdd, Nat.reduceMul, Nat.reduceLeDiff, Nat.reduceLT, reduceCtorEq, exB, c1, c2, n1, n2, d2, exC_eq, exmk]
                        refine hrun (g, true, _, r2) _ ⟨by omega, (exR_suf _ _ _ _ _ h2).trans hq, (fun _ => ⟨_, rfl⟩), h3⟩ (by simp only; omega) ?_
                        simp only [go_sem, ↓reduceIte, Nat.reduceEqDiff, reduceCtorEq, exB, exC_eq, exmk, exsV_cons, exsV_nil, alsV_nil, tysV_nil, zTy_k, zTy_s, zTy_n, zTy_a]
                    · obtain ⟨y, r2, h2, h3⟩ := step (by simp [n1])
                      have d2 := ih g (by omega) .atom _ _ (sub hq).1 (sub hq).2 h2
                      simp only [XDen, rdV, exC_eq] at d2
                      simp only [go_sem, ↓reduceIte, Nat.reduceEqDiff, Nat.reduceAdd, Nat.reduceMul, Nat.reduceLeDiff, Nat.reduceLT, reduceCtorEq, exB, c1, n1, d2, exC_eq, exmk]
                      refine hrun (g, true, _, r2) _ ⟨by omega, (exR_suf _ _ _ _ _ h2).trans hq, (fun _ => ⟨_, rfl⟩), h3⟩ (by simp only; omega) ?_
                      simp only [go_sem, ↓reduceIte, Nat.reduceEqDiff, reduceCtorEq, exB, exC_eq, exmk, exsV_cons, exsV_nil, alsV_nil, tysV_nil, zTy_k, zTy_s, zTy_n, zTy_a])
          · rw [b3] at h a3
            simp only [if_true] at h
            split at h
            · cases h
            · rename_i e r1 h1
              have s3 := takesR_suf r 3 [99, 97, 115, 101]
              have d1 := ih f (by omega) .expr _ _ (sub s3).1 (sub s3).2 h1
              have sx := (exR_suf _ _ _ _ _ h1).trans s3
              have a4 := rtake_den r1 3 [111, 102]
              have s4 := (takeR_suf r1 3 [111, 102]).trans sx
              cases b4 : seesR (takeR (takeR r1 3 [111, 102]) 6 [123]) 6 [125]
              · rw [b4] at h
                simp only [Bool.false_eq_true, if_false] at h
                split at h
                · cases h
                · rename_i y r4 h4
                  injection h with h; subst h
                  have d4 := pieces_den f (takeR r1 3 [111, 102]) (y, r4) (sub s4).2 b4 h4 fun g hg q x hq hx => by
                    have := ih g (by omega) .expr q x (sub (hq.trans s4)).1 (sub (hq.trans s4)).2 hx
                    simpa only [XDen] using this
                  simp only [XDen, rdV, hb, exC_eq] at a1 a2 a3 a4 d1 d4
                  simp only [rdV, hb]
                  simp only [go_sem, ↓reduceIte, Nat.reduceEqDiff, Nat.reduceAdd, Nat.reduceMul, Nat.reduceLeDiff, Nat.reduceLT, reduceCtorEq, Tryz.f12, a1, a2, a3, a4, d1, d4, exC_eq, exmk, exsV_cons, exsV_nil, tysV_nil, zTy_k, zTy_s, zTy_n, zTy_a]
              · rw [b4] at h
                simp only [if_true] at h
                injection h with h; subst h
                have d4 := pieces0_den (takeR r1 3 [111, 102]) (.own 54 0 []) b4 35 ⟨_, _, rfl⟩
                simp only [XDen, rdV, hb, exC_eq] at a1 a2 a3 a4 d1 d4
                simp only [rdV, hb]
                simp only [go_sem, ↓reduceIte, Nat.reduceEqDiff, Nat.reduceAdd, Nat.reduceMul, Nat.reduceLeDiff, Nat.reduceLT, reduceCtorEq, Tryz.f12, a1, a2, a3, a4, d1, d4, exC_eq, exmk, exsV_cons, exsV_nil, alsV_nil, tysV_nil, zTy_k, zTy_s, zTy_n, zTy_a]
        · rw [b2] at h a2
          simp only [if_true] at h
          have s2 := takesR_suf r 3 [108, 101, 116]
          have d1 := ih f (by omega) .lets _ _ (sub s2).1 (sub s2).2 h
          simp only [XDen, rdV, hb, exC_eq] at a1 a2 d1
          simp only [rdV, hb]
          simp only [go_sem, ↓reduceIte, Nat.reduceEqDiff, Nat.reduceAdd, Nat.reduceLeDiff, Nat.reduceLT, reduceCtorEq, Tryz.f12, a1, a2, d1, exC_eq]
      · rw [b1] at h a1
        simp only [if_true] at h
        split at h
        · cases h
        · rename_i x1 r4 h4
          have a2 := rtake_den (takesR r 6 [92]) 1 []
          have a3 := rtake_den (takeR (takesR r 6 [92]) 1 []) 6 [45, 62]
          have s4 := (takeR_suf (takeR (takesR r 6 [92]) 1 []) 6 [45, 62]).trans ((takeR_suf (takesR r 6 [92]) 1 []).trans (takesR_suf r 6 [92]))
          have d4 := ih f (by omega) .expr _ _ (sub s4).1 (sub s4).2 h4
          injection h with h; subst h
          simp only [XDen, rdV, hb, exC_eq] at a1 a2 a3 d4
          simp only [rdV, hb]
          simp only [go_sem, ↓reduceIte, Nat.reduceEqDiff, Nat.reduceAdd, Nat.reduceMul, Nat.reduceLeDiff, Nat.reduceLT, reduceCtorEq, Tryz.f12, a1, a2, a3, d4, exC_eq, exmk, exsV_cons, exsV_nil, alsV_nil, tysV_nil, zTy_k, zTy_s, zTy_n, zTy_a]
    · rw [hb] at h
      simp only [if_true] at h
      injection h with h; subst h
      simp only [rdV, hb]
      simp only [go_sem, ↓reduceIte, Nat.reduceEqDiff, Nat.reduceAdd, Nat.reduceLeDiff, Nat.reduceLT, reduceCtorEq, Tryz.f12, zExC]
end Go.Proofs
namespace Go.Proofs
open Go.Av
set_option maxHeartbeats 16000000
set_option maxRecDepth 100000
structure Co where
  name : List UInt8
  ty : Ty
def coV (c : Co) : AVal := .agg [.str c.name, .int .i64 c.ty.kind, .str c.ty.name, .int .i64 c.ty.n, .slice (tysV c.ty.args)]
structure De where
  kind : Int
  name : List UInt8
  vars : List (List UInt8)
  cons : List Co
  ty : Ty
  val : Ex
def deC (d : De) : List AVal := [.int .i64 d.kind, .str d.name, .slice (d.vars.map .str), .slice (d.cons.map coV), .int .i64 d.ty.kind, .str d.ty.name, .int .i64 d.ty.n, .slice (tysV d.ty.args),
  .int .i64 d.val.kind, .str d.val.name, .bool d.val.told, .int .i64 d.val.ty.kind, .str d.val.ty.name, .int .i64 d.val.ty.n, .slice (tysV d.val.ty.args), .slice (exsV d.val.kids), .slice (alsV d.val.alts)]
/-- constructors -/
def coR (f : Nat) (q : Rd) : Option (Co × Rd) := match typR f (takeR (takeR q 2 []) 6 [58]) with
  | none => none
  | some (t, r) => some (⟨wordR q 2 [], t⟩, r)
def cosR (f : Nat) : Nat → List Co → Rd → Option (List Co × Rd)
  | 0, _, _ => none
  | g + 1, acc, q => match coR f q with
    | none => none
    | some (c, r) => if seesR r 6 [59] then cosR f g (acc ++ [c]) (takesR r 6 [59]) else some (acc ++ [c], r)
def deR (f : Nat) (r : Rd) : Option (De × Rd) :=
  if seesR r 3 [100, 97, 116, 97] then
    (if seesR (takeR (behindR (takeR (takesR r 3 [100, 97, 116, 97]) 2 [])) 6 [123]) 6 [125] then
      some (⟨1, wordR (takesR r 3 [100, 97, 116, 97]) 2 [], namesR (takeR (takesR r 3 [100, 97, 116, 97]) 2 []), [], zTy, zEx⟩, takesR (takeR (behindR (takeR (takesR r 3 [100, 97, 116, 97]) 2 [])) 6 [123]) 6 [125])
    else match cosR f f [] (takeR (behindR (takeR (takesR r 3 [100, 97, 116, 97]) 2 [])) 6 [123]) with
      | none => none
      | some (cs, r5) => some (⟨1, wordR (takesR r 3 [100, 97, 116, 97]) 2 [], namesR (takeR (takesR r 3 [100, 97, 116, 97]) 2 []), cs, zTy, zEx⟩, takeR r5 6 [125]))
  else if seesR (takeR r 1 []) 6 [58] then (match typR f (takesR (takeR r 1 []) 6 [58]) with
    | none => none
    | some (t, r2) => some (⟨2, wordR r 1 [], [], [], t, zEx⟩, r2))
  else match exR f .expr (takeR (takeR r 1 []) 6 [61]) with
    | none => none
    | some (x, r3) => some (⟨3, wordR r 1 [], [], [], zTy, x⟩, r3)
theorem coR_suf {f : Nat} {q : Rd} {c : Co} {r : Rd} (h : coR f q = some (c, r)) : r.l <:+ q.l := by
  unfold coR at h
  split at h
  · cases h
  · rename_i t r1 h1
    injection h with h; injection h with _ h; subst h
    exact (typR_suf h1).trans ((takeR_suf _ _ _).trans (takeR_suf _ _ _))
theorem cosR_suf {f : Nat} : ∀ {g : Nat} {acc : List Co} {q : Rd} {cs : List Co} {r : Rd}, cosR f g acc q = some (cs, r) → r.l <:+ q.l := by
  intro g
  induction g with
  | zero => intro acc q cs r h; cases h
  | succ g ih =>
    intro acc q cs r h
    simp only [cosR] at h
    split at h
    · cases h
    · rename_i c r1 h1
      split at h
      · exact (ih h).trans ((takesR_suf _ _ _).trans (coR_suf h1))
      · injection h with h; injection h with _ h; subst h; exact coR_suf h1
theorem deR_suf {f : Nat} {r : Rd} {d : De} {r' : Rd} (h : deR f r = some (d, r')) : r'.l <:+ r.l := by
  unfold deR at h
  have s1 : (takeR (behindR (takeR (takesR r 3 [100, 97, 116, 97]) 2 [])) 6 [123]).l <:+ r.l := (takeR_suf _ _ _).trans ((behindR_suf _).trans ((takeR_suf _ _ _).trans (takesR_suf _ _ _)))
  split at h
  · split at h
    · injection h with h; injection h with _ h; subst h; exact (takesR_suf _ _ _).trans s1
    · split at h
      · cases h
      · rename_i cs r5 h5
        injection h with h; injection h with _ h; subst h
        exact (takeR_suf _ _ _).trans ((cosR_suf h5).trans s1)
  · split at h
    · split at h
      · cases h
      · rename_i t r2 h2
        injection h with h; injection h with _ h; subst h
        exact (typR_suf h2).trans ((takesR_suf _ _ _).trans (takeR_suf _ _ _))
    · split at h
      · cases h
      · rename_i x r3 h3
        injection h with h; injection h with _ h; subst h
        exact (exR_suf _ _ _ _ _ h3).trans ((takeR_suf _ _ _).trans (takeR_suf _ _ _))
theorem co_den (f : Nat) (q : Rd) (acc : List Co) (c : Co) (r : Rd) (hok : ∀ t ∈ q.l, tokOK t) (hl : q.l.length < 1000000) (ha : acc.length + 1 ≤ 2000000) (h : coR f q = some (c, r)) :
    den E 85 [.ptr (.par 0) 0] [[.ptr (.par 1) 0, .own 148 0 (acc.map coV)], rdV q] = some (.tup [], [[.ptr (.par 1) 0, .own 148 0 ((acc ++ [c]).map coV)], rdV r]) := by
  unfold coR at h
  split at h
  · cases h
  · rename_i t r1 h1
    injection h with h; injection h with hc hr; subst hr
    rw [den_eq prim_85, body_85]
    have a1 := rtake_den q 2 []
    have a2 := rtake_den (takeR q 2 []) 6 [58]
    have s2 := (takeR_suf (takeR q 2 []) 6 [58]).trans (takeR_suf q 2 [])
    have a3 := rtyp_den f _ _ (fun t ht => hok t (s2.subset ht)) (Nat.lt_of_le_of_lt s2.length_le hl) h1
    have hap : (acc.map coV).length + 1 ≤ appMax := by rw [List.length_map]; unfold appMax; omega
    have hmap : acc.map coV ++ [.agg [.str (wordR q 2 []), .int .i64 t.kind, .str t.name, .int .i64 t.n, .slice (tysV t.args)]] = (acc ++ [c]).map coV := by
      rw [List.map_append, List.map_cons, List.map_nil, ← hc]; rfl
    simp only [rdV, tyV_eq] at a1 a2 a3 ⊢
    simp only [go_sem, ↓reduceIte, Nat.reduceEqDiff, Nat.reduceAdd, Nat.reduceMul, Nat.reduceLeDiff, Nat.reduceLT, reduceCtorEq, Tryz.f85, a1, a2, a3, hap, hmap]
theorem pieces2_den (f : Nat) (r : Rd) (y : List Co × Rd) (hok : ∀ t ∈ r.l, tokOK t) (hlen : r.l.length < 1000000) (h : seesR (takeR r 6 [123]) 6 [125] = false) (hy : cosR f f [] (takeR r 6 [123]) = some y) :
    den E 34 [.ptr (.par 0) 0, .func 85 [.ptr (.par 1) 0] []] [rdV r, [.ptr (.par 0) 0, .own 148 0 []]] = some (.tup [], [rdV (takeR y.2 6 [125]), [.ptr (.par 0) 0, .own 148 0 (y.1.map coV)]]) := by
  have step : ∀ g, g ≤ f → ∀ acc q y, q.l <:+ r.l → acc.length + 1 ≤ 2000000 → cosR f g acc q = some y → ∃ g' acc' r4, g' < g ∧ r4.l <:+ q.l ∧ acc'.length = acc.length + 1 ∧
      den E 85 [.ptr (.par 0) 0] [[.ptr (.par 1) 0, .own 148 0 (acc.map coV)], rdV q] = some (.tup [], [[.ptr (.par 1) 0, .own 148 0 (acc'.map coV)], rdV r4]) ∧
      (if seesR r4 6 [59] then cosR f g' acc' (takesR r4 6 [59]) else some (acc', r4)) = some y := by
    intro g hg acc q y hq hac h
    cases g with
    | zero => cases h
    | succ g =>
      simp only [cosR] at h
      split at h
      · cases h
      · rename_i c r4 h4
        exact ⟨g, _, r4, Nat.lt_succ_self g, coR_suf h4, by simp, co_den f q acc c r4 (fun t ht => hok t (hq.subset ht)) (Nat.lt_of_le_of_lt hq.length_le hlen) hac h4, h⟩
  rw [den_eq prim_34, body_34]
  have a1 := rtake_den r 6 [123]
  have a2 := rtakes_den (takeR r 6 [123]) 6 [125]
  rw [h] at a2
  have st := takeR_suf r 6 [123]
  obtain ⟨g0, acc0, r0, hg0, hs0, hl0, d0, e0⟩ := step f (Nat.le_refl _) [] _ y st (by simp) hy
  have ht0 : takesR (takeR r 6 [123]) 6 [125] = takeR r 6 [123] := by unfold takesR; rw [h]; rfl
  rw [ht0] at a2
  simp only [rdV, List.map_nil] at a1 a2 d0
  unfold rdV
  simp only [go_sem, ↓reduceIte, Nat.reduceEqDiff, Nat.reduceAdd, Nat.reduceBEq, reduceCtorEq, Tryz.f34, a1, a2, d0]
  refine run_ind (fun x : Nat × List Co × Rd => x.1 < f ∧ x.2.2.l <:+ r.l ∧ x.2.1.length + x.2.2.l.length ≤ r.l.length + 1 ∧ (if seesR x.2.2 6 [59] then cosR f x.1 x.2.1 (takesR x.2.2 6 [59]) else some (x.2.1, x.2.2)) = some y)
    (fun x => ⟨[(0, .ptr (.par 0) 0), (1, .func 85 [.ptr (.par 1) 0] [])], [rdV x.2.2, [.ptr (.par 0) 0, .own 148 0 (x.2.1.map coV)]], [], 1⟩)
    (fun _ => some (.tup [], [rdV (takeR y.2 6 [125]), [.ptr (.par 0) 0, .own 148 0 (y.1.map coV)]])) (fun x => x.1) (g0, acc0, r0) ⟨hg0, hs0.trans st, ?_, e0⟩ ?_ ?_
  · have := hs0.length_le; have := st.length_le; simp only [List.length_nil] at hl0; simp only; omega
  · simp only [go_sem, ↓reduceIte, rdV]
  · rintro ⟨g, acc, q⟩ ⟨hg, hq, hle, he⟩ hrun
    simp only at hg hq hle he hrun ⊢
    have b1 := rtakes_den q 6 [59]
    cases h1 : seesR q 6 [59]
    · rw [h1] at he b1
      simp only [Bool.false_eq_true, if_false] at he
      injection he with he; subst he
      have hk : takesR q 6 [59] = q := by unfold takesR; rw [h1]; rfl
      rw [hk] at b1
      have b2 := rtake_den q 6 [125]
      simp only [rdV] at b1 b2 ⊢
      simp only [go_sem, ↓reduceIte, Nat.reduceEqDiff, Nat.reduceAdd, reduceCtorEq, b1, b2]
    · rw [h1] at he b1
      simp only [if_true] at he
      obtain ⟨hb, t, w, hw⟩ := seesR_cons h1
      have hk : (takesR q 6 [59]).l.length + 1 = q.l.length := by unfold takesR; rw [h1, if_pos rfl, hw]; simp
      have hsq := takesR_suf q 6 [59]
      obtain ⟨g', acc', r', hg', hs', hl', d', e'⟩ := step g (by omega) acc _ y (hsq.trans hq) (by omega) he
      simp only [rdV] at b1 d' ⊢
      simp only [go_sem, ↓reduceIte, Nat.reduceEqDiff, Nat.reduceAdd, Nat.reduceBEq, reduceCtorEq, b1, d']
      refine hrun (g', acc', r') _ ⟨by omega, hs'.trans (hsq.trans hq), ?_, e'⟩ hg' ?_
      · have := hs'.length_le; simp only; omega
      · simp only [go_sem, ↓reduceIte, rdV]
theorem exz : zEx.kind = 0 ∧ zEx.name = [] ∧ zEx.told = false ∧ zEx.ty = zTy ∧ zEx.kids = [] ∧ zEx.alts = [] := ⟨rfl, rfl, rfl, rfl, rfl, rfl⟩
theorem de_den (f : Nat) (r : Rd) (d : De) (r' : Rd) (hok : ∀ t ∈ r.l, tokOK t) (hlen : r.l.length < 1000000) (h : deR f r = some (d, r')) :
    den E 61 [.ptr (.par 0) 0] [rdV r] = some (.agg (deC d), [rdV r']) := by
  rw [den_eq prim_61, body_61]
  have sub : ∀ {q : Rd}, q.l <:+ r.l → (∀ t ∈ q.l, tokOK t) ∧ q.l.length < 1000000 := fun hs => ⟨fun t ht => hok t (hs.subset ht), Nat.lt_of_le_of_lt hs.length_le hlen⟩
  unfold deR at h
  have a1 := rtakes_den r 3 [100, 97, 116, 97]
  cases b1 : seesR r 3 [100, 97, 116, 97]
  · have hk1 : takesR r 3 [100, 97, 116, 97] = r := by unfold takesR; rw [b1]; rfl
    rw [b1] at h
    rw [hk1, b1] at a1
    simp only [Bool.false_eq_true, if_false] at h
    have a2 := rtake_den r 1 []
    have a3 := rtakes_den (takeR r 1 []) 6 [58]
    cases b2 : seesR (takeR r 1 []) 6 [58]
    · have hk2 : takesR (takeR r 1 []) 6 [58] = takeR r 1 [] := by unfold takesR; rw [b2]; rfl
      rw [b2] at h
      rw [hk2, b2] at a3
      simp only [Bool.false_eq_true, if_false] at h
      split at h
      · cases h
      · rename_i x r3 h3
        injection h with h; injection h with hd hr; subst hr; subst hd
        have a4 := rtake_den (takeR r 1 []) 6 [61]
        have s4 := (takeR_suf (takeR r 1 []) 6 [61]).trans (takeR_suf r 1 [])
        have a5 := exR_den f .expr _ _ (sub s4).1 (sub s4).2 h3
        simp only [XDen, rdV, exC_eq, deC] at a1 a2 a3 a4 a5 ⊢
        simp only [go_sem, ↓reduceIte, Nat.reduceEqDiff, Nat.reduceAdd, Nat.reduceLeDiff, Nat.reduceLT, reduceCtorEq, Tryz.f61, a1, a2, a3, a4, a5, tysV_nil, zTy_k, zTy_s, zTy_n, zTy_a, List.map_nil]
    · rw [b2] at h a3
      simp only [if_true] at h
      split at h
      · cases h
      · rename_i t r2 h2
        injection h with h; injection h with hd hr; subst hr; subst hd
        have s4 := (takesR_suf (takeR r 1 []) 6 [58]).trans (takeR_suf r 1 [])
        have a5 := rtyp_den f _ _ (sub s4).1 (sub s4).2 h2
        simp only [rdV, deC, tyV_eq] at a1 a2 a3 a5 ⊢
        simp only [go_sem, ↓reduceIte, Nat.reduceEqDiff, Nat.reduceAdd, Nat.reduceLeDiff, Nat.reduceLT, reduceCtorEq, Tryz.f61, a1, a2, a3, a5, exsV_nil, alsV_nil, tysV_nil, zTy_k, zTy_s, zTy_n, zTy_a, exz, List.map_nil]
  · rw [b1] at h a1
    simp only [if_true] at h
    have s1 := takesR_suf r 3 [100, 97, 116, 97]
    generalize takesR r 3 [100, 97, 116, 97] = r1 at *
    have a2 := rtake_den r1 2 []
    have s2 := (takeR_suf r1 2 []).trans s1
    have a3 := rnames_den (takeR r1 2 []) (sub s2).2
    have s3 := (behindR_suf (takeR r1 2 [])).trans s2
    cases b4 : seesR (takeR (behindR (takeR r1 2 [])) 6 [123]) 6 [125]
    · rw [b4] at h
      simp only [Bool.false_eq_true, if_false] at h
      split at h
      · cases h
      · rename_i cs r5 h5
        injection h with h; injection h with hd hr; subst hr; subst hd
        have a4 := pieces2_den f (behindR (takeR r1 2 [])) (cs, r5) (sub s3).1 (sub s3).2 b4 h5
        simp only [rdV, deC] at a1 a2 a3 a4 ⊢
        simp only [go_sem, ↓reduceIte, Nat.reduceEqDiff, Nat.reduceAdd, Nat.reduceLeDiff, Nat.reduceLT, reduceCtorEq, Tryz.f61, a1, a2, a3, a4, exsV_nil, alsV_nil, tysV_nil, zTy_k, zTy_s, zTy_n, zTy_a, exz, List.map_nil]
    · rw [b4] at h
      simp only [if_true] at h
      injection h with h; injection h with hd hr; subst hr; subst hd
      have a4 := pieces0_den (behindR (takeR r1 2 [])) (.own 148 0 []) b4 85 ⟨_, _, rfl⟩
      simp only [rdV, deC] at a1 a2 a3 a4 ⊢
      simp only [go_sem, ↓reduceIte, Nat.reduceEqDiff, Nat.reduceAdd, Nat.reduceLeDiff, Nat.reduceLT, reduceCtorEq, Tryz.f61, a1, a2, a3, a4, exsV_nil, alsV_nil, tysV_nil, zTy_k, zTy_s, zTy_n, zTy_a, exz, List.map_nil]
end Go.Proofs
namespace Go.Proofs
open Go.Av
set_option maxHeartbeats 16000000
set_option maxRecDepth 100000
mutual
def Ex.size : Ex → Nat
  | .mk _ _ _ _ ks al => Ex.sizes ks + Al.sizes al + 1
def Ex.sizes : List Ex → Nat
  | [] => 0
  | e :: r => Ex.size e + Ex.sizes r
def Al.size : Al → Nat
  | .mk _ _ b => Ex.size b
def Al.sizes : List Al → Nat
  | [] => 0
  | a :: r => Al.size a + Al.sizes r
end
mutual
def Ex.depth : Ex → Nat
  | .mk _ _ _ _ ks al => max (Ex.depths ks) (Al.depths al) + 1
def Ex.depths : List Ex → Nat
  | [] => 0
  | e :: r => max (Ex.depth e) (Ex.depths r)
def Al.depth : Al → Nat
  | .mk _ _ b => Ex.depth b
def Al.depths : List Al → Nat
  | [] => 0
  | a :: r => max (Al.depth a) (Al.depths r)
end
mutual
/-- how deep are the types that it tells? -/
def Ex.tdep : Ex → Nat
  | .mk k _ b t ks al => max (if b || k == 7 then t.depth else 0) (max (Ex.tdeps ks) (Al.tdeps al))
def Ex.tdeps : List Ex → Nat
  | [] => 0
  | e :: r => max (Ex.tdep e) (Ex.tdeps r)
def Al.tdep : Al → Nat
  | .mk _ _ b => Ex.tdep b
def Al.tdeps : List Al → Nat
  | [] => 0
  | a :: r => max (Al.tdep a) (Al.tdeps r)
end
mutual
/-- all that there is -/
def Ex.tot : Ex → Nat
  | .mk _ _ _ t ks al => Ex.tots ks + Al.tots al + t.sz
def Ex.tots : List Ex → Nat
  | [] => 0
  | e :: r => Ex.tot e + Ex.tots r
def Al.tot : Al → Nat
  | .mk _ vs b => Ex.tot b + vs.length + 1
def Al.tots : List Al → Nat
  | [] => 0
  | a :: r => Al.tot a + Al.tots r
end
def Ex.inner (e : Ex) : List Ex := e.kids ++ e.alts.map Al.body
theorem sizes_append (a b : List Ex) : Ex.sizes (a ++ b) = Ex.sizes a + Ex.sizes b := by
  induction a with
  | nil => simp [Ex.sizes]
  | cons x a ih => simp only [List.cons_append, Ex.sizes, ih]; omega
theorem depths_append (a b : List Ex) : Ex.depths (a ++ b) = max (Ex.depths a) (Ex.depths b) := by
  induction a with
  | nil => simp [Ex.depths]
  | cons x a ih => simp only [List.cons_append, Ex.depths, ih]; omega
theorem tdeps_append (a b : List Ex) : Ex.tdeps (a ++ b) = max (Ex.tdeps a) (Ex.tdeps b) := by
  induction a with
  | nil => simp [Ex.tdeps]
  | cons x a ih => simp only [List.cons_append, Ex.tdeps, ih]; omega
theorem al_sizes (l : List Al) : Al.sizes l = Ex.sizes (l.map Al.body) := by
  induction l with
  | nil => rfl
  | cons a l ih => cases a; simp only [Al.sizes, Al.size, List.map_cons, Ex.sizes, Al.body, ih]
theorem al_depths (l : List Al) : Al.depths l = Ex.depths (l.map Al.body) := by
  induction l with
  | nil => rfl
  | cons a l ih => cases a; simp only [Al.depths, Al.depth, List.map_cons, Ex.depths, Al.body, ih]
theorem al_tdeps (l : List Al) : Al.tdeps l = Ex.tdeps (l.map Al.body) := by
  induction l with
  | nil => rfl
  | cons a l ih => cases a; simp only [Al.tdeps, Al.tdep, List.map_cons, Ex.tdeps, Al.body, ih]
theorem size_eq (e : Ex) : e.size = Ex.sizes e.inner + 1 := by
  cases e; simp only [Ex.size, Ex.inner, Ex.kids, Ex.alts, sizes_append, al_sizes]
theorem edepth_eq (e : Ex) : e.depth = Ex.depths e.inner + 1 := by
  cases e; simp only [Ex.depth, Ex.inner, Ex.kids, Ex.alts, depths_append, al_depths]
theorem tdep_eq (e : Ex) : e.tdep = max (if e.told || e.kind == 7 then e.ty.depth else 0) (Ex.tdeps e.inner) := by
  cases e; simp only [Ex.tdep, Ex.inner, Ex.kids, Ex.alts, Ex.told, Ex.kind, Ex.ty, tdeps_append, al_tdeps]; rfl
theorem al_tots (l : List Al) : Ex.tots (l.map Al.body) + l.length ≤ Al.tots l := by
  induction l with
  | nil => simp [Al.tots, Ex.tots]
  | cons a l ih => cases a; simp only [Al.tots, Al.tot, List.map_cons, Ex.tots, Al.body, List.length_cons]; omega
theorem al_vars {l : List Al} {a : Al} (h : a ∈ l) : a.vars.length + a.body.tot + 1 ≤ Al.tots l := by
  induction l with
  | nil => cases h
  | cons x l ih =>
    simp only [Al.tots]
    rcases List.mem_cons.1 h with rfl | h
    · cases a; simp only [Al.tot, Al.vars, Al.body]; omega
    · have := ih h; omega
theorem tots_append (a b : List Ex) : Ex.tots (a ++ b) = Ex.tots a + Ex.tots b := by
  induction a with
  | nil => simp [Ex.tots]
  | cons x a ih => simp only [List.cons_append, Ex.tots, ih]; omega
theorem tot_pos (e : Ex) : 1 ≤ e.tot := by
  cases e with | mk _ _ _ t _ _ => simp only [Ex.tot]; have := sz_eq t; omega
theorem tots_len (l : List Ex) : l.length ≤ Ex.tots l := by
  induction l with
  | nil => simp
  | cons a l ih => simp only [List.length_cons, Ex.tots]; have := tot_pos a; omega
theorem tots_mem {l : List Ex} {e : Ex} (h : e ∈ l) : e.tot ≤ Ex.tots l := by
  induction l with
  | nil => cases h
  | cons x l ih =>
    simp only [Ex.tots]
    rcases List.mem_cons.1 h with rfl | h
    · omega
    · have := ih h; omega
theorem tot_eq (e : Ex) : e.tot = Ex.tots e.kids + Al.tots e.alts + e.ty.sz := by cases e; simp [Ex.tot, Ex.kids, Ex.alts, Ex.ty]
theorem tot_inner (e : Ex) : Ex.tots e.inner + e.ty.sz ≤ e.tot := by
  rw [tot_eq]; have := al_tots e.alts; simp only [Ex.inner, tots_append]; omega
theorem tot_inner1 (e : Ex) : Ex.tots e.inner + 1 ≤ e.tot := by
  have := tot_inner e; have := sz_eq e.ty; omega
theorem depth_sz (t : Ty) : t.depth ≤ t.sz := by
  rw [depth_eq, sz_eq]; have := depths_le t.args; omega
theorem le_tot : ∀ (n : Nat) (e : Ex), e.tot ≤ n → e.size ≤ e.tot ∧ e.depth ≤ e.tot ∧ e.tdep ≤ e.tot := by
  intro n
  induction n with
  | zero => intro e h; have := tot_pos e; omega
  | succ n ih =>
    intro e h
    have h1 := tot_inner1 e
    have h2 := tot_inner e
    have h3 := depth_sz e.ty
    have key : ∀ l : List Ex, Ex.tots l ≤ n → Ex.sizes l ≤ Ex.tots l ∧ Ex.depths l ≤ Ex.tots l ∧ Ex.tdeps l ≤ Ex.tots l := by
      intro l
      induction l with
      | nil => intro _; simp [Ex.sizes, Ex.depths, Ex.tdeps]
      | cons a l ihl =>
        intro hl
        simp only [Ex.tots] at hl ⊢
        have ⟨a1, a2, a3⟩ := ih a (by omega)
        have ⟨b1, b2, b3⟩ := ihl (by omega)
        simp only [Ex.sizes, Ex.depths, Ex.tdeps]
        omega
    obtain ⟨k1, k2, k3⟩ := key e.inner (by omega)
    rw [size_eq, edepth_eq, tdep_eq]
    refine ⟨by omega, by omega, ?_⟩
    split <;> omega
theorem exsV_append (a b : List Ex) : exsV (a ++ b) = exsV a ++ exsV b := by simp [exsV_map]
theorem exsV_len (l : List Ex) : (exsV l).length = l.length := by simp [exsV_map]
theorem exsV_get (l : List Ex) (i : Nat) : (exsV l)[i]? = (l[i]?).map fun e => .agg (exC e) := by simp [exsV_map]
theorem alsV_len (l : List Al) : (alsV l).length = l.length := by simp [alsV_map]
theorem alsV_get (l : List Al) (i : Nat) : (alsV l)[i]? = (l[i]?).map alV := by simp [alsV_map]
theorem take_map_snoc {l : List Al} {i : Nat} {x : Al} (h : l[i]? = some x) : exsV ((l.take (i + 1)).map Al.body) = exsV ((l.take i).map Al.body) ++ [.agg (exC x.body)] := by
  rw [take_snoc h, List.map_append, exsV_append, List.map_cons, List.map_nil, exsV_cons, exsV_nil]
theorem exInner_den (e : Ex) (hs : e.tot < 1000000) : den E 38 [.agg (exC e)] [] = some (.slice (exsV e.inner), []) := by
  have h1 := tot_inner1 e
  have hl := tots_len e.inner
  simp only [Ex.inner, List.length_append, List.length_map] at hl
  have hin : exsV e.inner = exsV e.kids ++ exsV (e.alts.map Al.body) := by rw [Ex.inner, exsV_append]
  rw [den_eq prim_38, body_38, exC_eq, hin]
  have hle : Ex.tots e.inner = Ex.tots (e.kids ++ e.alts.map Al.body) := rfl
  have hlk := exsV_len e.kids
  have hes : exsV e.kids = [] ∨ ∃ a1 a2 a3 a4 a5 a6 a7 a8 a9 K', exsV e.kids = .agg [a1, a2, a3, a4, a5, a6, a7, a8, a9] :: K' := by
    cases e.kids with
    | nil => exact .inl exsV_nil
    | cons k ks => rw [exsV_cons, exC_eq]; exact .inr ⟨_, _, _, _, _, _, _, _, _, _, rfl⟩
  generalize hK : exsV e.kids = K at *
  rcases hes with hKK | ⟨a1, a2, a3, a4, a5, a6, a7, a8, a9, K', hKK⟩
  all_goals (
    simp only [go_sem, ↓reduceIte, Nat.reduceEqDiff, Nat.reduceAdd, Nat.reduceLT, reduceCtorEq, Int.cast_ofNat_Int, hKK, Tryz.f38, natge0, tonat, alsV_len, Nat.le_refl, List.take_length, Nat.zero_le, Int.toNat_zero, Int.le_refl]
    refine run_for (fun i => ⟨[(3, if i = 0 then .full K else .own 29 0 (K ++ exsV ((e.alts.take i).map Al.body))), (16, .slice (alsV e.alts)), (17, .int .i64 e.alts.length), (18, .int .i64 i)], [], [], 1⟩) e.alts.length ?_ ?_ ?_
    · simp only [go_sem, ↓reduceIte, Nat.reduceEqDiff, reduceCtorEq, Int.cast_ofNat_Int, hKK]
    · intro i hi h
      obtain ⟨x, hx⟩ : ∃ x, e.alts[i]? = some x := ⟨e.alts[i], List.getElem?_eq_getElem hi⟩
      have w1 : IntKind.i64.wrap ((i : Int) + 1) = ((i + 1 : Nat) : Int) := wrapN (i + 1) (by omega)
      have hsn := take_map_snoc hx
      rw [exC_eq] at hsn
      have hlen2 : (exsV ((e.alts.take i).map Al.body)).length ≤ e.alts.length := by rw [exsV_len]; simp; omega
      cases i with
      | zero =>
        have hap : K.length + 1 ≤ appMax := by unfold appMax; omega
        simp only [hKK, List.length_cons, List.length_nil, Nat.zero_add] at hap
        have hsn0 : exsV ((e.alts.take 1).map Al.body) = [.agg [.int .i64 x.body.kind, .str x.body.name, .bool x.body.told, .int .i64 x.body.ty.kind, .str x.body.ty.name, .int .i64 x.body.ty.n, .slice (tysV x.body.ty.args), .slice (exsV x.body.kids), .slice (alsV x.body.alts)]] := by
          rw [hsn]; simp [exsV_nil]
        have hi0 : decide ((0 : Int) < (e.alts.length : Int)) = true := decide_eq_true (by omega)
        simp only [go_sem, ↓reduceIte, Nat.reduceEqDiff, Nat.reduceAdd, Nat.reduceMul, Nat.reduceLeDiff, Nat.reduceLT, reduceCtorEq, Int.cast_ofNat_Int, hKK, hi0, alsV_get, hx, alV_eq, exC_eq, hap, List.isEmpty_cons, Nat.zero_add, Int.le_refl, Int.toNat_zero]
        refine h _ ?_
        simp only [go_sem, ↓reduceIte, Nat.reduceEqDiff, Nat.reduceAdd, Int.cast_ofNat_Int, hKK, hsn0, show IntKind.i64.wrap ((0 : Int) + 1) = 1 from by decide]
      | succ i =>
        have hap : (K ++ exsV ((e.alts.take (i + 1)).map Al.body)).length + 1 ≤ appMax := by rw [List.length_append]; unfold appMax; omega
        simp only [hKK, List.nil_append, List.cons_append, List.length_cons, List.length_append] at hap
        simp only [go_sem, ↓reduceIte, Nat.reduceEqDiff, Nat.reduceAdd, Nat.reduceMul, Nat.reduceLeDiff, Nat.reduceLT, reduceCtorEq, hKK, natlt, decide_eq_true hi, natge0, tonat, alsV_get, hx, alV_eq, exC_eq, List.length_append, hap, Nat.zero_add]
        refine h _ ?_
        simp only [go_sem, ↓reduceIte, Nat.reduceEqDiff, reduceCtorEq, hKK, w1, hsn, List.append_assoc, List.cons_append]
    · by_cases h0 : e.alts.length = 0
      · have : e.alts = [] := List.eq_nil_of_length_eq_zero h0
        simp only [h0, if_true]
        simp only [go_sem, ↓reduceIte, Nat.reduceEqDiff, Nat.reduceAdd, Int.cast_ofNat_Int, hKK, this, List.map_nil, exsV_nil, Int.lt_irrefl, List.length_nil]
      · simp only [h0, if_false]
        simp only [go_sem, ↓reduceIte, Nat.reduceEqDiff, Nat.reduceAdd, hKK, natlt, Nat.lt_irrefl, List.take_length])
end Go.Proofs
namespace Go.Proofs
open Go.Av
set_option maxHeartbeats 16000000
set_option maxRecDepth 100000
theorem edepths_snoc (l : List Ex) (t : Ex) : Ex.depths (l ++ [t]) = max (Ex.depths l) t.depth := by rw [depths_append]; simp [Ex.depths]
theorem tdeps_snoc (l : List Ex) (t : Ex) : Ex.tdeps (l ++ [t]) = max (Ex.tdeps l) t.tdep := by rw [tdeps_append]; simp [Ex.tdeps]
theorem exdepth_den : ∀ (n : Nat) (e : Ex), e.tot ≤ n → e.tot < 1000000 → den E 13 [.agg (exC e)] [] = some (.int .i64 e.depth, []) := by
  intro n
  induction n with
  | zero => intro e he; have := tot_pos e; omega
  | succ n ih =>
    intro e he hs
    have ht := tot_inner1 e
    have hl := tots_len e.inner
    have hsz := (le_tot _ e (Nat.le_refl _)).2.1
    have hin := exInner_den e hs
    rw [den_eq prim_13, body_13]
    rw [exC_eq] at hin ⊢
    rw [edepth_eq] at hsz ⊢
    simp only [go_sem, ↓reduceIte, Nat.reduceEqDiff, Nat.reduceAdd, Nat.reduceLeDiff, Nat.reduceLT, reduceCtorEq, Tryz.f13, hin, exsV_len]
    refine run_for (fun i => ⟨[(3, .int .i64 ((Ex.depths (e.inner.take i) : Nat) : Int)), (7, .slice (exsV e.inner)), (8, .int .i64 e.inner.length), (9, .int .i64 i)], [], [], 1⟩) e.inner.length ?_ ?_ ?_
    · simp only [go_sem, ↓reduceIte, Nat.reduceEqDiff, reduceCtorEq, Int.cast_ofNat_Int, List.take_zero, Ex.depths]
    · intro i hi h
      obtain ⟨x, hx⟩ : ∃ x, e.inner[i]? = some x := ⟨e.inner[i], List.getElem?_eq_getElem hi⟩
      have hm := tots_mem (List.mem_of_getElem? hx)
      have hd := ih x (by omega) (by omega)
      rw [exC_eq] at hd
      have w1 : IntKind.i64.wrap ((i : Int) + 1) = ((i + 1 : Nat) : Int) := wrapN (i + 1) (by omega)
      simp only [go_sem, ↓reduceIte, Nat.reduceEqDiff, Nat.reduceAdd, Nat.reduceLeDiff, Nat.reduceLT, natlt, decide_eq_true hi, natge0, tonat, exsV_get, hx, exC_eq, hd, max_if]
      refine h _ ?_
      simp only [go_sem, ↓reduceIte, Nat.reduceEqDiff, w1, take_snoc hx, edepths_snoc]
    · have w1 : IntKind.i64.wrap (((Ex.depths e.inner : Nat) : Int) + 1) = ((Ex.depths e.inner + 1 : Nat) : Int) := wrapN (Ex.depths e.inner + 1) (by omega)
      simp only [go_sem, ↓reduceIte, Nat.reduceEqDiff, Nat.reduceAdd, natlt, Nat.lt_irrefl, List.take_length, w1]
theorem ex_ty_sz (e : Ex) : e.ty.sz ≤ e.tot := by have := tot_inner e; omega
theorem extdep_den : ∀ (n : Nat) (e : Ex), e.tot ≤ n → e.tot < 1000000 → den E 14 [.agg (exC e)] [] = some (.int .i64 e.tdep, []) := by
  intro n
  induction n with
  | zero => intro e he; have := tot_pos e; omega
  | succ n ih =>
    intro e he hs
    have ht := tot_inner1 e
    have hl := tots_len e.inner
    have hts := ex_ty_sz e
    have hin := exInner_den e hs
    have htd := tdepth_den _ e.ty (Nat.le_refl _) (by omega)
    rw [den_eq prim_14, body_14]
    rw [tyV_eq] at htd
    rw [exC_eq] at hin ⊢
    rw [tdep_eq]
    cases h1 : e.told <;> rw [h1] at hin
    · cases h2 : e.kind == 7
      · simp only [go_sem, ↓reduceIte, Nat.reduceEqDiff, Nat.reduceAdd, Nat.reduceLeDiff, Nat.reduceLT, reduceCtorEq, Tryz.f14, h2, hin, exsV_len]
        refine run_for (fun i => ⟨[(3, .int .i64 ((Ex.tdeps (e.inner.take i) : Nat) : Int)), (17, .slice (exsV e.inner)), (18, .int .i64 e.inner.length), (19, .int .i64 i)], [], [], 1⟩) e.inner.length ?_ ?_ ?_
        · simp only [go_sem, ↓reduceIte, Nat.reduceEqDiff, reduceCtorEq, Int.cast_ofNat_Int, List.take_zero, Ex.tdeps]
        · intro i hi h
          obtain ⟨x, hx⟩ : ∃ x, e.inner[i]? = some x := ⟨e.inner[i], List.getElem?_eq_getElem hi⟩
          have hm := tots_mem (List.mem_of_getElem? hx)
          have hd := ih x (by omega) (by omega)
          rw [exC_eq] at hd
          have w1 : IntKind.i64.wrap ((i : Int) + 1) = ((i + 1 : Nat) : Int) := wrapN (i + 1) (by omega)
          simp only [go_sem, ↓reduceIte, Nat.reduceEqDiff, Nat.reduceAdd, Nat.reduceLeDiff, Nat.reduceLT, natlt, decide_eq_true hi, natge0, tonat, exsV_get, hx, exC_eq, hd, max_if]
          refine h _ ?_
          simp only [go_sem, ↓reduceIte, Nat.reduceEqDiff, w1, take_snoc hx, tdeps_snoc]
        · simp only [go_sem, ↓reduceIte, Nat.reduceEqDiff, Nat.reduceAdd, natlt, Nat.lt_irrefl, List.take_length, Nat.zero_max]
      · simp only [go_sem, ↓reduceIte, Nat.reduceEqDiff, Nat.reduceAdd, Nat.reduceLeDiff, Nat.reduceLT, reduceCtorEq, Tryz.f14, h2, hin, exsV_len, htd]
        refine run_for (fun i => ⟨[(3, .int .i64 ((max e.ty.depth (Ex.tdeps (e.inner.take i)) : Nat) : Int)), (17, .slice (exsV e.inner)), (18, .int .i64 e.inner.length), (19, .int .i64 i)], [], [], 1⟩) e.inner.length ?_ ?_ ?_
        · simp only [go_sem, ↓reduceIte, Nat.reduceEqDiff, reduceCtorEq, Int.cast_ofNat_Int, List.take_zero, Ex.tdeps, Nat.max_zero]
        · intro i hi h
          obtain ⟨x, hx⟩ : ∃ x, e.inner[i]? = some x := ⟨e.inner[i], List.getElem?_eq_getElem hi⟩
          have hm := tots_mem (List.mem_of_getElem? hx)
          have hd := ih x (by omega) (by omega)
          rw [exC_eq] at hd
          have w1 : IntKind.i64.wrap ((i : Int) + 1) = ((i + 1 : Nat) : Int) := wrapN (i + 1) (by omega)
          simp only [go_sem, ↓reduceIte, Nat.reduceEqDiff, Nat.reduceAdd, Nat.reduceLeDiff, Nat.reduceLT, natlt, decide_eq_true hi, natge0, tonat, exsV_get, hx, exC_eq, hd, max_if]
          refine h _ ?_
          simp only [go_sem, ↓reduceIte, Nat.reduceEqDiff, w1, take_snoc hx, tdeps_snoc, Nat.max_assoc]
        · simp only [go_sem, ↓reduceIte, Nat.reduceEqDiff, Nat.reduceAdd, natlt, Nat.lt_irrefl, List.take_length]
    · simp only [go_sem, ↓reduceIte, Nat.reduceEqDiff, Nat.reduceAdd, Nat.reduceLeDiff, Nat.reduceLT, reduceCtorEq, Tryz.f14, hin, exsV_len, htd]
      refine run_for (fun i => ⟨[(3, .int .i64 ((max e.ty.depth (Ex.tdeps (e.inner.take i)) : Nat) : Int)), (17, .slice (exsV e.inner)), (18, .int .i64 e.inner.length), (19, .int .i64 i)], [], [], 1⟩) e.inner.length ?_ ?_ ?_
      · simp only [go_sem, ↓reduceIte, Nat.reduceEqDiff, reduceCtorEq, Int.cast_ofNat_Int, List.take_zero, Ex.tdeps, Nat.max_zero]
      · intro i hi h
        obtain ⟨x, hx⟩ : ∃ x, e.inner[i]? = some x := ⟨e.inner[i], List.getElem?_eq_getElem hi⟩
        have hm := tots_mem (List.mem_of_getElem? hx)
        have hd := ih x (by omega) (by omega)
        rw [exC_eq] at hd
        have w1 : IntKind.i64.wrap ((i : Int) + 1) = ((i + 1 : Nat) : Int) := wrapN (i + 1) (by omega)
        simp only [go_sem, ↓reduceIte, Nat.reduceEqDiff, Nat.reduceAdd, Nat.reduceLeDiff, Nat.reduceLT, natlt, decide_eq_true hi, natge0, tonat, exsV_get, hx, exC_eq, hd, max_if]
        refine h _ ?_
        simp only [go_sem, ↓reduceIte, Nat.reduceEqDiff, w1, take_snoc hx, tdeps_snoc, Nat.max_assoc]
      · simp only [go_sem, ↓reduceIte, Nat.reduceEqDiff, Nat.reduceAdd, natlt, Nat.lt_irrefl, List.take_length]
end Go.Proofs
namespace Go.Proofs
open Go.Av
set_option maxHeartbeats 16000000
set_option maxRecDepth 100000
theorem rInner_den (e : Ex) (hs : e.tot < 1000000) : den E 94 [.agg (exC e)] [] = some (.slice (exsV e.inner), []) := by
  have h1 := tot_inner1 e
  have hl := tots_len e.inner
  simp only [Ex.inner, List.length_append, List.length_map] at hl
  have hle : Ex.tots e.inner = Ex.tots (e.kids ++ e.alts.map Al.body) := rfl
  have hin : exsV e.inner = exsV e.kids ++ exsV (e.alts.map Al.body) := by rw [Ex.inner, exsV_append]
  rw [den_eq prim_94, body_94, exC_eq, hin]
  have hlk := exsV_len e.kids
  have hes : exsV e.kids = [] ∨ ∃ a1 a2 a3 a4 a5 a6 a7 a8 a9 K', exsV e.kids = .agg [a1, a2, a3, a4, a5, a6, a7, a8, a9] :: K' := by
    cases e.kids with
    | nil => exact .inl exsV_nil
    | cons k ks => rw [exsV_cons, exC_eq]; exact .inr ⟨_, _, _, _, _, _, _, _, _, _, rfl⟩
  generalize hK : exsV e.kids = K at *
  rcases hes with hKK | ⟨a1, a2, a3, a4, a5, a6, a7, a8, a9, K', hKK⟩
  all_goals (
    have hap0 : K.length ≤ appMax := by unfold appMax; omega
    simp only [hKK, List.length_cons, List.length_nil] at hap0
    simp only [go_sem, ↓reduceIte, Nat.reduceEqDiff, Nat.reduceAdd, Nat.reduceMul, Nat.reduceLT, reduceCtorEq, Tryz.f94, hKK, hap0, Nat.zero_add, Nat.zero_le]
    refine run_for (fun i => ⟨[(1, .ptr (.loc 1) 0), (3, .own 66 0 (K ++ exsV ((e.alts.take i).map Al.body))), (4, .int .i64 i)], [], [(1, exC e)], 1⟩) e.alts.length ?_ ?_ ?_
    · simp only [go_sem, ↓reduceIte, Nat.reduceEqDiff, reduceCtorEq, Int.cast_ofNat_Int, hKK, exC_eq, hK, List.take_zero, List.map_nil, exsV_nil]
    · intro i hi h
      obtain ⟨x, hx⟩ : ∃ x, e.alts[i]? = some x := ⟨e.alts[i], List.getElem?_eq_getElem hi⟩
      have w1 : IntKind.i64.wrap ((i : Int) + 1) = ((i + 1 : Nat) : Int) := wrapN (i + 1) (by omega)
      have hsn := take_map_snoc hx
      rw [exC_eq] at hsn
      have hlen2 : (exsV ((e.alts.take i).map Al.body)).length ≤ e.alts.length := by rw [exsV_len]; simp; omega
      have hap : (K ++ exsV ((e.alts.take i).map Al.body)).length + 1 ≤ appMax := by rw [List.length_append]; unfold appMax; omega
      simp only [hKK, List.nil_append, List.cons_append, List.length_cons] at hap
      simp only [go_sem, ↓reduceIte, Nat.reduceEqDiff, Nat.reduceAdd, Nat.reduceMul, Nat.reduceLeDiff, Nat.reduceLT, reduceCtorEq, hKK, exC_eq, hK, natlt, alsV_len, decide_eq_true hi, natge0, tonat, alsV_get, hx, alV_eq, exC_eq, hap]
      refine h _ ?_
      simp only [go_sem, ↓reduceIte, Nat.reduceEqDiff, hKK, exC_eq, hK, w1, hsn, List.append_assoc, List.cons_append]
    · simp only [go_sem, ↓reduceIte, Nat.reduceEqDiff, Nat.reduceAdd, Nat.reduceLT, hKK, exC_eq, hK, natlt, Nat.lt_irrefl, alsV_len, List.take_length])
theorem rdepthx_den : ∀ (n : Nat) (e : Ex), e.tot ≤ n → e.tot < 1000000 → den E 69 [.agg (exC e)] [] = some (.int .i64 e.depth, []) := by
  intro n
  induction n with
  | zero => intro e he; have := tot_pos e; omega
  | succ n ih =>
    intro e he hs
    have ht := tot_inner1 e
    have hl := tots_len e.inner
    have hsz := (le_tot _ e (Nat.le_refl _)).2.1
    have hin := rInner_den e hs
    rw [den_eq prim_69, body_69]
    rw [exC_eq] at hin ⊢
    rw [edepth_eq] at hsz ⊢
    simp only [go_sem, ↓reduceIte, Nat.reduceEqDiff, Nat.reduceAdd, Nat.reduceLeDiff, Nat.reduceLT, reduceCtorEq, Tryz.f69, hin]
    refine run_for (fun i => ⟨[(3, .int .i64 ((Ex.depths (e.inner.take i) : Nat) : Int)), (4, .slice (exsV e.inner)), (5, .int .i64 i)], [], [], 1⟩) e.inner.length ?_ ?_ ?_
    · simp only [go_sem, ↓reduceIte, Nat.reduceEqDiff, reduceCtorEq, Int.cast_ofNat_Int, List.take_zero, Ex.depths]
    · intro i hi h
      obtain ⟨x, hx⟩ : ∃ x, e.inner[i]? = some x := ⟨e.inner[i], List.getElem?_eq_getElem hi⟩
      have hm := tots_mem (List.mem_of_getElem? hx)
      have hd := ih x (by omega) (by omega)
      rw [exC_eq] at hd
      have w1 : IntKind.i64.wrap ((i : Int) + 1) = ((i + 1 : Nat) : Int) := wrapN (i + 1) (by omega)
      simp only [go_sem, ↓reduceIte, Nat.reduceEqDiff, Nat.reduceAdd, Nat.reduceLeDiff, natlt, exsV_len, decide_eq_true hi, natge0, tonat, exsV_get, hx, exC_eq, hd, max_if]
      refine h _ ?_
      simp only [go_sem, ↓reduceIte, Nat.reduceEqDiff, w1, take_snoc hx, edepths_snoc]
    · have w1 : IntKind.i64.wrap (((Ex.depths e.inner : Nat) : Int) + 1) = ((Ex.depths e.inner + 1 : Nat) : Int) := wrapN (Ex.depths e.inner + 1) (by omega)
      simp only [go_sem, ↓reduceIte, Nat.reduceEqDiff, Nat.reduceAdd, natlt, exsV_len, Nat.lt_irrefl, List.take_length, w1]
def deepT (e : Ex) : Bool := decide (e.tdep > 50)
theorem deepT_eq (e : Ex) : deepT e = (((e.told || e.kind == 7) && decide (e.ty.depth > 50)) || e.inner.any deepT) := by
  have key : ∀ l : List Ex, decide (Ex.tdeps l > 50) = l.any deepT := by
    intro l
    induction l with
    | nil => simp [Ex.tdeps]
    | cons a l ih =>
      simp only [Ex.tdeps]
      rw [List.any_cons, ← ih]
      show decide (max a.tdep (Ex.tdeps l) > 50) = (decide (a.tdep > 50) || decide (Ex.tdeps l > 50))
      rw [← Bool.decide_or]; exact decide_eq_decide.2 (by omega)
  rw [← key]
  unfold deepT
  rw [tdep_eq, Bool.eq_iff_iff]
  simp only [decide_eq_true_eq, Bool.or_eq_true, Bool.and_eq_true]
  split
  · rename_i h; simp only [h, true_and]; omega
  · rename_i h; simp only [h, false_and, false_or]; omega
theorem any_take {α : Type} {p : α → Bool} {l : List α} {i : Nat} {x : α} (h : l[i]? = some x) (h0 : (l.take i).any p = false) : (p x = true → l.any p = true) ∧ (p x = false → (l.take (i + 1)).any p = false) := by
  refine ⟨fun hx => List.any_eq_true.2 ⟨x, List.mem_of_getElem? h, hx⟩, fun hx => ?_⟩
  rw [take_snoc h, List.any_append, h0]; simp [hx]
theorem rdeepT_den : ∀ (n : Nat) (e : Ex), e.tot ≤ n → e.tot < 1000000 → den E 68 [.agg (exC e)] [] = some (.bool (deepT e), []) := by
  intro n
  induction n with
  | zero => intro e he; have := tot_pos e; omega
  | succ n ih =>
    intro e he hs
    have ht := tot_inner1 e
    have hl := tots_len e.inner
    have hts := ex_ty_sz e
    have hin := rInner_den e hs
    have htd := rdepth_den _ e.ty (Nat.le_refl _) (by omega)
    rw [den_eq prim_68, body_68]
    rw [tyV_eq] at htd
    rw [exC_eq] at hin ⊢
    have hgt : decide ((e.ty.depth : Int) > 50) = decide (e.ty.depth > 50) := by simp; omega
    rw [deepT_eq]
    cases h1 : e.told <;> rw [h1] at hin
    · cases h2 : e.kind == 7
      · simp only [go_sem, ↓reduceIte, Nat.reduceEqDiff, Nat.reduceAdd, Nat.reduceLeDiff, Nat.reduceLT, reduceCtorEq, Tryz.f68, h2, hin]
        refine run_ind (fun i : Nat => i ≤ e.inner.length ∧ (e.inner.take i).any deepT = false) (fun i => ⟨[(3, .slice (exsV e.inner)), (4, .int .i64 i)], [], [], 1⟩) (fun _ => some (.bool (e.inner.any deepT), [])) (fun i => e.inner.length - i) 0 ⟨Nat.zero_le _, by simp⟩ ?_ ?_
        · simp only [go_sem, ↓reduceIte, Nat.reduceEqDiff, reduceCtorEq, Int.cast_ofNat_Int]
        · rintro i ⟨hi, h0⟩ h
          by_cases hlt : i < e.inner.length
          · obtain ⟨x, hx⟩ : ∃ x, e.inner[i]? = some x := ⟨e.inner[i], List.getElem?_eq_getElem hlt⟩
            have hm := tots_mem (List.mem_of_getElem? hx)
            have hd := ih x (by omega) (by omega)
            rw [exC_eq] at hd
            have w1 : IntKind.i64.wrap ((i : Int) + 1) = ((i + 1 : Nat) : Int) := wrapN (i + 1) (by omega)
            obtain ⟨ya, yb⟩ := any_take hx h0
            cases hdx : deepT x
            · simp only [go_sem, ↓reduceIte, Nat.reduceEqDiff, Nat.reduceAdd, Nat.reduceLeDiff, natlt, exsV_len, decide_eq_true hlt, natge0, tonat, exsV_get, hx, exC_eq, hd, hdx]
              refine h (i + 1) _ ⟨hlt, yb hdx⟩ (by omega) ?_
              simp only [go_sem, ↓reduceIte, Nat.reduceEqDiff, w1]
            · simp only [go_sem, ↓reduceIte, Nat.reduceEqDiff, Nat.reduceAdd, Nat.reduceLeDiff, natlt, exsV_len, decide_eq_true hlt, natge0, tonat, exsV_get, hx, exC_eq, hd, hdx, ya hdx]
          · have hie : i = e.inner.length := by omega
            subst hie
            rw [List.take_length] at h0
            simp only [go_sem, ↓reduceIte, Nat.reduceEqDiff, Nat.reduceAdd, natlt, exsV_len, Nat.lt_irrefl, h0]
      · cases h3 : decide (e.ty.depth > 50)
        · simp only [go_sem, ↓reduceIte, Nat.reduceEqDiff, Nat.reduceAdd, Nat.reduceLeDiff, Nat.reduceLT, reduceCtorEq, Tryz.f68, h2, hin, htd, hgt, h3]
          refine run_ind (fun i : Nat => i ≤ e.inner.length ∧ (e.inner.take i).any deepT = false) (fun i => ⟨[(3, .slice (exsV e.inner)), (4, .int .i64 i)], [], [], 1⟩) (fun _ => some (.bool (e.inner.any deepT), [])) (fun i => e.inner.length - i) 0 ⟨Nat.zero_le _, by simp⟩ ?_ ?_
          · simp only [go_sem, ↓reduceIte, Nat.reduceEqDiff, reduceCtorEq, Int.cast_ofNat_Int]
          · rintro i ⟨hi, h0⟩ h
            by_cases hlt : i < e.inner.length
            · obtain ⟨x, hx⟩ : ∃ x, e.inner[i]? = some x := ⟨e.inner[i], List.getElem?_eq_getElem hlt⟩
              have hm := tots_mem (List.mem_of_getElem? hx)
              have hd := ih x (by omega) (by omega)
              rw [exC_eq] at hd
              have w1 : IntKind.i64.wrap ((i : Int) + 1) = ((i + 1 : Nat) : Int) := wrapN (i + 1) (by omega)
              obtain ⟨ya, yb⟩ := any_take hx h0
              cases hdx : deepT x
              · simp only [go_sem, ↓reduceIte, Nat.reduceEqDiff, Nat.reduceAdd, Nat.reduceLeDiff, natlt, exsV_len, decide_eq_true hlt, natge0, tonat, exsV_get, hx, exC_eq, hd, hdx]
                refine h (i + 1) _ ⟨hlt, yb hdx⟩ (by omega) ?_
                simp only [go_sem, ↓reduceIte, Nat.reduceEqDiff, w1]
              · simp only [go_sem, ↓reduceIte, Nat.reduceEqDiff, Nat.reduceAdd, Nat.reduceLeDiff, natlt, exsV_len, decide_eq_true hlt, natge0, tonat, exsV_get, hx, exC_eq, hd, hdx, ya hdx]
            · have hie : i = e.inner.length := by omega
              subst hie
              rw [List.take_length] at h0
              simp only [go_sem, ↓reduceIte, Nat.reduceEqDiff, Nat.reduceAdd, natlt, exsV_len, Nat.lt_irrefl, h0]
        · simp only [go_sem, ↓reduceIte, Nat.reduceEqDiff, Nat.reduceAdd, Nat.reduceLeDiff, Nat.reduceLT, reduceCtorEq, Tryz.f68, h2, htd, hgt, h3]
    · cases h3 : decide (e.ty.depth > 50)
      · simp only [go_sem, ↓reduceIte, Nat.reduceEqDiff, Nat.reduceAdd, Nat.reduceLeDiff, Nat.reduceLT, reduceCtorEq, Tryz.f68, hin, htd, hgt, h3]
        refine run_ind (fun i : Nat => i ≤ e.inner.length ∧ (e.inner.take i).any deepT = false) (fun i => ⟨[(3, .slice (exsV e.inner)), (4, .int .i64 i)], [], [], 1⟩) (fun _ => some (.bool (e.inner.any deepT), [])) (fun i => e.inner.length - i) 0 ⟨Nat.zero_le _, by simp⟩ ?_ ?_
        · simp only [go_sem, ↓reduceIte, Nat.reduceEqDiff, reduceCtorEq, Int.cast_ofNat_Int]
        · rintro i ⟨hi, h0⟩ h
          by_cases hlt : i < e.inner.length
          · obtain ⟨x, hx⟩ : ∃ x, e.inner[i]? = some x := ⟨e.inner[i], List.getElem?_eq_getElem hlt⟩
            have hm := tots_mem (List.mem_of_getElem? hx)
            have hd := ih x (by omega) (by omega)
            rw [exC_eq] at hd
            have w1 : IntKind.i64.wrap ((i : Int) + 1) = ((i + 1 : Nat) : Int) := wrapN (i + 1) (by omega)
            obtain ⟨ya, yb⟩ := any_take hx h0
            cases hdx : deepT x
            · simp only [go_sem, ↓reduceIte, Nat.reduceEqDiff, Nat.reduceAdd, Nat.reduceLeDiff, natlt, exsV_len, decide_eq_true hlt, natge0, tonat, exsV_get, hx, exC_eq, hd, hdx]
              refine h (i + 1) _ ⟨hlt, yb hdx⟩ (by omega) ?_
              simp only [go_sem, ↓reduceIte, Nat.reduceEqDiff, w1]
            · simp only [go_sem, ↓reduceIte, Nat.reduceEqDiff, Nat.reduceAdd, Nat.reduceLeDiff, natlt, exsV_len, decide_eq_true hlt, natge0, tonat, exsV_get, hx, exC_eq, hd, hdx, ya hdx]
          · have hie : i = e.inner.length := by omega
            subst hie
            rw [List.take_length] at h0
            simp only [go_sem, ↓reduceIte, Nat.reduceEqDiff, Nat.reduceAdd, natlt, exsV_len, Nat.lt_irrefl, h0]
      · simp only [go_sem, ↓reduceIte, Nat.reduceEqDiff, Nat.reduceAdd, Nat.reduceLeDiff, Nat.reduceLT, reduceCtorEq, Tryz.f68, htd, hgt, h3]
end Go.Proofs
namespace Go.Proofs
open Go.Av
set_option maxHeartbeats 16000000
set_option maxRecDepth 100000
def scanO (s : List UInt8) : List Tok × Int :=
  if s.length > 4000 then ([], 2) else match scanS (s.length + 1) (gapN false s) (s.drop (gapN false s)) with
    | .ok l => (l, 0)
    | .error _ => ([], 10)
theorem scanO_T (s : List UInt8) : ∃ p, scanT s = .tup [.slice (toksV (scanO s).1), .int .i64 p, .int .i64 (scanO s).2] := by
  unfold scanT scanO
  split
  · exact ⟨0, by simp [toksV_nil]⟩
  · cases scanS (s.length + 1) (gapN false s) (s.drop (gapN false s)) with
    | ok l => exact ⟨0, by simp [scanR]⟩
    | error p => exact ⟨p, by simp [scanR, toksV_nil]⟩
theorem scanAll_den (s : List UInt8) : den E 11 [.str s] [] = some (scanT s, []) := by
  by_cases h : s.length < 1000000
  · exact scan_den s h
  · rw [den_eq prim_11, body_11]
    have h1 : decide ((s.length : Int) > 4000) = true := decide_eq_true (by omega)
    unfold scanT
    rw [if_pos (by omega)]
    simp only [go_sem, ↓reduceIte, Nat.reduceEqDiff, Nat.reduceAdd, Nat.reduceLeDiff, Nat.reduceLT, reduceCtorEq, Tryz.f11, h1]
theorem scanAll1_den (s : List UInt8) : den E 63 [.str s] [] = some (scanT s, []) := by
  by_cases h : s.length < 1000000
  · exact scan1_den s h
  · rw [den_eq prim_63, body_63]
    have h1 : decide ((s.length : Int) > 4000) = true := decide_eq_true (by omega)
    unfold scanT
    rw [if_pos (by omega)]
    simp only [go_sem, ↓reduceIte, Nat.reduceEqDiff, Nat.reduceAdd, reduceCtorEq, Tryz.f63, h1]
def De.tot (d : De) : Nat := Ty.szs (d.cons.map Co.ty) + d.ty.sz + d.val.tot + d.cons.length + d.vars.length
def deepC (c : Co) : Bool := decide (c.ty.depth > 50)
def deepD (d : De) : Bool := d.cons.any deepC || (decide (d.ty.depth > 50) || (decide (d.val.depth > 50) || decide (d.val.tdep > 50)))
theorem tyDeep (t : Ty) : decide ((t.depth : Int) > 50) = decide (t.depth > 50) := by simp; omega
theorem natDeep (n : Nat) : decide ((n : Int) > 50) = decide (n > 50) := by simp; omega
theorem cons_get (l : List Co) (i : Nat) : (l.map coV)[i]? = (l[i]?).map coV := by simp
theorem cons_sz {l : List Co} {c : Co} (h : c ∈ l) : c.ty.sz ≤ Ty.szs (l.map Co.ty) := szs_mem (List.mem_map.2 ⟨c, h, rfl⟩)
theorem deepD_den (d : De) (hs : d.tot < 1000000) : den E 62 [.agg (deC d)] [] = some (.bool (deepD d), []) := by
  unfold De.tot at hs
  have e1 := tdepth_den _ d.ty (Nat.le_refl _) (by omega)
  have e2 := exdepth_den _ d.val (Nat.le_refl _) (by omega)
  have e3 := extdep_den _ d.val (Nat.le_refl _) (by omega)
  rw [tyV_eq] at e1
  rw [exC_eq] at e2 e3
  rw [den_eq prim_62, body_62]
  unfold deC
  simp only [go_sem, ↓reduceIte, Nat.reduceEqDiff, Nat.reduceAdd, Nat.reduceLT, reduceCtorEq, Tryz.f62, List.length_map]
  refine run_ind (fun i : Nat => i ≤ d.cons.length ∧ (d.cons.take i).any deepC = false) (fun i => ⟨[(1, .ptr (.loc 1) 0), (6, .slice (d.cons.map coV)), (7, .int .i64 d.cons.length), (8, .int .i64 i)], [], [(1, deC d)], 1⟩) (fun _ => some (.bool (deepD d), [])) (fun i => d.cons.length - i) 0 ⟨Nat.zero_le _, by simp⟩ ?_ ?_
  · simp only [go_sem, ↓reduceIte, Nat.reduceEqDiff, reduceCtorEq, Int.cast_ofNat_Int, deC]
  · rintro i ⟨hi, h0⟩ h
    by_cases hlt : i < d.cons.length
    · obtain ⟨x, hx⟩ : ∃ x, d.cons[i]? = some x := ⟨d.cons[i], List.getElem?_eq_getElem hlt⟩
      have hm := cons_sz (List.mem_of_getElem? hx)
      have hd := tdepth_den _ x.ty (Nat.le_refl _) (by omega)
      rw [tyV_eq] at hd
      have w1 : IntKind.i64.wrap ((i : Int) + 1) = ((i + 1 : Nat) : Int) := wrapN (i + 1) (by omega)
      obtain ⟨ya, yb⟩ := any_take hx h0
      have hdc : deepC x = decide (x.ty.depth > 50) := rfl
      cases hdx : decide (x.ty.depth > 50)
      · simp only [go_sem, ↓reduceIte, Nat.reduceEqDiff, Nat.reduceAdd, Nat.reduceLeDiff, Nat.reduceLT, reduceCtorEq, deC, natlt, decide_eq_true hlt, natge0, tonat, cons_get, hx, coV, hd, tyDeep, hdx]
        refine h (i + 1) _ ⟨hlt, yb (hdc.trans hdx)⟩ (by omega) ?_
        simp only [go_sem, ↓reduceIte, Nat.reduceEqDiff, deC, w1]
      · have : deepD d = true := by unfold deepD; rw [ya (hdc.trans hdx)]; rfl
        simp only [go_sem, ↓reduceIte, Nat.reduceEqDiff, Nat.reduceAdd, Nat.reduceLeDiff, Nat.reduceLT, reduceCtorEq, deC, natlt, decide_eq_true hlt, natge0, tonat, cons_get, hx, coV, hd, tyDeep, hdx, this]
    · have hie : i = d.cons.length := by omega
      subst hie
      rw [List.take_length] at h0
      have hD : deepD d = (decide (d.ty.depth > 50) || (decide (d.val.depth > 50) || decide (d.val.tdep > 50))) := by unfold deepD; rw [h0]; rfl
      rw [hD]
      cases q1 : decide (d.ty.depth > 50)
      · cases q2 : decide (d.val.depth > 50)
        · simp only [go_sem, ↓reduceIte, Nat.reduceEqDiff, Nat.reduceAdd, Nat.reduceLeDiff, Nat.reduceLT, reduceCtorEq, deC, natlt, Nat.lt_irrefl, e1, e2, e3, natDeep, q1, q2]
        · simp only [go_sem, ↓reduceIte, Nat.reduceEqDiff, Nat.reduceAdd, Nat.reduceLeDiff, Nat.reduceLT, reduceCtorEq, deC, natlt, Nat.lt_irrefl, e1, e2, natDeep, q1, q2]
      · simp only [go_sem, ↓reduceIte, Nat.reduceEqDiff, Nat.reduceAdd, Nat.reduceLeDiff, Nat.reduceLT, reduceCtorEq, deC, natlt, Nat.lt_irrefl, e1, natDeep, q1]
theorem rdeepD_den (d : De) (hs : d.tot < 1000000) : den E 66 [.agg (deC d)] [] = some (.bool (deepD d), []) := by
  unfold De.tot at hs
  have e1 := rdepth_den _ d.ty (Nat.le_refl _) (by omega)
  have e2 := rdepthx_den _ d.val (Nat.le_refl _) (by omega)
  have e3 := rdeepT_den _ d.val (Nat.le_refl _) (by omega)
  rw [tyV_eq] at e1
  rw [exC_eq] at e2 e3
  rw [den_eq prim_66, body_66]
  unfold deC
  simp only [go_sem, ↓reduceIte, Nat.reduceEqDiff, Nat.reduceAdd, reduceCtorEq, Tryz.f66]
  refine run_ind (fun i : Nat => i ≤ d.cons.length ∧ (d.cons.take i).any deepC = false) (fun i => ⟨[(1, .ptr (.loc 1) 0), (3, .int .i64 i)], [], [(1, deC d)], 1⟩) (fun _ => some (.bool (deepD d), [])) (fun i => d.cons.length - i) 0 ⟨Nat.zero_le _, by simp⟩ ?_ ?_
  · simp only [go_sem, ↓reduceIte, Nat.reduceEqDiff, reduceCtorEq, Int.cast_ofNat_Int, deC]
  · rintro i ⟨hi, h0⟩ h
    by_cases hlt : i < d.cons.length
    · obtain ⟨x, hx⟩ : ∃ x, d.cons[i]? = some x := ⟨d.cons[i], List.getElem?_eq_getElem hlt⟩
      have hm := cons_sz (List.mem_of_getElem? hx)
      have hd := rdepth_den _ x.ty (Nat.le_refl _) (by omega)
      rw [tyV_eq] at hd
      have w1 : IntKind.i64.wrap ((i : Int) + 1) = ((i + 1 : Nat) : Int) := wrapN (i + 1) (by omega)
      obtain ⟨ya, yb⟩ := any_take hx h0
      have hdc : deepC x = decide (x.ty.depth > 50) := rfl
      cases hdx : decide (x.ty.depth > 50)
      · simp only [go_sem, ↓reduceIte, Nat.reduceEqDiff, Nat.reduceAdd, Nat.reduceLeDiff, Nat.reduceLT, reduceCtorEq, deC, natlt, List.length_map, decide_eq_true hlt, natge0, tonat, cons_get, hx, coV, hd, tyDeep, hdx]
        refine h (i + 1) _ ⟨hlt, yb (hdc.trans hdx)⟩ (by omega) ?_
        simp only [go_sem, ↓reduceIte, Nat.reduceEqDiff, deC, w1]
      · have : deepD d = true := by unfold deepD; rw [ya (hdc.trans hdx)]; rfl
        simp only [go_sem, ↓reduceIte, Nat.reduceEqDiff, Nat.reduceAdd, Nat.reduceLeDiff, Nat.reduceLT, reduceCtorEq, deC, natlt, List.length_map, decide_eq_true hlt, natge0, tonat, cons_get, hx, coV, hd, tyDeep, hdx, this]
    · have hie : i = d.cons.length := by omega
      subst hie
      rw [List.take_length] at h0
      have hD : deepD d = (deepT d.val || (decide (d.ty.depth > 50) || decide (d.val.depth > 50))) := by
        unfold deepD deepT; rw [h0]
        cases decide (d.ty.depth > 50) <;> cases decide (d.val.depth > 50) <;> cases decide (d.val.tdep > 50) <;> rfl
      rw [hD]
      cases q0 : deepT d.val
      · rw [q0] at e3
        cases q1 : decide (d.ty.depth > 50)
        · simp only [go_sem, ↓reduceIte, Nat.reduceEqDiff, Nat.reduceAdd, Nat.reduceLeDiff, Nat.reduceLT, reduceCtorEq, deC, natlt, List.length_map, Nat.lt_irrefl, e1, e2, e3, natDeep, q1]
        · simp only [go_sem, ↓reduceIte, Nat.reduceEqDiff, Nat.reduceAdd, Nat.reduceLeDiff, Nat.reduceLT, reduceCtorEq, deC, natlt, List.length_map, Nat.lt_irrefl, e1, e3, natDeep, q1]
      · rw [q0] at e3
        simp only [go_sem, ↓reduceIte, Nat.reduceEqDiff, Nat.reduceAdd, Nat.reduceLeDiff, Nat.reduceLT, reduceCtorEq, deC, natlt, List.length_map, Nat.lt_irrefl, e3]
end Go.Proofs
namespace Go.Proofs
open Go.Av
set_option maxHeartbeats 16000000
set_option maxRecDepth 100000
def desR (f : Nat) : Nat → List De → Rd → Option (List De × Rd)
  | 0, _, _ => none
  | g + 1, acc, q => match deR f q with
    | none => none
    | some (d, r) => if seesR r 6 [59] then desR f g (acc ++ [d]) (takesR r 6 [59]) else some (acc ++ [d], r)
def desO (f : Nat) (l : List Tok) : Option (List De × Rd) := match l with
  | [] => some ([], ⟨[], false⟩)
  | t :: q => desR f f [] ⟨t :: q, false⟩
def endO (ds : List De) (r : Rd) : List De × Int := if r.bad || decide (0 < r.l.length) then ([], 80) else if ds.any deepD then ([], 3) else (ds, 0)
def parseO (f : Nat) (s : List UInt8) : Option (List De × Int) :=
  if (scanO s).2 != 0 then some ([], (scanO s).2) else match desO f (scanO s).1 with
    | none => none
    | some (ds, r) => some (endO ds r)
def deV (d : De) : AVal := .agg (deC d)
def parV (p : List De × Int) : AVal := .tup [.slice (p.1.map deV), .int .i64 p.2]
theorem des_get (l : List De) (i : Nat) : (l.map deV)[i]? = (l[i]?).map deV := by simp
theorem bne_not (a b : Int) : (a != b) = !(a == b) := rfl
theorem parse_den (f : Nat) (s : List UInt8) (p : List De × Int) (hok : ∀ t ∈ (scanO s).1, tokOK t) (hlen : (scanO s).1.length < 1000000)
    (htot : ∀ ds r, desO f (scanO s).1 = some (ds, r) → r.bad = false → ds.length < 1000000 ∧ ∀ d ∈ ds, d.tot < 1000000) (h : parseO f s = some p) : den E 42 [.str s] [] = some (parV p, []) := by
  rw [den_eq prim_42, body_42]
  obtain ⟨pos, hT⟩ := scanO_T s
  have hsc := scanAll_den s
  rw [hT] at hsc
  unfold parseO at h
  generalize (scanO s).1 = l at *
  generalize (scanO s).2 = e at *
  cases he : e == 0
  · have he' : (e != 0) = true := by rw [bne_not, he]; rfl
    rw [he', if_pos rfl] at h
    injection h with h; subst h
    simp only [go_sem, ↓reduceIte, Nat.reduceEqDiff, Nat.reduceAdd, reduceCtorEq, Tryz.f42, hsc, he', parV, List.map_nil]
  · have he' : (e != 0) = false := by rw [bne_not, he]; rfl
    rw [he'] at h
    simp only [Bool.false_eq_true, if_false] at h
    split at h
    · cases h
    · rename_i ds r hds
      injection h with h; subst h
      cases l with
      | nil =>
        simp only [desO, Option.some.injEq, Prod.mk.injEq] at hds
        obtain ⟨rfl, rfl⟩ := hds
        simp only [go_sem, ↓reduceIte, Nat.reduceEqDiff, Nat.reduceAdd, Nat.reduceLeDiff, Nat.reduceLT, reduceCtorEq, Int.cast_ofNat_Int, Tryz.f42, hsc, he', toksV_nil, show decide ((0 : Int) > 0) = false from rfl]
        refine run_for (fun i => ⟨[(8, .own 99 0 []), (50, .slice []), (51, .int .i64 0), (52, .int .i64 i)], [], [], 1⟩) 0 ?_ ?_ ?_
        · simp only [go_sem, ↓reduceIte, Nat.reduceEqDiff, reduceCtorEq, Int.cast_ofNat_Int]
        · intro i hi; omega
        · simp only [go_sem, ↓reduceIte, Nat.reduceEqDiff, Nat.reduceAdd, Int.reduceLT, Int.cast_ofNat_Int, endO, parV, List.map_nil, List.any_nil, Nat.lt_irrefl]
      | cons t0 q0 =>
        have hl0 : decide ((((toksV q0).length + 1 : Nat) : Int) > 0) = true := by simp
        simp only [desO] at hds htot
        generalize hL : t0 :: q0 = l at *
        have hokS : ∀ {q : List Tok}, q <:+ l → ∀ t ∈ q, tokOK t := fun hs t ht => hok t (hs.subset ht)
        have step : ∀ g, g ≤ f → ∀ acc q, q.l <:+ l → acc.length + q.l.length ≤ l.length + 1 → desR f g acc q = some (ds, r) → ∃ g' d r4, g' < g ∧ r4.l <:+ q.l ∧
            den E 61 [.ptr (.par 0) 0] [rdV q] = some (.agg (deC d), [rdV r4]) ∧ (if seesR r4 6 [59] then desR f g' (acc ++ [d]) (takesR r4 6 [59]) else some (acc ++ [d], r4)) = some (ds, r) := by
          intro g hg acc q hq hac h
          cases g with
          | zero => cases h
          | succ g =>
            simp only [desR] at h
            split at h
            · cases h
            · rename_i d r4 h4
              exact ⟨g, d, r4, Nat.lt_succ_self g, deR_suf h4, de_den f q d r4 (hokS hq) (Nat.lt_of_le_of_lt hq.length_le hlen) h4, h⟩
        obtain ⟨g0, d0, r0, hg0, hs0, e0, k0⟩ := step f (Nat.le_refl _) [] ⟨l, false⟩ (List.suffix_refl _) (by simp) hds
        have hVl : toksV l = tokV t0 :: toksV q0 := by rw [← hL, toksV_cons]; rfl
        simp only [rdV, hVl, tokV] at e0
        simp only [go_sem, ↓reduceIte, Nat.reduceEqDiff, Nat.reduceAdd, Nat.reduceMul, Nat.reduceLeDiff, Nat.reduceLT, reduceCtorEq, Tryz.f42, hsc, he', hVl, tokV, List.length_cons, hl0, e0, deC]
        refine run_ind (fun x : Nat × List De × Rd => x.1 ≤ f ∧ x.2.2.l <:+ l ∧ x.2.1.length + x.2.2.l.length ≤ l.length + 1 ∧ (if seesR x.2.2 6 [59] then desR f x.1 x.2.1 (takesR x.2.2 6 [59]) else some (x.2.1, x.2.2)) = some (ds, r))
          (fun x => ⟨[(7, .ptr (.loc 22) 0), (8, .own 99 0 (x.2.1.map deV))], [], [(22, rdV x.2.2)], 1⟩) (fun _ => some (parV (endO ds r), [])) (fun x => x.1) (g0, [d0], r0) ⟨by omega, hs0, ?_, k0⟩ ?_ ?_
        · have := hs0.length_le; simp only [List.length_singleton] at this ⊢; omega
        · simp only [go_sem, ↓reduceIte, Nat.reduceEqDiff, reduceCtorEq, rdV, deV, deC]
        · rintro ⟨g, acc, q⟩ ⟨hg, hq, hle, hx⟩ hrun
          simp only at hg hq hle hx hrun ⊢
          have b1 := rtakes_den q 6 [59]
          cases h1 : seesR q 6 [59]
          · rw [h1] at hx b1
            simp only [Bool.false_eq_true, if_false] at hx
            injection hx with hx; injection hx with hx1 hx2; subst hx1; subst hx2
            have hk : takesR q 6 [59] = q := by unfold takesR; rw [h1]; rfl
            rw [hk] at b1
            unfold endO
            simp only [rdV] at b1 ⊢
            cases hb : q.bad
            · have hgt : decide (((toksV q.l).length : Int) > 0) = decide (0 < q.l.length) := by rw [toksV_len]; simp
              cases hn : decide (0 < q.l.length)
              · obtain ⟨hdl, hdt⟩ := htot _ _ hds hb
                rw [hb] at b1
                simp only [go_sem, ↓reduceIte, Nat.reduceEqDiff, Nat.reduceAdd, Nat.reduceLT, b1, hgt, hn, List.length_map]
                refine run_ind (fun i : Nat => i ≤ acc.length ∧ (acc.take i).any deepD = false) (fun i => ⟨[(8, .own 99 0 (acc.map deV)), (50, .slice (acc.map deV)), (51, .int .i64 acc.length), (52, .int .i64 i)], [], [], 1⟩)
                  (fun _ => some (parV (if acc.any deepD then ([], 3) else (acc, 0)), [])) (fun i => acc.length - i) 0 ⟨Nat.zero_le _, by simp⟩ ?_ ?_
                · simp only [go_sem, ↓reduceIte, Nat.reduceEqDiff, Int.cast_ofNat_Int]
                · rintro i ⟨hi, h0⟩ h
                  by_cases hlt : i < acc.length
                  · obtain ⟨x, hx⟩ : ∃ x, acc[i]? = some x := ⟨acc[i], List.getElem?_eq_getElem hlt⟩
                    have hd := deepD_den x (hdt x (List.mem_of_getElem? hx))
                    have w1 : IntKind.i64.wrap ((i : Int) + 1) = ((i + 1 : Nat) : Int) := wrapN (i + 1) (by omega)
                    obtain ⟨ya, yb⟩ := any_take hx h0
                    rw [deC] at hd
                    cases hdx : deepD x
                    · rw [hdx] at hd
                      simp only [go_sem, ↓reduceIte, Nat.reduceEqDiff, Nat.reduceAdd, Nat.reduceLeDiff, Nat.reduceLT, natlt, decide_eq_true hlt, natge0, tonat, des_get, hx, deV, deC, hd]
                      refine h (i + 1) _ ⟨hlt, yb hdx⟩ (by omega) ?_
                      simp only [go_sem, ↓reduceIte, Nat.reduceEqDiff, w1]
                    · rw [hdx] at hd
                      simp only [go_sem, ↓reduceIte, Nat.reduceEqDiff, Nat.reduceAdd, Nat.reduceLeDiff, Nat.reduceLT, natlt, decide_eq_true hlt, natge0, tonat, des_get, hx, deV, deC, hd, ya hdx, parV, List.map_nil]
                  · have hie : i = acc.length := by omega
                    subst hie
                    rw [List.take_length] at h0
                    simp only [go_sem, ↓reduceIte, Nat.reduceEqDiff, Nat.reduceAdd, natlt, Nat.lt_irrefl, h0, parV]
              · rw [hb] at b1
                simp only [go_sem, ↓reduceIte, Nat.reduceEqDiff, Nat.reduceAdd, Nat.reduceLT, b1, hgt, hn, parV, List.map_nil]
            · rw [hb] at b1
              simp only [go_sem, ↓reduceIte, Nat.reduceEqDiff, Nat.reduceAdd, Nat.reduceLT, b1, parV, List.map_nil]
          · rw [h1] at hx b1
            simp only [if_true] at hx
            obtain ⟨hb, t, w, hw⟩ := seesR_cons h1
            have hk : (takesR q 6 [59]).l.length + 1 = q.l.length := by unfold takesR; rw [h1, if_pos rfl, hw]; simp
            have hsq := takesR_suf q 6 [59]
            obtain ⟨g', d, r', hg', hs', d', e'⟩ := step g (by omega) acc _ (hsq.trans hq) (by omega) hx
            have hap : (acc.map deV).length + 1 ≤ appMax := by rw [List.length_map]; unfold appMax; omega
            have hmap : acc.map deV ++ [.agg (deC d)] = (acc ++ [d]).map deV := by rw [List.map_append]; rfl
            rw [deC] at hmap d'
            simp only [rdV] at b1 d' ⊢
            simp only [go_sem, ↓reduceIte, Nat.reduceEqDiff, Nat.reduceAdd, Nat.reduceMul, Nat.reduceLeDiff, Nat.reduceLT, b1, d', hap, hmap]
            refine hrun (g', acc ++ [d], r') _ ⟨by omega, hs'.trans (hsq.trans hq), ?_, e'⟩ hg' ?_
            · have := hs'.length_le; simp only [List.length_append, List.length_singleton]; omega
            · simp only [go_sem, ↓reduceIte, Nat.reduceEqDiff, rdV]
end Go.Proofs
