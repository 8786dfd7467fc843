/- The readers and writers of coercions and terms as Lean functions: bounded, total. -/
import Derived.Test.YtjfghnkmladbkaaGreatDoorAvI
namespace Go.Proofs
open Go.Av
set_option maxHeartbeats 16000000
set_option maxRecDepth 100000
/-! coercions -/
inductive Cx where
 | mk (kind : Int) (name : List UInt8) (n : Int) (ty : Ty) (kids : List Cx)
def Cx.kind : Cx → Int | .mk k _ _ _ _ => k
def Cx.name : Cx → List UInt8 | .mk _ s _ _ _ => s
def Cx.n : Cx → Int | .mk _ _ n _ _ => n
def Cx.ty : Cx → Ty | .mk _ _ _ t _ => t
def Cx.kids : Cx → List Cx | .mk _ _ _ _ l => l
mutual
def cxC : Cx → List AVal
 | .mk k s n t ks => [.int .i64 k, .str s, .int .i64 n, .int .i64 t.kind, .str t.name, .int .i64 t.n, .slice (tysV t.args), .slice (cxsV ks)]
def cxsV : List Cx → List AVal
 | [] => []
 | e :: r => .agg (cxC e) :: cxsV r
end
theorem cxC_eq (e : Cx) : cxC e = [.int .i64 e.kind, .str e.name, .int .i64 e.n, .int .i64 e.ty.kind, .str e.ty.name, .int .i64 e.ty.n, .slice (tysV e.ty.args), .slice (cxsV e.kids)] := by
 cases e; simp [cxC, Cx.kind, Cx.name, Cx.n, Cx.ty, Cx.kids]
theorem cxC_mk (k : Int) (s : List UInt8) (n : Int) (t : Ty) (ks : List Cx) : cxC (.mk k s n t ks) = [.int .i64 k, .str s, .int .i64 n, .int .i64 t.kind, .str t.name, .int .i64 t.n, .slice (tysV t.args), .slice (cxsV ks)] := by simp [cxC]
theorem cxmk (k : Int) (s : List UInt8) (n : Int) (t : Ty) (ks : List Cx) : (Cx.mk k s n t ks).kind = k ∧ (Cx.mk k s n t ks).name = s ∧ (Cx.mk k s n t ks).n = n ∧ (Cx.mk k s n t ks).ty = t ∧ (Cx.mk k s n t ks).kids = ks := ⟨rfl, rfl, rfl, rfl, rfl⟩
theorem cxsV_nil : cxsV [] = [] := by simp [cxsV]
theorem cxsV_cons (e : Cx) (r : List Cx) : cxsV (e :: r) = .agg (cxC e) :: cxsV r := by simp [cxsV]
theorem cxsV_map (l : List Cx) : cxsV l = l.map fun e => .agg (cxC e) := by induction l <;> simp_all [cxsV]
theorem cxsV_len (l : List Cx) : (cxsV l).length = l.length := by simp [cxsV_map]
theorem cxsV_get (l : List Cx) (i : Nat) : (cxsV l)[i]? = (l[i]?).map fun e => .agg (cxC e) := by simp [cxsV_map]
theorem cxsV_append (a b : List Cx) : cxsV (a ++ b) = cxsV a ++ cxsV b := by simp [cxsV_map]
def zCx : Cx := .mk 0 [] 0 zTy []
/-- the coercions' reader: it takes a token, whatever was wrong before -/
def nextW (r : Rd) (k : Int) (s : List UInt8) : List UInt8 := if seesT r.l k s then textT r.l else []
def nextR (r : Rd) (k : Int) (s : List UInt8) : Rd := if seesT r.l k s then ⟨r.l.tail, r.bad⟩ else ⟨r.l, true⟩
theorem nextR_suf (r : Rd) (k : Int) (s : List UInt8) : (nextR r k s).l <:+ r.l := by
 unfold nextR; split
 · exact tail_suf _
 · exact List.suffix_refl _
/-- a type between < and > -/
def typK (f : Nat) (r : Rd) : Option (Ty × Rd) := match tyR f .typ (nextR r 6 [60]).l with
 | none => none
 | some (t, ok, l') => if ok then some (t, nextR ⟨l', (nextR r 6 [60]).bad⟩ 6 [62]) else some (zTy, ⟨(nextR r 6 [60]).l, true⟩)
def kindC (s : List UInt8) : Int :=
 if s == [83, 121, 109] then 3 else if s == [84, 114, 97, 110, 115] then 4 else if s == [67, 111, 110] then 5 else if s == [70, 117, 110] then 6
 else if s == [65, 108, 108] then 7 else if s == [78, 116, 104] then 8 else if s == [73, 110, 115, 116] then 9 else 0
inductive KM where
 | co
 | con (acc : List Cx)
 | kids (n : Nat) (acc : List Cx)
def numC (s : List UInt8) : Int := (Lib.atoi s).getD 0
/-- what a rule has beside its kids, and where they begin -/
def headC (k : Int) (r : Rd) : List UInt8 × Int × Rd :=
 if k == 5 then (nextW r 2 [], 0, nextR r 2 []) else if k == 7 then (nextW r 1 [], 0, nextR r 1 []) else if k == 8 then ([], numC (nextW r 4 []), nextR r 4 []) else ([], 0, r)
def cxR : Nat → KM → Rd → Option (Cx × Rd)
 | 0, _, _ => none
 | f + 1, m, r => match m with
  | .co => if r.bad then some (zCx, r) else if seesT r.l 6 [60] then (match typK f r with
   | none => none
   | some (t, r') => some (.mk 2 [] 0 t [], r'))
   else if seesT r.l 6 [40] then (
    if kindC (nextW (nextR r 6 [40]) 2 []) == 0 then some (zCx, nextR ⟨(nextR (nextR r 6 [40]) 2 []).l, true⟩ 6 [41])
    else match cxR f (if kindC (nextW (nextR r 6 [40]) 2 []) == 5 then .con [] else .kids (if kindC (nextW (nextR r 6 [40]) 2 []) == 4 || kindC (nextW (nextR r 6 [40]) 2 []) == 6 then 2 else 1) [])
     (headC (kindC (nextW (nextR r 6 [40]) 2 [])) (nextR (nextR r 6 [40]) 2 [])).2.2 with
     | none => none
     | some (x, r4) => if kindC (nextW (nextR r 6 [40]) 2 []) == 9 && !r4.bad then (match typK f r4 with
      | none => none
      | some (t, r5) => some (.mk (kindC (nextW (nextR r 6 [40]) 2 [])) [] 0 t x.kids, nextR r5 6 [41]))
      else some (.mk (kindC (nextW (nextR r 6 [40]) 2 [])) (headC (kindC (nextW (nextR r 6 [40]) 2 [])) (nextR (nextR r 6 [40]) 2 [])).1 (headC (kindC (nextW (nextR r 6 [40]) 2 [])) (nextR (nextR r 6 [40]) 2 [])).2.1 zTy x.kids, nextR r4 6 [41]))
   else some (.mk 1 (nextW r 1 []) 0 zTy [], nextR r 1 [])
  | .con acc => if !r.bad && (decide (0 < r.l.length) && !seesT r.l 6 [41]) then (match cxR f .co r with
   | none => none
   | some (x, r') => cxR f (.con (acc ++ [x])) r') else some (.mk 0 [] 0 zTy acc, r)
  | .kids n acc => match n with
   | 0 => some (.mk 0 [] 0 zTy acc, r)
   | n + 1 => if r.bad then some (.mk 0 [] 0 zTy acc, r) else match cxR f .co r with
    | none => none
    | some (x, r') => cxR f (.kids n (acc ++ [x])) r'
/-- what the program's Read hands back -/
def coR2 (f : Nat) (r : Rd) : Option (Cx × Rd) := if r.bad then some (zCx, r) else match cxR f .co r with
 | none => none
 | some (x, r') => if r'.bad then some (zCx, ⟨[], true⟩) else some (x, r')
end Go.Proofs
namespace Go.Proofs
open Go.Av
set_option maxHeartbeats 16000000
set_option maxRecDepth 100000
/-! terms -/
mutual
inductive Tm where
 | mk (kind : Int) (name : List UInt8) (ty : Ty) (co : Cx) (kids : List Tm) (alts : List Ta)
inductive Ta where
 | mk (con : List UInt8) (types : List (List UInt8)) (cos : List (List UInt8)) (vars : List (List UInt8)) (body : Tm)
end
def Tm.kind : Tm → Int | .mk k _ _ _ _ _ => k
def Tm.name : Tm → List UInt8 | .mk _ s _ _ _ _ => s
def Tm.ty : Tm → Ty | .mk _ _ t _ _ _ => t
def Tm.co : Tm → Cx | .mk _ _ _ c _ _ => c
def Tm.kids : Tm → List Tm | .mk _ _ _ _ l _ => l
def Tm.alts : Tm → List Ta | .mk _ _ _ _ _ l => l
def Ta.con : Ta → List UInt8 | .mk c _ _ _ _ => c
def Ta.types : Ta → List (List UInt8) | .mk _ v _ _ _ => v
def Ta.cos : Ta → List (List UInt8) | .mk _ _ v _ _ => v
def Ta.vars : Ta → List (List UInt8) | .mk _ _ _ v _ => v
def Ta.body : Ta → Tm | .mk _ _ _ _ e => e
mutual
def tmC : Tm → List AVal
 | .mk k s t c ks al => .int .i64 k :: .str s :: .int .i64 t.kind :: .str t.name :: .int .i64 t.n :: .slice (tysV t.args) :: (cxC c ++ [.slice (tmsV ks), .slice (tasV al)])
def tmsV : List Tm → List AVal
 | [] => []
 | e :: r => .agg (tmC e) :: tmsV r
def taV : Ta → AVal
 | .mk c ts cs vs e => .agg (.str c :: .slice (ts.map .str) :: .slice (cs.map .str) :: .slice (vs.map .str) :: tmC e)
def tasV : List Ta → List AVal
 | [] => []
 | a :: r => taV a :: tasV r
end
theorem tmC_eq (e : Tm) : tmC e = [.int .i64 e.kind, .str e.name, .int .i64 e.ty.kind, .str e.ty.name, .int .i64 e.ty.n, .slice (tysV e.ty.args), .int .i64 e.co.kind, .str e.co.name, .int .i64 e.co.n, .int .i64 e.co.ty.kind, .str e.co.ty.name, .int .i64 e.co.ty.n, .slice (tysV e.co.ty.args), .slice (cxsV e.co.kids), .slice (tmsV e.kids), .slice (tasV e.alts)] := by
 cases e; simp [tmC, cxC_eq, Tm.kind, Tm.name, Tm.ty, Tm.co, Tm.kids, Tm.alts]
theorem tmC_mk (k : Int) (s : List UInt8) (t : Ty) (c : Cx) (ks : List Tm) (al : List Ta) : tmC (.mk k s t c ks al) = [.int .i64 k, .str s, .int .i64 t.kind, .str t.name, .int .i64 t.n, .slice (tysV t.args), .int .i64 c.kind, .str c.name, .int .i64 c.n, .int .i64 c.ty.kind, .str c.ty.name, .int .i64 c.ty.n, .slice (tysV c.ty.args), .slice (cxsV c.kids), .slice (tmsV ks), .slice (tasV al)] := by
 rw [tmC_eq]; rfl
theorem tmk (k : Int) (s : List UInt8) (t : Ty) (c : Cx) (ks : List Tm) (al : List Ta) : (Tm.mk k s t c ks al).kind = k ∧ (Tm.mk k s t c ks al).name = s ∧ (Tm.mk k s t c ks al).ty = t ∧ (Tm.mk k s t c ks al).co = c ∧ (Tm.mk k s t c ks al).kids = ks ∧ (Tm.mk k s t c ks al).alts = al := ⟨rfl, rfl, rfl, rfl, rfl, rfl⟩
theorem tmsV_nil : tmsV [] = [] := by simp [tmsV]
theorem tmsV_cons (e : Tm) (r : List Tm) : tmsV (e :: r) = .agg (tmC e) :: tmsV r := by simp [tmsV]
theorem tmsV_map (l : List Tm) : tmsV l = l.map fun e => .agg (tmC e) := by induction l <;> simp_all [tmsV]
theorem tmsV_len (l : List Tm) : (tmsV l).length = l.length := by simp [tmsV_map]
theorem tmsV_get (l : List Tm) (i : Nat) : (tmsV l)[i]? = (l[i]?).map fun e => .agg (tmC e) := by simp [tmsV_map]
theorem tasV_nil : tasV [] = [] := by simp [tasV]
theorem tasV_cons (e : Ta) (r : List Ta) : tasV (e :: r) = taV e :: tasV r := by simp [tasV]
theorem tasV_map (l : List Ta) : tasV l = l.map taV := by induction l <;> simp_all [tasV]
theorem tasV_len (l : List Ta) : (tasV l).length = l.length := by simp [tasV_map]
theorem tasV_get (l : List Ta) (i : Nat) : (tasV l)[i]? = (l[i]?).map taV := by simp [tasV_map]
theorem tasV_append (a b : List Ta) : tasV (a ++ b) = tasV a ++ tasV b := by simp [tasV_map]
theorem taV_eq (a : Ta) : taV a = .agg (.str a.con :: .slice (a.types.map .str) :: .slice (a.cos.map .str) :: .slice (a.vars.map .str) :: tmC a.body) := by cases a; simp [taV, Ta.con, Ta.types, Ta.cos, Ta.vars, Ta.body]
def zTm : Tm := .mk 0 [] zTy zCx [] []
/-- names behind a sign -/
def marksR : Nat → List UInt8 → List (List UInt8) → Rd → List (List UInt8) × Rd
 | 0, _, acc, r => (acc, r)
 | f + 1, s, acc, r => if seesR r 6 s then marksR f s (acc ++ [wordR (takesR r 6 s) 1 []]) (takeR (takesR r 6 s) 1 []) else (acc, r)
def marks (s : List UInt8) (r : Rd) : List (List UInt8) × Rd := marksR r.l.length s [] r
/-- what an alternative binds, and what stands behind it -/
def altA (r : Rd) : List (List UInt8) × List (List UInt8) × List (List UInt8) × Rd :=
 ((marks [64] (takeR r 2 [])).1, (marks [126] (marks [64] (takeR r 2 [])).2).1, namesR (marks [126] (marks [64] (takeR r 2 [])).2).2, behindR (marks [126] (marks [64] (takeR r 2 [])).2).2)
/-- a name, a colon, a type -/
def nameR (f : Nat) (r : Rd) : Option (Ty × Rd) := typR f (takeR (takeR r 1 []) 6 [58])
inductive TrM where
 | term
 | form
 | alts (acc : List Ta)
def trR : Nat → TrM → Rd → Option (Tm × Rd)
 | 0, _, _ => none
 | f + 1, m, r => match m with
  | .term => if seesR r 1 [] then some (.mk 1 (wordR r 1 []) zTy zCx [] [], takeR r 1 [])
   else if seesR r 2 [] then some (.mk 2 (wordR r 2 []) zTy zCx [] [], takeR r 2 [])
   else if (takeR r 6 [40]).bad then some (zTm, takeR r 6 [40])
   else match trR f .form (takeR r 6 [40]) with
    | none => none
    | some (t, r2) => some (t, takeR r2 6 [41])
  | .form => if seesR r 6 [92] then (match nameR f (takesR r 6 [92]) with
   | none => none
   | some (t, r3) => match trR f .term (takeR r3 6 [46]) with
    | none => none
    | some (x, r5) => some (.mk 3 (wordR (takesR r 6 [92]) 1 []) t zCx [x] [], r5))
   else if seesR r 6 [33] then (match trR f .term (takeR (takeR (takesR r 6 [33]) 1 []) 6 [46]) with
    | none => none
    | some (x, r5) => some (.mk 4 (wordR (takesR r 6 [33]) 1 []) zTy zCx [x] [], r5))
   else if seesR r 3 [108, 101, 116] then (match nameR f (takeR r 3 [108, 101, 116]) with
    | none => none
    | some (t, r3) => match trR f .term (takeR r3 6 [61]) with
     | none => none
     | some (x, r5) => match trR f .term (takeR r5 3 [105, 110]) with
      | none => none
      | some (y, r7) => some (.mk 8 (wordR (takeR r 3 [108, 101, 116]) 1 []) t zCx [x, y] [], r7))
   else if seesR r 3 [99, 97, 115, 101] then (match trR f .term (takeR r 3 [99, 97, 115, 101]) with
    | none => none
    | some (x, r1) => match typR f (takeR r1 6 [58]) with
     | none => none
     | some (t, r3) => if seesR (takeR (takeR r3 3 [111, 102]) 6 [123]) 6 [125] then some (.mk 9 [] t zCx [x] [], takesR (takeR (takeR r3 3 [111, 102]) 6 [123]) 6 [125])
      else match trR f (.alts []) (takeR (takeR r3 3 [111, 102]) 6 [123]) with
       | none => none
       | some (y, r6) => some (.mk 9 [] t zCx [x] y.alts, takeR r6 6 [125]))
   else match trR f .term r with
    | none => none
    | some (x, r1) => if seesR r1 6 [64] then (match typR f (takesR r1 6 [64]) with
     | none => none
     | some (t, r3) => some (.mk 6 [] t zCx [x] [], r3))
     else if seesR r1 6 [126] then (match coR2 f (takesR r1 6 [126]) with
      | none => none
      | some (c, r3) => some (.mk 7 [] zTy c [x] [], r3))
     else if seesR r1 6 [124, 62] then (match coR2 f (takesR r1 6 [124, 62]) with
      | none => none
      | some (c, r3) => some (.mk 10 [] zTy c [x] [], r3))
     else match trR f .term r1 with
      | none => none
      | some (y, r2) => some (.mk 5 [] zTy zCx [x, y] [], r2)
  | .alts acc => match trR f .term (takeR (altA r).2.2.2 6 [45, 62]) with
   | none => none
   | some (b, r4) => if seesR r4 6 [59] then trR f (.alts (acc ++ [.mk (wordR r 2 []) (altA r).1 (altA r).2.1 (altA r).2.2.1 b])) (takesR r4 6 [59])
    else some (.mk 0 [] zTy zCx [] (acc ++ [.mk (wordR r 2 []) (altA r).1 (altA r).2.1 (altA r).2.2.1 b]), r4)
/-! what is left of the tokens -/
theorem marksR_suf : ∀ (f : Nat) (s : List UInt8) (acc : List (List UInt8)) (r : Rd), (marksR f s acc r).2.l <:+ r.l
 | 0, _, _, _ => List.suffix_refl _
 | f + 1, s, acc, r => by
  simp only [marksR]; split
  · exact (marksR_suf f _ _ _).trans ((takeR_suf _ _ _).trans (takesR_suf _ _ _))
  · exact List.suffix_refl _
theorem altA_suf (r : Rd) : (altA r).2.2.2.l <:+ r.l := (behindR_suf _).trans ((marksR_suf _ _ _ _).trans ((marksR_suf _ _ _ _).trans (takeR_suf _ _ _)))
theorem typK_suf {f : Nat} {r : Rd} {t : Ty} {r' : Rd} (h : typK f r = some (t, r')) : r'.l <:+ r.l := by
 unfold typK at h
 split at h
 · cases h
 · rename_i t1 ok l1 h1
   have s1 := (tyR_suf _ _ _ _ _ _ h1).trans (nextR_suf _ _ _)
   split at h
   · injection h with h; injection h with _ h; subst h; exact (nextR_suf _ _ _).trans s1
   · injection h with h; injection h with _ h; subst h; exact nextR_suf _ _ _
theorem headC_suf (k : Int) (r : Rd) : (headC k r).2.2.l <:+ r.l := by
 unfold headC
 split
 · exact nextR_suf _ _ _
 · split
   · exact nextR_suf _ _ _
   · split
     · exact nextR_suf _ _ _
     · exact List.suffix_refl _
theorem cxR_suf : ∀ (f : Nat) (m : KM) (r : Rd) (x : Cx) (r' : Rd), cxR f m r = some (x, r') → r'.l <:+ r.l := by
 intro f
 induction f with
 | zero => intro m r x r' h; cases h
 | succ f ih =>
  intro m r x r' h
  have fin : ∀ {a b : Cx} {p q : Rd}, some (a, p) = some (b, q) → p.l <:+ r.l → q.l <:+ r.l := fun h1 h2 => by
   injection h1 with h1; injection h1 with _ h1; subst h1; exact h2
  cases m with
  | co =>
   simp only [cxR] at h
   split at h
   · exact fin h (List.suffix_refl _)
   · split at h
     · split at h
       · cases h
       · rename_i t r1 h1; exact fin h (typK_suf h1)
     · split at h
       · split at h
         · exact fin h ((nextR_suf _ _ _).trans ((nextR_suf _ _ _).trans (nextR_suf _ _ _)))
         · split at h
           · cases h
           · rename_i x1 r4 h1
             have s4 := (ih _ _ _ _ h1).trans ((headC_suf _ _).trans ((nextR_suf _ _ _).trans (nextR_suf _ _ _)))
             split at h
             · split at h
               · cases h
               · rename_i t r5 h5
                 exact fin h ((nextR_suf _ _ _).trans ((typK_suf h5).trans s4))
             · exact fin h ((nextR_suf _ _ _).trans s4)
       · exact fin h (nextR_suf _ _ _)
  | con acc =>
   simp only [cxR] at h
   split at h
   · split at h
     · cases h
     · rename_i x1 r1 h1
       exact (ih _ _ _ _ h).trans (ih _ _ _ _ h1)
   · exact fin h (List.suffix_refl _)
  | kids n acc =>
   cases n with
   | zero => simp only [cxR] at h; exact fin h (List.suffix_refl _)
   | succ n =>
    simp only [cxR] at h
    split at h
    · exact fin h (List.suffix_refl _)
    · split at h
      · cases h
      · rename_i x1 r1 h1
        exact (ih _ _ _ _ h).trans (ih _ _ _ _ h1)
theorem coR2_suf {f : Nat} {r : Rd} {c : Cx} {r' : Rd} (h : coR2 f r = some (c, r')) : r'.l <:+ r.l := by
 unfold coR2 at h
 split at h
 · injection h with h; injection h with _ h; subst h; exact List.suffix_refl _
 · split at h
   · cases h
   · rename_i x r1 h1
     split at h
     · injection h with h; injection h with _ h; subst h; exact List.nil_suffix
     · injection h with h; injection h with _ h; subst h; exact cxR_suf _ _ _ _ _ h1
theorem nameR_suf {f : Nat} {r : Rd} {t : Ty} {r' : Rd} (h : nameR f r = some (t, r')) : r'.l <:+ r.l := (typR_suf h).trans ((takeR_suf _ _ _).trans (takeR_suf _ _ _))
theorem trR_suf : ∀ (f : Nat) (m : TrM) (r : Rd) (x : Tm) (r' : Rd), trR f m r = some (x, r') → r'.l <:+ r.l := by
 intro f
 induction f with
 | zero => intro m r x r' h; cases h
 | succ f ih =>
  intro m r x r' h
  have fin : ∀ {a b : Tm} {p q : Rd}, some (a, p) = some (b, q) → p.l <:+ r.l → q.l <:+ r.l := fun h1 h2 => by
   injection h1 with h1; injection h1 with _ h1; subst h1; exact h2
  cases m with
  | term =>
   simp only [trR] at h
   split at h
   · exact fin h (takeR_suf _ _ _)
   · split at h
     · exact fin h (takeR_suf _ _ _)
     · split at h
       · exact fin h (takeR_suf _ _ _)
       · split at h
         · cases h
         · rename_i t r2 h2
           exact fin h ((takeR_suf _ _ _).trans ((ih _ _ _ _ h2).trans (takeR_suf _ _ _)))
  | form =>
   simp only [trR] at h
   split at h
   · split at h
     · cases h
     · rename_i t r3 h3
       split at h
       · cases h
       · rename_i x1 r5 h5
         exact fin h ((ih _ _ _ _ h5).trans ((takeR_suf _ _ _).trans ((nameR_suf h3).trans (takesR_suf _ _ _))))
   · split at h
     · split at h
       · cases h
       · rename_i x1 r5 h5
         exact fin h ((ih _ _ _ _ h5).trans ((takeR_suf _ _ _).trans ((takeR_suf _ _ _).trans (takesR_suf _ _ _))))
     · split at h
       · split at h
         · cases h
         · rename_i t r3 h3
           split at h
           · cases h
           · rename_i x1 r5 h5
             have s5 := (ih _ _ _ _ h5).trans ((takeR_suf _ _ _).trans ((nameR_suf h3).trans (takeR_suf _ _ _)))
             split at h
             · cases h
             · rename_i y r7 h7
               exact fin h ((ih _ _ _ _ h7).trans ((takeR_suf _ _ _).trans s5))
       · split at h
         · split at h
           · cases h
           · rename_i x1 r1 h1
             have s1 := (ih _ _ _ _ h1).trans (takeR_suf _ _ _)
             split at h
             · cases h
             · rename_i t r3 h3
               have s3 := (typR_suf h3).trans ((takeR_suf _ _ _).trans s1)
               have s5 := (takeR_suf (takeR r3 3 [111, 102]) 6 [123]).trans ((takeR_suf r3 3 [111, 102]).trans s3)
               split at h
               · exact fin h ((takesR_suf _ _ _).trans s5)
               · split at h
                 · cases h
                 · rename_i y r6 h6
                   exact fin h ((takeR_suf _ _ _).trans ((ih _ _ _ _ h6).trans s5))
         · split at h
           · cases h
           · rename_i x1 r1 h1
             have s1 := ih _ _ _ _ h1
             split at h
             · split at h
               · cases h
               · rename_i t r3 h3
                 exact fin h ((typR_suf h3).trans ((takesR_suf _ _ _).trans s1))
             · split at h
               · split at h
                 · cases h
                 · rename_i t r3 h3
                   exact fin h ((coR2_suf h3).trans ((takesR_suf _ _ _).trans s1))
               · split at h
                 · split at h
                   · cases h
                   · rename_i t r3 h3
                     exact fin h ((coR2_suf h3).trans ((takesR_suf _ _ _).trans s1))
                 · split at h
                   · cases h
                   · rename_i y r2 h2
                     exact fin h ((ih _ _ _ _ h2).trans s1)
  | alts acc =>
   simp only [trR] at h
   split at h
   · cases h
   · rename_i b r4 h4
     have s4 := (ih _ _ _ _ h4).trans ((takeR_suf _ _ _).trans (altA_suf _))
     split at h
     · exact (ih _ _ _ _ h).trans ((takesR_suf _ _ _).trans s4)
     · exact fin h s4
end Go.Proofs
namespace Go.Proofs
open Go.Av
set_option maxHeartbeats 4000000
set_option maxRecDepth 100000
/-! the coercions that are read -/
inductive GC : Cx → Prop
 | var (s : List UInt8) : s.length ≤ 16 → GC (.mk 1 s 0 zTy [])
 | refl (t : Ty) : GT t → GC (.mk 2 [] 0 t [])
 | sym (x : Cx) : GC x → GC (.mk 3 [] 0 zTy [x])
 | trans (x y : Cx) : GC x → GC y → GC (.mk 4 [] 0 zTy [x, y])
 | con (s : List UInt8) (l : List Cx) : s.length ≤ 16 → (∀ x, x ∈ l → GC x) → GC (.mk 5 s 0 zTy l)
 | fn (x y : Cx) : GC x → GC y → GC (.mk 6 [] 0 zTy [x, y])
 | all (s : List UInt8) (x : Cx) : s.length ≤ 16 → GC x → GC (.mk 7 s 0 zTy [x])
 | nth (n : Int) (x : Cx) : 0 ≤ n → n < 1000000 → GC x → GC (.mk 8 [] n zTy [x])
 | inst (x : Cx) (t : Ty) : GC x → GT t → GC (.mk 9 [] 0 t [x])
mutual
def Cx.tot : Cx → Nat
 | .mk _ _ _ t ks => t.sz + Cx.tots ks
def Cx.tots : List Cx → Nat
 | [] => 0
 | e :: r => Cx.tot e + Cx.tots r
end
theorem cx_tot_mk (k : Int) (s : List UInt8) (n : Int) (t : Ty) (ks : List Cx) : (Cx.mk k s n t ks).tot = t.sz + Cx.tots ks := by simp [Cx.tot]
theorem cx_tots_nil : Cx.tots [] = 0 := by simp [Cx.tots]
theorem cx_tots_one (x : Cx) : Cx.tots [x] = x.tot := by simp [Cx.tots]
theorem cx_tots_two (x y : Cx) : Cx.tots [x, y] = x.tot + y.tot := by simp [Cx.tots]
theorem cx_tots_snoc (l : List Cx) (x : Cx) : Cx.tots (l ++ [x]) = Cx.tots l + x.tot := by
 induction l with
 | nil => simp [Cx.tots]
 | cons y l ih => simp only [List.cons_append, Cx.tots, ih]; omega
theorem cx_tot_pos (x : Cx) : 1 ≤ x.tot := by cases x with | mk k s n t ks => rw [cx_tot_mk]; have := sz_pos t; omega
theorem cx_tots_mem {l : List Cx} {x : Cx} (h : x ∈ l) : x.tot ≤ Cx.tots l := by
 induction l with
 | nil => cases h
 | cons y l ih =>
  simp only [Cx.tots]
  rcases List.mem_cons.1 h with rfl | h
  · omega
  · have := ih h; omega
theorem cx_tots_len (l : List Cx) : l.length ≤ Cx.tots l := by
 induction l with
 | nil => simp
 | cons y l ih => simp only [Cx.tots, List.length_cons]; have := cx_tot_pos y; omega
theorem zCx_tot : zCx.tot = 1 := by unfold zCx; rw [cx_tot_mk, cx_tots_nil, zTy_sz]
theorem nextR_good {r : Rd} {k : Int} {s : List UInt8} (h : (nextR r k s).bad = false) : seesT r.l k s = true ∧ r.bad = false ∧ (nextR r k s).l.length + 1 = r.l.length ∧ nextW r k s = textT r.l := by
 unfold nextR nextW at *
 split at h
 · rename_i h1
   rw [if_pos h1, if_pos h1]
   obtain ⟨t, q, hl⟩ := seesT_cons h1
   refine ⟨h1, h, ?_, rfl⟩
   simp [hl]
 · cases h
theorem typK_good {f : Nat} {r : Rd} {t : Ty} {r' : Rd} (hl : ∀ t ∈ r.l, tokOK3 t) (h : typK f r = some (t, r')) (hg : r'.bad = false) : r.bad = false ∧ GT t ∧ t.sz + 2 + r'.l.length ≤ r.l.length := by
 unfold typK at h
 split at h
 · cases h
 · rename_i t1 ok l1 h1
   cases ok
   · simp only [Bool.false_eq_true, if_false] at h
     injection h with h; injection h with _ h; subst h; cases hg
   · simp only [if_true] at h
     injection h with h; injection h with h5 h; subst h5 h
     obtain ⟨_, k1, k2, _⟩ := nextR_good hg
     obtain ⟨_, k3, k4, _⟩ := nextR_good k1
     have i := tyR_ok _ _ _ _ _ (mem_suf hl (nextR_suf _ _ _)) h1
     exact ⟨k3, i.1, by have := i.2; simp only at k2; omega⟩
theorem kindC_cases (s : List UInt8) : kindC s = 0 ∨ (kindC s = 3 ∨ kindC s = 4 ∨ kindC s = 5 ∨ kindC s = 6 ∨ kindC s = 7 ∨ kindC s = 8 ∨ kindC s = 9) := by
 unfold kindC
 repeat' split
 all_goals simp
theorem nextW_ok {r : Rd} (hl : ∀ t ∈ r.l, tokOK3 t) (k : Int) (s : List UInt8) : (nextW r k s).length ≤ 16 := by
 unfold nextW; split
 · exact textT_ok hl
 · simp
/-! numbers -/
def tokN (t : Tok) : Prop := t.kind = 4 → t.text ≠ [] ∧ t.text.length ≤ 6 ∧ ∀ x ∈ t.text, digitB x = true
theorem kindS_ne4 (w : List UInt8) : kindS w ≠ 4 := by unfold kindS; split <;> (try split) <;> decide
theorem tokS_num {s : List UInt8} {k : Int} {n : Nat} (h : tokS s = some (k, n)) (pos : Nat) : tokN ⟨k, s.take n, pos⟩ := by
 have hle := tokS_le h
 rintro rfl
 simp only
 unfold tokS at h
 simp only at h
 split at h
 · split at h
   · cases h
   · injection h with h; injection h with h _; exact absurd h (kindS_ne4 _)
 · split at h
   · split at h
     · cases h
     · rename_i h4
       have hn := numberS_ok h4
       injection h with h; injection h with _ h; subst h
       refine ⟨?_, ?_, ?_⟩
       · intro h0
         have := congrArg List.length h0
         simp only [List.length_take, List.length_nil] at this
         omega
       · simp only [List.length_take]; omega
       · rw [hn.2]; exact spanN_all digitB s
   · split at h
     · split at h
       · cases h
       · injection h with h; injection h with h _; exact absurd h (by decide)
     · split at h
       · injection h with h; injection h with h _; exact absurd h (by decide)
       · split at h
         · injection h with h; injection h with h _; exact absurd h (by decide)
         · cases h
theorem scanS_num : ∀ (f pos : Nat) (s : List UInt8) (l : List Tok), scanS f pos s = .ok l → ∀ t ∈ l, tokN t
 | 0, pos, s, l, h => by simp [scanS] at h
 | f + 1, pos, s, l, h => by
  cases s with
  | nil => simp only [scanS] at h; injection h with h; subst h; simp
  | cons x r =>
   simp only [scanS] at h
   split at h
   · cases h
   · rename_i k n ht
     have hok := tokS_num ht pos
     split at h
     · rename_i l1 h1
       injection h with h; subst h
       intro t ht
       rcases List.mem_cons.1 ht with rfl | ht
       · exact hok
       · exact scanS_num f _ _ _ h1 t ht
     · cases h
def tokF (t : Tok) : Prop := tokOK3 t ∧ tokN t
theorem scanO_F (s : List UInt8) : (scanO s).1.length ≤ 4000 ∧ ∀ t ∈ (scanO s).1, tokF t := by
 have h := scanO_ok s
 refine ⟨h.1, fun t ht => ⟨h.2 t ht, ?_⟩⟩
 unfold scanO at ht
 split at ht
 · simp at ht
 · split at ht
   · rename_i l hl
     exact scanS_num _ _ _ _ hl t ht
   · simp at ht
theorem tok3 {l : List Tok} (h : ∀ t ∈ l, tokF t) : ∀ t ∈ l, tokOK3 t := fun t ht => (h t ht).1
theorem memF {l' l : List Tok} (hl : ∀ t ∈ l, tokF t) (h : l' <:+ l) : ∀ t ∈ l', tokF t := fun t ht => hl t (h.subset ht)
theorem numC_ok {r : Rd} (hl : ∀ t ∈ r.l, tokF t) (h : (nextR r 4 []).bad = false) : 0 ≤ numC (nextW r 4 []) ∧ numC (nextW r 4 []) < 1000000 ∧ Lib.atoi (nextW r 4 []) = some (numC (nextW r 4 [])) := by
 obtain ⟨h1, _, _, h2⟩ := nextR_good h
 obtain ⟨t, q, hq⟩ := seesT_cons h1
 rw [hq] at h1
 have hk : t.kind = 4 := by simpa [seesT] using h1
 obtain ⟨h3, h4, h5⟩ := (hl t (by rw [hq]; exact List.mem_cons_self ..)).2 hk
 rw [h2, hq]
 simp only [textT, numC, atoi_num h5 h3, Option.getD_some]
 have := numS_lt t.text h5
 have : 10 ^ t.text.length ≤ 10 ^ 6 := Nat.pow_le_pow_right (by decide) h4
 exact ⟨by omega, by omega, trivial⟩
/-! what comes of reading a coercion -/
theorem headC_good {k : Int} {r : Rd} (h : (headC k r).2.2.bad = false) : r.bad = false := by
 unfold headC at h
 split at h
 · exact (nextR_good h).2.1
 · split at h
   · exact (nextR_good h).2.1
   · split at h
     · exact (nextR_good h).2.1
     · exact h
theorem cxR_good : ∀ (f : Nat) (m : KM) (r : Rd) (x : Cx) (r' : Rd), cxR f m r = some (x, r') → r'.bad = false → r.bad = false := by
 intro f
 induction f with
 | zero => intro m r x r' h; cases h
 | succ f ih =>
  intro m r x r' h hg
  have fin : ∀ {a b : Cx} {p q : Rd}, some (a, p) = some (b, q) → p = q := fun h1 => by
   injection h1 with h1; injection h1 with _ h1
  cases m with
  | co =>
   simp only [cxR] at h
   split at h
   · have := fin h; subst this; exact hg
   · rename_i h0
     simpa using h0
  | con acc =>
   simp only [cxR] at h
   split at h
   · rename_i h0
     simp only [Bool.and_eq_true, Bool.not_eq_true'] at h0
     exact h0.1
   · have := fin h; subst this; exact hg
  | kids n acc =>
   cases n with
   | zero => simp only [cxR] at h; have := fin h; subst this; exact hg
   | succ n =>
    simp only [cxR] at h
    split at h
    · have := fin h; subst this; exact hg
    · rename_i h0; simpa using h0
def COK (r : Rd) (x : Cx) (r' : Rd) : KM → Prop
 | .co => GC x ∧ x.tot + r'.l.length ≤ r.l.length
 | .con acc => (∀ c, c ∈ acc → GC c) → (∀ c, c ∈ x.kids → GC c) ∧ Cx.tots x.kids + r'.l.length ≤ Cx.tots acc + r.l.length
 | .kids n acc => (∀ c, c ∈ acc → GC c) → (∀ c, c ∈ x.kids → GC c) ∧ Cx.tots x.kids + r'.l.length ≤ Cx.tots acc + r.l.length ∧ x.kids.length = acc.length + n
theorem snocC {P : Cx → Prop} {l : List Cx} {x : Cx} (h : ∀ c, c ∈ l → P c) (hx : P x) : ∀ c, c ∈ l ++ [x] → P c := by
 intro c hc
 rcases List.mem_append.1 hc with hc | hc
 · exact h c hc
 · rw [List.mem_singleton.1 hc]; exact hx
theorem len1 {l : List Cx} (h : l.length = 1) : ∃ x, l = [x] := List.length_eq_one_iff.1 h
theorem len2 {l : List Cx} (h : l.length = 2) : ∃ x y, l = [x, y] := by
 match l, h with
 | [x, y], _ => exact ⟨x, y, rfl⟩
theorem cxR_ok : ∀ (f : Nat) (m : KM) (r : Rd) (x : Cx) (r' : Rd), (∀ t ∈ r.l, tokF t) → cxR f m r = some (x, r') → r'.bad = false → COK r x r' m := by
 intro f
 induction f with
 | zero => intro m r x r' _ h; cases h
 | succ f ih =>
  intro m r x r' hl h hg
  have fin : ∀ {a b : Cx} {p q : Rd}, some (a, p) = some (b, q) → a = b ∧ p = q := fun h1 => by
   injection h1 with h1; injection h1 with h2 h1; exact ⟨h2, h1⟩
  cases m with
  | co =>
   simp only [cxR] at h
   split at h
   · rename_i hb; obtain ⟨_, rfl⟩ := fin h; rw [hb] at hg; cases hg
   · split at h
     · split at h
       · cases h
       · rename_i t r1 h1
         obtain ⟨rfl, rfl⟩ := fin h
         have k := typK_good (tok3 hl) h1 hg
         exact ⟨.refl _ k.2.1, by rw [cx_tot_mk, cx_tots_nil]; have := k.2.2; omega⟩
     · split at h
       · split at h
         · obtain ⟨_, rfl⟩ := fin h
           have := (nextR_good hg).2.1
           cases this
         · rename_i hk0
           split at h
           · cases h
           · rename_i x1 r4 h4
             have s2 := (nextR_suf (nextR r 6 [40]) 2 []).trans (nextR_suf r 6 [40])
             generalize hk : kindC (nextW (nextR r 6 [40]) 2 []) = k at h h4 hk0
             have key : r4.bad = false → (headC k (nextR (nextR r 6 [40]) 2 [])).2.2.bad = false ∧ (nextR (nextR r 6 [40]) 2 []).l.length + 2 = r.l.length := by
              intro g4
              have g3 := cxR_good _ _ _ _ _ h4 g4
              have g2 := nextR_good (headC_good g3)
              have g1 := nextR_good g2.2.1
              exact ⟨g3, by omega⟩
             have cases7 := kindC_cases (nextW (nextR r 6 [40]) 2 [])
             rw [hk] at cases7
             have hh := ih _ _ _ _ (memF hl ((headC_suf k _).trans s2)) h4
             rcases cases7 with rfl | rfl | rfl | rfl | rfl | rfl | rfl | rfl
             · exact absurd rfl hk0
             · simp only [headC, Int.reduceBEq, Bool.false_and, Bool.false_eq_true, if_false, Bool.or_self] at h hh key
               obtain ⟨rfl, rfl⟩ := fin h
               have g := nextR_good hg
               have i := hh g.2.1 (by simp)
               have kk := key g.2.1
               obtain ⟨y, hy⟩ := len1 (by simpa using i.2.2)
               rw [hy] at i ⊢
               refine ⟨.sym _ (i.1 y (by simp)), ?_⟩
               rw [cx_tot_mk, zTy_sz]
               have := i.2.1
               rw [cx_tots_nil] at this
               have := kk.2
               have := g.2.2.1
               omega
             · simp only [headC, Int.reduceBEq, Bool.false_and, Bool.false_eq_true, if_false, Bool.or_false, if_true] at h hh key
               obtain ⟨rfl, rfl⟩ := fin h
               have g := nextR_good hg
               have i := hh g.2.1 (by simp)
               have kk := key g.2.1
               obtain ⟨y, z, hy⟩ := len2 (by simpa using i.2.2)
               rw [hy] at i ⊢
               refine ⟨.trans _ _ (i.1 y (by simp)) (i.1 z (by simp)), ?_⟩
               rw [cx_tot_mk, zTy_sz]
               have := i.2.1
               rw [cx_tots_nil] at this
               have := kk.2
               have := g.2.2.1
               omega
             · simp only [headC, Int.reduceBEq, Bool.false_and, Bool.false_eq_true, if_false, if_true] at h hh key
               obtain ⟨rfl, rfl⟩ := fin h
               have g := nextR_good hg
               have i := hh g.2.1 (by simp)
               have kk := key g.2.1
               have g5 := nextR_good kk.1
               refine ⟨.con _ _ (nextW_ok (tok3 (memF hl s2)) _ _) i.1, ?_⟩
               rw [cx_tot_mk, zTy_sz]
               have := i.2
               rw [cx_tots_nil] at this
               have := kk.2
               have := g.2.2.1
               have := g5.2.2.1
               omega
             · simp only [headC, Int.reduceBEq, Bool.false_and, Bool.false_eq_true, if_false, Bool.false_or, if_true] at h hh key
               obtain ⟨rfl, rfl⟩ := fin h
               have g := nextR_good hg
               have i := hh g.2.1 (by simp)
               have kk := key g.2.1
               obtain ⟨y, z, hy⟩ := len2 (by simpa using i.2.2)
               rw [hy] at i ⊢
               refine ⟨.fn _ _ (i.1 y (by simp)) (i.1 z (by simp)), ?_⟩
               rw [cx_tot_mk, zTy_sz]
               have := i.2.1
               rw [cx_tots_nil] at this
               have := kk.2
               have := g.2.2.1
               omega
             · simp only [headC, Int.reduceBEq, Bool.false_and, Bool.false_eq_true, if_false, Bool.or_self, if_true] at h hh key
               obtain ⟨rfl, rfl⟩ := fin h
               have g := nextR_good hg
               have i := hh g.2.1 (by simp)
               have kk := key g.2.1
               have g5 := nextR_good kk.1
               obtain ⟨y, hy⟩ := len1 (by simpa using i.2.2)
               rw [hy] at i ⊢
               refine ⟨.all _ _ (nextW_ok (tok3 (memF hl s2)) _ _) (i.1 y (by simp)), ?_⟩
               rw [cx_tot_mk, zTy_sz]
               have := i.2.1
               rw [cx_tots_nil] at this
               have := kk.2
               have := g.2.2.1
               have := g5.2.2.1
               omega
             · simp only [headC, Int.reduceBEq, Bool.false_and, Bool.false_eq_true, if_false, Bool.or_self, if_true] at h hh key
               obtain ⟨rfl, rfl⟩ := fin h
               have g := nextR_good hg
               have i := hh g.2.1 (by simp)
               have kk := key g.2.1
               have g5 := nextR_good kk.1
               have n5 := numC_ok (memF hl s2) kk.1
               obtain ⟨y, hy⟩ := len1 (by simpa using i.2.2)
               rw [hy] at i ⊢
               refine ⟨.nth _ _ n5.1 n5.2.1 (i.1 y (by simp)), ?_⟩
               rw [cx_tot_mk, zTy_sz]
               have := i.2.1
               rw [cx_tots_nil] at this
               have := kk.2
               have := g.2.2.1
               have := g5.2.2.1
               omega
             · simp only [headC, Int.reduceBEq, Bool.true_and, Bool.false_eq_true, if_false, Bool.or_self, beq_self_eq_true] at h hh key
               split at h
               · split at h
                 · cases h
                 · rename_i t r5 h5
                   obtain ⟨rfl, rfl⟩ := fin h
                   have g := nextR_good hg
                   have s4 := (cxR_suf _ _ _ _ _ h4).trans ((headC_suf 9 _).trans s2)
                   have kt := typK_good (tok3 (memF hl s4)) h5 g.2.1
                   have i := hh kt.1 (by simp)
                   have kk := key kt.1
                   obtain ⟨y, hy⟩ := len1 (by simpa using i.2.2)
                   rw [hy] at i ⊢
                   refine ⟨.inst _ _ (i.1 y (by simp)) kt.2.1, ?_⟩
                   rw [cx_tot_mk]
                   have := i.2.1
                   rw [cx_tots_nil] at this
                   have := kk.2
                   have := g.2.2.1
                   have := kt.2.2
                   omega
               · rename_i hb
                 obtain ⟨_, rfl⟩ := fin h
                 have := (nextR_good hg).2.1
                 rw [this] at hb
                 exact absurd rfl hb
       · obtain ⟨rfl, rfl⟩ := fin h
         have g := nextR_good hg
         refine ⟨.var _ (nextW_ok (tok3 hl) _ _), ?_⟩
         rw [cx_tot_mk, cx_tots_nil, zTy_sz]
         have := g.2.2.1
         omega
  | con acc =>
   intro ha
   simp only [cxR] at h
   split at h
   · split at h
     · cases h
     · rename_i x1 r1 h1
       have g1 := cxR_good _ _ _ _ _ h hg
       have i := ih _ _ _ _ hl h1 g1
       have j := ih _ _ _ _ (memF hl (cxR_suf _ _ _ _ _ h1)) h hg (snocC ha i.1)
       refine ⟨j.1, ?_⟩
       have := j.2
       rw [cx_tots_snoc] at this
       have := i.2
       omega
   · obtain ⟨rfl, rfl⟩ := fin h
     exact ⟨ha, by simp only [cxmk]; omega⟩
  | kids n acc =>
   intro ha
   cases n with
   | zero =>
    simp only [cxR] at h
    obtain ⟨rfl, rfl⟩ := fin h
    exact ⟨ha, by simp only [cxmk]; omega, rfl⟩
   | succ n =>
    simp only [cxR] at h
    split at h
    · rename_i hb; obtain ⟨_, rfl⟩ := fin h; rw [hb] at hg; cases hg
    · split at h
      · cases h
      · rename_i x1 r1 h1
        have g1 := cxR_good _ _ _ _ _ h hg
        have i := ih _ _ _ _ hl h1 g1
        have j := ih _ _ _ _ (memF hl (cxR_suf _ _ _ _ _ h1)) h hg (snocC ha i.1)
        refine ⟨j.1, ?_, ?_⟩
        · have := j.2.1
          rw [cx_tots_snoc] at this
          have := i.2
          omega
        · have := j.2.2
          rw [List.length_append, List.length_singleton] at this
          omega
/-! there is always an answer -/
def rankK : KM → Nat
 | .co => 5
 | .con _ => 6
 | .kids n _ => 6 + n
theorem cxR_bad1 (f : Nat) (m : KM) {r : Rd} (h : r.bad = true) : ∃ x, cxR (f + 1) m r = some x := by
 cases m with
 | co => simp only [cxR, h, if_true]; exact ⟨_, rfl⟩
 | con acc => simp only [cxR, h, Bool.not_true, Bool.false_and, Bool.false_eq_true, if_false]; exact ⟨_, rfl⟩
 | kids n acc => cases n <;> simp only [cxR, h, if_true] <;> exact ⟨_, rfl⟩
theorem typK_tot {f : Nat} {r : Rd} (h : 5 * r.l.length + 4 ≤ f) : ∃ x, typK f r = some x := by
 have := len_suf (nextR_suf r 6 [60])
 obtain ⟨⟨t, ok, l'⟩, h1⟩ := tyR_tot f .typ (nextR r 6 [60]).l (by simp only [rankT]; omega)
 unfold typK
 rw [h1]
 simp only
 split <;> exact ⟨_, rfl⟩
theorem cxR_tot : ∀ (f : Nat) (m : KM) (r : Rd), (∀ t ∈ r.l, tokF t) → (match m with | .kids n _ => n ≤ 2 | _ => True) → 10 * r.l.length + rankK m ≤ f → ∃ x, cxR f m r = some x := by
 intro f
 induction f with
 | zero => intro m r _ _ h; cases m <;> simp [rankK] at h
 | succ f ih =>
  intro m r hl hm hn
  cases hb : r.bad
  case true => exact cxR_bad1 f m hb
  case false =>
  cases m with
  | co =>
   simp only [rankK] at hn
   simp only [cxR, hb, Bool.false_eq_true, if_false]
   split
   · obtain ⟨⟨t, r1⟩, h1⟩ := typK_tot (f := f) (r := r) (by omega)
     rw [h1]; exact ⟨_, rfl⟩
   · split
     · split
       · exact ⟨_, rfl⟩
       · generalize kindC (nextW (nextR r 6 [40]) 2 []) = k
         have s2 := (nextR_suf (nextR r 6 [40]) 2 []).trans (nextR_suf r 6 [40])
         have s3 := (headC_suf k (nextR (nextR r 6 [40]) 2 [])).trans s2
         have h3 : ∃ x, cxR f (if k == 5 then .con [] else .kids (if k == 4 || k == 6 then 2 else 1) []) (headC k (nextR (nextR r 6 [40]) 2 [])).2.2 = some x := by
          cases hb3 : (headC k (nextR (nextR r 6 [40]) 2 [])).2.2.bad
          · have g2 := nextR_good (headC_good hb3)
            have g1 := nextR_good g2.2.1
            have := len_suf (headC_suf k (nextR (nextR r 6 [40]) 2 []))
            refine ih _ _ (memF hl s3) ?_ ?_
            · split
              · rename_i n acc he
                split at he
                · cases he
                · injection he with he _
                  rw [← he]; split <;> omega
              · trivial
            · have : ∀ b c : Bool, rankK (if b then .con [] else .kids (if c then 2 else 1) []) ≤ 8 := by
               intro b c; cases b <;> cases c <;> simp [rankK]
              have := this (k == 5) (k == 4 || k == 6)
              omega
          · obtain ⟨g, rfl⟩ : ∃ g, f = g + 1 := ⟨f - 1, by omega⟩
            exact cxR_bad1 g _ hb3
         obtain ⟨⟨x, r4⟩, h4⟩ := h3
         rw [h4]
         simp only
         split
         · have := len_suf ((cxR_suf _ _ _ _ _ h4).trans s3)
           obtain ⟨⟨t, r5⟩, h5⟩ := typK_tot (f := f) (r := r4) (by omega)
           rw [h5]; exact ⟨_, rfl⟩
         · exact ⟨_, rfl⟩
     · exact ⟨_, rfl⟩
  | con acc =>
   simp only [rankK] at hn
   simp only [cxR]
   split
   · obtain ⟨⟨x, r1⟩, h1⟩ := ih .co r hl trivial (by simp only [rankK]; omega)
     rw [h1]
     simp only
     cases hb1 : r1.bad
     · have i := (cxR_ok _ _ _ _ _ hl h1 hb1).2
       have := cx_tot_pos x
       exact ih _ _ (memF hl (cxR_suf _ _ _ _ _ h1)) trivial (by simp only [rankK]; omega)
     · obtain ⟨g, rfl⟩ : ∃ g, f = g + 1 := ⟨f - 1, by omega⟩
       exact cxR_bad1 g _ hb1
   · exact ⟨_, rfl⟩
  | kids n acc =>
   simp only [rankK] at hn
   cases n with
   | zero => simp only [cxR]; exact ⟨_, rfl⟩
   | succ n =>
    simp only [cxR, hb, Bool.false_eq_true, if_false]
    obtain ⟨⟨x, r1⟩, h1⟩ := ih .co r hl trivial (by simp only [rankK]; omega)
    rw [h1]
    simp only
    have := len_suf (cxR_suf _ _ _ _ _ h1)
    exact ih _ _ (memF hl (cxR_suf _ _ _ _ _ h1)) (by simp only at hm ⊢; omega) (by simp only [rankK]; omega)
theorem coR2_tot {f : Nat} {r : Rd} (hl : ∀ t ∈ r.l, tokF t) (h : 10 * r.l.length + 5 ≤ f) : ∃ x, coR2 f r = some x := by
 unfold coR2
 split
 · exact ⟨_, rfl⟩
 · obtain ⟨⟨x, r1⟩, h1⟩ := cxR_tot f .co r hl trivial (by simp only [rankK]; omega)
   rw [h1]
   simp only
   split <;> exact ⟨_, rfl⟩
theorem coR2_ok {f : Nat} {r : Rd} {c : Cx} {r' : Rd} (hl : ∀ t ∈ r.l, tokF t) (h : coR2 f r = some (c, r')) (hg : r'.bad = false) : r.bad = false ∧ GC c ∧ c.tot + r'.l.length ≤ r.l.length := by
 unfold coR2 at h
 split at h
 · rename_i hb; injection h with h; injection h with _ h; subst h; rw [hb] at hg; cases hg
 · rename_i hb
   split at h
   · cases h
   · rename_i x r1 h1
     split at h
     · injection h with h; injection h with _ h; subst h; cases hg
     · injection h with h; injection h with h2 h; subst h2 h
       exact ⟨by simpa using hb, cxR_ok _ _ _ _ _ hl h1 hg⟩
end Go.Proofs
namespace Go.Proofs
open Go.Av
set_option maxHeartbeats 4000000
set_option maxRecDepth 100000
/-! the terms that are read -/
def N16 (l : List (List UInt8)) : Prop := ∀ v ∈ l, v.length ≤ 16
inductive GM : Tm → Prop
 | nam (k : Int) (s : List UInt8) : (k = 1 ∨ k = 2) → s.length ≤ 16 → GM (.mk k s zTy zCx [] [])
 | lam (s : List UInt8) (t : Ty) (x : Tm) : s.length ≤ 16 → GT t → GM x → GM (.mk 3 s t zCx [x] [])
 | tlam (s : List UInt8) (x : Tm) : s.length ≤ 16 → GM x → GM (.mk 4 s zTy zCx [x] [])
 | app (x y : Tm) : GM x → GM y → GM (.mk 5 [] zTy zCx [x, y] [])
 | tapp (t : Ty) (x : Tm) : GT t → GM x → GM (.mk 6 [] t zCx [x] [])
 | capp (c : Cx) (x : Tm) : GC c → GM x → GM (.mk 7 [] zTy c [x] [])
 | lett (s : List UInt8) (t : Ty) (x y : Tm) : s.length ≤ 16 → GT t → GM x → GM y → GM (.mk 8 s t zCx [x, y] [])
 | cas (t : Ty) (x : Tm) (al : List Ta) : GT t → GM x → (∀ a, a ∈ al → GM a.body) → (∀ a ∈ al, a.con.length ≤ 16 ∧ N16 a.types ∧ N16 a.cos ∧ N16 a.vars) → GM (.mk 9 [] t zCx [x] al)
 | cast (c : Cx) (x : Tm) : GC c → GM x → GM (.mk 10 [] zTy c [x] [])
def GAl (al : List Ta) : Prop := ∀ a ∈ al, GM a.body ∧ a.con.length ≤ 16 ∧ N16 a.types ∧ N16 a.cos ∧ N16 a.vars
mutual
def Tm.tot : Tm → Nat
 | .mk _ _ t c ks al => t.sz + c.tot + Tm.tots ks + Ta.tots al
def Tm.tots : List Tm → Nat
 | [] => 0
 | e :: r => Tm.tot e + Tm.tots r
def Ta.tot : Ta → Nat
 | .mk _ a b c e => Tm.tot e + a.length + b.length + c.length + 1
def Ta.tots : List Ta → Nat
 | [] => 0
 | a :: r => Ta.tot a + Ta.tots r
end
theorem tm_tot_mk (k : Int) (s : List UInt8) (t : Ty) (c : Cx) (ks : List Tm) (al : List Ta) : (Tm.mk k s t c ks al).tot = t.sz + c.tot + Tm.tots ks + Ta.tots al := by simp [Tm.tot]
theorem tm_tots_nil : Tm.tots [] = 0 := by simp [Tm.tots]
theorem tm_tots_one (x : Tm) : Tm.tots [x] = x.tot := by simp [Tm.tots]
theorem tm_tots_two (x y : Tm) : Tm.tots [x, y] = x.tot + y.tot := by simp [Tm.tots]
theorem ta_tots_nil : Ta.tots [] = 0 := by simp [Ta.tots]
theorem ta_tots_snoc (l : List Ta) (c : List UInt8) (a b v : List (List UInt8)) (e : Tm) : Ta.tots (l ++ [.mk c a b v e]) = Ta.tots l + (e.tot + a.length + b.length + v.length + 1) := by
 induction l with
 | nil => simp [Ta.tots, Ta.tot]
 | cons x l ih => simp only [List.cons_append, Ta.tots, ih]; omega
theorem tm_tot_pos (x : Tm) : 2 ≤ x.tot := by cases x with | mk k s t c ks al => rw [tm_tot_mk]; have := sz_pos t; have := cx_tot_pos c; omega
/-! names behind signs -/
theorem marksR_good : ∀ (f : Nat) (s : List UInt8) (acc : List (List UInt8)) (r : Rd), (∀ t ∈ r.l, tokF t) → N16 acc → (marksR f s acc r).2.bad = false →
 r.bad = false ∧ N16 (marksR f s acc r).1 ∧ 2 * (marksR f s acc r).1.length + (marksR f s acc r).2.l.length ≤ 2 * acc.length + r.l.length
 | 0, _, _, _, _, ha, hg => ⟨hg, ha, by simp only [marksR]; omega⟩
 | f + 1, s, acc, r, hl, ha, hg => by
  simp only [marksR] at hg ⊢
  split
  · rename_i h1
    rw [if_pos h1] at hg
    have k1 := takesR_len h1
    have hl1 := memF hl (takesR_suf r 6 s)
    have ih := marksR_good f s (acc ++ [wordR (takesR r 6 s) 1 []]) (takeR (takesR r 6 s) 1 []) (memF hl1 (takeR_suf _ _ _)) (by
     intro v hv
     rcases List.mem_append.1 hv with hv | hv
     · exact ha v hv
     · rw [List.mem_singleton.1 hv]; exact wordR_ok (tok3 hl1) _ _) hg
    have k2 := takeR_len ih.1
    refine ⟨k1.2.2, ih.2.1, ?_⟩
    have := ih.2.2
    rw [List.length_append, List.length_singleton] at this
    omega
  · rename_i h1
    rw [if_neg h1] at hg
    exact ⟨hg, ha, by simp only; omega⟩
theorem N16_nil : N16 [] := fun v hv => by cases hv
theorem altA_good {r : Rd} (hl : ∀ t ∈ r.l, tokF t) (hg : (altA r).2.2.2.bad = false) : N16 (altA r).1 ∧ N16 (altA r).2.1 ∧ N16 (altA r).2.2.1 ∧ r.bad = false ∧
 (altA r).1.length + (altA r).2.1.length + (altA r).2.2.1.length + 1 + (altA r).2.2.2.l.length ≤ r.l.length := by
 unfold altA at *
 simp only at hg ⊢
 have k3 := behindR_len hg
 have l1 := memF hl (takeR_suf r 2 [])
 have l2 := memF l1 (marksR_suf (takeR r 2 []).l.length [64] [] (takeR r 2 []))
 have l3 := memF l2 (marksR_suf (marks [64] (takeR r 2 [])).2.l.length [126] [] (marks [64] (takeR r 2 [])).2)
 have k2 := marksR_good _ _ _ _ l2 N16_nil k3.2
 have k1 := marksR_good _ _ _ _ l1 N16_nil k2.1
 have k0 := takeR_len k1.1
 refine ⟨k1.2.1, k2.2.1, namesR_ok (tok3 l3), k0.2, ?_⟩
 have a1 := k1.2.2
 have a2 := k2.2.2
 have a3 := k3.1
 simp only [List.length_nil] at a1 a2
 unfold marks at *
 omega
theorem nameR_ok {f : Nat} {r : Rd} {t : Ty} {r' : Rd} (hl : ∀ t ∈ r.l, tokF t) (h : nameR f r = some (t, r')) (hg : r'.bad = false) : r.bad = false ∧ GT t ∧ t.sz + 2 + r'.l.length ≤ r.l.length := by
 unfold nameR at h
 have g := typR_good h hg
 have k1 := takeR_len g
 have k2 := takeR_len k1.2
 have i := typR_ok (tok3 (memF hl ((takeR_suf _ _ _).trans (takeR_suf _ _ _)))) h hg
 exact ⟨k2.2, i.1, by have := i.2; omega⟩
theorem trR_bad : ∀ (f : Nat) (m : TrM) (r : Rd) (x : Tm × Rd), r.bad = true → trR f m r = some x → x.2.bad = true := by
 intro f
 induction f with
 | zero => intro m r x _ h; cases h
 | succ f ih =>
  intro m r x hb h
  cases m with
  | term =>
   simp only [trR, seesR_bad hb, takeR_bad hb, Bool.false_eq_true, if_false, hb, if_true] at h
   injection h with h; subst h; exact hb
  | form =>
   simp only [trR, seesR_bad hb, Bool.false_eq_true, if_false] at h
   split at h
   · cases h
   · rename_i x1 r1 h1
     have b1 := ih _ _ _ hb h1
     simp only at b1
     simp only [seesR_bad b1, Bool.false_eq_true, if_false] at h
     split at h
     · cases h
     · rename_i y r2 h2
       injection h with h; subst h
       exact (ih _ _ (y, r2) b1 h2)
  | alts acc =>
   simp only [trR] at h
   split at h
   · cases h
   · rename_i b r4 h4
     have hb0 : (takeR (altA r).2.2.2 6 [45, 62]).bad = true := by
      cases hc : (takeR (altA r).2.2.2 6 [45, 62]).bad
      · exfalso
        have k1 := takeR_len hc
        have k2 := takeR_bad hb 2 []
        have : ∀ (f : Nat) (s : List UInt8) (acc : List (List UInt8)), (marksR f s acc r) = (acc, r) := by
         intro f s acc
         cases f
         · rfl
         · simp only [marksR, seesR_bad hb, Bool.false_eq_true, if_false]
        have hx : (altA r).2.2.2 = behindR r := by unfold altA marks; simp only [k2, this]
        rw [hx] at k1
        have : r.bad = false := k1.2
        rw [hb] at this; cases this
      · rfl
     have b4 := ih _ _ _ hb0 h4
     simp only at b4
     simp only [seesR_bad b4, Bool.false_eq_true, if_false] at h
     injection h with h; subst h; exact b4
theorem trR_good {f : Nat} {m : TrM} {r : Rd} {x : Tm} {r' : Rd} (h : trR f m r = some (x, r')) (hg : r'.bad = false) : r.bad = false := by
 cases hb : r.bad
 · rfl
 · have := trR_bad f m r _ hb h
   simp only at this
   rw [hg] at this; cases this
def MOK (r : Rd) (x : Tm) (r' : Rd) : TrM → Prop
 | .term => GM x ∧ x.tot + 2 * r'.l.length ≤ 2 * r.l.length
 | .form => GM x ∧ x.tot + 2 * r'.l.length ≤ 2 * r.l.length + 2
 | .alts acc => GAl acc → GAl x.alts ∧ Ta.tots x.alts + 2 * r'.l.length ≤ Ta.tots acc + 2 * r.l.length
theorem trR_ok : ∀ (f : Nat) (m : TrM) (r : Rd) (x : Tm) (r' : Rd), (∀ t ∈ r.l, tokF t) → trR f m r = some (x, r') → r'.bad = false → MOK r x r' m := by
 intro f
 induction f with
 | zero => intro m r x r' _ h; cases h
 | succ f ih =>
  intro m r x r' hl h hg
  have fin : ∀ {a b : Tm} {p q : Rd}, some (a, p) = some (b, q) → a = b ∧ p = q := fun h1 => by
   injection h1 with h1; injection h1 with h2 h1; exact ⟨h2, h1⟩
  have z := zCx_tot
  have zt := zTy_sz
  cases m with
  | term =>
   simp only [trR] at h
   split at h
   · obtain ⟨rfl, rfl⟩ := fin h
     have k := takeR_len hg
     exact ⟨.nam 1 _ (.inl rfl) (wordR_ok (tok3 hl) _ _), by rw [tm_tot_mk, tm_tots_nil, ta_tots_nil]; omega⟩
   · split at h
     · obtain ⟨rfl, rfl⟩ := fin h
       have k := takeR_len hg
       exact ⟨.nam 2 _ (.inr rfl) (wordR_ok (tok3 hl) _ _), by rw [tm_tot_mk, tm_tots_nil, ta_tots_nil]; omega⟩
     · split at h
       · rename_i hb; obtain ⟨_, rfl⟩ := fin h; rw [hb] at hg; cases hg
       · split at h
         · cases h
         · rename_i t r2 h2
           obtain ⟨rfl, rfl⟩ := fin h
           have k3 := takeR_len hg
           have i := ih _ _ _ _ (memF hl (takeR_suf _ _ _)) h2 k3.2
           have k1 := takeR_len (trR_good h2 k3.2)
           exact ⟨i.1, by have := i.2; omega⟩
  | form =>
   simp only [trR] at h
   split at h
   · rename_i h0
     have k0 := takesR_len h0
     split at h
     · cases h
     · rename_i t r3 h3
       split at h
       · cases h
       · rename_i x1 r5 h5
         obtain ⟨rfl, rfl⟩ := fin h
         have k4 := takeR_len (trR_good h5 hg)
         have l0 := memF hl (takesR_suf r 6 [92])
         have i3 := nameR_ok l0 h3 k4.2
         have i5 := ih _ _ _ _ (memF l0 ((takeR_suf _ _ _).trans (nameR_suf h3))) h5 hg
         refine ⟨.lam _ _ _ (wordR_ok (tok3 l0) _ _) i3.2.1 i5.1, ?_⟩
         rw [tm_tot_mk, tm_tots_one, ta_tots_nil]
         have := i3.2.2
         have := i5.2
         omega
   · split at h
     · rename_i h0
       have k0 := takesR_len h0
       split at h
       · cases h
       · rename_i x1 r5 h5
         obtain ⟨rfl, rfl⟩ := fin h
         have k4 := takeR_len (trR_good h5 hg)
         have k3 := takeR_len k4.2
         have l0 := memF hl (takesR_suf r 6 [33])
         have i5 := ih _ _ _ _ (memF l0 ((takeR_suf _ _ _).trans (takeR_suf _ _ _))) h5 hg
         refine ⟨.tlam _ _ (wordR_ok (tok3 l0) _ _) i5.1, ?_⟩
         rw [tm_tot_mk, tm_tots_one, ta_tots_nil]
         have := i5.2
         omega
     · split at h
       · split at h
         · cases h
         · rename_i t r3 h3
           split at h
           · cases h
           · rename_i x1 r5 h5
             split at h
             · cases h
             · rename_i y r7 h7
               obtain ⟨rfl, rfl⟩ := fin h
               have k6 := takeR_len (trR_good h7 hg)
               have k4 := takeR_len (trR_good h5 k6.2)
               have l0 := memF hl (takeR_suf r 3 [108, 101, 116])
               have l4 := memF l0 ((takeR_suf r3 6 [61]).trans (nameR_suf h3))
               have i3 := nameR_ok l0 h3 k4.2
               have k0 := takeR_len i3.1
               have i5 := ih _ _ _ _ l4 h5 k6.2
               have i7 := ih _ _ _ _ (memF l4 ((takeR_suf _ _ _).trans (trR_suf _ _ _ _ _ h5))) h7 hg
               refine ⟨.lett _ _ _ _ (wordR_ok (tok3 l0) _ _) i3.2.1 i5.1 i7.1, ?_⟩
               rw [tm_tot_mk, tm_tots_two, ta_tots_nil]
               have := i3.2.2
               have := i5.2
               have := i7.2
               omega
       · split at h
         · split at h
           · cases h
           · rename_i x1 r1 h1
             split at h
             · cases h
             · rename_i t r3 h3
               have l0 := memF hl (takeR_suf r 3 [99, 97, 115, 101])
               have l1 := memF l0 (trR_suf _ _ _ _ _ h1)
               have l3 := memF l1 ((typR_suf h3).trans (takeR_suf _ _ _))
               have l5 := memF l3 ((takeR_suf (takeR r3 3 [111, 102]) 6 [123]).trans (takeR_suf r3 3 [111, 102]))
               have key : (takeR (takeR r3 3 [111, 102]) 6 [123]).bad = false → GM x1 ∧ GT t ∧ x1.tot + 2 * (t.sz + (takeR (takeR r3 3 [111, 102]) 6 [123]).l.length + 4) ≤ 2 * r.l.length := by
                intro g5
                have k5 := takeR_len g5
                have k4 := takeR_len k5.2
                have g3 := typR_good h3 k4.2
                have k2 := takeR_len g3
                have i1 := ih _ _ _ _ l0 h1 k2.2
                have k0 := takeR_len (trR_good h1 k2.2)
                have i3 := typR_ok (tok3 (memF l1 (takeR_suf _ _ _))) h3 k4.2
                refine ⟨i1.1, i3.1, ?_⟩
                have := i1.2
                have := i3.2
                omega
               split at h
               · rename_i h5
                 obtain ⟨rfl, rfl⟩ := fin h
                 have k5 := takesR_len h5
                 have k := key k5.2.2
                 refine ⟨.cas _ _ _ k.2.1 k.1 (by simp) (by simp), ?_⟩
                 rw [tm_tot_mk, tm_tots_one, ta_tots_nil]
                 have := k.2.2
                 omega
               · split at h
                 · cases h
                 · rename_i y r6 h6
                   obtain ⟨rfl, rfl⟩ := fin h
                   have k6 := takeR_len hg
                   have k := key (trR_good h6 k6.2)
                   have j := ih _ _ _ _ l5 h6 k6.2 (by intro a ha; simp at ha)
                   refine ⟨.cas _ _ _ k.2.1 k.1 (fun a ha => (j.1 a ha).1) (fun a ha => (j.1 a ha).2), ?_⟩
                   rw [tm_tot_mk, tm_tots_one]
                   have := k.2.2
                   have := j.2
                   rw [ta_tots_nil] at this
                   omega
         · split at h
           · cases h
           · rename_i x1 r1 h1
             have l1 := memF hl (trR_suf _ _ _ _ _ h1)
             split at h
             · rename_i h2
               have k2 := takesR_len h2
               have i1 := ih _ _ _ _ hl h1 k2.2.2
               split at h
               · cases h
               · rename_i t r3 h3
                 obtain ⟨rfl, rfl⟩ := fin h
                 have i3 := typR_ok (tok3 (memF l1 (takesR_suf _ _ _))) h3 hg
                 refine ⟨.tapp _ _ i3.1 i1.1, ?_⟩
                 rw [tm_tot_mk, tm_tots_one, ta_tots_nil]
                 have := i1.2
                 have := i3.2
                 omega
             · split at h
               · rename_i h2
                 have k2 := takesR_len h2
                 have i1 := ih _ _ _ _ hl h1 k2.2.2
                 split at h
                 · cases h
                 · rename_i t r3 h3
                   obtain ⟨rfl, rfl⟩ := fin h
                   have i3 := coR2_ok (memF l1 (takesR_suf _ _ _)) h3 hg
                   refine ⟨.capp _ _ i3.2.1 i1.1, ?_⟩
                   rw [tm_tot_mk, tm_tots_one, ta_tots_nil]
                   have := i1.2
                   have := i3.2.2
                   omega
               · split at h
                 · rename_i h2
                   have k2 := takesR_len h2
                   have i1 := ih _ _ _ _ hl h1 k2.2.2
                   split at h
                   · cases h
                   · rename_i t r3 h3
                     obtain ⟨rfl, rfl⟩ := fin h
                     have i3 := coR2_ok (memF l1 (takesR_suf _ _ _)) h3 hg
                     refine ⟨.cast _ _ i3.2.1 i1.1, ?_⟩
                     rw [tm_tot_mk, tm_tots_one, ta_tots_nil]
                     have := i1.2
                     have := i3.2.2
                     omega
                 · split at h
                   · cases h
                   · rename_i y r2 h2
                     obtain ⟨rfl, rfl⟩ := fin h
                     have g1 := trR_good h2 hg
                     have i1 := ih _ _ _ _ hl h1 g1
                     have i2 := ih _ _ _ _ l1 h2 hg
                     refine ⟨.app _ _ i1.1 i2.1, ?_⟩
                     rw [tm_tot_mk, tm_tots_two, ta_tots_nil]
                     have := i1.2
                     have := i2.2
                     omega
  | alts acc =>
   intro ha
   simp only [trR] at h
   split at h
   · cases h
   · rename_i b r4 h4
     have l0 := memF hl (altA_suf r)
     have l1 := memF l0 (takeR_suf (altA r).2.2.2 6 [45, 62])
     have key : r4.bad = false → GAl (acc ++ [.mk (wordR r 2 []) (altA r).1 (altA r).2.1 (altA r).2.2.1 b]) ∧ Ta.tots (acc ++ [.mk (wordR r 2 []) (altA r).1 (altA r).2.1 (altA r).2.2.1 b]) + 2 * r4.l.length ≤ Ta.tots acc + 2 * r.l.length := by
      intro g4
      have k3 := takeR_len (trR_good h4 g4)
      have k2 := altA_good hl k3.2
      have i := ih _ _ _ _ l1 h4 g4
      refine ⟨?_, ?_⟩
      · intro a hm
        rcases List.mem_append.1 hm with hm | hm
        · exact ha a hm
        · rw [List.mem_singleton.1 hm]
          exact ⟨i.1, wordR_ok (tok3 hl) _ _, k2.1, k2.2.1, k2.2.2.1⟩
      · rw [ta_tots_snoc]
        have := i.2
        have := k2.2.2.2.2
        omega
     split at h
     · rename_i h5
       have k5 := takesR_len h5
       have k := key k5.2.2
       have j := ih _ _ _ _ (memF l1 ((takesR_suf _ _ _).trans (trR_suf _ _ _ _ _ h4))) h hg k.1
       exact ⟨j.1, by have := j.2; have := k.2; omega⟩
     · obtain ⟨rfl, rfl⟩ := fin h
       exact key hg
/-! there is always an answer -/
theorem trR_bad1 (f : Nat) {r : Rd} (h : r.bad = true) : trR (f + 1) .term r = some (zTm, r) := by
 simp only [trR, seesR_bad h, takeR_bad h, Bool.false_eq_true, if_false, h, if_true]
def rankM : TrM → Nat
 | .term => 6
 | .form => 7
 | .alts _ => 8
def needM (m : TrM) (r : Rd) : Nat := if r.bad then 3 else 10 * r.l.length + rankM m
theorem needM_le {m : TrM} {r : Rd} {n : Nat} (h1 : 3 ≤ n) (h2 : r.bad = false → 10 * r.l.length + rankM m ≤ n) : needM m r ≤ n := by
 unfold needM
 cases h : r.bad
 · simpa using h2 h
 · simpa using h1
theorem altA_bad {r : Rd} (hb : r.bad = true) : (altA r).2.2.2.bad = true := by
 have k2 := takeR_bad hb 2 []
 have : ∀ (f : Nat) (s : List UInt8) (acc : List (List UInt8)), (marksR f s acc r) = (acc, r) := by
  intro f s acc
  cases f
  · rfl
  · simp only [marksR, seesR_bad hb, Bool.false_eq_true, if_false]
 have hx : (altA r).2.2.2 = behindR r := by unfold altA marks; simp only [k2, this]
 rw [hx]; exact hb
theorem trR_tot_bad (f : Nat) (m : TrM) {r : Rd} (h : r.bad = true) : ∃ x, trR (f + 3) m r = some x := by
 cases m with
 | term => exact ⟨_, trR_bad1 _ h⟩
 | form =>
  rw [show f + 3 = (f + 2) + 1 from rfl, trR]
  simp only [seesR_bad h, Bool.false_eq_true, if_false, trR_bad1 _ h]
  exact ⟨_, rfl⟩
 | alts acc =>
  rw [show f + 3 = (f + 2) + 1 from rfl, trR]
  have hb := altA_bad h
  simp only [takeR_bad hb, trR_bad1 _ hb, seesR_bad hb, Bool.false_eq_true, if_false]
  exact ⟨_, rfl⟩
theorem trR_tot : ∀ (f : Nat) (m : TrM) (r : Rd), (∀ t ∈ r.l, tokF t) → needM m r ≤ f → ∃ x, trR f m r = some x := by
 intro f
 induction f with
 | zero => intro m r _ h; unfold needM at h; cases hb : r.bad <;> rw [hb] at h <;> cases m <;> simp [rankM] at h
 | succ f ih =>
  intro m r hl hn
  cases hb : r.bad
  case true =>
   unfold needM at hn
   rw [hb, if_pos rfl] at hn
   obtain ⟨g, rfl⟩ : ∃ g, f = g + 2 := ⟨f - 2, by omega⟩
   exact trR_tot_bad g m hb
  case false =>
  unfold needM at hn
  rw [hb] at hn
  simp only [Bool.false_eq_true, if_false] at hn
  cases m with
  | term =>
   simp only [rankM] at hn
   simp only [trR]
   split
   · exact ⟨_, rfl⟩
   · split
     · exact ⟨_, rfl⟩
     · split
       · exact ⟨_, rfl⟩
       · rename_i h1
         have k := takeR_len (by simpa using h1)
         obtain ⟨⟨t, r2⟩, h2⟩ := ih .form (takeR r 6 [40]) (memF hl (takeR_suf _ _ _)) (needM_le (by omega) fun _ => by simp only [rankM]; omega)
         rw [h2]; exact ⟨_, rfl⟩
  | form =>
   simp only [rankM] at hn
   simp only [trR]
   have nm : ∀ {q : Rd}, q.l <:+ r.l → ∃ x, nameR f q = some x := fun {q} hq => by
    have := len_suf (((takeR_suf (takeR q 1 []) 6 [58]).trans (takeR_suf _ _ _)).trans hq)
    exact typR_tot (by omega)
   split
   · rename_i h0
     have k0 := takesR_len h0
     obtain ⟨⟨t, r3⟩, h3⟩ := nm (takesR_suf r 6 [92])
     rw [h3]
     simp only
     have s3 := (takeR_suf r3 6 [46]).trans ((nameR_suf h3).trans (takesR_suf _ _ _))
     obtain ⟨⟨x, r5⟩, h5⟩ := ih .term (takeR r3 6 [46]) (memF hl s3) (needM_le (by omega) fun g => by have := len_suf s3; simp only [rankM]; omega)
     rw [h5]; exact ⟨_, rfl⟩
   · split
     · rename_i h0
       have s3 := (takeR_suf (takeR (takesR r 6 [33]) 1 []) 6 [46]).trans ((takeR_suf _ _ _).trans (takesR_suf _ _ _))
       obtain ⟨⟨x, r5⟩, h5⟩ := ih .term (takeR (takeR (takesR r 6 [33]) 1 []) 6 [46]) (memF hl s3) (needM_le (by omega) fun g => by have := len_suf s3; simp only [rankM]; omega)
       rw [h5]; exact ⟨_, rfl⟩
     · split
       · obtain ⟨⟨t, r3⟩, h3⟩ := nm (takeR_suf r 3 [108, 101, 116])
         rw [h3]
         simp only
         have s3 := (takeR_suf r3 6 [61]).trans ((nameR_suf h3).trans (takeR_suf _ _ _))
         obtain ⟨⟨x, r5⟩, h5⟩ := ih .term (takeR r3 6 [61]) (memF hl s3) (needM_le (by omega) fun g => by have := len_suf s3; simp only [rankM]; omega)
         rw [h5]
         simp only
         have s5 := (takeR_suf r5 3 [105, 110]).trans ((trR_suf _ _ _ _ _ h5).trans s3)
         obtain ⟨⟨y, r7⟩, h7⟩ := ih .term (takeR r5 3 [105, 110]) (memF hl s5) (needM_le (by omega) fun g => by have := len_suf s5; simp only [rankM]; omega)
         rw [h7]; exact ⟨_, rfl⟩
       · split
         · rename_i h0
           have s0 := takeR_suf r 3 [99, 97, 115, 101]
           obtain ⟨⟨x, r1⟩, h1⟩ := ih .term (takeR r 3 [99, 97, 115, 101]) (memF hl s0) (needM_le (by omega) fun g => by have := len_suf s0; simp only [rankM]; omega)
           rw [h1]
           simp only
           have s2 := (takeR_suf r1 6 [58]).trans ((trR_suf _ _ _ _ _ h1).trans s0)
           obtain ⟨⟨t, r3⟩, h3⟩ := typR_tot (f := f) (r := takeR r1 6 [58]) (by have := len_suf s2; omega)
           rw [h3]
           simp only
           have s5 := (takeR_suf (takeR r3 3 [111, 102]) 6 [123]).trans ((takeR_suf _ _ _).trans ((typR_suf h3).trans s2))
           split
           · exact ⟨_, rfl⟩
           · obtain ⟨⟨y, r6⟩, h6⟩ := ih (.alts []) (takeR (takeR r3 3 [111, 102]) 6 [123]) (memF hl s5) (needM_le (by omega) fun g => by
              have k5 := takeR_len g
              have := len_suf ((takeR_suf r3 3 [111, 102]).trans ((typR_suf h3).trans s2))
              simp only [rankM]; omega)
             rw [h6]; exact ⟨_, rfl⟩
         · obtain ⟨⟨x, r1⟩, h1⟩ := ih .term r hl (needM_le (by omega) fun g => by simp only [rankM]; omega)
           rw [h1]
           simp only
           have s1 := trR_suf _ _ _ _ _ h1
           have l1 := memF hl s1
           split
           · have := len_suf ((takesR_suf r1 6 [64]).trans s1)
             obtain ⟨⟨t, r3⟩, h3⟩ := typR_tot (f := f) (r := takesR r1 6 [64]) (by omega)
             rw [h3]; exact ⟨_, rfl⟩
           · split
             · have := len_suf ((takesR_suf r1 6 [126]).trans s1)
               obtain ⟨⟨t, r3⟩, h3⟩ := coR2_tot (f := f) (memF l1 (takesR_suf r1 6 [126])) (by omega)
               rw [h3]; exact ⟨_, rfl⟩
             · split
               · have := len_suf ((takesR_suf r1 6 [124, 62]).trans s1)
                 obtain ⟨⟨t, r3⟩, h3⟩ := coR2_tot (f := f) (memF l1 (takesR_suf r1 6 [124, 62])) (by omega)
                 rw [h3]; exact ⟨_, rfl⟩
               · obtain ⟨⟨y, r2⟩, h2⟩ := ih .term r1 l1 (needM_le (by omega) fun g => by have := len_suf s1; simp only [rankM]; omega)
                 rw [h2]; exact ⟨_, rfl⟩
  | alts acc =>
   simp only [rankM] at hn
   simp only [trR]
   have s0 := (takeR_suf (altA r).2.2.2 6 [45, 62]).trans (altA_suf r)
   obtain ⟨⟨x, r4⟩, h4⟩ := ih .term (takeR (altA r).2.2.2 6 [45, 62]) (memF hl s0) (needM_le (by omega) fun g => by have := len_suf s0; simp only [rankM]; omega)
   rw [h4]
   simp only
   have s4 := (trR_suf _ _ _ _ _ h4).trans s0
   split
   · rename_i h5
     have k5 := takesR_len h5
     have := len_suf s4
     exact ih _ _ (memF hl ((takesR_suf _ _ _).trans s4)) (needM_le (by omega) fun g => by simp only [rankM]; omega)
   · exact ⟨_, rfl⟩
end Go.Proofs
namespace Go.Proofs
open Go.Av
set_option maxHeartbeats 4000000
set_option maxRecDepth 100000
/-! coercions and terms as texts -/
def wordC (k : Int) : List UInt8 :=
 if k == 3 then [83, 121, 109] else if k == 4 then [84, 114, 97, 110, 115] else if k == 5 then [67, 111, 110] else if k == 6 then [70, 117, 110]
 else if k == 7 then [65, 108, 108] else if k == 8 then [78, 116, 104] else [73, 110, 115, 116]
def allR {α : Type} (f : α → Option (List UInt8)) : List α → Option (List (List UInt8))
 | [] => some []
 | t :: r => match f t with
  | none => none
  | some s => match allR f r with
   | none => none
   | some ss => some (s :: ss)
theorem allR_get {α : Type} {f : α → Option (List UInt8)} : ∀ {l : List α} {ss : List (List UInt8)}, allR f l = some ss → ss.length = l.length ∧ ∀ (i : Nat) (t : α), l[i]? = some t → ∃ s, f t = some s ∧ ss[i]? = some s
 | [], ss, h => by simp only [allR, Option.some.injEq] at h; subst h; exact ⟨rfl, fun i t ht => by simp at ht⟩
 | t :: r, ss, h => by
  simp only [allR] at h
  split at h
  · cases h
  · rename_i s hs
    split at h
    · cases h
    · rename_i sr hr
      simp only [Option.some.injEq] at h; subst h
      have ih := allR_get hr
      refine ⟨by simp [ih.1], fun i x hx => ?_⟩
      cases i with
      | zero => simp only [List.getElem?_cons_zero, Option.some.injEq] at hx; subst hx; exact ⟨s, hs, rfl⟩
      | succ i => simpa using ih.2 i x (by simpa using hx)
/-- a rule's words ahead of its kids -/
def headW (c : Cx) : Option (List (List UInt8)) :=
 if c.kind == 5 || c.kind == 7 then some [wordC c.kind, c.name] else if c.kind == 8 then (if 0 ≤ c.n ∧ c.n < 1000000000 then some [wordC c.kind, Lib.itoa c.n] else none) else some [wordC c.kind]
def kpR (F : Nat) : Nat → Cx → Option (List UInt8)
 | 0, _ => none
 | f + 1, c => if c.kind == 1 then short c.name else if c.kind == 2 then (match prR F .pr c.ty with
  | none => none
  | some t => short ([60] ++ t ++ [62]))
  else if 3 ≤ c.kind ∧ c.kind ≤ 9 then (match headW c with
   | none => none
   | some hs => match allR (kpR F f) c.kids with
    | none => none
    | some ss => if c.kind == 9 then (match prR F .pr c.ty with
     | none => none
     | some t => short ([40] ++ Lib.join (hs ++ ss ++ [[60] ++ t ++ [62]]) [32] ++ [41]))
     else short ([40] ++ Lib.join (hs ++ ss) [32] ++ [41]))
  else none
/-- an alternative's words -/
def altW (a : Ta) : List (List UInt8) := [a.con] ++ a.types.map ([64] ++ ·) ++ a.cos.map ([126] ++ ·) ++ a.vars
def altM (a : Ta) (s : List UInt8) : List UInt8 := Lib.join (altW a) [32] ++ [32, 45, 62, 32] ++ s
def altsM (f : Tm → Option (List UInt8)) : List Ta → Option (List (List UInt8))
 | [] => some []
 | a :: r => match f a.body with
  | none => none
  | some s => match altsM f r with
   | none => none
   | some ss => some (altM a s :: ss)
theorem altsM_get {f : Tm → Option (List UInt8)} : ∀ {l : List Ta} {ss : List (List UInt8)}, altsM f l = some ss → ss.length = l.length ∧ ∀ (i : Nat) (t : Ta), l[i]? = some t → ∃ s, f t.body = some s ∧ ss[i]? = some (altM t s)
 | [], ss, h => by simp only [altsM, Option.some.injEq] at h; subst h; exact ⟨rfl, fun i t ht => by simp at ht⟩
 | t :: r, ss, h => by
  simp only [altsM] at h
  split at h
  · cases h
  · rename_i s hs
    split at h
    · cases h
    · rename_i sr hr
      simp only [Option.some.injEq] at h; subst h
      have ih := altsM_get hr
      refine ⟨by simp [ih.1], fun i x hx => ?_⟩
      cases i with
      | zero => simp only [List.getElem?_cons_zero, Option.some.injEq] at hx; subst hx; exact ⟨s, hs, rfl⟩
      | succ i => simpa using ih.2 i x (by simpa using hx)
def kids1m : List Tm → Option Tm
 | [x] => some x
 | _ => none
def kids2m : List Tm → Option (Tm × Tm)
 | [x, y] => some (x, y)
 | _ => none
theorem kids1m_some {l : List Tm} {x : Tm} (h : kids1m l = some x) : l = [x] := by
 unfold kids1m at h; split at h
 · injection h with h; subst h; rfl
 · cases h
theorem kids2m_some {l : List Tm} {p : Tm × Tm} (h : kids2m l = some p) : l = [p.1, p.2] := by
 unfold kids2m at h; split at h
 · injection h with h; subst h; rfl
 · cases h
def mpR (F : Nat) : Nat → Tm → Option (List UInt8)
 | 0, _ => none
 | f + 1, e =>
  if e.kind == 1 || e.kind == 2 then short e.name
  else if e.kind == 5 then (match kids2m e.kids with
   | none => none
   | some (x, y) => match mpR F f x with
    | none => none
    | some a => match mpR F f y with
     | none => none
     | some b => short ([40] ++ a ++ [32] ++ b ++ [41]))
  else if e.kind == 8 then (match kids2m e.kids with
   | none => none
   | some (x, y) => match prR F .pr e.ty with
    | none => none
    | some t => match mpR F f x with
     | none => none
     | some a => match mpR F f y with
      | none => none
      | some b => short ([40, 108, 101, 116, 32] ++ e.name ++ [32, 58, 32] ++ t ++ [32, 61, 32] ++ a ++ [32, 105, 110, 32] ++ b ++ [41]))
  else match kids1m e.kids with
   | none => none
   | some x => match mpR F f x with
    | none => none
    | some a => if e.kind == 3 then (match prR F .pr e.ty with
     | none => none
     | some t => short ([40, 92] ++ e.name ++ [32, 58, 32] ++ t ++ [46, 32] ++ a ++ [41]))
     else if e.kind == 4 then short ([40, 33] ++ e.name ++ [46, 32] ++ a ++ [41])
     else if e.kind == 6 then (match prR F .pr e.ty with
      | none => none
      | some t => short ([40] ++ a ++ [32, 64, 32] ++ t ++ [41]))
     else if e.kind == 7 then (match kpR F F e.co with
      | none => none
      | some c => short ([40] ++ a ++ [32, 126, 32] ++ c ++ [41]))
     else if e.kind == 10 then (match kpR F F e.co with
      | none => none
      | some c => short ([40] ++ a ++ [32, 124, 62, 32] ++ c ++ [41]))
     else if e.kind == 9 then (match prR F .pr e.ty with
      | none => none
      | some t => match altsM (mpR F f) e.alts with
       | none => none
       | some ss => short ([40, 99, 97, 115, 101, 32] ++ a ++ [32, 58, 32] ++ t ++ [32, 111, 102, 32, 123] ++ Lib.join ss [59, 32] ++ [125, 41]))
     else none
/-! there is always a text -/
def KTot (c : Cx) : Prop := ∃ s, s.length + 8 ≤ 60 * c.tot ∧ ∀ F f, 3 * c.tot ≤ F → c.tot ≤ f → kpR F f c = some s
theorem kids_tot' : ∀ (l : List Cx), Cx.tots l ≤ 1000000 → (∀ c, c ∈ l → c.tot ≤ 1000000 → KTot c) → ∃ ss, Lib.lens ss + 8 * ss.length ≤ 60 * Cx.tots l ∧ ss.length = l.length ∧ ∀ F f, 3 * Cx.tots l ≤ F → Cx.tots l ≤ f → allR (kpR F f) l = some ss
 | [], _, _ => ⟨[], by simp [Lib.lens], rfl, fun F f _ _ => rfl⟩
 | x :: r, hs, hp => by
  simp only [Cx.tots] at hs ⊢
  obtain ⟨a, ha, fa⟩ := hp x (List.mem_cons_self ..) (by omega)
  obtain ⟨ss, h1, h2, h3⟩ := kids_tot' r (by omega) (fun y hy => hp y (List.mem_cons_of_mem _ hy))
  refine ⟨a :: ss, by rw [lens_cons, List.length_cons]; omega, by simp [h2], fun F f hF hf => ?_⟩
  simp only [allR, fa F f (by omega) (by omega), h3 F f (by omega) (by omega)]
theorem lens_append (a b : List (List UInt8)) : Lib.lens (a ++ b) = Lib.lens a + Lib.lens b := by simp [Lib.lens]
theorem wordC_len (k : Int) : (wordC k).length ≤ 5 := by unfold wordC; repeat' split
                                                         all_goals decide
theorem itoa_short {n : Int} (h0 : 0 ≤ n) (h1 : n < 1000000) : (Lib.itoa n).length ≤ 6 := by
 have := itoa_len 5 n.toNat (by omega)
 rwa [show ((n.toNat : Nat) : Int) = n by omega] at this
/-- a rule's text, but for its type -/
theorem rule_tot {k : Int} {s : List UInt8} {n : Int} {l : List Cx} {hs : List (List UInt8)} (hk : 3 ≤ k ∧ k ≤ 9) (hk9 : (k == 9) = false) (hw : headW (.mk k s n zTy l) = some hs) (hl : Lib.lens hs + hs.length ≤ 30) (ht : Cx.tots l ≤ 999999)
 (hp : ∀ c, c ∈ l → c.tot ≤ 1000000 → KTot c) : KTot (.mk k s n zTy l) := by
 obtain ⟨ss, h1, h2, h3⟩ := kids_tot' l (by omega) hp
 have hj := join_le (hs ++ ss) [32]
 rw [lens_append, List.length_append] at hj
 simp only [List.length_cons, List.length_nil] at hj
 refine ⟨[40] ++ Lib.join (hs ++ ss) [32] ++ [41], by rw [cx_tot_mk, zTy_sz]; simp only [List.length_append, List.length_cons, List.length_nil]; omega, fun F f hF hf => ?_⟩
 rw [cx_tot_mk, zTy_sz] at hF hf
 obtain ⟨g, rfl, hg⟩ := fuel_succ hf (by omega)
 have k1 : (k == 1) = false := by simp; omega
 have k2 : (k == 2) = false := by simp; omega
 simp only [kpR, cxmk, k1, k2, hk9, Bool.false_eq_true, if_false, hw, h3 F g (by omega) (by omega)]
 rw [if_pos hk]
 exact short_ok (by simp only [List.length_append, List.length_cons, List.length_nil]; omega)
theorem kpR_tot {c : Cx} (h : GC c) : c.tot ≤ 1000000 → KTot c := by
 have lz := zTy_sz
 induction h with
 | var s h1 =>
  intro hs
  refine ⟨s, by rw [cx_tot_mk, cx_tots_nil]; omega, fun F f hF hf => ?_⟩
  obtain ⟨g, rfl, hg⟩ := fuel_succ hf (by rw [cx_tot_mk]; omega)
  simp only [kpR, cxmk]
  exact short_ok (by omega)
 | refl t h1 =>
  intro hs
  rw [cx_tot_mk, cx_tots_nil] at hs
  obtain ⟨a, ha, fa⟩ := pr_tot h1 (by omega)
  refine ⟨[60] ++ a ++ [62], by rw [cx_tot_mk, cx_tots_nil]; simp only [List.length_append, List.length_cons, List.length_nil]; omega, fun F f hF hf => ?_⟩
  rw [cx_tot_mk, cx_tots_nil] at hF hf
  have := sz_pos t
  obtain ⟨g, rfl, hg⟩ := fuel_succ hf (by omega)
  simp only [kpR, cxmk, fa F (by omega)]
  exact short_ok (by simp only [List.length_append, List.length_cons, List.length_nil]; omega)
 | sym x hx ih =>
  intro hs
  rw [cx_tot_mk, cx_tots_one] at hs
  exact rule_tot (hs := [wordC 3]) (by decide) (by decide) rfl (by decide) (by rw [cx_tots_one]; omega) (by intro c hc _; rw [List.mem_singleton.1 hc]; exact ih (by omega))
 | trans x y hx hy ihx ihy =>
  intro hs
  rw [cx_tot_mk, cx_tots_two] at hs
  refine rule_tot (hs := [wordC 4]) (by decide) (by decide) rfl (by decide) (by rw [cx_tots_two]; omega) ?_
  intro c hc _
  rcases List.mem_cons.1 hc with rfl | hc
  · exact ihx (by omega)
  · rw [List.mem_singleton.1 hc]; exact ihy (by omega)
 | con s l h1 hl ih =>
  intro hs
  rw [cx_tot_mk] at hs
  refine rule_tot (by decide) (by decide) rfl ?_ (by omega) ih
  have := wordC_len 5
  simp only [lens_cons, lens_nil, List.length_cons, List.length_nil]
  simp only [cxmk]
  omega
 | fn x y hx hy ihx ihy =>
  intro hs
  rw [cx_tot_mk, cx_tots_two] at hs
  refine rule_tot (hs := [wordC 6]) (by decide) (by decide) rfl (by decide) (by rw [cx_tots_two]; omega) ?_
  intro c hc _
  rcases List.mem_cons.1 hc with rfl | hc
  · exact ihx (by omega)
  · rw [List.mem_singleton.1 hc]; exact ihy (by omega)
 | all s x h1 hx ih =>
  intro hs
  rw [cx_tot_mk, cx_tots_one] at hs
  refine rule_tot (by decide) (by decide) rfl ?_ (by rw [cx_tots_one]; omega) (by intro c hc _; rw [List.mem_singleton.1 hc]; exact ih (by omega))
  have := wordC_len 7
  simp only [lens_cons, lens_nil, List.length_cons, List.length_nil]
  simp only [cxmk]
  omega
 | nth n x h0 h1 hx ih =>
  intro hs
  rw [cx_tot_mk, cx_tots_one] at hs
  have hc : (0 ≤ n ∧ n < 1000000000) = True := eq_true ⟨h0, by omega⟩
  refine rule_tot (hs := [wordC 8, Lib.itoa n]) (by decide) (by decide) (by simp only [headW, cxmk, hc, if_true]; rfl) ?_ (by rw [cx_tots_one]; omega) (by intro c hc _; rw [List.mem_singleton.1 hc]; exact ih (by omega))
  have := wordC_len 8
  have := itoa_short h0 h1
  simp only [lens_cons, lens_nil, List.length_cons, List.length_nil]
  omega
 | inst x t hx hT ih =>
  intro hs
  rw [cx_tot_mk, cx_tots_one] at hs
  obtain ⟨a, ha, fa⟩ := ih (by omega)
  obtain ⟨b, hb, fb⟩ := pr_tot hT (by omega)
  have := sz_pos t
  have hj := join_le ([wordC 9] ++ [a] ++ [[60] ++ b ++ [62]]) [32]
  rw [lens_append, lens_append, List.length_append, List.length_append] at hj
  simp only [lens_cons, lens_nil, List.length_append, List.length_cons, List.length_nil] at hj
  have := wordC_len 9
  refine ⟨[40] ++ Lib.join ([wordC 9] ++ [a] ++ [[60] ++ b ++ [62]]) [32] ++ [41], by rw [cx_tot_mk, cx_tots_one]; simp only [List.length_append, List.length_cons, List.length_nil] at hj ⊢; omega, fun F f hF hf => ?_⟩
  rw [cx_tot_mk, cx_tots_one] at hF hf
  obtain ⟨g, rfl, hg⟩ := fuel_succ hf (by omega)
  have hw : headW (.mk 9 [] 0 t [x]) = some [wordC 9] := rfl
  simp only [kpR, cxmk, allR, hw, fa F g (by omega) (by omega), fb F (by omega)]
  exact short_ok (by simp only [List.length_append, List.length_cons, List.length_nil] at hj ⊢; omega)
end Go.Proofs
namespace Go.Proofs
open Go.Av
set_option maxHeartbeats 4000000
set_option maxRecDepth 100000
/-! terms as texts: there is always one -/
def MTot (e : Tm) : Prop := ∃ s, s.length + 30 ≤ 100 * e.tot ∧ ∀ F f, 3 * e.tot ≤ F → e.tot ≤ f → mpR F f e = some s
theorem lens_map_pre (p : UInt8) (l : List (List UInt8)) : Lib.lens (l.map ([p] ++ ·)) = Lib.lens l + l.length := by
 induction l with
 | nil => simp [Lib.lens]
 | cons x l ih => simp only [List.map_cons, lens_cons, ih, List.length_append, List.length_cons, List.length_nil]; omega
theorem altW_lens {a : Ta} (h : a.con.length ≤ 16 ∧ N16 a.types ∧ N16 a.cos ∧ N16 a.vars) : Lib.lens (altW a) + (altW a).length ≤ 17 + 18 * (a.types.length + a.cos.length + a.vars.length) := by
 have h1 := lens_names _ h.2.1
 have h2 := lens_names _ h.2.2.1
 have h3 := lens_names _ h.2.2.2
 unfold altW
 simp only [lens_append, lens_map_pre, lens_cons, lens_nil, List.length_append, List.length_map, List.length_cons, List.length_nil]
 have := h.1
 omega
theorem altsM_tot : ∀ (al : List Ta), GAl al → Ta.tots al ≤ 1000000 → (∀ a, a ∈ al → a.body.tot ≤ 1000000 → MTot a.body) → ∃ ss, Lib.lens ss + 2 * ss.length ≤ 100 * Ta.tots al ∧ ∀ F f, 3 * Ta.tots al ≤ F → Ta.tots al ≤ f → altsM (mpR F f) al = some ss
 | [], _, _, _ => ⟨[], by simp [Lib.lens], fun F f _ _ => rfl⟩
 | .mk c ts cs vs b :: r, hg, hs, hp => by
  simp only [Ta.tots, Ta.tot] at hs ⊢
  have hx := hg (.mk c ts cs vs b) (List.mem_cons_self ..)
  obtain ⟨a, ha, hf⟩ := hp (.mk c ts cs vs b) (List.mem_cons_self ..) (by simp only [Ta.body]; omega)
  simp only [Ta.body] at ha hf
  obtain ⟨ss, h1, h3⟩ := altsM_tot r (fun y hy => hg y (List.mem_cons_of_mem _ hy)) (by omega) (fun y hy => hp y (List.mem_cons_of_mem _ hy))
  refine ⟨altM (.mk c ts cs vs b) a :: ss, ?_, fun F f hF hf' => ?_⟩
  · rw [lens_cons, List.length_cons]
    have hj := join_le (altW (.mk c ts cs vs b)) [32]
    have hw := altW_lens hx.2
    simp only [Ta.types, Ta.cos, Ta.vars] at hw
    simp only [List.length_cons, List.length_nil] at hj
    simp only [altM, List.length_append, List.length_cons, List.length_nil]
    omega
  · simp only [altsM, Ta.body, hf F f (by omega) (by omega), h3 F f (by omega) (by omega)]
theorem mpR_tot {e : Tm} (h : GM e) : e.tot ≤ 1000000 → MTot e := by
 have lz := zTy_sz
 have lc := zCx_tot
 induction h with
 | nam k s hk h1 =>
  intro hs
  have ht : (Tm.mk k s zTy zCx [] []).tot = 2 := by rw [tm_tot_mk, tm_tots_nil, ta_tots_nil]; omega
  refine ⟨s, by omega, fun F f hF hf => ?_⟩
  obtain ⟨g, rfl, hg⟩ := fuel_succ hf (by omega)
  rcases hk with rfl | rfl
  · simp only [mpR, tmk]
    exact short_ok (by omega)
  · simp only [mpR, tmk]
    exact short_ok (by omega)
 | lam s t x h1 hT hx ih =>
  intro hs
  have ht : (Tm.mk 3 s t zCx [x] []).tot = t.sz + 1 + x.tot := by rw [tm_tot_mk, tm_tots_one, ta_tots_nil]; omega
  rw [ht] at hs
  obtain ⟨a, ha, fa⟩ := ih (by omega)
  obtain ⟨b, hb, fb⟩ := pr_tot hT (by omega)
  refine ⟨[40, 92] ++ s ++ [32, 58, 32] ++ b ++ [46, 32] ++ a ++ [41], by rw [ht]; simp only [List.length_append, List.length_cons, List.length_nil]; omega, fun F f hF hf => ?_⟩
  rw [ht] at hF hf
  obtain ⟨g, rfl, hg⟩ := fuel_succ hf (by omega)
  simp only [mpR, tmk, kids1m, fa F g (by omega) (by omega), fb F (by omega)]
  exact short_ok (by simp only [List.length_append, List.length_cons, List.length_nil]; omega)
 | tlam s x h1 hx ih =>
  intro hs
  have ht : (Tm.mk 4 s zTy zCx [x] []).tot = 2 + x.tot := by rw [tm_tot_mk, tm_tots_one, ta_tots_nil]; omega
  rw [ht] at hs
  obtain ⟨a, ha, fa⟩ := ih (by omega)
  refine ⟨[40, 33] ++ s ++ [46, 32] ++ a ++ [41], by rw [ht]; simp only [List.length_append, List.length_cons, List.length_nil]; omega, fun F f hF hf => ?_⟩
  rw [ht] at hF hf
  obtain ⟨g, rfl, hg⟩ := fuel_succ hf (by omega)
  simp only [mpR, tmk, kids1m, fa F g (by omega) (by omega)]
  exact short_ok (by simp only [List.length_append, List.length_cons, List.length_nil]; omega)
 | app x y hx hy ihx ihy =>
  intro hs
  have ht : (Tm.mk 5 [] zTy zCx [x, y] []).tot = 2 + x.tot + y.tot := by rw [tm_tot_mk, tm_tots_two, ta_tots_nil]; omega
  rw [ht] at hs
  obtain ⟨a, ha, fa⟩ := ihx (by omega)
  obtain ⟨b, hb, fb⟩ := ihy (by omega)
  refine ⟨[40] ++ a ++ [32] ++ b ++ [41], by rw [ht]; simp only [List.length_append, List.length_cons, List.length_nil]; omega, fun F f hF hf => ?_⟩
  rw [ht] at hF hf
  obtain ⟨g, rfl, hg⟩ := fuel_succ hf (by omega)
  simp only [mpR, tmk, kids2m, fa F g (by omega) (by omega), fb F g (by omega) (by omega)]
  exact short_ok (by simp only [List.length_append, List.length_cons, List.length_nil]; omega)
 | tapp t x hT hx ih =>
  intro hs
  have ht : (Tm.mk 6 [] t zCx [x] []).tot = t.sz + 1 + x.tot := by rw [tm_tot_mk, tm_tots_one, ta_tots_nil]; omega
  rw [ht] at hs
  obtain ⟨a, ha, fa⟩ := ih (by omega)
  obtain ⟨b, hb, fb⟩ := pr_tot hT (by omega)
  refine ⟨[40] ++ a ++ [32, 64, 32] ++ b ++ [41], by rw [ht]; simp only [List.length_append, List.length_cons, List.length_nil]; omega, fun F f hF hf => ?_⟩
  rw [ht] at hF hf
  obtain ⟨g, rfl, hg⟩ := fuel_succ hf (by omega)
  simp only [mpR, tmk, kids1m, fa F g (by omega) (by omega), fb F (by omega)]
  exact short_ok (by simp only [List.length_append, List.length_cons, List.length_nil]; omega)
 | capp c x hC hx ih =>
  intro hs
  have ht : (Tm.mk 7 [] zTy c [x] []).tot = 1 + c.tot + x.tot := by rw [tm_tot_mk, tm_tots_one, ta_tots_nil]; omega
  rw [ht] at hs
  obtain ⟨a, ha, fa⟩ := ih (by omega)
  obtain ⟨b, hb, fb⟩ := kpR_tot hC (by omega)
  refine ⟨[40] ++ a ++ [32, 126, 32] ++ b ++ [41], by rw [ht]; simp only [List.length_append, List.length_cons, List.length_nil]; omega, fun F f hF hf => ?_⟩
  rw [ht] at hF hf
  obtain ⟨g, rfl, hg⟩ := fuel_succ hf (by omega)
  simp only [mpR, tmk, kids1m, fa F g (by omega) (by omega), fb F F (by omega) (by omega)]
  exact short_ok (by simp only [List.length_append, List.length_cons, List.length_nil]; omega)
 | lett s t x y h1 hT hx hy ihx ihy =>
  intro hs
  have ht : (Tm.mk 8 s t zCx [x, y] []).tot = t.sz + 1 + x.tot + y.tot := by rw [tm_tot_mk, tm_tots_two, ta_tots_nil]; omega
  rw [ht] at hs
  have := sz_pos t
  obtain ⟨a, ha, fa⟩ := ihx (by omega)
  obtain ⟨b, hb, fb⟩ := ihy (by omega)
  obtain ⟨c, hc, fc⟩ := pr_tot hT (by omega)
  refine ⟨[40, 108, 101, 116, 32] ++ s ++ [32, 58, 32] ++ c ++ [32, 61, 32] ++ a ++ [32, 105, 110, 32] ++ b ++ [41], by rw [ht]; simp only [List.length_append, List.length_cons, List.length_nil]; omega, fun F f hF hf => ?_⟩
  rw [ht] at hF hf
  obtain ⟨g, rfl, hg⟩ := fuel_succ hf (by omega)
  simp only [mpR, tmk, kids2m, fa F g (by omega) (by omega), fb F g (by omega) (by omega), fc F (by omega)]
  exact short_ok (by simp only [List.length_append, List.length_cons, List.length_nil]; omega)
 | cas t x al hT hx hb hn ihx ihb =>
  intro hs
  have ht : (Tm.mk 9 [] t zCx [x] al).tot = t.sz + 1 + x.tot + Ta.tots al := by rw [tm_tot_mk, tm_tots_one]; omega
  rw [ht] at hs
  have := sz_pos t
  obtain ⟨a, ha, fa⟩ := ihx (by omega)
  obtain ⟨c, hc, fc⟩ := pr_tot hT (by omega)
  obtain ⟨ss, h1, h2⟩ := altsM_tot al (fun a h => ⟨hb a h, hn a h⟩) (by omega) ihb
  have hj := join_le ss [59, 32]
  simp only [List.length_cons, List.length_nil] at hj
  refine ⟨[40, 99, 97, 115, 101, 32] ++ a ++ [32, 58, 32] ++ c ++ [32, 111, 102, 32, 123] ++ Lib.join ss [59, 32] ++ [125, 41], by rw [ht]; simp only [List.length_append, List.length_cons, List.length_nil]; omega, fun F f hF hf => ?_⟩
  rw [ht] at hF hf
  obtain ⟨g, rfl, hg⟩ := fuel_succ hf (by omega)
  simp only [mpR, tmk, kids1m, fa F g (by omega) (by omega), fc F (by omega), h2 F g (by omega) (by omega)]
  exact short_ok (by simp only [List.length_append, List.length_cons, List.length_nil]; omega)
 | cast c x hC hx ih =>
  intro hs
  have ht : (Tm.mk 10 [] zTy c [x] []).tot = 1 + c.tot + x.tot := by rw [tm_tot_mk, tm_tots_one, ta_tots_nil]; omega
  rw [ht] at hs
  obtain ⟨a, ha, fa⟩ := ih (by omega)
  obtain ⟨b, hb, fb⟩ := kpR_tot hC (by omega)
  refine ⟨[40] ++ a ++ [32, 124, 62, 32] ++ b ++ [41], by rw [ht]; simp only [List.length_append, List.length_cons, List.length_nil]; omega, fun F f hF hf => ?_⟩
  rw [ht] at hF hf
  obtain ⟨g, rfl, hg⟩ := fuel_succ hf (by omega)
  simp only [mpR, tmk, kids1m, fa F g (by omega) (by omega), fb F F (by omega) (by omega)]
  exact short_ok (by simp only [List.length_append, List.length_cons, List.length_nil]; omega)
/-! how deep -/
mutual
def Cx.within : Cx → Nat
 | .mk _ _ _ _ ks => Cx.withins ks + 1
def Cx.withins : List Cx → Nat
 | [] => 0
 | e :: r => max (Cx.within e) (Cx.withins r)
end
mutual
def Cx.tdep : Cx → Nat
 | .mk k _ _ t ks => max (if k == 2 || k == 9 then t.depth else 0) (Cx.tdeps ks)
def Cx.tdeps : List Cx → Nat
 | [] => 0
 | e :: r => max (Cx.tdep e) (Cx.tdeps r)
end
mutual
def Tm.deep : Nat → Tm → Bool
 | n, .mk _ _ t c ks al => decide (100 ≤ n) || (decide (c.within > 50) || (decide (c.tdep > 50) || (decide (t.depth > 50) || (Tm.deeps (n + 1) ks || Ta.deeps (n + 1) al))))
def Tm.deeps : Nat → List Tm → Bool
 | _, [] => false
 | n, e :: r => Tm.deep n e || Tm.deeps n r
def Ta.deep : Nat → Ta → Bool
 | n, .mk _ _ _ _ e => Tm.deep n e
def Ta.deeps : Nat → List Ta → Bool
 | _, [] => false
 | n, a :: r => Ta.deep n a || Ta.deeps n r
end
theorem cx_within_eq (c : Cx) : c.within = Cx.withins c.kids + 1 := by cases c; simp [Cx.within, Cx.kids]
theorem cx_tdep_eq (c : Cx) : c.tdep = max (if c.kind == 2 || c.kind == 9 then c.ty.depth else 0) (Cx.tdeps c.kids) := by cases c; simp [Cx.tdep, Cx.kids, Cx.kind, Cx.ty]
theorem tm_deep_eq (n : Nat) (e : Tm) : e.deep n = (decide (100 ≤ n) || (decide (e.co.within > 50) || (decide (e.co.tdep > 50) || (decide (e.ty.depth > 50) || (Tm.deeps (n + 1) e.kids || Ta.deeps (n + 1) e.alts))))) := by
 cases e; simp [Tm.deep, Tm.co, Tm.ty, Tm.kids, Tm.alts]
theorem cx_withins_snoc (l : List Cx) (x : Cx) : Cx.withins (l ++ [x]) = max (Cx.withins l) x.within := by
 induction l with
 | nil => simp [Cx.withins]
 | cons y l ih => simp only [List.cons_append, Cx.withins, ih]; omega
theorem cx_tdeps_snoc (l : List Cx) (x : Cx) : Cx.tdeps (l ++ [x]) = max (Cx.tdeps l) x.tdep := by
 induction l with
 | nil => simp [Cx.tdeps]
 | cons y l ih => simp only [List.cons_append, Cx.tdeps, ih]; omega
theorem tm_deeps_any (n : Nat) (l : List Tm) : Tm.deeps n l = l.any (Tm.deep n) := by
 induction l with
 | nil => simp [Tm.deeps]
 | cons y l ih => simp [Tm.deeps, ih]
theorem ta_deeps_any (n : Nat) (l : List Ta) : Ta.deeps n l = l.any fun a => a.body.deep n := by
 induction l with
 | nil => simp [Ta.deeps]
 | cons y l ih => cases y; simp [Ta.deeps, Ta.deep, Ta.body, ih]
end Go.Proofs
