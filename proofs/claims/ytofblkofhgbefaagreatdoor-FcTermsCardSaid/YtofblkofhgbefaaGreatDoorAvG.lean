/- What the readers of expressions give, and sizes and depths. -/
import Derived.Test.YtofblkofhgbefaaGreatDoorAvF
namespace Go.Proofs
open Go.Av
set_option maxHeartbeats 8000000
set_option maxRecDepth 100000
/-- the program's reader: its tokens; was something wrong? -/
structure Rd where
  l : List Tok
  bad : Bool
def rdV (r : Rd) : List AVal := [.slice (toksV r.l), .bool r.bad]
def seesR (r : Rd) (k : Int) (s : List UInt8) : Bool := !r.bad && seesT r.l k s
def takeR (r : Rd) (k : Int) (s : List UInt8) : Rd := if seesR r k s then ⟨r.l.tail, false⟩ else ⟨r.l, true⟩
def wordR (r : Rd) (k : Int) (s : List UInt8) : List UInt8 := if seesR r k s then textT r.l else []
def takesR (r : Rd) (k : Int) (s : List UInt8) : Rd := if seesR r k s then ⟨r.l.tail, false⟩ else r
theorem seesR_cons {r : Rd} {k : Int} {s : List UInt8} (h : seesR r k s = true) : r.bad = false ∧ ∃ t q, r.l = t :: q := by
  unfold seesR at h
  simp only [Bool.and_eq_true, Bool.not_eq_true'] at h
  exact ⟨h.1, seesT_cons h.2⟩
/-- a type -/
def typR (f : Nat) (r : Rd) : Option (Ty × Rd) :=
  if r.bad then some (zTy, r) else match tyR f .typ r.l with
    | none => none
    | some (t, ok, l') => if ok then some (t, ⟨l', false⟩) else some (zTy, ⟨[], true⟩)
/-- variables -/
def namesR (r : Rd) : List (List UInt8) := if r.bad then [] else namesT r.l
def behindR (r : Rd) : Rd := ⟨r.l.drop (namesR r).length, r.bad⟩
end Go.Proofs
namespace Go.Proofs
open Go.Av
set_option maxHeartbeats 16000000
set_option maxRecDepth 100000
mutual
inductive Ex where
  | mk (kind : Int) (name : List UInt8) (told : Bool) (ty : Ty) (kids : List Ex) (alts : List Al)
inductive Al where
  | mk (con : List UInt8) (vars : List (List UInt8)) (body : Ex)
end
def Ex.kind : Ex → Int | .mk k _ _ _ _ _ => k
def Ex.name : Ex → List UInt8 | .mk _ s _ _ _ _ => s
def Ex.told : Ex → Bool | .mk _ _ b _ _ _ => b
def Ex.ty : Ex → Ty | .mk _ _ _ t _ _ => t
def Ex.kids : Ex → List Ex | .mk _ _ _ _ l _ => l
def Ex.alts : Ex → List Al | .mk _ _ _ _ _ l => l
def Al.con : Al → List UInt8 | .mk c _ _ => c
def Al.vars : Al → List (List UInt8) | .mk _ v _ => v
def Al.body : Al → Ex | .mk _ _ e => e
def zEx : Ex := .mk 0 [] false zTy [] []

inductive XM where
  | expr
  | lets
  | atom
  | loop (e : Ex)
  | alts (acc : List Al)
/-! what is left of the tokens -/
theorem takeR_suf (r : Rd) (k : Int) (s : List UInt8) : (takeR r k s).l <:+ r.l := by
  unfold takeR; split
  · exact tail_suf _
  · exact List.suffix_refl _
theorem takesR_suf (r : Rd) (k : Int) (s : List UInt8) : (takesR r k s).l <:+ r.l := by
  unfold takesR; split
  · exact tail_suf _
  · exact List.suffix_refl _
theorem behindR_suf (r : Rd) : (behindR r).l <:+ r.l := List.drop_suffix _ _
theorem typR_suf {f : Nat} {r : Rd} {t : Ty} {r' : Rd} (h : typR f r = some (t, r')) : r'.l <:+ r.l := by
  unfold typR at h
  split at h
  · injection h with h; injection h with _ h; subst h; exact List.suffix_refl _
  · split at h
    · cases h
    · rename_i t2 ok l2 h2
      split at h
      · injection h with h; injection h with _ h; subst h; exact tyR_suf _ _ _ _ _ _ h2
      · injection h with h; injection h with _ h; subst h; exact List.nil_suffix
end Go.Proofs
namespace Go.Proofs
open Go.Av
set_option maxHeartbeats 16000000
set_option maxRecDepth 100000
theorem zTy_k : zTy.kind = 0 := rfl
theorem zTy_s : zTy.name = [] := rfl
theorem zTy_n : zTy.n = 0 := rfl
theorem zTy_a : zTy.args = [] := rfl
end Go.Proofs
namespace Go.Proofs
open Go.Av
set_option maxHeartbeats 16000000
set_option maxRecDepth 100000
structure Co where
  name : List UInt8
  ty : Ty
structure De where
  kind : Int
  name : List UInt8
  vars : List (List UInt8)
  cons : List Co
  ty : Ty
  val : Ex
end Go.Proofs
namespace Go.Proofs
open Go.Av
set_option maxHeartbeats 16000000
set_option maxRecDepth 100000
mutual
def Ex.size : Ex → Nat
  | .mk _ _ _ _ ks al => Ex.sizes ks + Al.sizes al + 1
def Ex.sizes : List Ex → Nat
  | [] => 0
  | e :: r => Ex.size e + Ex.sizes r
def Al.size : Al → Nat
  | .mk _ _ b => Ex.size b
def Al.sizes : List Al → Nat
  | [] => 0
  | a :: r => Al.size a + Al.sizes r
end
mutual
def Ex.depth : Ex → Nat
  | .mk _ _ _ _ ks al => max (Ex.depths ks) (Al.depths al) + 1
def Ex.depths : List Ex → Nat
  | [] => 0
  | e :: r => max (Ex.depth e) (Ex.depths r)
def Al.depth : Al → Nat
  | .mk _ _ b => Ex.depth b
def Al.depths : List Al → Nat
  | [] => 0
  | a :: r => max (Al.depth a) (Al.depths r)
end
mutual
/-- how deep are the types that it tells? -/
def Ex.tdep : Ex → Nat
  | .mk k _ b t ks al => max (if b || k == 7 then t.depth else 0) (max (Ex.tdeps ks) (Al.tdeps al))
def Ex.tdeps : List Ex → Nat
  | [] => 0
  | e :: r => max (Ex.tdep e) (Ex.tdeps r)
def Al.tdep : Al → Nat
  | .mk _ _ b => Ex.tdep b
def Al.tdeps : List Al → Nat
  | [] => 0
  | a :: r => max (Al.tdep a) (Al.tdeps r)
end
mutual
/-- all that there is -/
def Ex.tot : Ex → Nat
  | .mk _ _ _ t ks al => Ex.tots ks + Al.tots al + t.sz
def Ex.tots : List Ex → Nat
  | [] => 0
  | e :: r => Ex.tot e + Ex.tots r
def Al.tot : Al → Nat
  | .mk _ vs b => Ex.tot b + vs.length + 1
def Al.tots : List Al → Nat
  | [] => 0
  | a :: r => Al.tot a + Al.tots r
end
end Go.Proofs
namespace Go.Proofs
open Go.Av
set_option maxHeartbeats 16000000
set_option maxRecDepth 100000
end Go.Proofs
namespace Go.Proofs
open Go.Av
set_option maxHeartbeats 16000000
set_option maxRecDepth 100000
theorem any_take {α : Type} {p : α → Bool} {l : List α} {i : Nat} {x : α} (h : l[i]? = some x) (h0 : (l.take i).any p = false) : (p x = true → l.any p = true) ∧ (p x = false → (l.take (i + 1)).any p = false) := by
  refine ⟨fun hx => List.any_eq_true.2 ⟨x, List.mem_of_getElem? h, hx⟩, fun hx => ?_⟩
  rw [take_snoc h, List.any_append, h0]; simp [hx]
end Go.Proofs
namespace Go.Proofs
open Go.Av
set_option maxHeartbeats 16000000
set_option maxRecDepth 100000
def scanO (s : List UInt8) : List Tok × Int :=
  if s.length > 4000 then ([], 2) else match scanS (s.length + 1) (gapN false s) (s.drop (gapN false s)) with
    | .ok l => (l, 0)
    | .error _ => ([], 10)
theorem scanO_T (s : List UInt8) : ∃ p, scanT s = .tup [.slice (toksV (scanO s).1), .int .i64 p, .int .i64 (scanO s).2] := by
  unfold scanT scanO
  split
  · exact ⟨0, by simp [toksV_nil]⟩
  · cases scanS (s.length + 1) (gapN false s) (s.drop (gapN false s)) with
    | ok l => exact ⟨0, by simp [scanR]⟩
    | error p => exact ⟨p, by simp [scanR, toksV_nil]⟩
theorem scanAll_den (s : List UInt8) : den E 41 [.str s] [] = some (scanT s, []) := by
  by_cases h : s.length < 1000000
  · exact scan_den s h
  · rw [den_eq prim_41, body_41]
    have h1 : decide ((s.length : Int) > 4000) = true := decide_eq_true (by omega)
    unfold scanT
    rw [if_pos (by omega)]
    simp only [go_sem, ↓reduceIte, Nat.reduceEqDiff, Nat.reduceAdd, Nat.reduceLeDiff, Nat.zero_ne_one, Nat.reduceLT, reduceCtorEq, Tryz.f41, h1]
theorem scanAll1_den (s : List UInt8) : den E 48 [.str s] [] = some (scanT s, []) := by
  by_cases h : s.length < 1000000
  · exact scan1_den s h
  · rw [den_eq prim_48, body_48]
    have h1 : decide ((s.length : Int) > 4000) = true := decide_eq_true (by omega)
    unfold scanT
    rw [if_pos (by omega)]
    simp only [go_sem, ↓reduceIte, Nat.reduceEqDiff, Nat.reduceAdd, reduceCtorEq, Tryz.f48, h1]
def De.tot (d : De) : Nat := Ty.szs (d.cons.map Co.ty) + d.ty.sz + d.val.tot + d.cons.length + d.vars.length
theorem natDeep (n : Nat) : decide ((n : Int) > 50) = decide (n > 50) := by simp; omega
end Go.Proofs
namespace Go.Proofs
open Go.Av
set_option maxHeartbeats 16000000
set_option maxRecDepth 100000
theorem bne_not (a b : Int) : (a != b) = !(a == b) := rfl
end Go.Proofs
