/- Sizes and depths; what the tokens of a text are. -/
import Derived.Test.YtjfghnkmladbkaaGreatDoorAvG
namespace Go.Proofs
open Go.Av
set_option maxHeartbeats 8000000
set_option maxRecDepth 100000
/-- the program's reader: its tokens; was something wrong? -/
structure Rd where
 l : List Tok
 bad : Bool
def rdV (r : Rd) : List AVal := [.slice (toksV r.l), .bool r.bad]
def seesR (r : Rd) (k : Int) (s : List UInt8) : Bool := !r.bad && seesT r.l k s
def takeR (r : Rd) (k : Int) (s : List UInt8) : Rd := if seesR r k s then ⟨r.l.tail, false⟩ else ⟨r.l, true⟩
def wordR (r : Rd) (k : Int) (s : List UInt8) : List UInt8 := if seesR r k s then textT r.l else []
def takesR (r : Rd) (k : Int) (s : List UInt8) : Rd := if seesR r k s then ⟨r.l.tail, false⟩ else r
theorem seesR_cons {r : Rd} {k : Int} {s : List UInt8} (h : seesR r k s = true) : r.bad = false ∧ ∃ t q, r.l = t :: q := by
 unfold seesR at h
 simp only [Bool.and_eq_true, Bool.not_eq_true'] at h
 exact ⟨h.1, seesT_cons h.2⟩
/-- a type -/
def typR (f : Nat) (r : Rd) : Option (Ty × Rd) :=
 if r.bad then some (zTy, r) else match tyR f .typ r.l with
  | none => none
  | some (t, ok, l') => if ok then some (t, ⟨l', false⟩) else some (zTy, ⟨[], true⟩)
/-- variables -/
def namesR (r : Rd) : List (List UInt8) := if r.bad then [] else namesT r.l
def behindR (r : Rd) : Rd := ⟨r.l.drop (namesR r).length, r.bad⟩
end Go.Proofs
namespace Go.Proofs
open Go.Av
set_option maxHeartbeats 16000000
set_option maxRecDepth 100000
mutual
inductive Ex where
 | mk (kind : Int) (name : List UInt8) (told : Bool) (ty : Ty) (kids : List Ex) (alts : List Al)
inductive Al where
 | mk (con : List UInt8) (vars : List (List UInt8)) (body : Ex)
end
def Ex.kind : Ex → Int | .mk k _ _ _ _ _ => k
def Ex.name : Ex → List UInt8 | .mk _ s _ _ _ _ => s
def Ex.told : Ex → Bool | .mk _ _ b _ _ _ => b
def Ex.ty : Ex → Ty | .mk _ _ _ t _ _ => t
def Ex.kids : Ex → List Ex | .mk _ _ _ _ l _ => l
def Ex.alts : Ex → List Al | .mk _ _ _ _ _ l => l
def Al.con : Al → List UInt8 | .mk c _ _ => c
def Al.vars : Al → List (List UInt8) | .mk _ v _ => v
def Al.body : Al → Ex | .mk _ _ e => e
def zEx : Ex := .mk 0 [] false zTy [] []

inductive XM where
 | expr
 | lets
 | atom
 | loop (e : Ex)
 | alts (acc : List Al)
/-! what is left of the tokens -/
theorem takeR_suf (r : Rd) (k : Int) (s : List UInt8) : (takeR r k s).l <:+ r.l := by
 unfold takeR; split
 · exact tail_suf _
 · exact List.suffix_refl _
theorem takesR_suf (r : Rd) (k : Int) (s : List UInt8) : (takesR r k s).l <:+ r.l := by
 unfold takesR; split
 · exact tail_suf _
 · exact List.suffix_refl _
theorem behindR_suf (r : Rd) : (behindR r).l <:+ r.l := List.drop_suffix _ _
theorem typR_suf {f : Nat} {r : Rd} {t : Ty} {r' : Rd} (h : typR f r = some (t, r')) : r'.l <:+ r.l := by
 unfold typR at h
 split at h
 · injection h with h; injection h with _ h; subst h; exact List.suffix_refl _
 · split at h
   · cases h
   · rename_i t2 ok l2 h2
     split at h
     · injection h with h; injection h with _ h; subst h; exact tyR_suf _ _ _ _ _ _ h2
     · injection h with h; injection h with _ h; subst h; exact List.nil_suffix
end Go.Proofs
namespace Go.Proofs
open Go.Av
set_option maxHeartbeats 16000000
set_option maxRecDepth 100000
theorem zTy_k : zTy.kind = 0 := rfl
theorem zTy_s : zTy.name = [] := rfl
theorem zTy_n : zTy.n = 0 := rfl
theorem zTy_a : zTy.args = [] := rfl
end Go.Proofs
namespace Go.Proofs
open Go.Av
set_option maxHeartbeats 16000000
set_option maxRecDepth 100000
structure Co where
 name : List UInt8
 ty : Ty
structure De where
 kind : Int
 name : List UInt8
 vars : List (List UInt8)
 cons : List Co
 ty : Ty
 val : Ex
end Go.Proofs
namespace Go.Proofs
open Go.Av
set_option maxHeartbeats 16000000
set_option maxRecDepth 100000
mutual
def Ex.size : Ex → Nat
 | .mk _ _ _ _ ks al => Ex.sizes ks + Al.sizes al + 1
def Ex.sizes : List Ex → Nat
 | [] => 0
 | e :: r => Ex.size e + Ex.sizes r
def Al.size : Al → Nat
 | .mk _ _ b => Ex.size b
def Al.sizes : List Al → Nat
 | [] => 0
 | a :: r => Al.size a + Al.sizes r
end
mutual
def Ex.depth : Ex → Nat
 | .mk _ _ _ _ ks al => max (Ex.depths ks) (Al.depths al) + 1
def Ex.depths : List Ex → Nat
 | [] => 0
 | e :: r => max (Ex.depth e) (Ex.depths r)
def Al.depth : Al → Nat
 | .mk _ _ b => Ex.depth b
def Al.depths : List Al → Nat
 | [] => 0
 | a :: r => max (Al.depth a) (Al.depths r)
end
mutual
/-- how deep are the types that it tells? -/
def Ex.tdep : Ex → Nat
 | .mk k _ b t ks al => max (if b || k == 7 then t.depth else 0) (max (Ex.tdeps ks) (Al.tdeps al))
def Ex.tdeps : List Ex → Nat
 | [] => 0
 | e :: r => max (Ex.tdep e) (Ex.tdeps r)
def Al.tdep : Al → Nat
 | .mk _ _ b => Ex.tdep b
def Al.tdeps : List Al → Nat
 | [] => 0
 | a :: r => max (Al.tdep a) (Al.tdeps r)
end
mutual
/-- all that there is -/
def Ex.tot : Ex → Nat
 | .mk _ _ _ t ks al => Ex.tots ks + Al.tots al + t.sz
def Ex.tots : List Ex → Nat
 | [] => 0
 | e :: r => Ex.tot e + Ex.tots r
def Al.tot : Al → Nat
 | .mk _ vs b => Ex.tot b + vs.length + 1
def Al.tots : List Al → Nat
 | [] => 0
 | a :: r => Al.tot a + Al.tots r
end
end Go.Proofs
namespace Go.Proofs
open Go.Av
set_option maxHeartbeats 16000000
set_option maxRecDepth 100000
end Go.Proofs
namespace Go.Proofs
open Go.Av
set_option maxHeartbeats 16000000
set_option maxRecDepth 100000
theorem any_take {α : Type} {p : α → Bool} {l : List α} {i : Nat} {x : α} (h : l[i]? = some x) (h0 : (l.take i).any p = false) : (p x = true → l.any p = true) ∧ (p x = false → (l.take (i + 1)).any p = false) := by
 refine ⟨fun hx => List.any_eq_true.2 ⟨x, List.mem_of_getElem? h, hx⟩, fun hx => ?_⟩
 rw [take_snoc h, List.any_append, h0]; simp [hx]
end Go.Proofs
namespace Go.Proofs
open Go.Av
set_option maxHeartbeats 16000000
set_option maxRecDepth 100000
def scanO (s : List UInt8) : List Tok × Int :=
 if s.length > 4000 then ([], 2) else match scanS (s.length + 1) (gapN false s) (s.drop (gapN false s)) with
  | .ok l => (l, 0)
  | .error _ => ([], 10)
theorem scanO_T (s : List UInt8) : ∃ p, scanT s = .tup [.slice (toksV (scanO s).1), .int .i64 p, .int .i64 (scanO s).2] := by
 unfold scanT scanO
 split
 · exact ⟨0, by simp [toksV_nil]⟩
 · cases scanS (s.length + 1) (gapN false s) (s.drop (gapN false s)) with
   | ok l => exact ⟨0, by simp [scanR]⟩
   | error p => exact ⟨p, by simp [scanR, toksV_nil]⟩
theorem scanAll_den (s : List UInt8) : den E 45 [.str s] [] = some (scanT s, []) := by
 by_cases h : s.length < 1000000
 · exact scan_den s h
 · rw [den_eq prim_45, body_45]
   have h1 : decide ((s.length : Int) > 4000) = true := decide_eq_true (by omega)
   unfold scanT
   rw [if_pos (by omega)]
   simp only [go_sem, Tryz.f45, h1]
theorem scanAll1_den (s : List UInt8) : den E 48 [.str s] [] = some (scanT s, []) := by
 by_cases h : s.length < 1000000
 · exact scan1_den s h
 · rw [den_eq prim_48, body_48]
   have h1 : decide ((s.length : Int) > 4000) = true := decide_eq_true (by omega)
   unfold scanT
   rw [if_pos (by omega)]
   simp only [go_sem, Tryz.f48, h1]
def De.tot (d : De) : Nat := Ty.szs (d.cons.map Co.ty) + d.ty.sz + d.val.tot + d.cons.length + d.vars.length
theorem natDeep (n : Nat) : decide ((n : Int) > 50) = decide (n > 50) := by simp; omega
end Go.Proofs
namespace Go.Proofs
open Go.Av
set_option maxHeartbeats 16000000
set_option maxRecDepth 100000
theorem bne_not (a b : Int) : (a != b) = !(a == b) := rfl
end Go.Proofs
namespace Go.Proofs
open Go.Av
set_option maxHeartbeats 16000000
set_option maxRecDepth 100000
/-! the document's steps: an index, -1 where something was wrong -/
def idx (full : List Tok) (r : Rd) : Int := if r.bad then -1 else ((full.length - r.l.length : Nat) : Int)
theorem idx_bad {full : List Tok} {r : Rd} (h : r.bad = true) : idx full r = -1 := by unfold idx; rw [h]; rfl
theorem idx_ok {full : List Tok} {r : Rd} (h : r.bad = false) : idx full r = ((full.length - r.l.length : Nat) : Int) := by unfold idx; rw [h]; rfl
theorem idxB (full l : List Tok) : idx full ⟨l, true⟩ = -1 := rfl
theorem idxG (full l : List Tok) : idx full ⟨l, false⟩ = ((full.length - l.length : Nat) : Int) := rfl
theorem nat_neg (n : Nat) : decide ((n : Int) < 0) = false := by simp
theorem idx_next {full : List Tok} {r : Rd} {k : Int} {s : List UInt8} (hs : r.l <:+ full) (h : seesR r k s = true) : idx full ⟨r.l.tail, false⟩ = idx full r + 1 ∧ idx full r = ((full.length - r.l.length : Nat) : Int) ∧ full.length - r.l.length < full.length := by
 obtain ⟨hb, t, q, hl⟩ := seesR_cons h
 have := hs.length_le
 rw [hl, List.length_cons] at this
 rw [idx_ok (r := r) hb]
 refine ⟨?_, rfl, ?_⟩
 · unfold idx; rw [hl]; simp only [Bool.false_eq_true, if_false, List.tail_cons, List.length_cons]; omega
 · rw [hl, List.length_cons]; omega
def headR (r : Rd) : List UInt8 := if r.bad then [] else match r.l with
 | [] => []
 | t :: _ => t.text
theorem headR_sees {r : Rd} {k : Int} {s : List UInt8} (h : seesR r k s = true) : headR r = wordR r k s := by
 obtain ⟨hb, t, q, hl⟩ := seesR_cons h
 unfold headR wordR
 rw [h, hb, hl]; rfl
end Go.Proofs
namespace Go.Proofs
open Go.Av
set_option maxHeartbeats 16000000
set_option maxRecDepth 100000
theorem run_ex {E : Env} {f : FuncId} {C : Code} {K : List Item} {s : St} {α : Type} (Q : Option (AVal × Heap) → Prop) (I : α → Prop) (S : α → St) (m : α → Nat) (x : α) (hx : I x) (h0 : headF E f s K = some (S x))
 (hs : ∀ x, I x → (∀ y t, I y → m y < m x → headF E f t K = some (S y) → Q (run E f (.inLoop C :: K) t)) → Q (run E f (.code C :: .inLoop C :: K) (S x))) : Q (run E f (.code (.loop C) :: K) s) := by
 rw [run_loop h0]
 have key : ∀ n x, m x ≤ n → I x → Q (run E f (.code C :: .inLoop C :: K) (S x)) := by
  intro n
  induction n with
  | zero => exact fun x hm hi => hs x hi fun y t _ hy => by omega
  | succ n ih =>
   exact fun x hm hi => hs x hi fun y t hiy hy ht => by
    rw [run_inLoop ht]; exact ih y (by omega) hiy
 exact key (m x) x (Nat.le_refl _) hx
theorem seesR_bad {r : Rd} (h : r.bad = true) (k : Int) (s : List UInt8) : seesR r k s = false := by unfold seesR; rw [h]; rfl
theorem takeR_bad {r : Rd} (h : r.bad = true) (k : Int) (s : List UInt8) : takeR r k s = r := by
 unfold takeR; rw [seesR_bad h]; cases r; simp only at h; subst h; rfl
theorem takeR_good {r : Rd} {k : Int} {s : List UInt8} (h : (takeR r k s).bad = false) : seesR r k s = true := by
 cases hs : seesR r k s
 · unfold takeR at h; rw [hs] at h; cases h
 · rfl
theorem sees_good {r : Rd} {k : Int} {s : List UInt8} (h : seesR r k s = true) : r.bad = false := (seesR_cons h).1
theorem typR_bad {f : Nat} {r : Rd} {x : Ty × Rd} (hb : r.bad = true) (h : typR f r = some x) : x.2.bad = true := by
 unfold typR at h; rw [hb, if_pos rfl] at h; injection h with h; subst h; exact hb
theorem typR_good {f : Nat} {r : Rd} {x : Ty} {r' : Rd} (h : typR f r = some (x, r')) (hg : r'.bad = false) : r.bad = false := by
 cases hb : r.bad
 · rfl
 · have h2 := typR_bad hb h
   simp only at h2; rw [hg] at h2; cases h2
theorem takesR_eq {r : Rd} {k : Int} {s : List UInt8} (h : seesR r k s = true) : takesR r k s = ⟨r.l.tail, false⟩ := by unfold takesR; rw [h, if_pos rfl]
theorem takeR_eq {r : Rd} {k : Int} {s : List UInt8} (h : seesR r k s = true) : takeR r k s = ⟨r.l.tail, false⟩ := by unfold takeR; rw [h, if_pos rfl]
theorem idx_takes {full : List Tok} {r : Rd} {k : Int} {s : List UInt8} (hs : r.l <:+ full) (hlen : full.length < 1000000) (h : seesR r k s = true) : IntKind.i64.wrap (idx full r + 1) = idx full (takesR r k s) := by
 obtain ⟨i1, i2, i3⟩ := idx_next hs h
 rw [takesR_eq h, i1, i2]; exact IntWalk.i64_in _ (by omega)
theorem idx_lt0 (full : List Tok) (r : Rd) : decide (idx full r < 0) = r.bad := by
 unfold idx; cases r.bad <;> simp
theorem idx_ge0 (full : List Tok) (r : Rd) : decide (idx full r ≥ 0) = !r.bad := by
 unfold idx; cases r.bad <;> simp
end Go.Proofs
namespace Go.Proofs
open Go.Av
set_option maxHeartbeats 16000000
set_option maxRecDepth 100000
end Go.Proofs
namespace Go.Proofs
open Go.Av
set_option maxHeartbeats 16000000
set_option maxRecDepth 100000
end Go.Proofs
namespace Go.Proofs
open Go.Av
set_option maxHeartbeats 16000000
set_option maxRecDepth 100000
theorem idx_ne {full : List Tok} {r : Rd} (hs : r.l <:+ full) : (idx full r != ((full.length : Nat) : Int)) = (r.bad || decide (0 < r.l.length)) := by
 have := hs.length_le
 unfold idx
 cases r.bad
 · simp only [Bool.false_eq_true, if_false, Bool.false_or]
   rw [bne_not, Bool.eq_iff_iff]
   simp only [Bool.not_eq_true', beq_eq_false_iff_ne, ne_eq, decide_eq_true_eq]
   omega
 · simp only [if_true, Bool.true_or]
   rw [bne_not, Bool.not_eq_true', beq_eq_false_iff_ne]; omega
theorem idx0 (full : List Tok) : idx full ⟨full, false⟩ = 0 := by unfold idx; simp
end Go.Proofs
namespace Go.Proofs
open Go.Av
set_option maxHeartbeats 16000000
set_option maxRecDepth 100000
theorem le_str {n : Nat} (h : n ≤ 4000000000) : (n ≤ strMax) = True := by
 unfold strMax; exact eq_true (by omega)
def par (b : Bool) (s : List UInt8) : List UInt8 := if b then [40] ++ s ++ [41] else s
theorem lens_mem : ∀ {l : List (List UInt8)} {s : List UInt8}, s ∈ l → s.length + l.length ≤ Lib.lens l + l.length
 | x :: l, s, h => by
  rcases List.mem_cons.1 h with rfl | h
  · simp [Lib.lens]
  · have := lens_mem h; simp [Lib.lens] at this ⊢; omega
theorem join_mem_len {l : List (List UInt8)} {s sep : List UInt8} (h : s ∈ l) : s.length ≤ (Lib.join l sep).length := by
 have h1 := lens_mem h
 cases l with
 | nil => cases h
 | cons x r => rw [Lib.join_length]; omega
theorem join_den (l : List (List UInt8)) (sep : List UInt8) (h1 : (Lib.join l sep).length ≤ 4000000000) (h2 : l.length ≤ 4000000000) : den E 61 [.slice (l.map .str), .str sep] [] = some (.str (Lib.join l sep), []) := by
 rw [den_prim prim_61]
 simp only [joinP, strs_map, Option.bind_some]
 rw [if_pos ⟨by omega, by omega⟩]
end Go.Proofs
namespace Go.Proofs
open Go.Av
set_option maxHeartbeats 16000000
set_option maxRecDepth 100000
end Go.Proofs
namespace Go.Proofs
open Go.Av
set_option maxHeartbeats 16000000
set_option maxRecDepth 100000
end Go.Proofs
namespace Go.Proofs
open Go.Av
set_option maxHeartbeats 16000000
set_option maxRecDepth 100000
theorem join_snoc (l : List (List UInt8)) (s sep : List UInt8) (h : l ≠ []) : Lib.join (l ++ [s]) sep = Lib.join l sep ++ sep ++ s := by
 cases l with
 | nil => exact absurd rfl h
 | cons x r =>
  rw [List.cons_append, Lib.join_cons, Lib.join_cons]
  simp [Lib.joinTail, List.append_assoc]
theorem join_take_le (l : List (List UInt8)) (sep : List UInt8) (k : Nat) : (Lib.join (l.take k) sep).length ≤ (Lib.join l sep).length := by
 cases l with
 | nil => simp
 | cons x r =>
  cases k with
  | zero => simp [Lib.join_nil]
  | succ k =>
   rw [List.take_succ_cons, Lib.join_cons, Lib.join_cons, List.length_append, List.length_append]
   have := Lib.joinTail_take_le sep r k; omega
theorem natgt0 (i : Nat) : decide ((i : Int) > 0) = decide (0 < i) := by simp
theorem strs_get (l : List (List UInt8)) (i : Nat) : (l.map AVal.str)[i]? = (l[i]?).map AVal.str := by simp
end Go.Proofs
namespace Go.Proofs
open Go.Av
set_option maxHeartbeats 16000000
set_option maxRecDepth 100000
theorem join_step {ss : List (List UInt8)} {i : Nat} {s : List UInt8} (sep : List UInt8) (h : ss[i]? = some s) : Lib.join (ss.take (i + 1)) sep = Lib.join (ss.take i) sep ++ (if decide (0 < i) then sep else []) ++ s := by
 rw [take_snoc h]
 by_cases hi0 : 0 < i
 · have hlt := (List.getElem?_eq_some_iff.1 h).1
   rw [join_snoc _ _ _ (List.ne_nil_of_length_pos (by rw [List.length_take]; omega)), decide_eq_true hi0]
   simp
 · have : i = 0 := by omega
   subst this
   simp [Lib.join_one, Lib.join_nil]
end Go.Proofs
