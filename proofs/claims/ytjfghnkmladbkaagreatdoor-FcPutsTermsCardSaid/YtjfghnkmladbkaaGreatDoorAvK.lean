/- Lists of names; the places of an array. -/
import Derived.Test.YtjfghnkmladbkaaGreatDoorAvF
import Derived.Test.YtjfghnkmladbkaaGreatDoorAvH
import Derived.Test.YtjfghnkmladbkaaGreatDoorAvI
import Derived.Test.YtjfghnkmladbkaaGreatDoorAvG
namespace Go.Proofs
open Go.Av
set_option maxHeartbeats 16000000
set_option maxRecDepth 100000
/-! lists of names -/
theorem strsGet (l : List (List UInt8)) (i : Nat) : (l.map AVal.str)[i]? = (l[i]?).map AVal.str := by simp
theorem dropGet {α : Type} {l : List α} {i : Nat} {x : α} (h : l[i]? = some x) : l.drop i = x :: l.drop (i + 1) := by
 obtain ⟨h1, h2⟩ := List.getElem?_eq_some_iff.1 h
 rw [List.drop_eq_getElem_cons h1, h2]
theorem getS {α : Type} {l : List α} {i : Nat} (h : i < l.length) : ∃ x, l[i]? = some x := ⟨l[i], List.getElem?_eq_getElem h⟩
def idxR : List (List UInt8) → List UInt8 → Nat → Int
 | [], _, _ => -1
 | x :: r, n, i => if n == x then (i : Int) else idxR r n (i + 1)
theorem idxR_ge : ∀ (l : List (List UInt8)) (n : List UInt8) (i : Nat), decide (idxR l n i ≥ 0) = l.contains n
 | [], n, i => rfl
 | x :: r, n, i => by
  rw [List.contains_cons]
  unfold idxR
  cases h : n == x
  · simp only [Bool.false_eq_true, if_false, Bool.false_or]; exact idxR_ge r n (i + 1)
  · simp
theorem index_den (l : List (List UInt8)) (n : List UInt8) (hl : l.length < 1000000) : den E 119 [.slice (l.map .str), .str n] [] = some (.int .i64 (idxR l n 0), []) := by
 rw [den_eq prim_119, body_119]
 simp only [go_sem, Tryz.f119, List.length_map]
 refine run_ind (fun i : Nat => i ≤ l.length) (fun i => ⟨[(0, .slice (l.map .str)), (1, .str n), (7, .int .i64 l.length), (8, .int .i64 i)], [], [], 1⟩) (fun i => some (.int .i64 (idxR (l.drop i) n i), [])) (fun i => l.length - i) 0 (Nat.zero_le _) ?_ ?_
 · simp only [go_sem]
 · intro i hi h
   by_cases hlt : i < l.length
   · obtain ⟨x, hx⟩ := getS hlt
     rw [dropGet hx]
     have w1 : IntKind.i64.wrap ((i : Int) + 1) = ((i + 1 : Nat) : Int) := wrapN (i + 1) (by omega)
     cases hq : n == x
     · simp only [go_sem, natlt, decide_eq_true hlt, natge0, tonat, strsGet, hx, hq, idxR]
       refine h (i + 1) _ (by omega) (by omega) ?_
       simp only [go_sem, w1]
     · simp only [go_sem, natlt, decide_eq_true hlt, natge0, tonat, strsGet, hx, hq, idxR]
   · have hie : i = l.length := by omega
     subst hie
     rw [List.drop_length]
     simp only [go_sem, natlt, Nat.lt_irrefl, idxR]
theorem contains_den (l : List (List UInt8)) (n : List UInt8) (hl : l.length < 1000000) : den E 57 [.slice (l.map .str), .str n] [] = some (.bool (l.contains n), []) := by
 rw [den_eq prim_57, body_57]
 have h1 := index_den l n hl
 have h2 := idxR_ge l n 0
 simp only [go_sem, Tryz.f57, h1, h2]
end Go.Proofs
namespace Go.Proofs
open Go.Av
set_option maxHeartbeats 16000000
set_option maxRecDepth 100000
/-! sets of names -/
def entsV (l : List (List UInt8)) : List AVal := l.map fun n => .tup [.str n, .bool true]
theorem isL_ents (l : List (List UInt8)) : isL (entsV l) = none := by
 cases l with
 | nil => rfl
 | cons a r => cases r <;> rfl
attribute [go_sem ↓] isL_ents
def addS (l : List (List UInt8)) (n : List UInt8) : List (List UInt8) := if l.contains n then l else l ++ [n]
def cellIn (ns : List BName) (c : AVal) : AVal := ren1 (toPar ns) (stamp1 0 c)
def cellOut (ns : List BName) (n : Nat) (c : AVal) : AVal := ren1 (ofPar ns) (stamp1 n c)
theorem callF_func {D : FuncId → List AVal → Heap → Option (AVal × Heap)} {s : St} {n : Nat} {dst : Option Nat} {args : List AVal} {f : FuncId} {first cap : List AVal} : callF D s n dst args (.func f first cap) = (match (first ++ (args ++ cap)).flatMap names with
 | [] => (D f (first ++ (args ++ cap)) []).bind fun r => match r.2 with
  | [] => some (s.putD dst (recvC n r.1))
  | _ :: _ => none
 | b :: bs => (reach s 100 (b :: bs) []).bind fun ns => (boxesAt s ns).bind fun H =>
  (D f ((first ++ (args ++ cap)).map (ren (toPar ns))) (H.map (List.map (cellIn ns)))).bind fun r =>
    (setBoxes s ns (r.2.map (List.map (cellOut ns n)))).map fun s' => s'.putD dst (recvC n (ren (ofPar ns) r.1))) := rfl
end Go.Proofs
namespace Go.Proofs
open Go.Av
set_option maxHeartbeats 16000000
set_option maxRecDepth 100000
/-! the first of names that is none of others -/
end Go.Proofs
namespace Go.Proofs
open Go.Av
set_option maxHeartbeats 16000000
set_option maxRecDepth 100000
/-! going through an expression -/
section
variable {α : Type} (ext : List (List UInt8) → List (List UInt8) → List (List UInt8)) (fa : Ex → List (List UInt8) → α → α) (fb : Al → α → α)
end
section
variable {α : Type} {ext : List (List UInt8) → List (List UInt8) → List (List UInt8)} {fa : Ex → List (List UInt8) → α → α} {fb : Al → α → α}
end
/-- names have no parts, lambdas have one, lets two -/
inductive SX : Ex → Prop
 | mk (e : Ex) : (e.kind = 1 → e.kids = [] ∧ e.alts = []) → (e.kind = 3 → (∃ x, e.kids = [x]) ∧ e.alts = []) → (e.kind = 5 → (∃ x y, e.kids = [x, y]) ∧ e.alts = []) → (∀ x ∈ e.kids, SX x) → (∀ a ∈ e.alts, SX a.body) → SX e
theorem SX.nam {e : Ex} (h : SX e) (hk : (e.kind == 1) = true) : e.kids = [] ∧ e.alts = [] := by cases h with | mk _ h _ _ _ _ => exact h (by simpa using hk)
theorem SX.lam {e : Ex} (h : SX e) (hk : (e.kind == 3) = true) : ∃ x, e.kids = [x] := by cases h with | mk _ _ h _ _ _ => exact (h (by simpa using hk)).1
theorem SX.lett {e : Ex} (h : SX e) (hk : (e.kind == 5) = true) : ∃ x y, e.kids = [x, y] := by cases h with | mk _ _ _ h _ _ => exact (h (by simpa using hk)).1
theorem SX.kid {e x : Ex} (h : SX e) (hx : x ∈ e.kids) : SX x := by cases h with | mk _ _ _ _ h _ => exact h x hx
theorem SX.alt {e : Ex} {a : Al} (h : SX e) (hx : a ∈ e.alts) : SX a.body := by cases h with | mk _ _ _ _ _ h => exact h a hx
end Go.Proofs
namespace Go.Proofs
open Go.Av
set_option maxHeartbeats 16000000
set_option maxRecDepth 100000
/-! what is done at each expression and each alternative -/
end Go.Proofs
namespace Go.Proofs
open Go.Av
set_option maxHeartbeats 16000000
set_option maxRecDepth 100000
end Go.Proofs
namespace Go.Proofs
open Go.Av
set_option maxHeartbeats 16000000
set_option maxRecDepth 100000
end Go.Proofs
namespace Go.Proofs
open Go.Av
set_option maxHeartbeats 16000000
set_option maxRecDepth 100000
end Go.Proofs
namespace Go.Proofs
open Go.Av
set_option maxHeartbeats 16000000
set_option maxRecDepth 100000
end Go.Proofs
namespace Go.Proofs
open Go.Av
set_option maxHeartbeats 16000000
set_option maxRecDepth 100000
/-! what stands free, the constructors, and what is bound -/
/-! what is declared -/
structure Tab where
 data : List (List UInt8)
 cons : List (List UInt8)
 sigs : List (List UInt8)
 binds : List (List UInt8)
def Tab.len (T : Tab) : Nat := T.data.length + T.cons.length + T.sigs.length + T.binds.length
end Go.Proofs
namespace Go.Proofs
open Go.Av
set_option maxHeartbeats 16000000
set_option maxRecDepth 100000
/-! declaring -/
end Go.Proofs
namespace Go.Proofs
open Go.Av
set_option maxHeartbeats 16000000
set_option maxRecDepth 100000
/-! whether all names are as they may be -/
end Go.Proofs
namespace Go.Proofs
open Go.Av
set_option maxHeartbeats 16000000
set_option maxRecDepth 100000
/-! the document's sets of names -/
theorem beqC (x n : List UInt8) : (x == n) = (n == x) := by
 by_cases h : x = n
 · subst h; rfl
 · rw [beq_eq_false_iff_ne.2 h, beq_eq_false_iff_ne.2 (Ne.symm h)]
theorem has_den (l : List (List UInt8)) (n : List UInt8) (hl : l.length < 1000000) : den E 51 [.slice (l.map .str), .str n] [] = some (.bool (l.contains n), []) := by
 rw [den_eq prim_51, body_51]
 simp only [go_sem, Tryz.f51]
 refine run_ind (fun i : Nat => i ≤ l.length) (fun i => ⟨[(0, .slice (l.map .str)), (1, .str n), (5, .int .i64 i)], [], [], 1⟩) (fun i => some (.bool ((l.drop i).contains n), [])) (fun i => l.length - i) 0 (Nat.zero_le _) ?_ ?_
 · simp only [go_sem]
 · intro i hi h
   by_cases hlt : i < l.length
   · obtain ⟨x, hx⟩ := getS hlt
     rw [dropGet hx, List.contains_cons]
     have w1 : IntKind.i64.wrap ((i : Int) + 1) = ((i + 1 : Nat) : Int) := wrapN (i + 1) (by omega)
     cases hq : n == x
     · simp only [go_sem, List.length_map, natlt, decide_eq_true hlt, natge0, tonat, strsGet, hx, beqC x n, hq]
       refine h (i + 1) _ (by omega) (by omega) ?_
       simp only [go_sem, w1]
     · simp only [go_sem, List.length_map, natlt, decide_eq_true hlt, natge0, tonat, strsGet, hx, beqC x n, hq]
   · have hie : i = l.length := by omega
     subst hie
     rw [List.drop_length]
     simp only [go_sem, List.length_map, natlt, Nat.lt_irrefl, List.contains_nil]
theorem headCase (l : List (List UInt8)) : (l.map AVal.str).head? = none ∨ ∃ a, (l.map AVal.str).head? = some (.str a) := by cases l <;> simp
/-! the document goes through an expression part by part -/
section
variable {α : Type} {fa : Ex → List (List UInt8) → α → α} {fb : Al → α → α}
end
end Go.Proofs
namespace Go.Proofs
open Go.Av
set_option maxHeartbeats 16000000
set_option maxRecDepth 100000
/-! lists of names -/
/-! sets of names -/
/-! what is free in a type -/
def freeAt (t : Ty) (b acc : List (List UInt8)) : List (List UInt8) := if t.kind == 1 && !b.contains t.name then addS acc t.name else acc
mutual
def freeT : Ty → List (List UInt8) → List (List UInt8) → List (List UInt8)
 | .mk k s n a, b, acc => freeTs a (if k == 5 then addS b s else b) (freeAt (.mk k s n a) b acc)
def freeTs : List Ty → List (List UInt8) → List (List UInt8) → List (List UInt8)
 | [], _, acc => acc
 | t :: r, b, acc => freeTs r b (freeT t b acc)
end
theorem freeT_eq (t : Ty) (b acc : List (List UInt8)) : freeT t b acc = freeTs t.args (if t.kind == 5 then addS b t.name else b) (freeAt t b acc) := by
 cases t; simp only [freeT, Ty.args, Ty.kind, Ty.name]; rfl
theorem freeTs_nil (b acc : List (List UInt8)) : freeTs [] b acc = acc := by simp only [freeTs]
theorem freeTs_cons (t : Ty) (r : List Ty) (b acc : List (List UInt8)) : freeTs (t :: r) b acc = freeTs r b (freeT t b acc) := by simp only [freeTs]
theorem addS_le (l : List (List UInt8)) (n : List UInt8) : (addS l n).length ≤ l.length + 1 := by
 unfold addS; split
 · omega
 · simp
theorem freeAt_le (t : Ty) (b acc : List (List UInt8)) : (freeAt t b acc).length ≤ acc.length + 1 := by
 unfold freeAt; split
 · exact addS_le _ _
 · omega
theorem szs_cons (t : Ty) (r : List Ty) : Ty.szs (t :: r) = t.sz + Ty.szs r := by simp [Ty.szs]
theorem freeT_le : ∀ (n : Nat) (t : Ty), t.sz ≤ n → ∀ b acc, (freeT t b acc).length ≤ acc.length + t.sz := by
 intro n
 induction n with
 | zero => intro t h; have := sz_eq t; omega
 | succ n ih =>
  have hs : ∀ (l : List Ty) b acc, Ty.szs l ≤ n → (freeTs l b acc).length ≤ acc.length + Ty.szs l := by
   intro l
   induction l with
   | nil => intro b acc _; rw [freeTs_nil]; omega
   | cons x r ihr =>
    intro b acc hl
    rw [szs_cons] at hl ⊢
    rw [freeTs_cons]
    have := ih x (by omega) b acc
    have := ihr b (freeT x b acc) (by omega)
    omega
  intro t h b acc
  have := sz_eq t
  have h1 := freeAt_le t b acc
  have h2 := hs t.args (if t.kind == 5 then addS b t.name else b) (freeAt t b acc) (by omega)
  rw [freeT_eq]; omega
theorem args_len (t : Ty) : t.args.length + 1 ≤ t.sz := by
 have : ∀ l : List Ty, l.length ≤ Ty.szs l := by
  intro l
  induction l with
  | nil => simp
  | cons x r ih => rw [szs_cons, List.length_cons]; have := sz_eq x; omega
 have := this t.args
 have := sz_eq t
 omega
theorem tysGet (l : List Ty) (i : Nat) : (tysV l)[i]? = (l[i]?).map tyV := by simp [tysV_map]
end Go.Proofs
namespace Go.Proofs
open Go.Av
set_option maxHeartbeats 16000000
set_option maxRecDepth 100000
/-! a name that none of these is -/
end Go.Proofs
namespace Go.Proofs
open Go.Av
set_option maxHeartbeats 16000000
set_option maxRecDepth 100000
/-! an array that is filled, cell by cell -/
def tyC (t : Ty) : List AVal := [.int .i64 t.kind, .str t.name, .int .i64 t.n, .slice (tysV t.args)]
theorem repA_map (f : AVal → AVal) (z : List AVal) : ∀ n, (repA n z).map f = repA n (z.map f)
 | 0 => rfl
 | n + 1 => by rw [repA, List.map_append, repA_map f z n]; rfl
end Go.Proofs
