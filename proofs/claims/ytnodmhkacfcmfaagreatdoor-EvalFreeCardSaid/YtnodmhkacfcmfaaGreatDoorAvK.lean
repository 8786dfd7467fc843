/- An expression is put in the place of a name. -/
import Derived.Test.YtnodmhkacfcmfaaGreatDoorAvG
import Derived.Test.YtnodmhkacfcmfaaGreatDoorAvH
namespace Go.Proofs
open Go.Av
set_option maxHeartbeats 16000000
set_option maxRecDepth 100000
/-! lists of names -/
theorem strsGet (l : List (List UInt8)) (i : Nat) : (l.map AVal.str)[i]? = (l[i]?).map AVal.str := by simp
theorem dropGet {α : Type} {l : List α} {i : Nat} {x : α} (h : l[i]? = some x) : l.drop i = x :: l.drop (i + 1) := by
  obtain ⟨h1, h2⟩ := List.getElem?_eq_some_iff.1 h
  rw [List.drop_eq_getElem_cons h1, h2]
theorem getS {α : Type} {l : List α} {i : Nat} (h : i < l.length) : ∃ x, l[i]? = some x := ⟨l[i], List.getElem?_eq_getElem h⟩
def idxR : List (List UInt8) → List UInt8 → Nat → Int
  | [], _, _ => -1
  | x :: r, n, i => if n == x then (i : Int) else idxR r n (i + 1)
theorem idxR_ge : ∀ (l : List (List UInt8)) (n : List UInt8) (i : Nat), decide (idxR l n i ≥ 0) = l.contains n
  | [], n, i => rfl
  | x :: r, n, i => by
    rw [List.contains_cons]
    unfold idxR
    cases h : n == x
    · simp only [Bool.false_eq_true, if_false, Bool.false_or]; exact idxR_ge r n (i + 1)
    · simp
theorem index_den (l : List (List UInt8)) (n : List UInt8) (hl : l.length < 1000000) : den E 41 [.slice (l.map .str), .str n] [] = some (.int .i64 (idxR l n 0), []) := by
  rw [den_eq prim_41, body_41]
  simp only [go_sem, ↓reduceIte, Nat.reduceEqDiff, Nat.reduceAdd, reduceCtorEq, Int.reduceNeg, Tryz.f41, List.length_map]
  refine run_ind (fun i : Nat => i ≤ l.length) (fun i => ⟨[(0, .slice (l.map .str)), (1, .str n), (7, .int .i64 l.length), (8, .int .i64 i)], [], [], 1⟩) (fun i => some (.int .i64 (idxR (l.drop i) n i), [])) (fun i => l.length - i) 0 (Nat.zero_le _) ?_ ?_
  · simp only [go_sem, ↓reduceIte, Nat.reduceEqDiff, reduceCtorEq, Int.cast_ofNat_Int]
  · intro i hi h
    by_cases hlt : i < l.length
    · obtain ⟨x, hx⟩ := getS hlt
      rw [dropGet hx]
      have w1 : IntKind.i64.wrap ((i : Int) + 1) = ((i + 1 : Nat) : Int) := wrapN (i + 1) (by omega)
      cases hq : n == x
      · simp only [go_sem, ↓reduceIte, Nat.reduceEqDiff, Nat.reduceAdd, reduceCtorEq, Int.reduceNeg, natlt, decide_eq_true hlt, natge0, tonat, strsGet, hx, hq, idxR]
        refine h (i + 1) _ (by omega) (by omega) ?_
        simp only [go_sem, ↓reduceIte, Nat.reduceEqDiff, reduceCtorEq, w1]
      · simp only [go_sem, ↓reduceIte, Nat.reduceEqDiff, Nat.reduceAdd, reduceCtorEq, Int.reduceNeg, natlt, decide_eq_true hlt, natge0, tonat, strsGet, hx, hq, idxR]
    · have hie : i = l.length := by omega
      subst hie
      rw [List.drop_length]
      simp only [go_sem, ↓reduceIte, Nat.reduceEqDiff, Nat.reduceAdd, reduceCtorEq, Int.reduceNeg, natlt, Nat.lt_irrefl, idxR]
theorem contains_den (l : List (List UInt8)) (n : List UInt8) (hl : l.length < 1000000) : den E 23 [.slice (l.map .str), .str n] [] = some (.bool (l.contains n), []) := by
  rw [den_eq prim_23, body_23]
  have h1 := index_den l n hl
  have h2 := idxR_ge l n 0
  simp only [go_sem, ↓reduceIte, Nat.reduceEqDiff, Nat.reduceAdd, reduceCtorEq, Tryz.f23, h1, h2]
end Go.Proofs
namespace Go.Proofs
open Go.Av
set_option maxHeartbeats 16000000
set_option maxRecDepth 100000
/-! rows of elements, cell by cell -/
structure CellF {α : Type} (z : Nat) (f : α → List AVal) : Prop where
  len : ∀ x, (f x).length = z
  head : ∀ x, (f x).map stampH = f x
  strip : ∀ x, (f x).map strip1 = f x
  stamp : ∀ n x, (f x).map (stamp1 n) = f x
  names : ∀ x, (f x).flatMap names1 = []
  pure : ∀ x, (f x).all pure1 = true
section
variable {α : Type} {z : Nat} {f : α → List AVal}
theorem CellF.flen (h : CellF z f) : ∀ l : List α, (l.flatMap f).length = l.length * z
  | [] => by simp
  | x :: l => by rw [List.flatMap_cons, List.length_append, h.flen l, h.len, List.length_cons, Nat.succ_mul, Nat.add_comm]
theorem CellF.fhead (h : CellF z f) : ∀ l : List α, (l.flatMap f).map stampH = l.flatMap f
  | [] => rfl
  | x :: l => by rw [List.flatMap_cons, List.map_append, h.head, h.fhead l]
theorem CellF.fstrip (h : CellF z f) : ∀ l : List α, (l.flatMap f).map strip1 = l.flatMap f
  | [] => rfl
  | x :: l => by rw [List.flatMap_cons, List.map_append, h.strip, h.fstrip l]
theorem CellF.fstamp (h : CellF z f) (n : Nat) : ∀ l : List α, (l.flatMap f).map (stamp1 n) = l.flatMap f
  | [] => rfl
  | x :: l => by rw [List.flatMap_cons, List.map_append, h.stamp, h.fstamp n l]
theorem CellF.fnames (h : CellF z f) : ∀ l : List α, (l.flatMap f).flatMap names1 = []
  | [] => rfl
  | x :: l => by rw [List.flatMap_cons, List.flatMap_append, h.names, h.fnames l]; rfl
theorem CellF.fpure (h : CellF z f) : ∀ l : List α, (l.flatMap f).all pure1 = true
  | [] => rfl
  | x :: l => by rw [List.flatMap_cons, List.all_append, h.pure, h.fpure l]; rfl
theorem CellF.fdrop (h : CellF z f) : ∀ (l : List α) (i : Nat), (l.flatMap f).drop (i * z) = (l.drop i).flatMap f
  | l, 0 => by simp
  | [], i + 1 => by simp
  | x :: l, i + 1 => by
    rw [List.flatMap_cons, Nat.succ_mul, Nat.add_comm, ← h.len x, List.drop_length_add_append, h.len, h.fdrop l i, List.drop_succ_cons]
theorem CellF.ftake (h : CellF z f) : ∀ (l : List α) (i : Nat), (l.flatMap f).take (i * z) = (l.take i).flatMap f
  | l, 0 => by simp
  | [], i + 1 => by simp
  | x :: l, i + 1 => by
    rw [List.flatMap_cons, Nat.succ_mul, Nat.add_comm, ← h.len x, List.take_length_add_append, h.len, h.ftake l i, List.take_succ_cons, List.flatMap_cons]
theorem CellF.load (h : CellF z f) {l : List α} {i : Nat} {x : α} (hx : l[i]? = some x) : (((l.flatMap f).drop (i * z)).take z).map strip1 = f x := by
  obtain ⟨h1, h2⟩ := List.getElem?_eq_some_iff.1 hx
  rw [h.fdrop, List.drop_eq_getElem_cons h1, h2, List.flatMap_cons, List.take_left' (h.len x), h.strip]
theorem set_split {l : List α} {i : Nat} (h : i < l.length) (y : α) : l.set i y = l.take i ++ y :: l.drop (i + 1) := by
  rw [List.set_eq_take_append_cons_drop, if_pos h]
theorem CellF.put (h : CellF z f) {l : List α} {i : Nat} {x : α} (hx : l[i]? = some x) (y : α) : (l.flatMap f).take (i * z) ++ (f y ++ (l.flatMap f).drop (i * z + z)) = (l.set i y).flatMap f := by
  obtain ⟨h1, h2⟩ := List.getElem?_eq_some_iff.1 hx
  rw [h.ftake, show i * z + z = (i + 1) * z from (Nat.succ_mul i z).symm, h.fdrop, set_split h1, List.flatMap_append, List.flatMap_cons]
theorem CellF.part (h : CellF z f) {l : List α} {i : Nat} {x : α} (hx : l[i]? = some x) {y : α} {a b c c' : List AVal} (h1 : f x = a ++ (c ++ b)) (h2 : f y = a ++ (c' ++ b)) (hc : c.length = c'.length) :
    (l.flatMap f).take (i * z + a.length) ++ (c' ++ (l.flatMap f).drop (i * z + a.length + c'.length)) = (l.set i y).flatMap f := by
  obtain ⟨h3, h4⟩ := List.getElem?_eq_some_iff.1 hx
  have e0 : l = l.take i ++ x :: l.drop (i + 1) := by rw [← h4, ← List.drop_eq_getElem_cons h3, List.take_append_drop]
  have hi : ((l.take i).flatMap f).length = i * z := by rw [h.flen, List.length_take, Nat.min_eq_left (Nat.le_of_lt h3)]
  have e1 : l.flatMap f = (l.take i).flatMap f ++ (a ++ (c ++ (b ++ (l.drop (i + 1)).flatMap f))) := by
    conv => lhs; rw [e0]
    rw [List.flatMap_append, List.flatMap_cons, h1]
    simp only [List.append_assoc]
  rw [set_split h3, List.flatMap_append, List.flatMap_cons, h2, e1, ← hi, List.take_length_add_append, List.take_left' rfl]
  rw [show ((l.take i).flatMap f).length + a.length + c'.length = ((l.take i).flatMap f).length + (a.length + c.length) by omega, List.drop_length_add_append, List.drop_length_add_append, List.drop_left' rfl]
  simp only [List.append_assoc]
end
theorem exC_len (e : Ex) : (exC e).length = 9 := by rw [exC_eq]; rfl
theorem exC_cell : CellF 9 exC where
  len := exC_len
  head e := by rw [exC_eq]; rfl
  strip e := by rw [exC_eq]; rfl
  stamp n e := by rw [exC_eq]; rfl
  names e := by rw [exC_eq]; rfl
  pure e := by rw [exC_eq]; rfl
def alC (a : Al) : List AVal := .str a.con :: .slice (a.vars.map .str) :: exC a.body
theorem alV_C (a : Al) : alV a = .agg (alC a) := alV_eq a
theorem alC_eq (a : Al) : alC a = [.str a.con, .slice (a.vars.map .str), .int .i64 a.body.kind, .str a.body.name, .bool a.body.told, .int .i64 a.body.ty.kind, .str a.body.ty.name, .int .i64 a.body.ty.n, .slice (tysV a.body.ty.args), .slice (exsV a.body.kids), .slice (alsV a.body.alts)] := by
  unfold alC; rw [exC_eq]
theorem alC_cell : CellF 11 alC where
  len a := by rw [alC_eq]; rfl
  head a := by rw [alC_eq]; rfl
  strip a := by rw [alC_eq]; rfl
  stamp n a := by rw [alC_eq]; rfl
  names a := by rw [alC_eq]; rfl
  pure a := by rw [alC_eq]; rfl
theorem flatC_exs (l : List Ex) : flatC (exsV l) = l.flatMap exC := by
  unfold flatC; rw [exsV_map, List.flatMap_map]; rfl
theorem flatC_als (l : List Al) : flatC (alsV l) = l.flatMap alC := by
  unfold flatC; rw [alsV_map, List.flatMap_map]
  congr 1
  funext a
  rw [alV_C]; rfl
theorem exs_chunks : ∀ l : List Ex, chunks true 9 l.length (l.flatMap exC) = exsV l
  | [] => by rw [exsV_nil]; rfl
  | e :: l => by
    rw [List.length_cons, chunks, List.flatMap_cons, exsV_cons, List.take_left' (exC_len e), List.drop_left' (exC_len e), exs_chunks l]; rfl
theorem als_chunks : ∀ l : List Al, chunks true 11 l.length (l.flatMap alC) = alsV l
  | [] => by rw [alsV_nil]; rfl
  | a :: l => by
    rw [List.length_cons, chunks, List.flatMap_cons, alsV_cons, List.take_left' (alC_cell.len a), List.drop_left' (alC_cell.len a), als_chunks l, alV_C]; rfl
/-! an expression in the place of a name -/
mutual
def putE (n : List UInt8) (u : Ex) : Ex → Ex
  | .mk k s b t ks al => if k == 1 && s == n then u else if (k == 3 && s == n) || k == 1 then .mk k s b t ks al else .mk k s b t (putK n u (k == 5 && s == n) ks) (putA n u al)
def putK (n : List UInt8) (u : Ex) : Bool → List Ex → List Ex
  | _, [] => []
  | o, e :: r => putE n u e :: (if o then r else putK n u false r)
def putA (n : List UInt8) (u : Ex) : List Al → List Al
  | [] => []
  | a :: r => putL n u a :: putA n u r
def putL (n : List UInt8) (u : Ex) : Al → Al
  | .mk c vs e => .mk c vs (if vs.contains n then e else putE n u e)
end
theorem putE_eq (n : List UInt8) (u e : Ex) : putE n u e = if e.kind == 1 && e.name == n then u else if (e.kind == 3 && e.name == n) || e.kind == 1 then e else .mk e.kind e.name e.told e.ty (putK n u (e.kind == 5 && e.name == n) e.kids) (putA n u e.alts) := by
  cases e; simp only [putE, Ex.kind, Ex.name, Ex.told, Ex.ty, Ex.kids, Ex.alts]; rfl
theorem putL_eq (n : List UInt8) (u : Ex) (a : Al) : putL n u a = .mk a.con a.vars (if a.vars.contains n then a.body else putE n u a.body) := by
  cases a; simp only [putL, Al.con, Al.vars, Al.body]; rfl
theorem putA_map (n : List UInt8) (u : Ex) : ∀ l, putA n u l = l.map (putL n u)
  | [] => by simp only [putA, List.map_nil]
  | a :: l => by rw [List.map_cons, ← putA_map n u l]; simp only [putA]
theorem putK_all (n : List UInt8) (u : Ex) : ∀ l, putK n u false l = l.map (putE n u)
  | [] => by simp only [putK, List.map_nil]
  | e :: l => by rw [List.map_cons, ← putK_all n u l]; simp only [putK, Bool.false_eq_true, if_false]
theorem putK_len (n : List UInt8) (u : Ex) (o : Bool) (l : List Ex) : (putK n u o l).length = l.length := by
  cases l with
  | nil => simp only [putK]
  | cons e l => cases o <;> simp [putK, putK_all]
theorem putK_get (n : List UInt8) (u : Ex) (o : Bool) {l : List Ex} {i : Nat} {x : Ex} (h : l[i]? = some x) : (putK n u o l)[i]? = some (if !o || i == 0 then putE n u x else x) := by
  cases l with
  | nil => simp at h
  | cons e l =>
    cases i with
    | zero => simp at h; subst h; simp [putK]
    | succ i =>
      have h' : l[i]? = some x := by simpa using h
      cases o
      · simp only [putK, Bool.false_eq_true, if_false, List.getElem?_cons_succ, putK_all, List.getElem?_map, h', Option.map_some, Bool.not_false, Bool.true_or, if_true]
      · have : ((i + 1 == 0) : Bool) = false := by simp
        simp only [putK, if_true, List.getElem?_cons_succ, h', Bool.not_true, Bool.false_or, this, Bool.false_eq_true, if_false]
/-- the first i are other ones -/
def upto' {α : Type} (new old : List α) (i : Nat) : List α := new.take i ++ old.drop i
theorem upto_get {α : Type} {new old : List α} (hl : new.length = old.length) {i : Nat} {x : α} (hx : old[i]? = some x) : (upto' new old i)[i]? = some x := by
  have h1 := (List.getElem?_eq_some_iff.1 hx).1
  unfold upto'
  rw [List.getElem?_append_right (by rw [List.length_take]; omega), List.length_take, Nat.min_eq_left (by omega), Nat.sub_self, List.getElem?_drop, Nat.add_zero, hx]
theorem upto_set {α : Type} {new old : List α} (hl : new.length = old.length) {i : Nat} {y : α} (hy : new[i]? = some y) : (upto' new old i).set i y = upto' new old (i + 1) := by
  have h1 := (List.getElem?_eq_some_iff.1 hy).1
  unfold upto'
  rw [List.set_append_right _ _ (by rw [List.length_take]; omega), List.length_take, Nat.min_eq_left (by omega), Nat.sub_self, List.drop_eq_getElem_cons (by omega : i < old.length), List.set_cons_zero, take_snoc hy, List.append_assoc]
  rfl
theorem upto_len {α : Type} {new old : List α} (hl : new.length = old.length) (i : Nat) (h : i ≤ old.length) : (upto' new old i).length = old.length := by
  unfold upto'; rw [List.length_append, List.length_take, List.length_drop]; omega
theorem upto_zero {α : Type} (new old : List α) : upto' new old 0 = old := by simp [upto']
theorem upto_end {α : Type} {new old : List α} (hl : new.length = old.length) : upto' new old old.length = new := by
  unfold upto'; rw [List.take_of_length_le (by omega), List.drop_eq_nil_of_le (by omega), List.append_nil]
theorem set_same {α : Type} {l : List α} {i : Nat} {x : α} (h : l[i]? = some x) : l.set i x = l := by
  obtain ⟨h1, h2⟩ := List.getElem?_eq_some_iff.1 h
  rw [← h2, List.set_getElem_self]
end Go.Proofs
namespace Go.Proofs
open Go.Av
set_option maxHeartbeats 64000000
set_option maxRecDepth 100000
theorem exs_head (e : Ex) (r : List Ex) : (exsV (e :: r)).head? = some (.agg (exC e)) := by rw [exsV_cons]; rfl
theorem als_head (e : Al) (r : List Al) : (alsV (e :: r)).head? = some (.agg (alC e)) := by rw [alsV_cons, alV_C]; rfl
theorem paltot_eq (a : Al) : a.tot = a.body.tot + a.vars.length + 1 := by cases a; simp [Al.tot, Al.body, Al.vars]
theorem paltots_cons (a : Al) (r : List Al) : Al.tots (a :: r) = a.tot + Al.tots r := by simp [Al.tots]
theorem altots_len (l : List Al) : l.length ≤ Al.tots l := by
  induction l with
  | nil => simp
  | cons e r ih => rw [paltots_cons, List.length_cons, paltot_eq]; omega
theorem paltots_mem {l : List Al} {e : Al} (h : e ∈ l) : e.tot ≤ Al.tots l := by
  induction l with
  | nil => cases h
  | cons x r ih =>
    rw [paltots_cons]
    rcases List.mem_cons.1 h with rfl | h
    · omega
    · have := ih h; omega
theorem eput_var (e u : Ex) (n : List UInt8) (h1 : (e.kind == 1) = true) : den E 9 [.agg (exC e), .str n, .agg (exC u)] [] = some (.agg (exC (putE n u e)), []) := by
  have h3 : (e.kind == 3) = false := by
    have : e.kind = 1 := by simpa using h1
    rw [this]; rfl
  rw [den_eq prim_9, body_9, putE_eq, h1]
  cases h2 : e.name == n
  · simp only [Bool.and_false, Bool.or_true, Bool.false_eq_true, if_false, if_true]
    rw [exC_eq, exC_eq u]
    simp only [go_sem, ↓reduceIte, Nat.reduceEqDiff, Nat.reduceAdd, Nat.reduceLeDiff, Nat.reduceLT, reduceCtorEq, Tryz.f9, h1, h2, h3]
  · simp only [Bool.and_true, if_true]
    rw [exC_eq, exC_eq u]
    simp only [go_sem, ↓reduceIte, Nat.reduceEqDiff, Nat.reduceAdd, Nat.reduceLeDiff, Nat.reduceLT, reduceCtorEq, Tryz.f9, h1, h2]
theorem eput_hide (e u : Ex) (n : List UInt8) (h1 : (e.kind == 1) = false) (h3 : (e.kind == 3) = true) (h2 : (e.name == n) = true) : den E 9 [.agg (exC e), .str n, .agg (exC u)] [] = some (.agg (exC (putE n u e)), []) := by
  rw [den_eq prim_9, body_9, putE_eq, h1, h2, h3]
  simp only [Bool.false_and, Bool.true_and, Bool.true_or, Bool.false_eq_true, if_false, if_true]
  rw [exC_eq, exC_eq u]
  simp only [go_sem, ↓reduceIte, Nat.reduceEqDiff, Nat.reduceAdd, Nat.reduceLeDiff, Nat.reduceLT, reduceCtorEq, Tryz.f9, h1, h2, h3]
theorem eput_00 (m : Nat) (e u : Ex) (n : List UInt8) (_ : e.tot ≤ m + 1) (_ : e.tot < 1000000) (h1 : (e.kind == 1) = false) (h32 : (e.kind == 3 && e.name == n) = false) (hk : e.kids = []) (ha : e.alts = [])
    (ih : ∀ x : Ex, x.tot ≤ m → x.tot < 1000000 → den E 9 [.agg (exC x), .str n, .agg (exC u)] [] = some (.agg (exC (putE n u x)), [])) :
    den E 9 [.agg (exC e), .str n, .agg (exC u)] [] = some (.agg (exC (.mk e.kind e.name e.told e.ty (putK n u (e.kind == 5 && e.name == n) e.kids) (putA n u e.alts))), []) := by
  have htot := tot_eq e
  have hkl := tots_len e.kids
  have hal := altots_len e.alts
  have htp := sz_eq e.ty
  rw [den_eq prim_9, body_9]
  obtain ⟨fin, hfin⟩ : ∃ fin, fin = (some (.agg (exC (.mk e.kind e.name e.told e.ty (putK n u (e.kind == 5 && e.name == n) e.kids) (putA n u e.alts))), []) : Option (AVal × Heap)) := ⟨_, rfl⟩
  rw [← hfin]
  rw [exC_mk] at hfin
  rw [exC_eq, exC_eq u]
  have kn : putK n u (e.kind == 5 && e.name == n) e.kids = [] := by rw [hk]; simp only [putK]
  rw [kn, exsV_nil] at hfin
  have an : putA n u e.alts = [] := by rw [ha]; simp only [putA]
  rw [an, alsV_nil] at hfin
  have flags : ∀ r, (∀ h3 : (e.kind == 3) = true, ∀ h2 : (e.name == n) = false, r) → (∀ h3 : (e.kind == 3) = false, r) → r := by
    intro r f g
    cases h3 : e.kind == 3
    · exact g h3
    · cases h2 : e.name == n
      · exact f h3 h2
      · rw [h3, h2] at h32; cases h32
  refine flags _ (fun h3 h2 => ?_) (fun h3 => ?_)
  · simp only [go_sem, ↓reduceIte, Nat.reduceEqDiff, Nat.reduceAdd, Nat.reduceLT, reduceCtorEq, Int.cast_ofNat_Int, Tryz.f9, h1, h2, h3, hk, exsV_nil]
    refine run_for (fun i => ⟨[(1, .str n), (3, .ptr (.loc 3) 0), (5, .ptr (.loc 5) 0), (6, .ptr (.loc 6) 0), (7, .slice []), (43, .slice []), (44, .int .i64 0), (45, .int .i64 i)], [], [(3, [.int .i64 e.kind, .str e.name, .bool e.told, .int .i64 e.ty.kind, .str e.ty.name, .int .i64 e.ty.n, .slice (tysV e.ty.args), .slice ([]), .slice (alsV e.alts)]), (5, [.int .i64 u.kind, .str u.name, .bool u.told, .int .i64 u.ty.kind, .str u.ty.name, .int .i64 u.ty.n, .slice (tysV u.ty.args), .slice (exsV u.kids), .slice (alsV u.alts)]), (6, [.int .i64 0, .str [], .bool false, .int .i64 0, .str [], .int .i64 0, .own 25 0 [], .own 29 0 [], .own 54 0 []])], 1⟩) 0 ?_ (fun i hi => absurd hi (Nat.not_lt_zero i)) ?_
    · simp only [go_sem, ↓reduceIte, Nat.reduceEqDiff, reduceCtorEq, Int.cast_ofNat_Int]
    · skip
      simp only [go_sem, ↓reduceIte, Nat.reduceEqDiff, Nat.reduceAdd, Nat.reduceLT, Int.cast_ofNat_Int, Int.lt_irrefl, ha, alsV_nil]
      refine run_for (fun i => ⟨[(1, .str n), (3, .ptr (.loc 3) 0), (5, .ptr (.loc 5) 0), (6, .ptr (.loc 6) 0), (7, .slice []), (10, .slice []), (74, .slice []), (75, .int .i64 0), (76, .int .i64 i)], [], [(3, [.int .i64 e.kind, .str e.name, .bool e.told, .int .i64 e.ty.kind, .str e.ty.name, .int .i64 e.ty.n, .slice (tysV e.ty.args), .slice ([]), .slice ([])]), (5, [.int .i64 u.kind, .str u.name, .bool u.told, .int .i64 u.ty.kind, .str u.ty.name, .int .i64 u.ty.n, .slice (tysV u.ty.args), .slice (exsV u.kids), .slice (alsV u.alts)]), (6, [.int .i64 0, .str [], .bool false, .int .i64 0, .str [], .int .i64 0, .own 25 0 [], .own 29 0 [], .own 54 0 []])], 1⟩) 0 ?_ (fun i hi => absurd hi (Nat.not_lt_zero i)) ?_
      · simp only [go_sem, ↓reduceIte, Nat.reduceEqDiff, Int.cast_ofNat_Int]
      · simp only [go_sem, ↓reduceIte, Nat.reduceEqDiff, Nat.reduceAdd, Nat.reduceLeDiff, Nat.reduceLT, Int.cast_ofNat_Int, Int.lt_irrefl, hfin]
  · cases h2 : e.name == n
    · simp only [go_sem, ↓reduceIte, Nat.reduceEqDiff, Nat.reduceAdd, Nat.reduceLT, reduceCtorEq, Int.cast_ofNat_Int, Tryz.f9, h1, h3, hk, exsV_nil]
      refine run_for (fun i => ⟨[(1, .str n), (3, .ptr (.loc 3) 0), (5, .ptr (.loc 5) 0), (6, .ptr (.loc 6) 0), (7, .slice []), (43, .slice []), (44, .int .i64 0), (45, .int .i64 i)], [], [(3, [.int .i64 e.kind, .str e.name, .bool e.told, .int .i64 e.ty.kind, .str e.ty.name, .int .i64 e.ty.n, .slice (tysV e.ty.args), .slice ([]), .slice (alsV e.alts)]), (5, [.int .i64 u.kind, .str u.name, .bool u.told, .int .i64 u.ty.kind, .str u.ty.name, .int .i64 u.ty.n, .slice (tysV u.ty.args), .slice (exsV u.kids), .slice (alsV u.alts)]), (6, [.int .i64 0, .str [], .bool false, .int .i64 0, .str [], .int .i64 0, .own 25 0 [], .own 29 0 [], .own 54 0 []])], 1⟩) 0 ?_ (fun i hi => absurd hi (Nat.not_lt_zero i)) ?_
      · simp only [go_sem, ↓reduceIte, Nat.reduceEqDiff, reduceCtorEq, Int.cast_ofNat_Int]
      · skip
        simp only [go_sem, ↓reduceIte, Nat.reduceEqDiff, Nat.reduceAdd, Nat.reduceLT, Int.cast_ofNat_Int, Int.lt_irrefl, ha, alsV_nil]
        refine run_for (fun i => ⟨[(1, .str n), (3, .ptr (.loc 3) 0), (5, .ptr (.loc 5) 0), (6, .ptr (.loc 6) 0), (7, .slice []), (10, .slice []), (74, .slice []), (75, .int .i64 0), (76, .int .i64 i)], [], [(3, [.int .i64 e.kind, .str e.name, .bool e.told, .int .i64 e.ty.kind, .str e.ty.name, .int .i64 e.ty.n, .slice (tysV e.ty.args), .slice ([]), .slice ([])]), (5, [.int .i64 u.kind, .str u.name, .bool u.told, .int .i64 u.ty.kind, .str u.ty.name, .int .i64 u.ty.n, .slice (tysV u.ty.args), .slice (exsV u.kids), .slice (alsV u.alts)]), (6, [.int .i64 0, .str [], .bool false, .int .i64 0, .str [], .int .i64 0, .own 25 0 [], .own 29 0 [], .own 54 0 []])], 1⟩) 0 ?_ (fun i hi => absurd hi (Nat.not_lt_zero i)) ?_
        · simp only [go_sem, ↓reduceIte, Nat.reduceEqDiff, Int.cast_ofNat_Int]
        · simp only [go_sem, ↓reduceIte, Nat.reduceEqDiff, Nat.reduceAdd, Nat.reduceLeDiff, Nat.reduceLT, Int.cast_ofNat_Int, Int.lt_irrefl, hfin]
    · simp only [go_sem, ↓reduceIte, Nat.reduceEqDiff, Nat.reduceAdd, Nat.reduceLT, reduceCtorEq, Int.cast_ofNat_Int, Tryz.f9, h1, h3, hk, exsV_nil]
      refine run_for (fun i => ⟨[(1, .str n), (3, .ptr (.loc 3) 0), (5, .ptr (.loc 5) 0), (6, .ptr (.loc 6) 0), (7, .slice []), (43, .slice []), (44, .int .i64 0), (45, .int .i64 i)], [], [(3, [.int .i64 e.kind, .str e.name, .bool e.told, .int .i64 e.ty.kind, .str e.ty.name, .int .i64 e.ty.n, .slice (tysV e.ty.args), .slice ([]), .slice (alsV e.alts)]), (5, [.int .i64 u.kind, .str u.name, .bool u.told, .int .i64 u.ty.kind, .str u.ty.name, .int .i64 u.ty.n, .slice (tysV u.ty.args), .slice (exsV u.kids), .slice (alsV u.alts)]), (6, [.int .i64 0, .str [], .bool false, .int .i64 0, .str [], .int .i64 0, .own 25 0 [], .own 29 0 [], .own 54 0 []])], 1⟩) 0 ?_ (fun i hi => absurd hi (Nat.not_lt_zero i)) ?_
      · simp only [go_sem, ↓reduceIte, Nat.reduceEqDiff, reduceCtorEq, Int.cast_ofNat_Int]
      · skip
        simp only [go_sem, ↓reduceIte, Nat.reduceEqDiff, Nat.reduceAdd, Nat.reduceLT, Int.cast_ofNat_Int, Int.lt_irrefl, ha, alsV_nil]
        refine run_for (fun i => ⟨[(1, .str n), (3, .ptr (.loc 3) 0), (5, .ptr (.loc 5) 0), (6, .ptr (.loc 6) 0), (7, .slice []), (10, .slice []), (74, .slice []), (75, .int .i64 0), (76, .int .i64 i)], [], [(3, [.int .i64 e.kind, .str e.name, .bool e.told, .int .i64 e.ty.kind, .str e.ty.name, .int .i64 e.ty.n, .slice (tysV e.ty.args), .slice ([]), .slice ([])]), (5, [.int .i64 u.kind, .str u.name, .bool u.told, .int .i64 u.ty.kind, .str u.ty.name, .int .i64 u.ty.n, .slice (tysV u.ty.args), .slice (exsV u.kids), .slice (alsV u.alts)]), (6, [.int .i64 0, .str [], .bool false, .int .i64 0, .str [], .int .i64 0, .own 25 0 [], .own 29 0 [], .own 54 0 []])], 1⟩) 0 ?_ (fun i hi => absurd hi (Nat.not_lt_zero i)) ?_
        · simp only [go_sem, ↓reduceIte, Nat.reduceEqDiff, Int.cast_ofNat_Int]
        · simp only [go_sem, ↓reduceIte, Nat.reduceEqDiff, Nat.reduceAdd, Nat.reduceLeDiff, Nat.reduceLT, Int.cast_ofNat_Int, Int.lt_irrefl, hfin]
theorem eput_10 (m : Nat) (e u : Ex) (n : List UInt8) (hm : e.tot ≤ m + 1) (hb : e.tot < 1000000) (h1 : (e.kind == 1) = false) (h32 : (e.kind == 3 && e.name == n) = false) {k0 : Ex} {kr : List Ex} (hk : e.kids = k0 :: kr) (ha : e.alts = [])
    (ih : ∀ x : Ex, x.tot ≤ m → x.tot < 1000000 → den E 9 [.agg (exC x), .str n, .agg (exC u)] [] = some (.agg (exC (putE n u x)), [])) :
    den E 9 [.agg (exC e), .str n, .agg (exC u)] [] = some (.agg (exC (.mk e.kind e.name e.told e.ty (putK n u (e.kind == 5 && e.name == n) e.kids) (putA n u e.alts))), []) := by
  have htot := tot_eq e
  have hkl := tots_len e.kids
  have hal := altots_len e.alts
  have htp := sz_eq e.ty
  rw [den_eq prim_9, body_9]
  obtain ⟨fin, hfin⟩ : ∃ fin, fin = (some (.agg (exC (.mk e.kind e.name e.told e.ty (putK n u (e.kind == 5 && e.name == n) e.kids) (putA n u e.alts))), []) : Option (AVal × Heap)) := ⟨_, rfl⟩
  rw [← hfin]
  rw [exC_mk] at hfin
  rw [exC_eq, exC_eq u]
  obtain ⟨nk, hnk⟩ : ∃ nk, nk = e.kids.length := ⟨_, rfl⟩
  have kh : (exsV e.kids).head? = some (.agg (exC k0)) := by rw [hk]; exact exs_head k0 kr
  have kl : (exsV e.kids).length = nk := by rw [exsV_len, hnk]
  have k0n : (nk = 0) = False := by rw [hnk, hk]; simp
  have kp : (0 < nk) = True := by rw [hnk, hk]; simp
  have kx : (nk ≤ 1073741824) = True := by simp; omega
  have pl := putK_len n u (e.kind == 5 && e.name == n) e.kids
  have kfl : ∀ l : List Ex, (l.flatMap exC).length = l.length * 9 := exC_cell.flen
  have an : putA n u e.alts = [] := by rw [ha]; simp only [putA]
  rw [an, alsV_nil] at hfin
  have flags : ∀ r, (∀ h3 : (e.kind == 3) = true, ∀ h2 : (e.name == n) = false, r) → (∀ h3 : (e.kind == 3) = false, r) → r := by
    intro r f g
    cases h3 : e.kind == 3
    · exact g h3
    · cases h2 : e.name == n
      · exact f h3 h2
      · rw [h3, h2] at h32; cases h32
  refine flags _ (fun h3 h2 => ?_) (fun h3 => ?_)
  · simp only [go_sem, ↓reduceIte, Nat.reduceEqDiff, Nat.reduceAdd, Nat.reduceLT, reduceCtorEq, Tryz.f9, h1, h2, h3, kl, k0n, kh, kp, kx, exC_len, flatC_exs, exC_cell.fstamp]
    refine run_for (fun i => ⟨[(1, .str n), (3, .ptr (.loc 3) 0), (5, .ptr (.loc 5) 0), (6, .ptr (.loc 6) 0), (7, .ptr (.loc 42) (bsBase + nk)), (43, .ptr (.loc 42) (bsBase + nk)), (44, .int .i64 nk), (45, .int .i64 i)], [], [(3, [.int .i64 e.kind, .str e.name, .bool e.told, .int .i64 e.ty.kind, .str e.ty.name, .int .i64 e.ty.n, .slice (tysV e.ty.args), .slice (exsV e.kids), .slice (alsV e.alts)]), (5, [.int .i64 u.kind, .str u.name, .bool u.told, .int .i64 u.ty.kind, .str u.ty.name, .int .i64 u.ty.n, .slice (tysV u.ty.args), .slice (exsV u.kids), .slice (alsV u.alts)]), (6, [.int .i64 0, .str [], .bool false, .int .i64 0, .str [], .int .i64 0, .own 25 0 [], .own 29 0 [], .own 54 0 []]), (42, (upto' (putK n u (e.kind == 5 && e.name == n) e.kids) e.kids i).flatMap exC)], 1⟩) nk ?_ ?_ ?_
    · simp only [go_sem, ↓reduceIte, Nat.reduceEqDiff, reduceCtorEq, Int.cast_ofNat_Int, upto_zero, exC_cell.fhead, exC_cell.fnames]
    · intro i hi h
      obtain ⟨x, hx⟩ := getS (show i < e.kids.length by omega)
      have hxt := tots_mem (List.mem_of_getElem? hx)
      have d := ih x (by omega) (by omega)
      have hg := upto_get pl hx
      have hp := putK_get n u (e.kind == 5 && e.name == n) hx
      have ul := upto_len pl i (by omega)
      have w1 : IntKind.i64.wrap ((i : Int) + 1) = ((i + 1 : Nat) : Int) := wrapN (i + 1) (by omega)
      have i1 : ((i : Int) < (nk : Int)) = True := by simp; omega
      have i2 : (i * 9 < bsBase) = True := by rw [bsBase_eq]; simp; omega
      have hld := exC_cell.load hg
      generalize hL : upto' (putK n u (e.kind == 5 && e.name == n) e.kids) e.kids i = L at hg ul hld
      have i3 : (i * 9 + 9 ≤ L.length * 9) = True := eq_true (by omega)
      have i4 : ((i : Int) == 0) = (i == 0) := by rw [nat_eq0]; rfl
      have hput := exC_cell.put hg (putE n u x)
      rw [exC_eq (putE n u x)] at hput
      simp only [List.cons_append, List.nil_append] at hput
      rw [exC_eq, exC_eq u, exC_eq (putE n u x)] at d
      rw [exC_eq x] at hld
      have put : (!(e.kind == 5 && e.name == n) || i == 0) = true → L.set i (putE n u x) = upto' (putK n u (e.kind == 5 && e.name == n) e.kids) e.kids (i + 1) := fun hc => by
        rw [hc, if_pos rfl] at hp; rw [← hL]; exact upto_set pl hp
      have skip : (!(e.kind == 5 && e.name == n) || i == 0) = false → L = upto' (putK n u (e.kind == 5 && e.name == n) e.kids) e.kids (i + 1) := fun hc => by
        rw [hc, if_neg (by simp)] at hp; rw [← upto_set pl hp, hL, set_same hg]
      cases h5 : e.kind == 5
      · rw [h5] at put
        simp only [go_sem, ↓reduceIte, Nat.reduceEqDiff, Nat.reduceAdd, Nat.reduceLeDiff, Nat.reduceLT, reduceCtorEq, ne_eq, natge0, tonat, h5, i1, i2, kfl, i3, hld, bne_i, d]
        refine h _ ?_
        simp only [go_sem, ↓reduceIte, Nat.reduceEqDiff, w1, hput, put rfl, exC_cell.fhead, exC_cell.fnames, h5, Bool.false_and]
      · cases h2 : e.name == n
        · rw [h5, h2] at put
          simp only [go_sem, ↓reduceIte, Nat.reduceEqDiff, Nat.reduceAdd, Nat.reduceLeDiff, Nat.reduceLT, reduceCtorEq, ne_eq, natge0, tonat, h5, h2, i1, i2, kfl, i3, hld, bne_i, d]
          refine h _ ?_
          simp only [go_sem, ↓reduceIte, Nat.reduceEqDiff, w1, hput, put rfl, exC_cell.fhead, exC_cell.fnames, h5, h2]
        · cases h0 : i == 0
          · rw [h5, h2, h0] at skip
            simp only [go_sem, ↓reduceIte, Nat.reduceEqDiff, Nat.reduceAdd, Nat.reduceLeDiff, Nat.reduceLT, reduceCtorEq, ne_eq, natge0, tonat, h5, h2, i1, i2, kfl, i3, i4, hld, bne_i, h0]
            refine h _ ?_
            simp only [go_sem, ↓reduceIte, Nat.reduceEqDiff, w1, skip rfl, exC_cell.fhead, exC_cell.fnames, h5, h2]
          · rw [h5, h2, h0] at put
            simp only [go_sem, ↓reduceIte, Nat.reduceEqDiff, Nat.reduceAdd, Nat.reduceLeDiff, Nat.reduceLT, reduceCtorEq, ne_eq, natge0, tonat, h5, h2, i1, i2, kfl, i3, i4, hld, bne_i, d, h0]
            refine h _ ?_
            simp only [go_sem, ↓reduceIte, Nat.reduceEqDiff, w1, hput, put rfl, exC_cell.fhead, exC_cell.fnames, h5, h2]
    · have ue := upto_end pl
      rw [← hnk] at ue pl
      simp only [ue]
      generalize hPK : putK n u (e.kind == 5 && e.name == n) e.kids = PK at *
      simp only [go_sem, ↓reduceIte, Nat.reduceEqDiff, Nat.reduceAdd, Nat.reduceLT, Int.cast_ofNat_Int, natlt, Nat.lt_irrefl, ha, alsV_nil]
      have hch := exs_chunks PK
      rw [pl] at hch
      refine run_for (fun i => ⟨[(1, .str n), (3, .ptr (.loc 3) 0), (5, .ptr (.loc 5) 0), (6, .ptr (.loc 6) 0), (7, .ptr (.loc 42) (bsBase + nk)), (10, .slice []), (74, .slice []), (75, .int .i64 0), (76, .int .i64 i)], [], [(3, [.int .i64 e.kind, .str e.name, .bool e.told, .int .i64 e.ty.kind, .str e.ty.name, .int .i64 e.ty.n, .slice (tysV e.ty.args), .slice (exsV e.kids), .slice ([])]), (5, [.int .i64 u.kind, .str u.name, .bool u.told, .int .i64 u.ty.kind, .str u.ty.name, .int .i64 u.ty.n, .slice (tysV u.ty.args), .slice (exsV u.kids), .slice (alsV u.alts)]), (6, [.int .i64 0, .str [], .bool false, .int .i64 0, .str [], .int .i64 0, .own 25 0 [], .own 29 0 [], .own 54 0 []]), (42, PK.flatMap exC)], 1⟩) 0 ?_ (fun i hi => absurd hi (Nat.not_lt_zero i)) ?_
      · simp only [go_sem, ↓reduceIte, Nat.reduceEqDiff, Int.cast_ofNat_Int, exC_cell.fhead, exC_cell.fnames]
      · simp only [go_sem, ↓reduceIte, Nat.reduceEqDiff, Nat.reduceAdd, Nat.reduceLeDiff, Nat.reduceLT, Nat.reduceBEq, Int.cast_ofNat_Int, Int.lt_irrefl, true_or, exC_cell.fstrip, exC_cell.fpure, kfl, pl, hch, hfin]
  · cases h2 : e.name == n
    · simp only [go_sem, ↓reduceIte, Nat.reduceEqDiff, Nat.reduceAdd, Nat.reduceLT, reduceCtorEq, Tryz.f9, h1, h3, kl, k0n, kh, kp, kx, exC_len, flatC_exs, exC_cell.fstamp]
      refine run_for (fun i => ⟨[(1, .str n), (3, .ptr (.loc 3) 0), (5, .ptr (.loc 5) 0), (6, .ptr (.loc 6) 0), (7, .ptr (.loc 42) (bsBase + nk)), (43, .ptr (.loc 42) (bsBase + nk)), (44, .int .i64 nk), (45, .int .i64 i)], [], [(3, [.int .i64 e.kind, .str e.name, .bool e.told, .int .i64 e.ty.kind, .str e.ty.name, .int .i64 e.ty.n, .slice (tysV e.ty.args), .slice (exsV e.kids), .slice (alsV e.alts)]), (5, [.int .i64 u.kind, .str u.name, .bool u.told, .int .i64 u.ty.kind, .str u.ty.name, .int .i64 u.ty.n, .slice (tysV u.ty.args), .slice (exsV u.kids), .slice (alsV u.alts)]), (6, [.int .i64 0, .str [], .bool false, .int .i64 0, .str [], .int .i64 0, .own 25 0 [], .own 29 0 [], .own 54 0 []]), (42, (upto' (putK n u (e.kind == 5 && e.name == n) e.kids) e.kids i).flatMap exC)], 1⟩) nk ?_ ?_ ?_
      · simp only [go_sem, ↓reduceIte, Nat.reduceEqDiff, reduceCtorEq, Int.cast_ofNat_Int, upto_zero, exC_cell.fhead, exC_cell.fnames]
      · intro i hi h
        obtain ⟨x, hx⟩ := getS (show i < e.kids.length by omega)
        have hxt := tots_mem (List.mem_of_getElem? hx)
        have d := ih x (by omega) (by omega)
        have hg := upto_get pl hx
        have hp := putK_get n u (e.kind == 5 && e.name == n) hx
        have ul := upto_len pl i (by omega)
        have w1 : IntKind.i64.wrap ((i : Int) + 1) = ((i + 1 : Nat) : Int) := wrapN (i + 1) (by omega)
        have i1 : ((i : Int) < (nk : Int)) = True := by simp; omega
        have i2 : (i * 9 < bsBase) = True := by rw [bsBase_eq]; simp; omega
        have hld := exC_cell.load hg
        generalize hL : upto' (putK n u (e.kind == 5 && e.name == n) e.kids) e.kids i = L at hg ul hld
        have i3 : (i * 9 + 9 ≤ L.length * 9) = True := eq_true (by omega)
        have i4 : ((i : Int) == 0) = (i == 0) := by rw [nat_eq0]; rfl
        have hput := exC_cell.put hg (putE n u x)
        rw [exC_eq (putE n u x)] at hput
        simp only [List.cons_append, List.nil_append] at hput
        rw [exC_eq, exC_eq u, exC_eq (putE n u x)] at d
        rw [exC_eq x] at hld
        have put : (!(e.kind == 5 && e.name == n) || i == 0) = true → L.set i (putE n u x) = upto' (putK n u (e.kind == 5 && e.name == n) e.kids) e.kids (i + 1) := fun hc => by
          rw [hc, if_pos rfl] at hp; rw [← hL]; exact upto_set pl hp
        have skip : (!(e.kind == 5 && e.name == n) || i == 0) = false → L = upto' (putK n u (e.kind == 5 && e.name == n) e.kids) e.kids (i + 1) := fun hc => by
          rw [hc, if_neg (by simp)] at hp; rw [← upto_set pl hp, hL, set_same hg]
        cases h5 : e.kind == 5
        · rw [h5] at put
          simp only [go_sem, ↓reduceIte, Nat.reduceEqDiff, Nat.reduceAdd, Nat.reduceLeDiff, Nat.reduceLT, reduceCtorEq, ne_eq, natge0, tonat, h5, i1, i2, kfl, i3, hld, bne_i, d]
          refine h _ ?_
          simp only [go_sem, ↓reduceIte, Nat.reduceEqDiff, w1, hput, put rfl, exC_cell.fhead, exC_cell.fnames, h5, Bool.false_and]
        · cases h2 : e.name == n
          · rw [h5, h2] at put
            simp only [go_sem, ↓reduceIte, Nat.reduceEqDiff, Nat.reduceAdd, Nat.reduceLeDiff, Nat.reduceLT, reduceCtorEq, ne_eq, natge0, tonat, h5, h2, i1, i2, kfl, i3, hld, bne_i, d]
            refine h _ ?_
            simp only [go_sem, ↓reduceIte, Nat.reduceEqDiff, w1, hput, put rfl, exC_cell.fhead, exC_cell.fnames, h5, h2]
          · cases h0 : i == 0
            · rw [h5, h2, h0] at skip
              simp only [go_sem, ↓reduceIte, Nat.reduceEqDiff, Nat.reduceAdd, Nat.reduceLeDiff, Nat.reduceLT, reduceCtorEq, ne_eq, natge0, tonat, h5, h2, i1, i2, kfl, i3, i4, hld, bne_i, h0]
              refine h _ ?_
              simp only [go_sem, ↓reduceIte, Nat.reduceEqDiff, w1, skip rfl, exC_cell.fhead, exC_cell.fnames, h5, h2]
            · rw [h5, h2, h0] at put
              simp only [go_sem, ↓reduceIte, Nat.reduceEqDiff, Nat.reduceAdd, Nat.reduceLeDiff, Nat.reduceLT, reduceCtorEq, ne_eq, natge0, tonat, h5, h2, i1, i2, kfl, i3, i4, hld, bne_i, d, h0]
              refine h _ ?_
              simp only [go_sem, ↓reduceIte, Nat.reduceEqDiff, w1, hput, put rfl, exC_cell.fhead, exC_cell.fnames, h5, h2]
      · have ue := upto_end pl
        rw [← hnk] at ue pl
        simp only [ue]
        generalize hPK : putK n u (e.kind == 5 && e.name == n) e.kids = PK at *
        simp only [go_sem, ↓reduceIte, Nat.reduceEqDiff, Nat.reduceAdd, Nat.reduceLT, Int.cast_ofNat_Int, natlt, Nat.lt_irrefl, ha, alsV_nil]
        have hch := exs_chunks PK
        rw [pl] at hch
        refine run_for (fun i => ⟨[(1, .str n), (3, .ptr (.loc 3) 0), (5, .ptr (.loc 5) 0), (6, .ptr (.loc 6) 0), (7, .ptr (.loc 42) (bsBase + nk)), (10, .slice []), (74, .slice []), (75, .int .i64 0), (76, .int .i64 i)], [], [(3, [.int .i64 e.kind, .str e.name, .bool e.told, .int .i64 e.ty.kind, .str e.ty.name, .int .i64 e.ty.n, .slice (tysV e.ty.args), .slice (exsV e.kids), .slice ([])]), (5, [.int .i64 u.kind, .str u.name, .bool u.told, .int .i64 u.ty.kind, .str u.ty.name, .int .i64 u.ty.n, .slice (tysV u.ty.args), .slice (exsV u.kids), .slice (alsV u.alts)]), (6, [.int .i64 0, .str [], .bool false, .int .i64 0, .str [], .int .i64 0, .own 25 0 [], .own 29 0 [], .own 54 0 []]), (42, PK.flatMap exC)], 1⟩) 0 ?_ (fun i hi => absurd hi (Nat.not_lt_zero i)) ?_
        · simp only [go_sem, ↓reduceIte, Nat.reduceEqDiff, Int.cast_ofNat_Int, exC_cell.fhead, exC_cell.fnames]
        · simp only [go_sem, ↓reduceIte, Nat.reduceEqDiff, Nat.reduceAdd, Nat.reduceLeDiff, Nat.reduceLT, Nat.reduceBEq, Int.cast_ofNat_Int, Int.lt_irrefl, true_or, exC_cell.fstrip, exC_cell.fpure, kfl, pl, hch, hfin]
    · simp only [go_sem, ↓reduceIte, Nat.reduceEqDiff, Nat.reduceAdd, Nat.reduceLT, reduceCtorEq, Tryz.f9, h1, h3, kl, k0n, kh, kp, kx, exC_len, flatC_exs, exC_cell.fstamp]
      refine run_for (fun i => ⟨[(1, .str n), (3, .ptr (.loc 3) 0), (5, .ptr (.loc 5) 0), (6, .ptr (.loc 6) 0), (7, .ptr (.loc 42) (bsBase + nk)), (43, .ptr (.loc 42) (bsBase + nk)), (44, .int .i64 nk), (45, .int .i64 i)], [], [(3, [.int .i64 e.kind, .str e.name, .bool e.told, .int .i64 e.ty.kind, .str e.ty.name, .int .i64 e.ty.n, .slice (tysV e.ty.args), .slice (exsV e.kids), .slice (alsV e.alts)]), (5, [.int .i64 u.kind, .str u.name, .bool u.told, .int .i64 u.ty.kind, .str u.ty.name, .int .i64 u.ty.n, .slice (tysV u.ty.args), .slice (exsV u.kids), .slice (alsV u.alts)]), (6, [.int .i64 0, .str [], .bool false, .int .i64 0, .str [], .int .i64 0, .own 25 0 [], .own 29 0 [], .own 54 0 []]), (42, (upto' (putK n u (e.kind == 5 && e.name == n) e.kids) e.kids i).flatMap exC)], 1⟩) nk ?_ ?_ ?_
      · simp only [go_sem, ↓reduceIte, Nat.reduceEqDiff, reduceCtorEq, Int.cast_ofNat_Int, upto_zero, exC_cell.fhead, exC_cell.fnames]
      · intro i hi h
        obtain ⟨x, hx⟩ := getS (show i < e.kids.length by omega)
        have hxt := tots_mem (List.mem_of_getElem? hx)
        have d := ih x (by omega) (by omega)
        have hg := upto_get pl hx
        have hp := putK_get n u (e.kind == 5 && e.name == n) hx
        have ul := upto_len pl i (by omega)
        have w1 : IntKind.i64.wrap ((i : Int) + 1) = ((i + 1 : Nat) : Int) := wrapN (i + 1) (by omega)
        have i1 : ((i : Int) < (nk : Int)) = True := by simp; omega
        have i2 : (i * 9 < bsBase) = True := by rw [bsBase_eq]; simp; omega
        have hld := exC_cell.load hg
        generalize hL : upto' (putK n u (e.kind == 5 && e.name == n) e.kids) e.kids i = L at hg ul hld
        have i3 : (i * 9 + 9 ≤ L.length * 9) = True := eq_true (by omega)
        have i4 : ((i : Int) == 0) = (i == 0) := by rw [nat_eq0]; rfl
        have hput := exC_cell.put hg (putE n u x)
        rw [exC_eq (putE n u x)] at hput
        simp only [List.cons_append, List.nil_append] at hput
        rw [exC_eq, exC_eq u, exC_eq (putE n u x)] at d
        rw [exC_eq x] at hld
        have put : (!(e.kind == 5 && e.name == n) || i == 0) = true → L.set i (putE n u x) = upto' (putK n u (e.kind == 5 && e.name == n) e.kids) e.kids (i + 1) := fun hc => by
          rw [hc, if_pos rfl] at hp; rw [← hL]; exact upto_set pl hp
        have skip : (!(e.kind == 5 && e.name == n) || i == 0) = false → L = upto' (putK n u (e.kind == 5 && e.name == n) e.kids) e.kids (i + 1) := fun hc => by
          rw [hc, if_neg (by simp)] at hp; rw [← upto_set pl hp, hL, set_same hg]
        cases h5 : e.kind == 5
        · rw [h5] at put
          simp only [go_sem, ↓reduceIte, Nat.reduceEqDiff, Nat.reduceAdd, Nat.reduceLeDiff, Nat.reduceLT, reduceCtorEq, ne_eq, natge0, tonat, h5, i1, i2, kfl, i3, hld, bne_i, d]
          refine h _ ?_
          simp only [go_sem, ↓reduceIte, Nat.reduceEqDiff, w1, hput, put rfl, exC_cell.fhead, exC_cell.fnames, h5, Bool.false_and]
        · cases h2 : e.name == n
          · rw [h5, h2] at put
            simp only [go_sem, ↓reduceIte, Nat.reduceEqDiff, Nat.reduceAdd, Nat.reduceLeDiff, Nat.reduceLT, reduceCtorEq, ne_eq, natge0, tonat, h5, h2, i1, i2, kfl, i3, hld, bne_i, d]
            refine h _ ?_
            simp only [go_sem, ↓reduceIte, Nat.reduceEqDiff, w1, hput, put rfl, exC_cell.fhead, exC_cell.fnames, h5, h2]
          · cases h0 : i == 0
            · rw [h5, h2, h0] at skip
              simp only [go_sem, ↓reduceIte, Nat.reduceEqDiff, Nat.reduceAdd, Nat.reduceLeDiff, Nat.reduceLT, reduceCtorEq, ne_eq, natge0, tonat, h5, h2, i1, i2, kfl, i3, i4, hld, bne_i, h0]
              refine h _ ?_
              simp only [go_sem, ↓reduceIte, Nat.reduceEqDiff, w1, skip rfl, exC_cell.fhead, exC_cell.fnames, h5, h2]
            · rw [h5, h2, h0] at put
              simp only [go_sem, ↓reduceIte, Nat.reduceEqDiff, Nat.reduceAdd, Nat.reduceLeDiff, Nat.reduceLT, reduceCtorEq, ne_eq, natge0, tonat, h5, h2, i1, i2, kfl, i3, i4, hld, bne_i, d, h0]
              refine h _ ?_
              simp only [go_sem, ↓reduceIte, Nat.reduceEqDiff, w1, hput, put rfl, exC_cell.fhead, exC_cell.fnames, h5, h2]
      · have ue := upto_end pl
        rw [← hnk] at ue pl
        simp only [ue]
        generalize hPK : putK n u (e.kind == 5 && e.name == n) e.kids = PK at *
        simp only [go_sem, ↓reduceIte, Nat.reduceEqDiff, Nat.reduceAdd, Nat.reduceLT, Int.cast_ofNat_Int, natlt, Nat.lt_irrefl, ha, alsV_nil]
        have hch := exs_chunks PK
        rw [pl] at hch
        refine run_for (fun i => ⟨[(1, .str n), (3, .ptr (.loc 3) 0), (5, .ptr (.loc 5) 0), (6, .ptr (.loc 6) 0), (7, .ptr (.loc 42) (bsBase + nk)), (10, .slice []), (74, .slice []), (75, .int .i64 0), (76, .int .i64 i)], [], [(3, [.int .i64 e.kind, .str e.name, .bool e.told, .int .i64 e.ty.kind, .str e.ty.name, .int .i64 e.ty.n, .slice (tysV e.ty.args), .slice (exsV e.kids), .slice ([])]), (5, [.int .i64 u.kind, .str u.name, .bool u.told, .int .i64 u.ty.kind, .str u.ty.name, .int .i64 u.ty.n, .slice (tysV u.ty.args), .slice (exsV u.kids), .slice (alsV u.alts)]), (6, [.int .i64 0, .str [], .bool false, .int .i64 0, .str [], .int .i64 0, .own 25 0 [], .own 29 0 [], .own 54 0 []]), (42, PK.flatMap exC)], 1⟩) 0 ?_ (fun i hi => absurd hi (Nat.not_lt_zero i)) ?_
        · simp only [go_sem, ↓reduceIte, Nat.reduceEqDiff, Int.cast_ofNat_Int, exC_cell.fhead, exC_cell.fnames]
        · simp only [go_sem, ↓reduceIte, Nat.reduceEqDiff, Nat.reduceAdd, Nat.reduceLeDiff, Nat.reduceLT, Nat.reduceBEq, Int.cast_ofNat_Int, Int.lt_irrefl, true_or, exC_cell.fstrip, exC_cell.fpure, kfl, pl, hch, hfin]
theorem eput_01 (m : Nat) (e u : Ex) (n : List UInt8) (hm : e.tot ≤ m + 1) (hb : e.tot < 1000000) (h1 : (e.kind == 1) = false) (h32 : (e.kind == 3 && e.name == n) = false) (hk : e.kids = []) {a0 : Al} {ar : List Al} (ha : e.alts = a0 :: ar)
    (ih : ∀ x : Ex, x.tot ≤ m → x.tot < 1000000 → den E 9 [.agg (exC x), .str n, .agg (exC u)] [] = some (.agg (exC (putE n u x)), [])) :
    den E 9 [.agg (exC e), .str n, .agg (exC u)] [] = some (.agg (exC (.mk e.kind e.name e.told e.ty (putK n u (e.kind == 5 && e.name == n) e.kids) (putA n u e.alts))), []) := by
  have htot := tot_eq e
  have hkl := tots_len e.kids
  have hal := altots_len e.alts
  have htp := sz_eq e.ty
  rw [den_eq prim_9, body_9]
  obtain ⟨fin, hfin⟩ : ∃ fin, fin = (some (.agg (exC (.mk e.kind e.name e.told e.ty (putK n u (e.kind == 5 && e.name == n) e.kids) (putA n u e.alts))), []) : Option (AVal × Heap)) := ⟨_, rfl⟩
  rw [← hfin]
  rw [exC_mk] at hfin
  rw [exC_eq, exC_eq u]
  have kn : putK n u (e.kind == 5 && e.name == n) e.kids = [] := by rw [hk]; simp only [putK]
  rw [kn, exsV_nil] at hfin
  obtain ⟨na, hna⟩ : ∃ na, na = e.alts.length := ⟨_, rfl⟩
  have ah : (alsV e.alts).head? = some (.agg (alC a0)) := by rw [ha]; exact als_head a0 ar
  have al : (alsV e.alts).length = na := by rw [alsV_len, hna]
  have a0n : (na = 0) = False := by rw [hna, ha]; simp
  have ap : (0 < na) = True := by rw [hna, ha]; simp
  have ax : (na ≤ 1073741824) = True := by simp; omega
  have ql : (putA n u e.alts).length = e.alts.length := by rw [putA_map, List.length_map]
  have afl : ∀ l : List Al, (l.flatMap alC).length = l.length * 11 := alC_cell.flen
  have flags : ∀ r, (∀ h3 : (e.kind == 3) = true, ∀ h2 : (e.name == n) = false, r) → (∀ h3 : (e.kind == 3) = false, r) → r := by
    intro r f g
    cases h3 : e.kind == 3
    · exact g h3
    · cases h2 : e.name == n
      · exact f h3 h2
      · rw [h3, h2] at h32; cases h32
  refine flags _ (fun h3 h2 => ?_) (fun h3 => ?_)
  · simp only [go_sem, ↓reduceIte, Nat.reduceEqDiff, Nat.reduceAdd, Nat.reduceLT, reduceCtorEq, Int.cast_ofNat_Int, Tryz.f9, h1, h2, h3, hk, exsV_nil]
    refine run_for (fun i => ⟨[(1, .str n), (3, .ptr (.loc 3) 0), (5, .ptr (.loc 5) 0), (6, .ptr (.loc 6) 0), (7, .slice []), (43, .slice []), (44, .int .i64 0), (45, .int .i64 i)], [], [(3, [.int .i64 e.kind, .str e.name, .bool e.told, .int .i64 e.ty.kind, .str e.ty.name, .int .i64 e.ty.n, .slice (tysV e.ty.args), .slice ([]), .slice (alsV e.alts)]), (5, [.int .i64 u.kind, .str u.name, .bool u.told, .int .i64 u.ty.kind, .str u.ty.name, .int .i64 u.ty.n, .slice (tysV u.ty.args), .slice (exsV u.kids), .slice (alsV u.alts)]), (6, [.int .i64 0, .str [], .bool false, .int .i64 0, .str [], .int .i64 0, .own 25 0 [], .own 29 0 [], .own 54 0 []])], 1⟩) 0 ?_ (fun i hi => absurd hi (Nat.not_lt_zero i)) ?_
    · simp only [go_sem, ↓reduceIte, Nat.reduceEqDiff, reduceCtorEq, Int.cast_ofNat_Int]
    · skip
      simp only [go_sem, ↓reduceIte, Nat.reduceEqDiff, Nat.reduceAdd, Nat.reduceLT, Int.cast_ofNat_Int, Int.lt_irrefl, al, a0n, ah, ap, ax, alC_cell.len, flatC_als, alC_cell.fstamp]
      refine run_for (fun i => ⟨[(1, .str n), (3, .ptr (.loc 3) 0), (5, .ptr (.loc 5) 0), (6, .ptr (.loc 6) 0), (7, .slice []), (10, .ptr (.loc 73) (bsBase + na)), (74, .ptr (.loc 73) (bsBase + na)), (75, .int .i64 na), (76, .int .i64 i)], [], [(3, [.int .i64 e.kind, .str e.name, .bool e.told, .int .i64 e.ty.kind, .str e.ty.name, .int .i64 e.ty.n, .slice (tysV e.ty.args), .slice ([]), .slice (alsV e.alts)]), (5, [.int .i64 u.kind, .str u.name, .bool u.told, .int .i64 u.ty.kind, .str u.ty.name, .int .i64 u.ty.n, .slice (tysV u.ty.args), .slice (exsV u.kids), .slice (alsV u.alts)]), (6, [.int .i64 0, .str [], .bool false, .int .i64 0, .str [], .int .i64 0, .own 25 0 [], .own 29 0 [], .own 54 0 []]), (73, (upto' (putA n u e.alts) e.alts i).flatMap alC)], 1⟩) na ?_ ?_ ?_
      · simp only [go_sem, ↓reduceIte, Nat.reduceEqDiff, Int.cast_ofNat_Int, upto_zero, alC_cell.fhead, alC_cell.fnames]
      · intro i hi h
        obtain ⟨x, hx⟩ := getS (show i < e.alts.length by omega)
        have hxt := paltots_mem (List.mem_of_getElem? hx)
        have hxb := paltot_eq x
        have d := ih x.body (by omega) (by omega)
        have hg := upto_get ql hx
        have hp : (putA n u e.alts)[i]? = some (putL n u x) := by rw [putA_map, List.getElem?_map, hx]; rfl
        have ul := upto_len ql i (by omega)
        have w1 : IntKind.i64.wrap ((i : Int) + 1) = ((i + 1 : Nat) : Int) := wrapN (i + 1) (by omega)
        have i1 : ((i : Int) < (na : Int)) = True := by simp; omega
        have i2 : (i * 11 < bsBase) = True := by rw [bsBase_eq]; simp; omega
        have i5 : (i * 11 + 2 < bsBase) = True := by rw [bsBase_eq]; simp; omega
        have hld := alC_cell.load hg
        have hst := upto_set ql hp
        generalize hL : upto' (putA n u e.alts) e.alts i = L at hg ul hld hst
        have i3 : (i * 11 + 11 ≤ L.length * 11) = True := eq_true (by omega)
        have i6 : (i * 11 + 2 + 9 ≤ L.length * 11) = True := eq_true (by omega)
        have hc := contains_den x.vars n (by omega)
        rw [putL_eq] at hst
        have hput := alC_cell.part hg (y := .mk x.con x.vars (putE n u x.body)) (a := [.str x.con, .slice (x.vars.map .str)]) (b := []) (c := exC x.body) (c' := exC (putE n u x.body)) (by rw [List.append_nil]; rfl) (by rw [List.append_nil]; rfl) (by rw [exC_len, exC_len])
        rw [exC_eq (putE n u x.body)] at hput
        simp only [List.cons_append, List.nil_append, List.length_cons, List.length_nil, Nat.reduceAdd] at hput
        rw [exC_eq, exC_eq u, exC_eq (putE n u x.body)] at d
        rw [alC_eq x] at hld
        cases hv : x.vars.contains n
        · rw [hv] at hc hst
          simp only [go_sem, ↓reduceIte, Nat.reduceEqDiff, Nat.reduceAdd, Nat.reduceLeDiff, Nat.reduceLT, reduceCtorEq, ne_eq, natge0, tonat, hc, i1, i2, i5, afl, i3, hld, d]
          refine h _ ?_
          simp only [Bool.false_eq_true, if_false] at hst
          simp only [go_sem, ↓reduceIte, Nat.reduceEqDiff, w1, hput, hst, alC_cell.fhead, alC_cell.fnames]
        · rw [hv] at hc hst
          have hst2 : L = upto' (putA n u e.alts) e.alts (i + 1) := by
            rw [← hst, if_pos rfl]
            have : Al.mk x.con x.vars x.body = x := by cases x; rfl
            rw [this, set_same hg]
          simp only [go_sem, ↓reduceIte, Nat.reduceEqDiff, Nat.reduceAdd, Nat.reduceLeDiff, Nat.reduceLT, reduceCtorEq, ne_eq, natge0, tonat, hc, i1, i2, afl, i3, hld]
          refine h _ ?_
          simp only [go_sem, ↓reduceIte, Nat.reduceEqDiff, w1, hst2, alC_cell.fhead, alC_cell.fnames]
      · have ue := upto_end ql
        rw [← hna] at ue ql
        simp only [ue]
        generalize hPA : putA n u e.alts = PA at *
        have hca := als_chunks PA
        rw [ql] at hca
        simp only [go_sem, ↓reduceIte, Nat.reduceEqDiff, Nat.reduceAdd, Nat.reduceLeDiff, Nat.reduceLT, Nat.reduceBEq, natlt, Nat.lt_irrefl, true_or, alC_cell.fstrip, alC_cell.fpure, afl, ql, hca, hfin]
  · cases h2 : e.name == n
    · simp only [go_sem, ↓reduceIte, Nat.reduceEqDiff, Nat.reduceAdd, Nat.reduceLT, reduceCtorEq, Int.cast_ofNat_Int, Tryz.f9, h1, h3, hk, exsV_nil]
      refine run_for (fun i => ⟨[(1, .str n), (3, .ptr (.loc 3) 0), (5, .ptr (.loc 5) 0), (6, .ptr (.loc 6) 0), (7, .slice []), (43, .slice []), (44, .int .i64 0), (45, .int .i64 i)], [], [(3, [.int .i64 e.kind, .str e.name, .bool e.told, .int .i64 e.ty.kind, .str e.ty.name, .int .i64 e.ty.n, .slice (tysV e.ty.args), .slice ([]), .slice (alsV e.alts)]), (5, [.int .i64 u.kind, .str u.name, .bool u.told, .int .i64 u.ty.kind, .str u.ty.name, .int .i64 u.ty.n, .slice (tysV u.ty.args), .slice (exsV u.kids), .slice (alsV u.alts)]), (6, [.int .i64 0, .str [], .bool false, .int .i64 0, .str [], .int .i64 0, .own 25 0 [], .own 29 0 [], .own 54 0 []])], 1⟩) 0 ?_ (fun i hi => absurd hi (Nat.not_lt_zero i)) ?_
      · simp only [go_sem, ↓reduceIte, Nat.reduceEqDiff, reduceCtorEq, Int.cast_ofNat_Int]
      · skip
        simp only [go_sem, ↓reduceIte, Nat.reduceEqDiff, Nat.reduceAdd, Nat.reduceLT, Int.cast_ofNat_Int, Int.lt_irrefl, al, a0n, ah, ap, ax, alC_cell.len, flatC_als, alC_cell.fstamp]
        refine run_for (fun i => ⟨[(1, .str n), (3, .ptr (.loc 3) 0), (5, .ptr (.loc 5) 0), (6, .ptr (.loc 6) 0), (7, .slice []), (10, .ptr (.loc 73) (bsBase + na)), (74, .ptr (.loc 73) (bsBase + na)), (75, .int .i64 na), (76, .int .i64 i)], [], [(3, [.int .i64 e.kind, .str e.name, .bool e.told, .int .i64 e.ty.kind, .str e.ty.name, .int .i64 e.ty.n, .slice (tysV e.ty.args), .slice ([]), .slice (alsV e.alts)]), (5, [.int .i64 u.kind, .str u.name, .bool u.told, .int .i64 u.ty.kind, .str u.ty.name, .int .i64 u.ty.n, .slice (tysV u.ty.args), .slice (exsV u.kids), .slice (alsV u.alts)]), (6, [.int .i64 0, .str [], .bool false, .int .i64 0, .str [], .int .i64 0, .own 25 0 [], .own 29 0 [], .own 54 0 []]), (73, (upto' (putA n u e.alts) e.alts i).flatMap alC)], 1⟩) na ?_ ?_ ?_
        · simp only [go_sem, ↓reduceIte, Nat.reduceEqDiff, Int.cast_ofNat_Int, upto_zero, alC_cell.fhead, alC_cell.fnames]
        · intro i hi h
          obtain ⟨x, hx⟩ := getS (show i < e.alts.length by omega)
          have hxt := paltots_mem (List.mem_of_getElem? hx)
          have hxb := paltot_eq x
          have d := ih x.body (by omega) (by omega)
          have hg := upto_get ql hx
          have hp : (putA n u e.alts)[i]? = some (putL n u x) := by rw [putA_map, List.getElem?_map, hx]; rfl
          have ul := upto_len ql i (by omega)
          have w1 : IntKind.i64.wrap ((i : Int) + 1) = ((i + 1 : Nat) : Int) := wrapN (i + 1) (by omega)
          have i1 : ((i : Int) < (na : Int)) = True := by simp; omega
          have i2 : (i * 11 < bsBase) = True := by rw [bsBase_eq]; simp; omega
          have i5 : (i * 11 + 2 < bsBase) = True := by rw [bsBase_eq]; simp; omega
          have hld := alC_cell.load hg
          have hst := upto_set ql hp
          generalize hL : upto' (putA n u e.alts) e.alts i = L at hg ul hld hst
          have i3 : (i * 11 + 11 ≤ L.length * 11) = True := eq_true (by omega)
          have i6 : (i * 11 + 2 + 9 ≤ L.length * 11) = True := eq_true (by omega)
          have hc := contains_den x.vars n (by omega)
          rw [putL_eq] at hst
          have hput := alC_cell.part hg (y := .mk x.con x.vars (putE n u x.body)) (a := [.str x.con, .slice (x.vars.map .str)]) (b := []) (c := exC x.body) (c' := exC (putE n u x.body)) (by rw [List.append_nil]; rfl) (by rw [List.append_nil]; rfl) (by rw [exC_len, exC_len])
          rw [exC_eq (putE n u x.body)] at hput
          simp only [List.cons_append, List.nil_append, List.length_cons, List.length_nil, Nat.reduceAdd] at hput
          rw [exC_eq, exC_eq u, exC_eq (putE n u x.body)] at d
          rw [alC_eq x] at hld
          cases hv : x.vars.contains n
          · rw [hv] at hc hst
            simp only [go_sem, ↓reduceIte, Nat.reduceEqDiff, Nat.reduceAdd, Nat.reduceLeDiff, Nat.reduceLT, reduceCtorEq, ne_eq, natge0, tonat, hc, i1, i2, i5, afl, i3, hld, d]
            refine h _ ?_
            simp only [Bool.false_eq_true, if_false] at hst
            simp only [go_sem, ↓reduceIte, Nat.reduceEqDiff, w1, hput, hst, alC_cell.fhead, alC_cell.fnames]
          · rw [hv] at hc hst
            have hst2 : L = upto' (putA n u e.alts) e.alts (i + 1) := by
              rw [← hst, if_pos rfl]
              have : Al.mk x.con x.vars x.body = x := by cases x; rfl
              rw [this, set_same hg]
            simp only [go_sem, ↓reduceIte, Nat.reduceEqDiff, Nat.reduceAdd, Nat.reduceLeDiff, Nat.reduceLT, reduceCtorEq, ne_eq, natge0, tonat, hc, i1, i2, afl, i3, hld]
            refine h _ ?_
            simp only [go_sem, ↓reduceIte, Nat.reduceEqDiff, w1, hst2, alC_cell.fhead, alC_cell.fnames]
        · have ue := upto_end ql
          rw [← hna] at ue ql
          simp only [ue]
          generalize hPA : putA n u e.alts = PA at *
          have hca := als_chunks PA
          rw [ql] at hca
          simp only [go_sem, ↓reduceIte, Nat.reduceEqDiff, Nat.reduceAdd, Nat.reduceLeDiff, Nat.reduceLT, Nat.reduceBEq, natlt, Nat.lt_irrefl, true_or, alC_cell.fstrip, alC_cell.fpure, afl, ql, hca, hfin]
    · simp only [go_sem, ↓reduceIte, Nat.reduceEqDiff, Nat.reduceAdd, Nat.reduceLT, reduceCtorEq, Int.cast_ofNat_Int, Tryz.f9, h1, h3, hk, exsV_nil]
      refine run_for (fun i => ⟨[(1, .str n), (3, .ptr (.loc 3) 0), (5, .ptr (.loc 5) 0), (6, .ptr (.loc 6) 0), (7, .slice []), (43, .slice []), (44, .int .i64 0), (45, .int .i64 i)], [], [(3, [.int .i64 e.kind, .str e.name, .bool e.told, .int .i64 e.ty.kind, .str e.ty.name, .int .i64 e.ty.n, .slice (tysV e.ty.args), .slice ([]), .slice (alsV e.alts)]), (5, [.int .i64 u.kind, .str u.name, .bool u.told, .int .i64 u.ty.kind, .str u.ty.name, .int .i64 u.ty.n, .slice (tysV u.ty.args), .slice (exsV u.kids), .slice (alsV u.alts)]), (6, [.int .i64 0, .str [], .bool false, .int .i64 0, .str [], .int .i64 0, .own 25 0 [], .own 29 0 [], .own 54 0 []])], 1⟩) 0 ?_ (fun i hi => absurd hi (Nat.not_lt_zero i)) ?_
      · simp only [go_sem, ↓reduceIte, Nat.reduceEqDiff, reduceCtorEq, Int.cast_ofNat_Int]
      · skip
        simp only [go_sem, ↓reduceIte, Nat.reduceEqDiff, Nat.reduceAdd, Nat.reduceLT, Int.cast_ofNat_Int, Int.lt_irrefl, al, a0n, ah, ap, ax, alC_cell.len, flatC_als, alC_cell.fstamp]
        refine run_for (fun i => ⟨[(1, .str n), (3, .ptr (.loc 3) 0), (5, .ptr (.loc 5) 0), (6, .ptr (.loc 6) 0), (7, .slice []), (10, .ptr (.loc 73) (bsBase + na)), (74, .ptr (.loc 73) (bsBase + na)), (75, .int .i64 na), (76, .int .i64 i)], [], [(3, [.int .i64 e.kind, .str e.name, .bool e.told, .int .i64 e.ty.kind, .str e.ty.name, .int .i64 e.ty.n, .slice (tysV e.ty.args), .slice ([]), .slice (alsV e.alts)]), (5, [.int .i64 u.kind, .str u.name, .bool u.told, .int .i64 u.ty.kind, .str u.ty.name, .int .i64 u.ty.n, .slice (tysV u.ty.args), .slice (exsV u.kids), .slice (alsV u.alts)]), (6, [.int .i64 0, .str [], .bool false, .int .i64 0, .str [], .int .i64 0, .own 25 0 [], .own 29 0 [], .own 54 0 []]), (73, (upto' (putA n u e.alts) e.alts i).flatMap alC)], 1⟩) na ?_ ?_ ?_
        · simp only [go_sem, ↓reduceIte, Nat.reduceEqDiff, Int.cast_ofNat_Int, upto_zero, alC_cell.fhead, alC_cell.fnames]
        · intro i hi h
          obtain ⟨x, hx⟩ := getS (show i < e.alts.length by omega)
          have hxt := paltots_mem (List.mem_of_getElem? hx)
          have hxb := paltot_eq x
          have d := ih x.body (by omega) (by omega)
          have hg := upto_get ql hx
          have hp : (putA n u e.alts)[i]? = some (putL n u x) := by rw [putA_map, List.getElem?_map, hx]; rfl
          have ul := upto_len ql i (by omega)
          have w1 : IntKind.i64.wrap ((i : Int) + 1) = ((i + 1 : Nat) : Int) := wrapN (i + 1) (by omega)
          have i1 : ((i : Int) < (na : Int)) = True := by simp; omega
          have i2 : (i * 11 < bsBase) = True := by rw [bsBase_eq]; simp; omega
          have i5 : (i * 11 + 2 < bsBase) = True := by rw [bsBase_eq]; simp; omega
          have hld := alC_cell.load hg
          have hst := upto_set ql hp
          generalize hL : upto' (putA n u e.alts) e.alts i = L at hg ul hld hst
          have i3 : (i * 11 + 11 ≤ L.length * 11) = True := eq_true (by omega)
          have i6 : (i * 11 + 2 + 9 ≤ L.length * 11) = True := eq_true (by omega)
          have hc := contains_den x.vars n (by omega)
          rw [putL_eq] at hst
          have hput := alC_cell.part hg (y := .mk x.con x.vars (putE n u x.body)) (a := [.str x.con, .slice (x.vars.map .str)]) (b := []) (c := exC x.body) (c' := exC (putE n u x.body)) (by rw [List.append_nil]; rfl) (by rw [List.append_nil]; rfl) (by rw [exC_len, exC_len])
          rw [exC_eq (putE n u x.body)] at hput
          simp only [List.cons_append, List.nil_append, List.length_cons, List.length_nil, Nat.reduceAdd] at hput
          rw [exC_eq, exC_eq u, exC_eq (putE n u x.body)] at d
          rw [alC_eq x] at hld
          cases hv : x.vars.contains n
          · rw [hv] at hc hst
            simp only [go_sem, ↓reduceIte, Nat.reduceEqDiff, Nat.reduceAdd, Nat.reduceLeDiff, Nat.reduceLT, reduceCtorEq, ne_eq, natge0, tonat, hc, i1, i2, i5, afl, i3, hld, d]
            refine h _ ?_
            simp only [Bool.false_eq_true, if_false] at hst
            simp only [go_sem, ↓reduceIte, Nat.reduceEqDiff, w1, hput, hst, alC_cell.fhead, alC_cell.fnames]
          · rw [hv] at hc hst
            have hst2 : L = upto' (putA n u e.alts) e.alts (i + 1) := by
              rw [← hst, if_pos rfl]
              have : Al.mk x.con x.vars x.body = x := by cases x; rfl
              rw [this, set_same hg]
            simp only [go_sem, ↓reduceIte, Nat.reduceEqDiff, Nat.reduceAdd, Nat.reduceLeDiff, Nat.reduceLT, reduceCtorEq, ne_eq, natge0, tonat, hc, i1, i2, afl, i3, hld]
            refine h _ ?_
            simp only [go_sem, ↓reduceIte, Nat.reduceEqDiff, w1, hst2, alC_cell.fhead, alC_cell.fnames]
        · have ue := upto_end ql
          rw [← hna] at ue ql
          simp only [ue]
          generalize hPA : putA n u e.alts = PA at *
          have hca := als_chunks PA
          rw [ql] at hca
          simp only [go_sem, ↓reduceIte, Nat.reduceEqDiff, Nat.reduceAdd, Nat.reduceLeDiff, Nat.reduceLT, Nat.reduceBEq, natlt, Nat.lt_irrefl, true_or, alC_cell.fstrip, alC_cell.fpure, afl, ql, hca, hfin]
theorem eput_11 (m : Nat) (e u : Ex) (n : List UInt8) (hm : e.tot ≤ m + 1) (hb : e.tot < 1000000) (h1 : (e.kind == 1) = false) (h32 : (e.kind == 3 && e.name == n) = false) {k0 : Ex} {kr : List Ex} (hk : e.kids = k0 :: kr) {a0 : Al} {ar : List Al} (ha : e.alts = a0 :: ar)
    (ih : ∀ x : Ex, x.tot ≤ m → x.tot < 1000000 → den E 9 [.agg (exC x), .str n, .agg (exC u)] [] = some (.agg (exC (putE n u x)), [])) :
    den E 9 [.agg (exC e), .str n, .agg (exC u)] [] = some (.agg (exC (.mk e.kind e.name e.told e.ty (putK n u (e.kind == 5 && e.name == n) e.kids) (putA n u e.alts))), []) := by
  have htot := tot_eq e
  have hkl := tots_len e.kids
  have hal := altots_len e.alts
  have htp := sz_eq e.ty
  rw [den_eq prim_9, body_9]
  obtain ⟨fin, hfin⟩ : ∃ fin, fin = (some (.agg (exC (.mk e.kind e.name e.told e.ty (putK n u (e.kind == 5 && e.name == n) e.kids) (putA n u e.alts))), []) : Option (AVal × Heap)) := ⟨_, rfl⟩
  rw [← hfin]
  rw [exC_mk] at hfin
  rw [exC_eq, exC_eq u]
  obtain ⟨nk, hnk⟩ : ∃ nk, nk = e.kids.length := ⟨_, rfl⟩
  have kh : (exsV e.kids).head? = some (.agg (exC k0)) := by rw [hk]; exact exs_head k0 kr
  have kl : (exsV e.kids).length = nk := by rw [exsV_len, hnk]
  have k0n : (nk = 0) = False := by rw [hnk, hk]; simp
  have kp : (0 < nk) = True := by rw [hnk, hk]; simp
  have kx : (nk ≤ 1073741824) = True := by simp; omega
  have pl := putK_len n u (e.kind == 5 && e.name == n) e.kids
  have kfl : ∀ l : List Ex, (l.flatMap exC).length = l.length * 9 := exC_cell.flen
  obtain ⟨na, hna⟩ : ∃ na, na = e.alts.length := ⟨_, rfl⟩
  have ah : (alsV e.alts).head? = some (.agg (alC a0)) := by rw [ha]; exact als_head a0 ar
  have al : (alsV e.alts).length = na := by rw [alsV_len, hna]
  have a0n : (na = 0) = False := by rw [hna, ha]; simp
  have ap : (0 < na) = True := by rw [hna, ha]; simp
  have ax : (na ≤ 1073741824) = True := by simp; omega
  have ql : (putA n u e.alts).length = e.alts.length := by rw [putA_map, List.length_map]
  have afl : ∀ l : List Al, (l.flatMap alC).length = l.length * 11 := alC_cell.flen
  have flags : ∀ r, (∀ h3 : (e.kind == 3) = true, ∀ h2 : (e.name == n) = false, r) → (∀ h3 : (e.kind == 3) = false, r) → r := by
    intro r f g
    cases h3 : e.kind == 3
    · exact g h3
    · cases h2 : e.name == n
      · exact f h3 h2
      · rw [h3, h2] at h32; cases h32
  refine flags _ (fun h3 h2 => ?_) (fun h3 => ?_)
  · simp only [go_sem, ↓reduceIte, Nat.reduceEqDiff, Nat.reduceAdd, Nat.reduceLT, reduceCtorEq, Tryz.f9, h1, h2, h3, kl, k0n, kh, kp, kx, exC_len, flatC_exs, exC_cell.fstamp]
    refine run_for (fun i => ⟨[(1, .str n), (3, .ptr (.loc 3) 0), (5, .ptr (.loc 5) 0), (6, .ptr (.loc 6) 0), (7, .ptr (.loc 42) (bsBase + nk)), (43, .ptr (.loc 42) (bsBase + nk)), (44, .int .i64 nk), (45, .int .i64 i)], [], [(3, [.int .i64 e.kind, .str e.name, .bool e.told, .int .i64 e.ty.kind, .str e.ty.name, .int .i64 e.ty.n, .slice (tysV e.ty.args), .slice (exsV e.kids), .slice (alsV e.alts)]), (5, [.int .i64 u.kind, .str u.name, .bool u.told, .int .i64 u.ty.kind, .str u.ty.name, .int .i64 u.ty.n, .slice (tysV u.ty.args), .slice (exsV u.kids), .slice (alsV u.alts)]), (6, [.int .i64 0, .str [], .bool false, .int .i64 0, .str [], .int .i64 0, .own 25 0 [], .own 29 0 [], .own 54 0 []]), (42, (upto' (putK n u (e.kind == 5 && e.name == n) e.kids) e.kids i).flatMap exC)], 1⟩) nk ?_ ?_ ?_
    · simp only [go_sem, ↓reduceIte, Nat.reduceEqDiff, reduceCtorEq, Int.cast_ofNat_Int, upto_zero, exC_cell.fhead, exC_cell.fnames]
    · intro i hi h
      obtain ⟨x, hx⟩ := getS (show i < e.kids.length by omega)
      have hxt := tots_mem (List.mem_of_getElem? hx)
      have d := ih x (by omega) (by omega)
      have hg := upto_get pl hx
      have hp := putK_get n u (e.kind == 5 && e.name == n) hx
      have ul := upto_len pl i (by omega)
      have w1 : IntKind.i64.wrap ((i : Int) + 1) = ((i + 1 : Nat) : Int) := wrapN (i + 1) (by omega)
      have i1 : ((i : Int) < (nk : Int)) = True := by simp; omega
      have i2 : (i * 9 < bsBase) = True := by rw [bsBase_eq]; simp; omega
      have hld := exC_cell.load hg
      generalize hL : upto' (putK n u (e.kind == 5 && e.name == n) e.kids) e.kids i = L at hg ul hld
      have i3 : (i * 9 + 9 ≤ L.length * 9) = True := eq_true (by omega)
      have i4 : ((i : Int) == 0) = (i == 0) := by rw [nat_eq0]; rfl
      have hput := exC_cell.put hg (putE n u x)
      rw [exC_eq (putE n u x)] at hput
      simp only [List.cons_append, List.nil_append] at hput
      rw [exC_eq, exC_eq u, exC_eq (putE n u x)] at d
      rw [exC_eq x] at hld
      have put : (!(e.kind == 5 && e.name == n) || i == 0) = true → L.set i (putE n u x) = upto' (putK n u (e.kind == 5 && e.name == n) e.kids) e.kids (i + 1) := fun hc => by
        rw [hc, if_pos rfl] at hp; rw [← hL]; exact upto_set pl hp
      have skip : (!(e.kind == 5 && e.name == n) || i == 0) = false → L = upto' (putK n u (e.kind == 5 && e.name == n) e.kids) e.kids (i + 1) := fun hc => by
        rw [hc, if_neg (by simp)] at hp; rw [← upto_set pl hp, hL, set_same hg]
      cases h5 : e.kind == 5
      · rw [h5] at put
        simp only [go_sem, ↓reduceIte, Nat.reduceEqDiff, Nat.reduceAdd, Nat.reduceLeDiff, Nat.reduceLT, reduceCtorEq, ne_eq, natge0, tonat, h5, i1, i2, kfl, i3, hld, bne_i, d]
        refine h _ ?_
        simp only [go_sem, ↓reduceIte, Nat.reduceEqDiff, w1, hput, put rfl, exC_cell.fhead, exC_cell.fnames, h5, Bool.false_and]
      · cases h2 : e.name == n
        · rw [h5, h2] at put
          simp only [go_sem, ↓reduceIte, Nat.reduceEqDiff, Nat.reduceAdd, Nat.reduceLeDiff, Nat.reduceLT, reduceCtorEq, ne_eq, natge0, tonat, h5, h2, i1, i2, kfl, i3, hld, bne_i, d]
          refine h _ ?_
          simp only [go_sem, ↓reduceIte, Nat.reduceEqDiff, w1, hput, put rfl, exC_cell.fhead, exC_cell.fnames, h5, h2]
        · cases h0 : i == 0
          · rw [h5, h2, h0] at skip
            simp only [go_sem, ↓reduceIte, Nat.reduceEqDiff, Nat.reduceAdd, Nat.reduceLeDiff, Nat.reduceLT, reduceCtorEq, ne_eq, natge0, tonat, h5, h2, i1, i2, kfl, i3, i4, hld, bne_i, h0]
            refine h _ ?_
            simp only [go_sem, ↓reduceIte, Nat.reduceEqDiff, w1, skip rfl, exC_cell.fhead, exC_cell.fnames, h5, h2]
          · rw [h5, h2, h0] at put
            simp only [go_sem, ↓reduceIte, Nat.reduceEqDiff, Nat.reduceAdd, Nat.reduceLeDiff, Nat.reduceLT, reduceCtorEq, ne_eq, natge0, tonat, h5, h2, i1, i2, kfl, i3, i4, hld, bne_i, d, h0]
            refine h _ ?_
            simp only [go_sem, ↓reduceIte, Nat.reduceEqDiff, w1, hput, put rfl, exC_cell.fhead, exC_cell.fnames, h5, h2]
    · have ue := upto_end pl
      rw [← hnk] at ue pl
      simp only [ue]
      generalize hPK : putK n u (e.kind == 5 && e.name == n) e.kids = PK at *
      simp only [go_sem, ↓reduceIte, Nat.reduceEqDiff, Nat.reduceAdd, Nat.reduceLT, natlt, Nat.lt_irrefl, al, a0n, ah, ap, ax, alC_cell.len, flatC_als, alC_cell.fstamp]
      have hch := exs_chunks PK
      rw [pl] at hch
      refine run_for (fun i => ⟨[(1, .str n), (3, .ptr (.loc 3) 0), (5, .ptr (.loc 5) 0), (6, .ptr (.loc 6) 0), (7, .ptr (.loc 42) (bsBase + nk)), (10, .ptr (.loc 73) (bsBase + na)), (74, .ptr (.loc 73) (bsBase + na)), (75, .int .i64 na), (76, .int .i64 i)], [], [(3, [.int .i64 e.kind, .str e.name, .bool e.told, .int .i64 e.ty.kind, .str e.ty.name, .int .i64 e.ty.n, .slice (tysV e.ty.args), .slice (exsV e.kids), .slice (alsV e.alts)]), (5, [.int .i64 u.kind, .str u.name, .bool u.told, .int .i64 u.ty.kind, .str u.ty.name, .int .i64 u.ty.n, .slice (tysV u.ty.args), .slice (exsV u.kids), .slice (alsV u.alts)]), (6, [.int .i64 0, .str [], .bool false, .int .i64 0, .str [], .int .i64 0, .own 25 0 [], .own 29 0 [], .own 54 0 []]), (42, PK.flatMap exC), (73, (upto' (putA n u e.alts) e.alts i).flatMap alC)], 1⟩) na ?_ ?_ ?_
      · simp only [go_sem, ↓reduceIte, Nat.reduceEqDiff, Int.cast_ofNat_Int, upto_zero, exC_cell.fhead, exC_cell.fnames, alC_cell.fhead, alC_cell.fnames]
      · intro i hi h
        obtain ⟨x, hx⟩ := getS (show i < e.alts.length by omega)
        have hxt := paltots_mem (List.mem_of_getElem? hx)
        have hxb := paltot_eq x
        have d := ih x.body (by omega) (by omega)
        have hg := upto_get ql hx
        have hp : (putA n u e.alts)[i]? = some (putL n u x) := by rw [putA_map, List.getElem?_map, hx]; rfl
        have ul := upto_len ql i (by omega)
        have w1 : IntKind.i64.wrap ((i : Int) + 1) = ((i + 1 : Nat) : Int) := wrapN (i + 1) (by omega)
        have i1 : ((i : Int) < (na : Int)) = True := by simp; omega
        have i2 : (i * 11 < bsBase) = True := by rw [bsBase_eq]; simp; omega
        have i5 : (i * 11 + 2 < bsBase) = True := by rw [bsBase_eq]; simp; omega
        have hld := alC_cell.load hg
        have hst := upto_set ql hp
        generalize hL : upto' (putA n u e.alts) e.alts i = L at hg ul hld hst
        have i3 : (i * 11 + 11 ≤ L.length * 11) = True := eq_true (by omega)
        have i6 : (i * 11 + 2 + 9 ≤ L.length * 11) = True := eq_true (by omega)
        have hc := contains_den x.vars n (by omega)
        rw [putL_eq] at hst
        have hput := alC_cell.part hg (y := .mk x.con x.vars (putE n u x.body)) (a := [.str x.con, .slice (x.vars.map .str)]) (b := []) (c := exC x.body) (c' := exC (putE n u x.body)) (by rw [List.append_nil]; rfl) (by rw [List.append_nil]; rfl) (by rw [exC_len, exC_len])
        rw [exC_eq (putE n u x.body)] at hput
        simp only [List.cons_append, List.nil_append, List.length_cons, List.length_nil, Nat.reduceAdd] at hput
        rw [exC_eq, exC_eq u, exC_eq (putE n u x.body)] at d
        rw [alC_eq x] at hld
        cases hv : x.vars.contains n
        · rw [hv] at hc hst
          simp only [go_sem, ↓reduceIte, Nat.reduceEqDiff, Nat.reduceAdd, Nat.reduceLeDiff, Nat.reduceLT, reduceCtorEq, ne_eq, natge0, tonat, hc, i1, i2, i5, afl, i3, hld, d]
          refine h _ ?_
          simp only [Bool.false_eq_true, if_false] at hst
          simp only [go_sem, ↓reduceIte, Nat.reduceEqDiff, w1, hput, hst, exC_cell.fhead, exC_cell.fnames, alC_cell.fhead, alC_cell.fnames]
        · rw [hv] at hc hst
          have hst2 : L = upto' (putA n u e.alts) e.alts (i + 1) := by
            rw [← hst, if_pos rfl]
            have : Al.mk x.con x.vars x.body = x := by cases x; rfl
            rw [this, set_same hg]
          simp only [go_sem, ↓reduceIte, Nat.reduceEqDiff, Nat.reduceAdd, Nat.reduceLeDiff, Nat.reduceLT, reduceCtorEq, ne_eq, natge0, tonat, hc, i1, i2, afl, i3, hld]
          refine h _ ?_
          simp only [go_sem, ↓reduceIte, Nat.reduceEqDiff, w1, hst2, exC_cell.fhead, exC_cell.fnames, alC_cell.fhead, alC_cell.fnames]
      · have ue := upto_end ql
        rw [← hna] at ue ql
        simp only [ue]
        generalize hPA : putA n u e.alts = PA at *
        have hca := als_chunks PA
        rw [ql] at hca
        simp only [go_sem, ↓reduceIte, Nat.reduceEqDiff, Nat.reduceAdd, Nat.reduceLeDiff, Nat.reduceLT, Nat.reduceBEq, natlt, Nat.lt_irrefl, true_or, exC_cell.fstrip, exC_cell.fpure, kfl, pl, hch, alC_cell.fstrip, alC_cell.fpure, alC_cell.fnames, afl, ql, hca, hfin]
  · cases h2 : e.name == n
    · simp only [go_sem, ↓reduceIte, Nat.reduceEqDiff, Nat.reduceAdd, Nat.reduceLT, reduceCtorEq, Tryz.f9, h1, h3, kl, k0n, kh, kp, kx, exC_len, flatC_exs, exC_cell.fstamp]
      refine run_for (fun i => ⟨[(1, .str n), (3, .ptr (.loc 3) 0), (5, .ptr (.loc 5) 0), (6, .ptr (.loc 6) 0), (7, .ptr (.loc 42) (bsBase + nk)), (43, .ptr (.loc 42) (bsBase + nk)), (44, .int .i64 nk), (45, .int .i64 i)], [], [(3, [.int .i64 e.kind, .str e.name, .bool e.told, .int .i64 e.ty.kind, .str e.ty.name, .int .i64 e.ty.n, .slice (tysV e.ty.args), .slice (exsV e.kids), .slice (alsV e.alts)]), (5, [.int .i64 u.kind, .str u.name, .bool u.told, .int .i64 u.ty.kind, .str u.ty.name, .int .i64 u.ty.n, .slice (tysV u.ty.args), .slice (exsV u.kids), .slice (alsV u.alts)]), (6, [.int .i64 0, .str [], .bool false, .int .i64 0, .str [], .int .i64 0, .own 25 0 [], .own 29 0 [], .own 54 0 []]), (42, (upto' (putK n u (e.kind == 5 && e.name == n) e.kids) e.kids i).flatMap exC)], 1⟩) nk ?_ ?_ ?_
      · simp only [go_sem, ↓reduceIte, Nat.reduceEqDiff, reduceCtorEq, Int.cast_ofNat_Int, upto_zero, exC_cell.fhead, exC_cell.fnames]
      · intro i hi h
        obtain ⟨x, hx⟩ := getS (show i < e.kids.length by omega)
        have hxt := tots_mem (List.mem_of_getElem? hx)
        have d := ih x (by omega) (by omega)
        have hg := upto_get pl hx
        have hp := putK_get n u (e.kind == 5 && e.name == n) hx
        have ul := upto_len pl i (by omega)
        have w1 : IntKind.i64.wrap ((i : Int) + 1) = ((i + 1 : Nat) : Int) := wrapN (i + 1) (by omega)
        have i1 : ((i : Int) < (nk : Int)) = True := by simp; omega
        have i2 : (i * 9 < bsBase) = True := by rw [bsBase_eq]; simp; omega
        have hld := exC_cell.load hg
        generalize hL : upto' (putK n u (e.kind == 5 && e.name == n) e.kids) e.kids i = L at hg ul hld
        have i3 : (i * 9 + 9 ≤ L.length * 9) = True := eq_true (by omega)
        have i4 : ((i : Int) == 0) = (i == 0) := by rw [nat_eq0]; rfl
        have hput := exC_cell.put hg (putE n u x)
        rw [exC_eq (putE n u x)] at hput
        simp only [List.cons_append, List.nil_append] at hput
        rw [exC_eq, exC_eq u, exC_eq (putE n u x)] at d
        rw [exC_eq x] at hld
        have put : (!(e.kind == 5 && e.name == n) || i == 0) = true → L.set i (putE n u x) = upto' (putK n u (e.kind == 5 && e.name == n) e.kids) e.kids (i + 1) := fun hc => by
          rw [hc, if_pos rfl] at hp; rw [← hL]; exact upto_set pl hp
        have skip : (!(e.kind == 5 && e.name == n) || i == 0) = false → L = upto' (putK n u (e.kind == 5 && e.name == n) e.kids) e.kids (i + 1) := fun hc => by
          rw [hc, if_neg (by simp)] at hp; rw [← upto_set pl hp, hL, set_same hg]
        cases h5 : e.kind == 5
        · rw [h5] at put
          simp only [go_sem, ↓reduceIte, Nat.reduceEqDiff, Nat.reduceAdd, Nat.reduceLeDiff, Nat.reduceLT, reduceCtorEq, ne_eq, natge0, tonat, h5, i1, i2, kfl, i3, hld, bne_i, d]
          refine h _ ?_
          simp only [go_sem, ↓reduceIte, Nat.reduceEqDiff, w1, hput, put rfl, exC_cell.fhead, exC_cell.fnames, h5, Bool.false_and]
        · cases h2 : e.name == n
          · rw [h5, h2] at put
            simp only [go_sem, ↓reduceIte, Nat.reduceEqDiff, Nat.reduceAdd, Nat.reduceLeDiff, Nat.reduceLT, reduceCtorEq, ne_eq, natge0, tonat, h5, h2, i1, i2, kfl, i3, hld, bne_i, d]
            refine h _ ?_
            simp only [go_sem, ↓reduceIte, Nat.reduceEqDiff, w1, hput, put rfl, exC_cell.fhead, exC_cell.fnames, h5, h2]
          · cases h0 : i == 0
            · rw [h5, h2, h0] at skip
              simp only [go_sem, ↓reduceIte, Nat.reduceEqDiff, Nat.reduceAdd, Nat.reduceLeDiff, Nat.reduceLT, reduceCtorEq, ne_eq, natge0, tonat, h5, h2, i1, i2, kfl, i3, i4, hld, bne_i, h0]
              refine h _ ?_
              simp only [go_sem, ↓reduceIte, Nat.reduceEqDiff, w1, skip rfl, exC_cell.fhead, exC_cell.fnames, h5, h2]
            · rw [h5, h2, h0] at put
              simp only [go_sem, ↓reduceIte, Nat.reduceEqDiff, Nat.reduceAdd, Nat.reduceLeDiff, Nat.reduceLT, reduceCtorEq, ne_eq, natge0, tonat, h5, h2, i1, i2, kfl, i3, i4, hld, bne_i, d, h0]
              refine h _ ?_
              simp only [go_sem, ↓reduceIte, Nat.reduceEqDiff, w1, hput, put rfl, exC_cell.fhead, exC_cell.fnames, h5, h2]
      · have ue := upto_end pl
        rw [← hnk] at ue pl
        simp only [ue]
        generalize hPK : putK n u (e.kind == 5 && e.name == n) e.kids = PK at *
        simp only [go_sem, ↓reduceIte, Nat.reduceEqDiff, Nat.reduceAdd, Nat.reduceLT, natlt, Nat.lt_irrefl, al, a0n, ah, ap, ax, alC_cell.len, flatC_als, alC_cell.fstamp]
        have hch := exs_chunks PK
        rw [pl] at hch
        refine run_for (fun i => ⟨[(1, .str n), (3, .ptr (.loc 3) 0), (5, .ptr (.loc 5) 0), (6, .ptr (.loc 6) 0), (7, .ptr (.loc 42) (bsBase + nk)), (10, .ptr (.loc 73) (bsBase + na)), (74, .ptr (.loc 73) (bsBase + na)), (75, .int .i64 na), (76, .int .i64 i)], [], [(3, [.int .i64 e.kind, .str e.name, .bool e.told, .int .i64 e.ty.kind, .str e.ty.name, .int .i64 e.ty.n, .slice (tysV e.ty.args), .slice (exsV e.kids), .slice (alsV e.alts)]), (5, [.int .i64 u.kind, .str u.name, .bool u.told, .int .i64 u.ty.kind, .str u.ty.name, .int .i64 u.ty.n, .slice (tysV u.ty.args), .slice (exsV u.kids), .slice (alsV u.alts)]), (6, [.int .i64 0, .str [], .bool false, .int .i64 0, .str [], .int .i64 0, .own 25 0 [], .own 29 0 [], .own 54 0 []]), (42, PK.flatMap exC), (73, (upto' (putA n u e.alts) e.alts i).flatMap alC)], 1⟩) na ?_ ?_ ?_
        · simp only [go_sem, ↓reduceIte, Nat.reduceEqDiff, Int.cast_ofNat_Int, upto_zero, exC_cell.fhead, exC_cell.fnames, alC_cell.fhead, alC_cell.fnames]
        · intro i hi h
          obtain ⟨x, hx⟩ := getS (show i < e.alts.length by omega)
          have hxt := paltots_mem (List.mem_of_getElem? hx)
          have hxb := paltot_eq x
          have d := ih x.body (by omega) (by omega)
          have hg := upto_get ql hx
          have hp : (putA n u e.alts)[i]? = some (putL n u x) := by rw [putA_map, List.getElem?_map, hx]; rfl
          have ul := upto_len ql i (by omega)
          have w1 : IntKind.i64.wrap ((i : Int) + 1) = ((i + 1 : Nat) : Int) := wrapN (i + 1) (by omega)
          have i1 : ((i : Int) < (na : Int)) = True := by simp; omega
          have i2 : (i * 11 < bsBase) = True := by rw [bsBase_eq]; simp; omega
          have i5 : (i * 11 + 2 < bsBase) = True := by rw [bsBase_eq]; simp; omega
          have hld := alC_cell.load hg
          have hst := upto_set ql hp
          generalize hL : upto' (putA n u e.alts) e.alts i = L at hg ul hld hst
          have i3 : (i * 11 + 11 ≤ L.length * 11) = True := eq_true (by omega)
          have i6 : (i * 11 + 2 + 9 ≤ L.length * 11) = True := eq_true (by omega)
          have hc := contains_den x.vars n (by omega)
          rw [putL_eq] at hst
          have hput := alC_cell.part hg (y := .mk x.con x.vars (putE n u x.body)) (a := [.str x.con, .slice (x.vars.map .str)]) (b := []) (c := exC x.body) (c' := exC (putE n u x.body)) (by rw [List.append_nil]; rfl) (by rw [List.append_nil]; rfl) (by rw [exC_len, exC_len])
          rw [exC_eq (putE n u x.body)] at hput
          simp only [List.cons_append, List.nil_append, List.length_cons, List.length_nil, Nat.reduceAdd] at hput
          rw [exC_eq, exC_eq u, exC_eq (putE n u x.body)] at d
          rw [alC_eq x] at hld
          cases hv : x.vars.contains n
          · rw [hv] at hc hst
            simp only [go_sem, ↓reduceIte, Nat.reduceEqDiff, Nat.reduceAdd, Nat.reduceLeDiff, Nat.reduceLT, reduceCtorEq, ne_eq, natge0, tonat, hc, i1, i2, i5, afl, i3, hld, d]
            refine h _ ?_
            simp only [Bool.false_eq_true, if_false] at hst
            simp only [go_sem, ↓reduceIte, Nat.reduceEqDiff, w1, hput, hst, exC_cell.fhead, exC_cell.fnames, alC_cell.fhead, alC_cell.fnames]
          · rw [hv] at hc hst
            have hst2 : L = upto' (putA n u e.alts) e.alts (i + 1) := by
              rw [← hst, if_pos rfl]
              have : Al.mk x.con x.vars x.body = x := by cases x; rfl
              rw [this, set_same hg]
            simp only [go_sem, ↓reduceIte, Nat.reduceEqDiff, Nat.reduceAdd, Nat.reduceLeDiff, Nat.reduceLT, reduceCtorEq, ne_eq, natge0, tonat, hc, i1, i2, afl, i3, hld]
            refine h _ ?_
            simp only [go_sem, ↓reduceIte, Nat.reduceEqDiff, w1, hst2, exC_cell.fhead, exC_cell.fnames, alC_cell.fhead, alC_cell.fnames]
        · have ue := upto_end ql
          rw [← hna] at ue ql
          simp only [ue]
          generalize hPA : putA n u e.alts = PA at *
          have hca := als_chunks PA
          rw [ql] at hca
          simp only [go_sem, ↓reduceIte, Nat.reduceEqDiff, Nat.reduceAdd, Nat.reduceLeDiff, Nat.reduceLT, Nat.reduceBEq, natlt, Nat.lt_irrefl, true_or, exC_cell.fstrip, exC_cell.fpure, kfl, pl, hch, alC_cell.fstrip, alC_cell.fpure, alC_cell.fnames, afl, ql, hca, hfin]
    · simp only [go_sem, ↓reduceIte, Nat.reduceEqDiff, Nat.reduceAdd, Nat.reduceLT, reduceCtorEq, Tryz.f9, h1, h3, kl, k0n, kh, kp, kx, exC_len, flatC_exs, exC_cell.fstamp]
      refine run_for (fun i => ⟨[(1, .str n), (3, .ptr (.loc 3) 0), (5, .ptr (.loc 5) 0), (6, .ptr (.loc 6) 0), (7, .ptr (.loc 42) (bsBase + nk)), (43, .ptr (.loc 42) (bsBase + nk)), (44, .int .i64 nk), (45, .int .i64 i)], [], [(3, [.int .i64 e.kind, .str e.name, .bool e.told, .int .i64 e.ty.kind, .str e.ty.name, .int .i64 e.ty.n, .slice (tysV e.ty.args), .slice (exsV e.kids), .slice (alsV e.alts)]), (5, [.int .i64 u.kind, .str u.name, .bool u.told, .int .i64 u.ty.kind, .str u.ty.name, .int .i64 u.ty.n, .slice (tysV u.ty.args), .slice (exsV u.kids), .slice (alsV u.alts)]), (6, [.int .i64 0, .str [], .bool false, .int .i64 0, .str [], .int .i64 0, .own 25 0 [], .own 29 0 [], .own 54 0 []]), (42, (upto' (putK n u (e.kind == 5 && e.name == n) e.kids) e.kids i).flatMap exC)], 1⟩) nk ?_ ?_ ?_
      · simp only [go_sem, ↓reduceIte, Nat.reduceEqDiff, reduceCtorEq, Int.cast_ofNat_Int, upto_zero, exC_cell.fhead, exC_cell.fnames]
      · intro i hi h
        obtain ⟨x, hx⟩ := getS (show i < e.kids.length by omega)
        have hxt := tots_mem (List.mem_of_getElem? hx)
        have d := ih x (by omega) (by omega)
        have hg := upto_get pl hx
        have hp := putK_get n u (e.kind == 5 && e.name == n) hx
        have ul := upto_len pl i (by omega)
        have w1 : IntKind.i64.wrap ((i : Int) + 1) = ((i + 1 : Nat) : Int) := wrapN (i + 1) (by omega)
        have i1 : ((i : Int) < (nk : Int)) = True := by simp; omega
        have i2 : (i * 9 < bsBase) = True := by rw [bsBase_eq]; simp; omega
        have hld := exC_cell.load hg
        generalize hL : upto' (putK n u (e.kind == 5 && e.name == n) e.kids) e.kids i = L at hg ul hld
        have i3 : (i * 9 + 9 ≤ L.length * 9) = True := eq_true (by omega)
        have i4 : ((i : Int) == 0) = (i == 0) := by rw [nat_eq0]; rfl
        have hput := exC_cell.put hg (putE n u x)
        rw [exC_eq (putE n u x)] at hput
        simp only [List.cons_append, List.nil_append] at hput
        rw [exC_eq, exC_eq u, exC_eq (putE n u x)] at d
        rw [exC_eq x] at hld
        have put : (!(e.kind == 5 && e.name == n) || i == 0) = true → L.set i (putE n u x) = upto' (putK n u (e.kind == 5 && e.name == n) e.kids) e.kids (i + 1) := fun hc => by
          rw [hc, if_pos rfl] at hp; rw [← hL]; exact upto_set pl hp
        have skip : (!(e.kind == 5 && e.name == n) || i == 0) = false → L = upto' (putK n u (e.kind == 5 && e.name == n) e.kids) e.kids (i + 1) := fun hc => by
          rw [hc, if_neg (by simp)] at hp; rw [← upto_set pl hp, hL, set_same hg]
        cases h5 : e.kind == 5
        · rw [h5] at put
          simp only [go_sem, ↓reduceIte, Nat.reduceEqDiff, Nat.reduceAdd, Nat.reduceLeDiff, Nat.reduceLT, reduceCtorEq, ne_eq, natge0, tonat, h5, i1, i2, kfl, i3, hld, bne_i, d]
          refine h _ ?_
          simp only [go_sem, ↓reduceIte, Nat.reduceEqDiff, w1, hput, put rfl, exC_cell.fhead, exC_cell.fnames, h5, Bool.false_and]
        · cases h2 : e.name == n
          · rw [h5, h2] at put
            simp only [go_sem, ↓reduceIte, Nat.reduceEqDiff, Nat.reduceAdd, Nat.reduceLeDiff, Nat.reduceLT, reduceCtorEq, ne_eq, natge0, tonat, h5, h2, i1, i2, kfl, i3, hld, bne_i, d]
            refine h _ ?_
            simp only [go_sem, ↓reduceIte, Nat.reduceEqDiff, w1, hput, put rfl, exC_cell.fhead, exC_cell.fnames, h5, h2]
          · cases h0 : i == 0
            · rw [h5, h2, h0] at skip
              simp only [go_sem, ↓reduceIte, Nat.reduceEqDiff, Nat.reduceAdd, Nat.reduceLeDiff, Nat.reduceLT, reduceCtorEq, ne_eq, natge0, tonat, h5, h2, i1, i2, kfl, i3, i4, hld, bne_i, h0]
              refine h _ ?_
              simp only [go_sem, ↓reduceIte, Nat.reduceEqDiff, w1, skip rfl, exC_cell.fhead, exC_cell.fnames, h5, h2]
            · rw [h5, h2, h0] at put
              simp only [go_sem, ↓reduceIte, Nat.reduceEqDiff, Nat.reduceAdd, Nat.reduceLeDiff, Nat.reduceLT, reduceCtorEq, ne_eq, natge0, tonat, h5, h2, i1, i2, kfl, i3, i4, hld, bne_i, d, h0]
              refine h _ ?_
              simp only [go_sem, ↓reduceIte, Nat.reduceEqDiff, w1, hput, put rfl, exC_cell.fhead, exC_cell.fnames, h5, h2]
      · have ue := upto_end pl
        rw [← hnk] at ue pl
        simp only [ue]
        generalize hPK : putK n u (e.kind == 5 && e.name == n) e.kids = PK at *
        simp only [go_sem, ↓reduceIte, Nat.reduceEqDiff, Nat.reduceAdd, Nat.reduceLT, natlt, Nat.lt_irrefl, al, a0n, ah, ap, ax, alC_cell.len, flatC_als, alC_cell.fstamp]
        have hch := exs_chunks PK
        rw [pl] at hch
        refine run_for (fun i => ⟨[(1, .str n), (3, .ptr (.loc 3) 0), (5, .ptr (.loc 5) 0), (6, .ptr (.loc 6) 0), (7, .ptr (.loc 42) (bsBase + nk)), (10, .ptr (.loc 73) (bsBase + na)), (74, .ptr (.loc 73) (bsBase + na)), (75, .int .i64 na), (76, .int .i64 i)], [], [(3, [.int .i64 e.kind, .str e.name, .bool e.told, .int .i64 e.ty.kind, .str e.ty.name, .int .i64 e.ty.n, .slice (tysV e.ty.args), .slice (exsV e.kids), .slice (alsV e.alts)]), (5, [.int .i64 u.kind, .str u.name, .bool u.told, .int .i64 u.ty.kind, .str u.ty.name, .int .i64 u.ty.n, .slice (tysV u.ty.args), .slice (exsV u.kids), .slice (alsV u.alts)]), (6, [.int .i64 0, .str [], .bool false, .int .i64 0, .str [], .int .i64 0, .own 25 0 [], .own 29 0 [], .own 54 0 []]), (42, PK.flatMap exC), (73, (upto' (putA n u e.alts) e.alts i).flatMap alC)], 1⟩) na ?_ ?_ ?_
        · simp only [go_sem, ↓reduceIte, Nat.reduceEqDiff, Int.cast_ofNat_Int, upto_zero, exC_cell.fhead, exC_cell.fnames, alC_cell.fhead, alC_cell.fnames]
        · intro i hi h
          obtain ⟨x, hx⟩ := getS (show i < e.alts.length by omega)
          have hxt := paltots_mem (List.mem_of_getElem? hx)
          have hxb := paltot_eq x
          have d := ih x.body (by omega) (by omega)
          have hg := upto_get ql hx
          have hp : (putA n u e.alts)[i]? = some (putL n u x) := by rw [putA_map, List.getElem?_map, hx]; rfl
          have ul := upto_len ql i (by omega)
          have w1 : IntKind.i64.wrap ((i : Int) + 1) = ((i + 1 : Nat) : Int) := wrapN (i + 1) (by omega)
          have i1 : ((i : Int) < (na : Int)) = True := by simp; omega
          have i2 : (i * 11 < bsBase) = True := by rw [bsBase_eq]; simp; omega
          have i5 : (i * 11 + 2 < bsBase) = True := by rw [bsBase_eq]; simp; omega
          have hld := alC_cell.load hg
          have hst := upto_set ql hp
          generalize hL : upto' (putA n u e.alts) e.alts i = L at hg ul hld hst
          have i3 : (i * 11 + 11 ≤ L.length * 11) = True := eq_true (by omega)
          have i6 : (i * 11 + 2 + 9 ≤ L.length * 11) = True := eq_true (by omega)
          have hc := contains_den x.vars n (by omega)
          rw [putL_eq] at hst
          have hput := alC_cell.part hg (y := .mk x.con x.vars (putE n u x.body)) (a := [.str x.con, .slice (x.vars.map .str)]) (b := []) (c := exC x.body) (c' := exC (putE n u x.body)) (by rw [List.append_nil]; rfl) (by rw [List.append_nil]; rfl) (by rw [exC_len, exC_len])
          rw [exC_eq (putE n u x.body)] at hput
          simp only [List.cons_append, List.nil_append, List.length_cons, List.length_nil, Nat.reduceAdd] at hput
          rw [exC_eq, exC_eq u, exC_eq (putE n u x.body)] at d
          rw [alC_eq x] at hld
          cases hv : x.vars.contains n
          · rw [hv] at hc hst
            simp only [go_sem, ↓reduceIte, Nat.reduceEqDiff, Nat.reduceAdd, Nat.reduceLeDiff, Nat.reduceLT, reduceCtorEq, ne_eq, natge0, tonat, hc, i1, i2, i5, afl, i3, hld, d]
            refine h _ ?_
            simp only [Bool.false_eq_true, if_false] at hst
            simp only [go_sem, ↓reduceIte, Nat.reduceEqDiff, w1, hput, hst, exC_cell.fhead, exC_cell.fnames, alC_cell.fhead, alC_cell.fnames]
          · rw [hv] at hc hst
            have hst2 : L = upto' (putA n u e.alts) e.alts (i + 1) := by
              rw [← hst, if_pos rfl]
              have : Al.mk x.con x.vars x.body = x := by cases x; rfl
              rw [this, set_same hg]
            simp only [go_sem, ↓reduceIte, Nat.reduceEqDiff, Nat.reduceAdd, Nat.reduceLeDiff, Nat.reduceLT, reduceCtorEq, ne_eq, natge0, tonat, hc, i1, i2, afl, i3, hld]
            refine h _ ?_
            simp only [go_sem, ↓reduceIte, Nat.reduceEqDiff, w1, hst2, exC_cell.fhead, exC_cell.fnames, alC_cell.fhead, alC_cell.fnames]
        · have ue := upto_end ql
          rw [← hna] at ue ql
          simp only [ue]
          generalize hPA : putA n u e.alts = PA at *
          have hca := als_chunks PA
          rw [ql] at hca
          simp only [go_sem, ↓reduceIte, Nat.reduceEqDiff, Nat.reduceAdd, Nat.reduceLeDiff, Nat.reduceLT, Nat.reduceBEq, natlt, Nat.lt_irrefl, true_or, exC_cell.fstrip, exC_cell.fpure, kfl, pl, hch, alC_cell.fstrip, alC_cell.fpure, alC_cell.fnames, afl, ql, hca, hfin]
theorem eput_den : ∀ (m : Nat) (e u : Ex) (n : List UInt8), e.tot ≤ m → e.tot < 1000000 → den E 9 [.agg (exC e), .str n, .agg (exC u)] [] = some (.agg (exC (putE n u e)), []) := by
  intro m
  induction m with
  | zero => intro e u n h; have := tot_pos e; omega
  | succ m ih =>
    intro e u n hm hb
    cases h1 : e.kind == 1
    · cases h32 : (e.kind == 3 && e.name == n)
      · rw [putE_eq, h1, h32]
        simp only [Bool.false_and, Bool.or_false, Bool.false_eq_true, if_false]
        have ih' : ∀ x : Ex, x.tot ≤ m → x.tot < 1000000 → den E 9 [.agg (exC x), .str n, .agg (exC u)] [] = some (.agg (exC (putE n u x)), []) := fun x hx hx2 => ih x u n hx hx2
        cases hk : e.kids with
        | nil => cases ha : e.alts with
          | nil => rw [← hk, ← ha]; exact eput_00 m e u n hm hb h1 h32 hk ha ih'
          | cons a ar => rw [← hk, ← ha]; exact eput_01 m e u n hm hb h1 h32 hk ha ih'
        | cons k kr => cases ha : e.alts with
          | nil => rw [← hk, ← ha]; exact eput_10 m e u n hm hb h1 h32 hk ha ih'
          | cons a ar => rw [← hk, ← ha]; exact eput_11 m e u n hm hb h1 h32 hk ha ih'
      · simp only [Bool.and_eq_true] at h32
        exact eput_hide e u n h1 h32.1 h32.2
    · exact eput_var e u n h1
end Go.Proofs
