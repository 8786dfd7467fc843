/- Lists and sets of names; going through an expression. -/
import Derived.Test.YteidnocfcilajaaGreatDoorAvE
import Derived.Test.YteidnocfcilajaaGreatDoorAvH
namespace Go.Proofs
open Go.Av
set_option maxHeartbeats 16000000
set_option maxRecDepth 100000
/-! lists of names -/
theorem strsGet (l : List (List UInt8)) (i : Nat) : (l.map AVal.str)[i]? = (l[i]?).map AVal.str := by simp
theorem dropGet {α : Type} {l : List α} {i : Nat} {x : α} (h : l[i]? = some x) : l.drop i = x :: l.drop (i + 1) := by
  obtain ⟨h1, h2⟩ := List.getElem?_eq_some_iff.1 h
  rw [List.drop_eq_getElem_cons h1, h2]
theorem getS {α : Type} {l : List α} {i : Nat} (h : i < l.length) : ∃ x, l[i]? = some x := ⟨l[i], List.getElem?_eq_getElem h⟩
def idxR : List (List UInt8) → List UInt8 → Nat → Int
  | [], _, _ => -1
  | x :: r, n, i => if n == x then (i : Int) else idxR r n (i + 1)
theorem idxR_ge : ∀ (l : List (List UInt8)) (n : List UInt8) (i : Nat), decide (idxR l n i ≥ 0) = l.contains n
  | [], n, i => rfl
  | x :: r, n, i => by
    rw [List.contains_cons]
    unfold idxR
    cases h : n == x
    · simp only [Bool.false_eq_true, if_false, Bool.false_or]; exact idxR_ge r n (i + 1)
    · simp
theorem index_den (l : List (List UInt8)) (n : List UInt8) (hl : l.length < 1000000) : den E 143 [.slice (l.map .str), .str n] [] = some (.int .i64 (idxR l n 0), []) := by
  rw [den_eq prim_143, body_143]
  simp only [go_sem, ↓reduceIte, Nat.reduceEqDiff, Nat.reduceAdd, reduceCtorEq, Int.reduceNeg, Tryz.f143, List.length_map]
  refine run_ind (fun i : Nat => i ≤ l.length) (fun i => ⟨[(0, .slice (l.map .str)), (1, .str n), (7, .int .i64 l.length), (8, .int .i64 i)], [], [], 1⟩) (fun i => some (.int .i64 (idxR (l.drop i) n i), [])) (fun i => l.length - i) 0 (Nat.zero_le _) ?_ ?_
  · simp only [go_sem, ↓reduceIte, Nat.reduceEqDiff, Nat.zero_ne_one, reduceCtorEq, Int.cast_ofNat_Int]
  · intro i hi h
    by_cases hlt : i < l.length
    · obtain ⟨x, hx⟩ := getS hlt
      rw [dropGet hx]
      have w1 : IntKind.i64.wrap ((i : Int) + 1) = ((i + 1 : Nat) : Int) := wrapN (i + 1) (by omega)
      cases hq : n == x
      · simp only [go_sem, ↓reduceIte, Nat.reduceEqDiff, Nat.reduceAdd, Nat.zero_ne_one, reduceCtorEq, Int.reduceNeg, natlt, decide_eq_true hlt, natge0, tonat, strsGet, hx, hq, idxR]
        refine h (i + 1) _ (by omega) (by omega) ?_
        simp only [go_sem, ↓reduceIte, Nat.reduceEqDiff, Nat.zero_ne_one, reduceCtorEq, w1]
      · simp only [go_sem, ↓reduceIte, Nat.reduceEqDiff, Nat.reduceAdd, Nat.zero_ne_one, reduceCtorEq, Int.reduceNeg, natlt, decide_eq_true hlt, natge0, tonat, strsGet, hx, hq, idxR]
    · have hie : i = l.length := by omega
      subst hie
      rw [List.drop_length]
      simp only [go_sem, ↓reduceIte, Nat.reduceEqDiff, Nat.reduceAdd, reduceCtorEq, beq_self_eq_true, decide_false, Int.reduceNeg, natlt, Nat.lt_irrefl, idxR]
theorem contains_den (l : List (List UInt8)) (n : List UInt8) (hl : l.length < 1000000) : den E 99 [.slice (l.map .str), .str n] [] = some (.bool (l.contains n), []) := by
  rw [den_eq prim_99, body_99]
  have h1 := index_den l n hl
  have h2 := idxR_ge l n 0
  simp only [go_sem, ↓reduceIte, Nat.reduceEqDiff, Nat.reduceAdd, Nat.zero_ne_one, reduceCtorEq, Tryz.f99, h1, h2]
/-- the first that stands for the second time, or in others -/
def twR (all others : List (List UInt8)) : List (List UInt8) → Nat → List UInt8 × Bool
  | [], _ => ([], false)
  | x :: r, i => if (all.take i).contains x || others.contains x then (x, true) else twR all others r (i + 1)
def twV (p : List UInt8 × Bool) : AVal := .tup [.str p.1, .bool p.2]
theorem twice_den (l o : List (List UInt8)) (hl : l.length < 1000000) (ho : o.length < 1000000) : den E 133 [.slice (l.map .str), .slice (o.map .str)] [] = some (twV (twR l o l 0), []) := by
  rw [den_eq prim_133, body_133]
  simp only [go_sem, ↓reduceIte, Nat.reduceEqDiff, Nat.reduceAdd, reduceCtorEq, Tryz.f133, List.length_map]
  refine run_ind (fun i : Nat => i ≤ l.length) (fun i => ⟨[(0, .slice (l.map .str)), (1, .slice (o.map .str)), (8, .slice (l.map .str)), (9, .int .i64 l.length), (10, .int .i64 i)], [], [], 1⟩) (fun i => some (twV (twR l o (l.drop i) i), [])) (fun i => l.length - i) 0 (Nat.zero_le _) ?_ ?_
  · simp only [go_sem, ↓reduceIte, Nat.reduceEqDiff, Nat.zero_ne_one, reduceCtorEq, Int.cast_ofNat_Int]
  · intro i hi h
    by_cases hlt : i < l.length
    · obtain ⟨x, hx⟩ := getS hlt
      rw [dropGet hx]
      have w1 : IntKind.i64.wrap ((i : Int) + 1) = ((i + 1 : Nat) : Int) := wrapN (i + 1) (by omega)
      have hsz : ∀ y, esOK 1 (y :: []) = esOK 1 (y :: []) := fun _ => rfl
      have e0 : (l.map AVal.str).head? = some (.str (l.headD [])) := by
        cases l with
        | nil => simp at hlt
        | cons a r => rfl
      have d1 := contains_den (l.take i) x (by rw [List.length_take]; omega)
      have d2 := contains_den o x ho
      rw [List.map_take] at d1
      cases hq : (l.take i).contains x
      · cases hq2 : o.contains x
        · simp only [go_sem, ↓reduceIte, Nat.reduceEqDiff, Nat.reduceAdd, Nat.zero_ne_one, Nat.reduceLT, reduceCtorEq, beq_self_eq_true, decide_true, natlt, decide_eq_true hlt, natge0, tonat, strsGet, hx, Nat.zero_le, Nat.le_of_lt hlt, e0, List.length_map, d1, d2, hq, hq2, twR]
          refine h (i + 1) _ (by omega) (by omega) ?_
          simp only [go_sem, ↓reduceIte, Nat.reduceEqDiff, Nat.zero_ne_one, reduceCtorEq, w1]
        · simp only [go_sem, ↓reduceIte, Nat.reduceEqDiff, Nat.reduceAdd, Nat.zero_ne_one, Nat.reduceLT, reduceCtorEq, beq_self_eq_true, decide_true, natlt, decide_eq_true hlt, natge0, tonat, strsGet, hx, Nat.zero_le, Nat.le_of_lt hlt, e0, List.length_map, d1, d2, hq, hq2, twR, twV]
      · simp only [go_sem, ↓reduceIte, Nat.reduceEqDiff, Nat.reduceAdd, Nat.reduceLT, reduceCtorEq, decide_true, natlt, decide_eq_true hlt, natge0, tonat, strsGet, hx, Nat.zero_le, Nat.le_of_lt hlt, e0, List.length_map, d1, hq, twR, twV]
    · have hie : i = l.length := by omega
      subst hie
      rw [List.drop_length]
      simp only [go_sem, ↓reduceIte, Nat.reduceEqDiff, Nat.reduceAdd, reduceCtorEq, beq_self_eq_true, decide_false, natlt, Nat.lt_irrefl, twR, twV]
end Go.Proofs
namespace Go.Proofs
open Go.Av
set_option maxHeartbeats 16000000
set_option maxRecDepth 100000
/-! sets of names -/
def entsV (l : List (List UInt8)) : List AVal := l.map fun n => .tup [.str n, .bool true]
def addS (l : List (List UInt8)) (n : List UInt8) : List (List UInt8) := if l.contains n then l else l ++ [n]
def withS (b ns : List (List UInt8)) : List (List UInt8) := ns.foldl addS b
theorem find_ents (n : List UInt8) : ∀ l, findE (.str n) (entsV l) = some (if l.contains n then some (.bool true) else none)
  | [] => rfl
  | x :: r => by
    have ih := find_ents n r
    unfold entsV at ih ⊢
    rw [List.map_cons, List.contains_cons]
    simp only [findE, keyEq, Option.bind_some]
    cases h : n == x
    · simp only [Bool.false_eq_true, if_false, Bool.false_or]; exact ih
    · simp
theorem upd_ents (n : List UInt8) : ∀ l, updE (.str n) (.bool true) (entsV l) = some (entsV (addS l n))
  | [] => rfl
  | x :: r => by
    have ih := upd_ents n r
    unfold entsV addS at ih ⊢
    rw [List.contains_cons, List.map_cons]
    simp only [updE, keyEq, Option.bind_some]
    cases h : n == x
    · simp only [Bool.false_eq_true, if_false, Bool.false_or, ih, Option.map_some]
      cases r.contains n <;> simp
    · have hx : n = x := by simpa using h
      subst hx
      simp
theorem with_den (b ns : List (List UInt8)) (hl : ns.length < 1000000) : den E 131 [.pmap (entsV b), .slice (ns.map .str)] [] = some (.pmap (entsV (withS b ns)), []) := by
  rw [den_eq prim_131, body_131]
  have hc : den E 162 [.pmap (entsV b)] [] = some (.own mapT 0 (entsV b), []) := den_prim prim_162
  simp only [go_sem, ↓reduceIte, Nat.reduceEqDiff, Nat.reduceAdd, Nat.zero_ne_one, reduceCtorEq, Tryz.f131, List.length_map, hc]
  refine run_ind (fun i : Nat => i ≤ ns.length) (fun i => ⟨[(0, .own mapT 0 (entsV (withS b (ns.take i)))), (9, .slice (ns.map .str)), (10, .int .i64 ns.length), (11, .int .i64 i)], [], [], 1⟩) (fun _ => some (.pmap (entsV (withS b ns)), [])) (fun i => ns.length - i) 0 (Nat.zero_le _) ?_ ?_
  · simp only [go_sem, ↓reduceIte, Nat.reduceEqDiff, reduceCtorEq, Int.cast_ofNat_Int, withS, List.foldl_nil]
  · intro i hi h
    by_cases hlt : i < ns.length
    · obtain ⟨x, hx⟩ := getS hlt
      have w1 : IntKind.i64.wrap ((i : Int) + 1) = ((i + 1 : Nat) : Int) := wrapN (i + 1) (by omega)
      have hts : ns.take (i + 1) = ns.take i ++ [x] := by rw [List.take_add_one, hx]; rfl
      simp only [go_sem, ↓reduceIte, Nat.reduceEqDiff, Nat.reduceAdd, reduceCtorEq, natlt, decide_eq_true hlt, natge0, tonat, strsGet, hx, upd_ents]
      refine h (i + 1) _ (by omega) (by omega) ?_
      simp only [go_sem, ↓reduceIte, Nat.reduceEqDiff, reduceCtorEq, w1, hts, withS, List.foldl_append, List.foldl_cons, List.foldl_nil]
    · have hie : i = ns.length := by omega
      subst hie
      simp only [go_sem, ↓reduceIte, Nat.reduceEqDiff, Nat.reduceAdd, reduceCtorEq, beq_self_eq_true, decide_false, natlt, Nat.lt_irrefl, List.take_length]
def metN (n : Nat) (l : List (List UInt8)) : AVal := if l = [] then .nilm else .own mapT n (entsV l)
theorem met_nil (n : Nat) : metN n [] = .nilm := rfl
theorem met_cons (n : Nat) (a : List UInt8) (r : List (List UInt8)) : metN n (a :: r) = .own mapT n (entsV (a :: r)) := rfl
theorem met_stamp (m n : Nat) (l : List (List UInt8)) : stamp1 m (metN n l) = metN m l := by
  unfold metN; split <;> rfl
theorem met_stampH (n : Nat) (l : List (List UInt8)) : stampH (metN n l) = metN 0 l := by
  unfold metN; split <;> rfl
theorem met_names (n : Nat) (l : List (List UInt8)) : names1 (metN n l) = [] := by
  unfold metN; split <;> rfl
theorem met_ren (ρ : BName → BName) (n : Nat) (l : List (List UInt8)) : ren1 ρ (metN n l) = metN n l := by
  unfold metN; split <;> rfl
theorem met_rs (ρ : BName → BName) (m n : Nat) (l : List (List UInt8)) : ren1 ρ (stamp1 m (metN n l)) = metN m l := by rw [met_stamp, met_ren]
def cellIn (ns : List BName) (c : AVal) : AVal := ren1 (toPar ns) (stamp1 0 c)
def cellOut (ns : List BName) (n : Nat) (c : AVal) : AVal := ren1 (ofPar ns) (stamp1 n c)
theorem callF_func {D : FuncId → List AVal → Heap → Option (AVal × Heap)} {s : St} {n : Nat} {dst : Option Nat} {args : List AVal} {f : FuncId} {first cap : List AVal} : callF D s n dst args (.func f first cap) = (match (first ++ (args ++ cap)).flatMap names with
    | [] => (D f (first ++ (args ++ cap)) []).bind fun r => match r.2 with
      | [] => some (s.putD dst (recv n r.1))
      | _ :: _ => none
    | b :: bs => (reach s 100 (b :: bs) []).bind fun ns => (boxesAt s ns).bind fun H =>
      (D f ((first ++ (args ++ cap)).map (ren (toPar ns))) (H.map (List.map (cellIn ns)))).bind fun r =>
        (setBoxes s ns (r.2.map (List.map (cellOut ns n)))).map fun s' => s'.putD dst (recv n (ren (ofPar ns) r.1))) := rfl
theorem met_in (ns : List BName) (n : Nat) (l : List (List UInt8)) : cellIn ns (metN n l) = metN 0 l := by unfold cellIn; rw [met_rs]
theorem met_out (ns : List BName) (m n : Nat) (l : List (List UInt8)) : cellOut ns m (metN n l) = metN m l := by unfold cellOut; rw [met_rs]
def setH (l : List (List UInt8)) : List AVal := [.own 9 0 (l.map .str), metN 0 l]
theorem add_den (l : List (List UInt8)) (n : List UInt8) (hl : l.length < 1000000) : den E 76 [.ptr (.par 0) 0, .str n] [setH l] = some (.tup [], [setH (addS l n)]) := by
  rw [den_eq prim_76, body_76]
  have ht : l.length + 1 ≤ appMax := by unfold appMax; omega
  cases l with
  | nil =>
    have hu := upd_ents n []
    have hf := find_ents n []
    have e : addS [] n = [n] := rfl
    rw [e] at hu ⊢
    unfold entsV at hu hf
    simp only [List.map_cons, List.map_nil] at hu hf
    have h1 : 1 ≤ appMax := by unfold appMax; omega
    simp only [go_sem, ↓reduceIte, Nat.reduceEqDiff, Nat.reduceAdd, Nat.reduceMul, Nat.reduceLeDiff, Nat.zero_ne_one, Nat.one_ne_zero, Nat.reduceLT, reduceCtorEq, decide_true, Tryz.f76, setH, met_nil, met_cons, h1, entsV]
  | cons a r =>
    have hu := upd_ents n (a :: r)
    have hf := find_ents n (a :: r)
    cases hc : (a :: r).contains n
    · have e : addS (a :: r) n = (a :: r) ++ [n] := by unfold addS; rw [hc]; rfl
      rw [e] at hu ⊢
      rw [hc] at hf
      have hs : (setH ((a :: r) ++ [n])) = [.own 9 0 (((a :: r) ++ [n]).map .str), .own mapT 0 (entsV ((a :: r) ++ [n]))] := rfl
      have hs2 : (setH (a :: r)) = [.own 9 0 ((a :: r).map .str), .own mapT 0 (entsV (a :: r))] := rfl
      rw [hs, hs2]
      generalize (a :: r) = l at *
      simp only [go_sem, ↓reduceIte, Nat.reduceEqDiff, Nat.reduceAdd, Nat.reduceMul, Nat.reduceLeDiff, Nat.zero_ne_one, Nat.one_ne_zero, Nat.reduceLT, reduceCtorEq, decide_true, Tryz.f76, hu, hf, List.length_map, ht, List.map_append]
    · have e : addS (a :: r) n = a :: r := by unfold addS; rw [hc]; rfl
      rw [e]
      rw [hc] at hf
      have hs2 : (setH (a :: r)) = [.own 9 0 ((a :: r).map .str), .own mapT 0 (entsV (a :: r))] := rfl
      rw [hs2]
      generalize (a :: r) = l at *
      simp only [go_sem, ↓reduceIte, Nat.reduceEqDiff, Nat.reduceAdd, Nat.zero_ne_one, Nat.one_ne_zero, Nat.reduceLT, reduceCtorEq, Tryz.f76, hf]
end Go.Proofs
namespace Go.Proofs
open Go.Av
set_option maxHeartbeats 16000000
set_option maxRecDepth 100000
/-! the first of names that is none of others -/
def outR (o : List (List UInt8)) : List (List UInt8) → Nat → Int
  | [], _ => -1
  | x :: r, i => if !o.contains x then (i : Int) else outR o r (i + 1)
def outS (l o : List (List UInt8)) : List UInt8 × Bool := match l.find? fun n => !o.contains n with
  | none => ([], false)
  | some n => (n, true)
theorem outR_spec (o : List (List UInt8)) : ∀ (l : List (List UInt8)) (i : Nat), (outR o l i = -1 ∧ l.find? (fun n => !o.contains n) = none) ∨ ∃ k n, outR o l i = ((i + k : Nat) : Int) ∧ l[k]? = some n ∧ l.find? (fun n => !o.contains n) = some n
  | [], i => .inl ⟨rfl, rfl⟩
  | x :: r, i => by
    unfold outR
    rw [List.find?_cons]
    cases h : o.contains x
    · exact .inr ⟨0, x, by simp, rfl, by simp⟩
    · simp only [Bool.not_true, Bool.false_eq_true, if_false]
      rcases outR_spec o r (i + 1) with ⟨h1, h2⟩ | ⟨k, n, h1, h2, h3⟩
      · exact .inl ⟨h1, h2⟩
      · exact .inr ⟨k + 1, n, by rw [h1]; congr 1; omega, by simpa using h2, h3⟩
theorem outfn_den (o : List (List UInt8)) (n : List UInt8) (ho : o.length < 1000000) : den E 135 [.str n, .ptr (.par 0) 0] [[.slice (o.map .str)]] = some (.bool (!o.contains n), [[.slice (o.map .str)]]) := by
  rw [den_eq prim_135, body_135]
  have h1 := contains_den o n ho
  simp only [go_sem, ↓reduceIte, Nat.reduceEqDiff, Nat.reduceAdd, Nat.zero_ne_one, Nat.reduceLT, reduceCtorEq, Tryz.f135, h1]
theorem ixfn_den (l o : List (List UInt8)) (hl : l.length < 1000000) (ho : o.length < 1000000) : den E 134 [.slice (l.map .str), .func 135 [] [.ptr (.par 0) 0]] [[.slice (o.map .str)]] = some (.int .i64 (outR o l 0), [[.slice (o.map .str)]]) := by
  rw [den_eq prim_134, body_134]
  simp only [go_sem, ↓reduceIte, Nat.reduceEqDiff, Nat.reduceAdd, reduceCtorEq, Int.reduceNeg, Tryz.f134, List.length_map]
  refine run_ind (fun i : Nat => i ≤ l.length) (fun i => ⟨[(0, .slice (l.map .str)), (1, .func 135 [] [.ptr (.par 0) 0]), (7, .int .i64 l.length), (8, .int .i64 i)], [[.slice (o.map .str)]], [], 1⟩) (fun i => some (.int .i64 (outR o (l.drop i) i), [[.slice (o.map .str)]])) (fun i => l.length - i) 0 (Nat.zero_le _) ?_ ?_
  · simp only [go_sem, ↓reduceIte, Nat.reduceEqDiff, Nat.zero_ne_one, reduceCtorEq, Int.cast_ofNat_Int]
  · intro i hi h
    by_cases hlt : i < l.length
    · obtain ⟨x, hx⟩ := getS hlt
      rw [dropGet hx]
      have w1 : IntKind.i64.wrap ((i : Int) + 1) = ((i + 1 : Nat) : Int) := wrapN (i + 1) (by omega)
      have d := outfn_den o x ho
      cases hq : o.contains x
      · simp only [go_sem, ↓reduceIte, Nat.reduceEqDiff, Nat.reduceAdd, Nat.zero_ne_one, reduceCtorEq, beq_self_eq_true, Int.reduceNeg, natlt, decide_eq_true hlt, natge0, tonat, strsGet, hx, hq, d, outR]
      · simp only [go_sem, ↓reduceIte, Nat.reduceEqDiff, Nat.reduceAdd, Nat.zero_ne_one, reduceCtorEq, beq_self_eq_true, Int.reduceNeg, natlt, decide_eq_true hlt, natge0, tonat, strsGet, hx, hq, d, outR]
        refine h (i + 1) _ (by omega) (by omega) ?_
        simp only [go_sem, ↓reduceIte, Nat.reduceEqDiff, Nat.zero_ne_one, reduceCtorEq, w1]
    · have hie : i = l.length := by omega
      subst hie
      rw [List.drop_length]
      simp only [go_sem, ↓reduceIte, Nat.reduceEqDiff, Nat.reduceAdd, reduceCtorEq, beq_self_eq_true, decide_false, Int.reduceNeg, natlt, Nat.lt_irrefl, outR]
theorem outside_den (l o : List (List UInt8)) (hl : l.length < 1000000) (ho : o.length < 1000000) : den E 86 [.slice (l.map .str), .slice (o.map .str)] [] = some (twV (outS l o), []) := by
  rw [den_eq prim_86, body_86]
  have h1 := ixfn_den l o hl ho
  rcases outR_spec o l 0 with ⟨h2, h3⟩ | ⟨k, n, h2, h3, h4⟩
  · rw [h2] at h1
    have e : outS l o = ([], false) := by unfold outS; rw [h3]
    rw [e]
    simp only [go_sem, ↓reduceIte, Nat.reduceEqDiff, Nat.reduceAdd, Nat.zero_ne_one, reduceCtorEq, beq_self_eq_true, decide_true, Int.reduceLT, Int.reduceNeg, Tryz.f86, h1, twV]
  · rw [h2] at h1
    have e : outS l o = (n, true) := by unfold outS; rw [h4]
    rw [e]
    have h5 : decide (((0 + k : Nat) : Int) < 0) = false := by simp
    simp only [Nat.zero_add] at h1 h5
    simp only [go_sem, ↓reduceIte, Nat.reduceEqDiff, Nat.reduceAdd, Nat.zero_ne_one, reduceCtorEq, beq_self_eq_true, Tryz.f86, h1, h5, natge0, tonat, strsGet, h3, twV]
end Go.Proofs
namespace Go.Proofs
open Go.Av
set_option maxHeartbeats 16000000
set_option maxRecDepth 100000
/-! going through an expression -/
section
variable {α : Type} (ext : List (List UInt8) → List (List UInt8) → List (List UInt8)) (fa : Ex → List (List UInt8) → α → α) (fb : Al → α → α)
mutual
def walkE : Ex → List (List UInt8) → α → α
  | .mk k s tl t ks al, b, acc =>
    if k == 3 then walkKs ks (ext b [s]) (fa (.mk k s tl t ks al) b acc)
    else if k == 5 then walkLet ks b s (fa (.mk k s tl t ks al) b acc)
    else walkAs al b (walkKs ks b (fa (.mk k s tl t ks al) b acc))
def walkKs : List Ex → List (List UInt8) → α → α
  | [], _, acc => acc
  | e :: r, b, acc => walkKs r b (walkE e b acc)
def walkLet : List Ex → List (List UInt8) → List UInt8 → α → α
  | [], _, _, acc => acc
  | e :: r, b, s, acc => walkKs r (ext b [s]) (walkE e b acc)
def walkA : Al → List (List UInt8) → α → α
  | .mk c vs e, b, acc => walkE e (ext b vs) (fb (.mk c vs e) acc)
def walkAs : List Al → List (List UInt8) → α → α
  | [], _, acc => acc
  | a :: r, b, acc => walkAs r b (walkA a b acc)
end
end
section
variable {α : Type} {ext : List (List UInt8) → List (List UInt8) → List (List UInt8)} {fa : Ex → List (List UInt8) → α → α} {fb : Al → α → α}
theorem walkE_eq (e : Ex) (b : List (List UInt8)) (acc : α) : walkE ext fa fb e b acc = if e.kind == 3 then walkKs ext fa fb e.kids (ext b [e.name]) (fa e b acc)
    else if e.kind == 5 then walkLet ext fa fb e.kids b e.name (fa e b acc)
    else walkAs ext fa fb e.alts b (walkKs ext fa fb e.kids b (fa e b acc)) := by
  cases e; simp only [walkE, Ex.kind, Ex.name, Ex.kids, Ex.alts]; rfl
theorem walkA_eq (a : Al) (b : List (List UInt8)) (acc : α) : walkA ext fa fb a b acc = walkE ext fa fb a.body (ext b a.vars) (fb a acc) := by
  cases a; simp only [walkA, Al.body, Al.vars]
theorem walkKs_nil (b : List (List UInt8)) (acc : α) : walkKs ext fa fb [] b acc = acc := by simp only [walkKs]
theorem walkKs_cons (e : Ex) (r : List Ex) (b : List (List UInt8)) (acc : α) : walkKs ext fa fb (e :: r) b acc = walkKs ext fa fb r b (walkE ext fa fb e b acc) := by simp only [walkKs]
theorem walkAs_nil (b : List (List UInt8)) (acc : α) : walkAs ext fa fb [] b acc = acc := by simp only [walkAs]
theorem walkAs_cons (e : Al) (r : List Al) (b : List (List UInt8)) (acc : α) : walkAs ext fa fb (e :: r) b acc = walkAs ext fa fb r b (walkA ext fa fb e b acc) := by simp only [walkAs]
theorem walkLet_cons (e : Ex) (r : List Ex) (b : List (List UInt8)) (s : List UInt8) (acc : α) : walkLet ext fa fb (e :: r) b s acc = walkKs ext fa fb r (ext b [s]) (walkE ext fa fb e b acc) := by simp only [walkLet]
theorem walkLet_nil (b : List (List UInt8)) (s : List UInt8) (acc : α) : walkLet ext fa fb [] b s acc = acc := by simp only [walkLet]
theorem walkKs_snoc (l : List Ex) (x : Ex) (b : List (List UInt8)) (acc : α) : walkKs ext fa fb (l ++ [x]) b acc = walkE ext fa fb x b (walkKs ext fa fb l b acc) := by
  induction l generalizing acc with
  | nil => rw [List.nil_append, walkKs_cons, walkKs_nil, walkKs_nil]
  | cons e r ih => rw [List.cons_append, walkKs_cons, walkKs_cons, ih]
theorem walkAs_snoc (l : List Al) (x : Al) (b : List (List UInt8)) (acc : α) : walkAs ext fa fb (l ++ [x]) b acc = walkA ext fa fb x b (walkAs ext fa fb l b acc) := by
  induction l generalizing acc with
  | nil => rw [List.nil_append, walkAs_cons, walkAs_nil, walkAs_nil]
  | cons e r ih => rw [List.cons_append, walkAs_cons, walkAs_cons, ih]
theorem tots_cons (e : Ex) (r : List Ex) : Ex.tots (e :: r) = e.tot + Ex.tots r := by simp [Ex.tots]
theorem altots_cons (a : Al) (r : List Al) : Al.tots (a :: r) = a.tot + Al.tots r := by simp [Al.tots]
theorem altot_eq (a : Al) : a.tot = a.body.tot + a.vars.length + 1 := by cases a; simp [Al.tot, Al.body, Al.vars]
theorem ty_pos (e : Ex) : 1 ≤ e.ty.sz := by rw [sz_eq]; omega
/-- how much is gathered -/
theorem walk_le (m : α → Nat) (h1 : ∀ e b acc, m (fa e b acc) ≤ m acc + 1) (h2 : ∀ a acc, m (fb a acc) ≤ m acc + a.vars.length + 1) : ∀ (n : Nat) (e : Ex), e.tot ≤ n → ∀ b acc, m (walkE ext fa fb e b acc) ≤ m acc + e.tot := by
  intro n
  induction n with
  | zero => intro e he; have := tot_eq e; have := ty_pos e; omega
  | succ n ih =>
    have hks : ∀ (l : List Ex) b acc, Ex.tots l ≤ n → m (walkKs ext fa fb l b acc) ≤ m acc + Ex.tots l := by
      intro l
      induction l with
      | nil => intro b acc _; rw [walkKs_nil]; omega
      | cons e r ihr =>
        intro b acc hl
        rw [tots_cons] at hl ⊢
        rw [walkKs_cons]
        have := ih e (by omega) b acc
        have := ihr b (walkE ext fa fb e b acc) (by omega)
        omega
    have hal : ∀ (l : List Al) b acc, Al.tots l ≤ n → m (walkAs ext fa fb l b acc) ≤ m acc + Al.tots l := by
      intro l
      induction l with
      | nil => intro b acc _; rw [walkAs_nil]; omega
      | cons e r ihr =>
        intro b acc hl
        rw [altots_cons, altot_eq] at hl ⊢
        rw [walkAs_cons, walkA_eq]
        have := h2 e acc
        have := ih e.body (by omega) (ext b e.vars) (fb e acc)
        have := ihr b (walkE ext fa fb e.body (ext b e.vars) (fb e acc)) (by omega)
        omega
    intro e he b acc
    have ht := tot_eq e
    have hp := ty_pos e
    have h0 := h1 e b acc
    rw [walkE_eq]
    split
    · have := hks e.kids (ext b [e.name]) (fa e b acc) (by omega)
      omega
    · split
      · cases hk : e.kids with
        | nil => rw [walkLet_nil]; omega
        | cons x r =>
          rw [hk, tots_cons] at ht
          rw [walkLet_cons]
          have := ih x (by omega) b (fa e b acc)
          have := hks r (ext b [e.name]) (walkE ext fa fb x b (fa e b acc)) (by omega)
          omega
      · have := hks e.kids b (fa e b acc) (by omega)
        have := hal e.alts b (walkKs ext fa fb e.kids b (fa e b acc)) (by omega)
        omega
end
/-- names have no parts, lambdas have one, lets two -/
inductive SX : Ex → Prop
  | mk (e : Ex) : (e.kind = 1 → e.kids = [] ∧ e.alts = []) → (e.kind = 3 → (∃ x, e.kids = [x]) ∧ e.alts = []) → (e.kind = 5 → (∃ x y, e.kids = [x, y]) ∧ e.alts = []) → (∀ x ∈ e.kids, SX x) → (∀ a ∈ e.alts, SX a.body) → SX e
theorem SX.nam {e : Ex} (h : SX e) (hk : (e.kind == 1) = true) : e.kids = [] ∧ e.alts = [] := by cases h with | mk _ h _ _ _ _ => exact h (by simpa using hk)
theorem SX.lam {e : Ex} (h : SX e) (hk : (e.kind == 3) = true) : ∃ x, e.kids = [x] := by cases h with | mk _ _ h _ _ _ => exact (h (by simpa using hk)).1
theorem SX.lett {e : Ex} (h : SX e) (hk : (e.kind == 5) = true) : ∃ x y, e.kids = [x, y] := by cases h with | mk _ _ _ h _ _ => exact (h (by simpa using hk)).1
theorem SX.lamA {e : Ex} (h : SX e) (hk : (e.kind == 3) = true) : e.alts = [] := by cases h with | mk _ _ h _ _ _ => exact (h (by simpa using hk)).2
theorem SX.letA {e : Ex} (h : SX e) (hk : (e.kind == 5) = true) : e.alts = [] := by cases h with | mk _ _ _ h _ _ => exact (h (by simpa using hk)).2
theorem SX.kid {e x : Ex} (h : SX e) (hx : x ∈ e.kids) : SX x := by cases h with | mk _ _ _ _ h _ => exact h x hx
theorem SX.alt {e : Ex} {a : Al} (h : SX e) (hx : a ∈ e.alts) : SX a.body := by cases h with | mk _ _ _ _ _ h => exact h a hx
theorem tots_get {l : List Ex} {i : Nat} {x : Ex} (h : l[i]? = some x) : Ex.tots (l.take i) + x.tot ≤ Ex.tots l := by
  induction l generalizing i with
  | nil => simp at h
  | cons e r ih =>
    cases i with
    | zero => simp at h; subst h; simp [Ex.tots]
    | succ i =>
      rw [List.take_succ_cons, tots_cons, tots_cons]
      have := ih (i := i) (by simpa using h); omega
theorem altots_get {l : List Al} {i : Nat} {x : Al} (h : l[i]? = some x) : Al.tots (l.take i) + x.tot ≤ Al.tots l := by
  induction l generalizing i with
  | nil => simp at h
  | cons e r ih =>
    cases i with
    | zero => simp at h; subst h; simp [Al.tots]
    | succ i =>
      rw [List.take_succ_cons, altots_cons, altots_cons]
      have := ih (i := i) (by simpa using h); omega
theorem take_next {α : Type} {l : List α} {i : Nat} {x : α} (h : l[i]? = some x) : l.take (i + 1) = l.take i ++ [x] := by rw [List.take_add_one, h]; rfl
theorem walkKs_le {α : Type} {ext : List (List UInt8) → List (List UInt8) → List (List UInt8)} {fa : Ex → List (List UInt8) → α → α} {fb : Al → α → α} (m : α → Nat) (h1 : ∀ e b acc, m (fa e b acc) ≤ m acc + 1) (h2 : ∀ a acc, m (fb a acc) ≤ m acc + a.vars.length + 1) :
    ∀ (l : List Ex) b acc, m (walkKs ext fa fb l b acc) ≤ m acc + Ex.tots l := by
  intro l
  induction l with
  | nil => intro b acc; rw [walkKs_nil]; omega
  | cons e r ih =>
    intro b acc
    rw [walkKs_cons, tots_cons]
    have := walk_le (ext := ext) m h1 h2 _ e (Nat.le_refl _) b acc
    have := ih b (walkE ext fa fb e b acc)
    omega
theorem walkAs_le {α : Type} {ext : List (List UInt8) → List (List UInt8) → List (List UInt8)} {fa : Ex → List (List UInt8) → α → α} {fb : Al → α → α} (m : α → Nat) (h1 : ∀ e b acc, m (fa e b acc) ≤ m acc + 1) (h2 : ∀ a acc, m (fb a acc) ≤ m acc + a.vars.length + 1) :
    ∀ (l : List Al) b acc, m (walkAs ext fa fb l b acc) ≤ m acc + Al.tots l := by
  intro l
  induction l with
  | nil => intro b acc; rw [walkAs_nil]; omega
  | cons e r ih =>
    intro b acc
    rw [walkAs_cons, altots_cons, altot_eq, walkA_eq]
    have := h2 e acc
    have := walk_le (ext := ext) m h1 h2 _ e.body (Nat.le_refl _) (ext b e.vars) (fb e acc)
    have := ih b (walkE ext fa fb e.body (ext b e.vars) (fb e acc))
    omega
end Go.Proofs
namespace Go.Proofs
open Go.Av
set_option maxHeartbeats 16000000
set_option maxRecDepth 100000
/-! what is done at each expression and each alternative -/
theorem kids_len (e : Ex) : e.kids.length + 1 ≤ e.tot := by have := tots_len e.kids; have := tot_eq e; have := ty_pos e; omega
theorem add_le (l : List (List UInt8)) (n : List UInt8) : (addS l n).length ≤ l.length + 1 := by
  unfold addS; split
  · omega
  · simp
theorem adds_le : ∀ (ns l : List (List UInt8)), (ns.foldl addS l).length ≤ l.length + ns.length
  | [], l => by simp
  | n :: r, l => by
    rw [List.foldl_cons, List.length_cons]
    have := adds_le r (addS l n)
    have := add_le l n
    omega
def faF (e : Ex) (b acc : List (List UInt8)) : List (List UInt8) := if e.kind == 1 && !b.contains e.name then addS acc e.name else acc
def fbF (_ : Al) (acc : List (List UInt8)) : List (List UInt8) := acc
def faC (e : Ex) (_ acc : List (List UInt8)) : List (List UInt8) := if e.kind == 2 then addS acc e.name else acc
def fbC (a : Al) (acc : List (List UInt8)) : List (List UInt8) := addS acc a.con
def faB (e : Ex) (_ acc : List (List UInt8)) : List (List UInt8) := if e.kind == 3 || e.kind == 5 then addS acc e.name else acc
def fbB (a : Al) (acc : List (List UInt8)) : List (List UInt8) := a.vars.foldl addS acc
def faT (_ : Ex) (_ : List (List UInt8)) (acc : Bool × List UInt8) : Bool × List UInt8 := acc
def fbT (a : Al) (acc : Bool × List UInt8) : Bool × List UInt8 := if (twR a.vars [] a.vars 0).2 && !acc.1 then (true, (twR a.vars [] a.vars 0).1) else acc
theorem faF_le (e : Ex) (b acc : List (List UInt8)) : (faF e b acc).length ≤ acc.length + 1 := by
  unfold faF; split
  · exact add_le _ _
  · omega
theorem fbF_le (a : Al) (acc : List (List UInt8)) : (fbF a acc).length ≤ acc.length + a.vars.length + 1 := by unfold fbF; omega
theorem faC_le (e : Ex) (b acc : List (List UInt8)) : (faC e b acc).length ≤ acc.length + 1 := by
  unfold faC; split
  · exact add_le _ _
  · omega
theorem fbC_le (a : Al) (acc : List (List UInt8)) : (fbC a acc).length ≤ acc.length + a.vars.length + 1 := by unfold fbC; have := add_le acc a.con; omega
theorem faB_le (e : Ex) (b acc : List (List UInt8)) : (faB e b acc).length ≤ acc.length + 1 := by
  unfold faB; split
  · exact add_le _ _
  · omega
theorem fbB_le (a : Al) (acc : List (List UInt8)) : (fbB a acc).length ≤ acc.length + a.vars.length + 1 := by unfold fbB; have := adds_le a.vars acc; omega
theorem faT_le (e : Ex) (b : List (List UInt8)) (acc : Bool × List UInt8) : (fun _ : Bool × List UInt8 => 0) (faT e b acc) ≤ (fun _ : Bool × List UInt8 => 0) acc + 1 := Nat.zero_le _
theorem fbT_le (a : Al) (acc : Bool × List UInt8) : (fun _ : Bool × List UInt8 => 0) (fbT a acc) ≤ (fun _ : Bool × List UInt8 => 0) acc + a.vars.length + 1 := Nat.zero_le _
theorem faF_den (e : Ex) (b acc : List (List UInt8)) (h : acc.length < 1000000) : den E 75 [.agg (exC e), .pmap (entsV b), .ptr (.par 0) 0] [[.own 9 0 (acc.map .str), metN 0 acc]] = some (.tup [], [[.own 9 0 ((faF e b acc).map .str), metN 0 (faF e b acc)]]) := by
  rw [den_eq prim_75, body_75, exC_eq]
  have d := add_den acc e.name h
  have hf := find_ents e.name b
  unfold setH at d
  unfold faF
  cases h1 : e.kind == 1
  · simp only [go_sem, ↓reduceIte, Nat.reduceEqDiff, Nat.reduceAdd, Nat.one_ne_zero, Nat.reduceLT, reduceCtorEq, Tryz.f75, h1, ↓met_stampH, ↓met_names]
  · cases h2 : b.contains e.name
    · rw [h2] at hf
      simp only [go_sem, ↓reduceIte, Nat.reduceEqDiff, Nat.reduceAdd, Nat.zero_ne_one, Nat.one_ne_zero, Nat.reduceLT, reduceCtorEq, beq_self_eq_true, Tryz.f75, h1, hf, d, ↓callF_func, ↓met_in, ↓met_out, cellIn, cellOut, ↓met_stampH, ↓met_names]
    · rw [h2] at hf
      simp only [go_sem, ↓reduceIte, Nat.reduceEqDiff, Nat.reduceAdd, Nat.zero_ne_one, Nat.one_ne_zero, Nat.reduceLT, reduceCtorEq, beq_self_eq_true, Tryz.f75, h1, hf, ↓met_stampH, ↓met_names]
theorem fbF_den (a : Al) (acc : List (List UInt8)) (_ : acc.length + a.vars.length < 1000000) : den E 77 [alV a] [] = some (.tup [], []) := by
  rw [den_eq prim_77, body_77, alV_eq, exC_eq]
  simp only [go_sem, ↓reduceIte, Nat.reduceAdd, Nat.zero_ne_one, Tryz.f77]
theorem faC_den (e : Ex) (b acc : List (List UInt8)) (h : acc.length < 1000000) : den E 79 [.agg (exC e), .pmap (entsV b), .ptr (.par 0) 0] [[.own 9 0 (acc.map .str), metN 0 acc]] = some (.tup [], [[.own 9 0 ((faC e b acc).map .str), metN 0 (faC e b acc)]]) := by
  rw [den_eq prim_79, body_79, exC_eq]
  have d := add_den acc e.name h
  unfold setH at d
  unfold faC
  cases h1 : e.kind == 2
  · simp only [go_sem, ↓reduceIte, Nat.reduceEqDiff, Nat.reduceAdd, Nat.one_ne_zero, Nat.reduceLT, reduceCtorEq, Tryz.f79, h1, ↓met_stampH, ↓met_names]
  · simp only [go_sem, ↓reduceIte, Nat.reduceEqDiff, Nat.reduceAdd, Nat.one_ne_zero, Nat.reduceLT, reduceCtorEq, beq_self_eq_true, Tryz.f79, h1, d, ↓callF_func, ↓met_in, ↓met_out, cellIn, cellOut, ↓met_stampH, ↓met_names]
theorem fbC_den (a : Al) (acc : List (List UInt8)) (h : acc.length + a.vars.length < 1000000) : den E 80 [alV a, .ptr (.par 0) 0] [[.own 9 0 (acc.map .str), metN 0 acc]] = some (.tup [], [[.own 9 0 ((fbC a acc).map .str), metN 0 (fbC a acc)]]) := by
  rw [den_eq prim_80, body_80, alV_eq, exC_eq]
  have d := add_den acc a.con (by omega)
  unfold setH at d
  unfold fbC
  simp only [go_sem, ↓reduceIte, Nat.reduceEqDiff, Nat.reduceAdd, Nat.zero_ne_one, Nat.one_ne_zero, Nat.reduceLT, reduceCtorEq, beq_self_eq_true, Tryz.f80, d, ↓callF_func, ↓met_in, ↓met_out, cellIn, cellOut, ↓met_stampH, ↓met_names]
theorem faB_den (e : Ex) (b acc : List (List UInt8)) (h : acc.length < 1000000) : den E 82 [.agg (exC e), .pmap (entsV b), .ptr (.par 0) 0] [[.own 9 0 (acc.map .str), metN 0 acc]] = some (.tup [], [[.own 9 0 ((faB e b acc).map .str), metN 0 (faB e b acc)]]) := by
  rw [den_eq prim_82, body_82, exC_eq]
  have d := add_den acc e.name h
  unfold setH at d
  unfold faB
  cases h1 : e.kind == 3
  · cases h2 : e.kind == 5
    · simp only [go_sem, ↓reduceIte, Nat.reduceEqDiff, Nat.reduceAdd, Nat.one_ne_zero, Nat.reduceLT, reduceCtorEq, beq_self_eq_true, Tryz.f82, h1, h2, ↓met_stampH, ↓met_names]
    · simp only [go_sem, ↓reduceIte, Nat.reduceEqDiff, Nat.reduceAdd, Nat.one_ne_zero, Nat.reduceLT, reduceCtorEq, beq_self_eq_true, Tryz.f82, h1, h2, d, ↓callF_func, ↓met_in, ↓met_out, cellIn, cellOut, ↓met_stampH, ↓met_names]
  · simp only [go_sem, ↓reduceIte, Nat.reduceEqDiff, Nat.reduceAdd, Nat.one_ne_zero, Nat.reduceLT, reduceCtorEq, beq_self_eq_true, Tryz.f82, h1, d, ↓callF_func, ↓met_in, ↓met_out, cellIn, cellOut, ↓met_stampH, ↓met_names]
theorem fbB_den (a : Al) (acc : List (List UInt8)) (h : acc.length + a.vars.length < 1000000) : den E 83 [alV a, .ptr (.par 0) 0] [[.own 9 0 (acc.map .str), metN 0 acc]] = some (.tup [], [[.own 9 0 ((fbB a acc).map .str), metN 0 (fbB a acc)]]) := by
  rw [den_eq prim_83, body_83, alV_eq, exC_eq]
  unfold fbB
  simp only [go_sem, ↓reduceIte, Nat.reduceEqDiff, Nat.reduceAdd, Nat.one_ne_zero, Nat.reduceLT, reduceCtorEq, Tryz.f83, List.length_map]
  refine run_ind (fun i : Nat => i ≤ a.vars.length) (fun i => ⟨[(1, .ptr (.par 0) 0), (6, .slice (a.vars.map .str)), (7, .int .i64 a.vars.length), (8, .int .i64 i)], [[.own 9 0 (((a.vars.take i).foldl addS acc).map .str), metN 0 ((a.vars.take i).foldl addS acc)]], [], 1⟩)
    (fun _ => some (.tup [], [[.own 9 0 ((a.vars.foldl addS acc).map .str), metN 0 (a.vars.foldl addS acc)]])) (fun i => a.vars.length - i) 0 (Nat.zero_le _) ?_ ?_
  · simp only [go_sem, ↓reduceIte, Nat.reduceEqDiff, Nat.zero_ne_one, reduceCtorEq, Int.cast_ofNat_Int, List.take_zero, List.foldl_nil, ↓met_stampH, ↓met_names]
  · intro i hi hr
    by_cases hlt : i < a.vars.length
    · obtain ⟨x, hx⟩ := getS hlt
      have w1 : IntKind.i64.wrap ((i : Int) + 1) = ((i + 1 : Nat) : Int) := wrapN (i + 1) (by omega)
      have hle := adds_le (a.vars.take i) acc
      rw [List.length_take] at hle
      have d := add_den ((a.vars.take i).foldl addS acc) x (by omega)
      have e2 : addS ((a.vars.take i).foldl addS acc) x = (a.vars.take (i + 1)).foldl addS acc := by rw [take_next hx, List.foldl_append]; rfl
      rw [e2] at d
      unfold setH at d
      generalize (a.vars.take i).foldl addS acc = a1 at *
      simp only [go_sem, ↓reduceIte, Nat.reduceEqDiff, Nat.reduceAdd, beq_self_eq_true, natlt, decide_eq_true hlt, natge0, tonat, strsGet, hx, d, ↓callF_func, ↓met_in, ↓met_out, cellIn, cellOut, ↓met_names]
      refine hr (i + 1) _ (by omega) (by omega) ?_
      simp only [go_sem, ↓reduceIte, Nat.reduceEqDiff, w1, ↓met_stampH, ↓met_names]
    · have hie : i = a.vars.length := by omega
      subst hie
      rw [List.take_length]
      simp only [go_sem, ↓reduceIte, Nat.reduceEqDiff, Nat.reduceAdd, beq_self_eq_true, decide_false, natlt, Nat.lt_irrefl, ↓met_stampH, ↓met_names]
theorem faT_den (e : Ex) (b : List (List UInt8)) (_acc : Bool × List UInt8) (_ : 0 < 1000000) : den E 136 [.agg (exC e), .pmap (entsV b)] [] = some (.tup [], []) := by
  rw [den_eq prim_136, body_136, exC_eq]
  simp only [go_sem, ↓reduceIte, Nat.reduceEqDiff, Nat.reduceAdd, reduceCtorEq, Tryz.f136]
theorem fbT_den (a : Al) (acc : Bool × List UInt8) (h : a.vars.length < 1000000) : den E 137 [alV a, .ptr (.par 0) 0, .ptr (.par 1) 0] [[.bool acc.1], [.str acc.2]] = some (.tup [], [[.bool (fbT a acc).1], [.str (fbT a acc).2]]) := by
  rw [den_eq prim_137, body_137, alV_eq, exC_eq]
  have d := twice_den a.vars [] h (by simp)
  simp only [List.map_nil, twV] at d
  unfold fbT
  cases h1 : (twR a.vars [] a.vars 0).2
  · rw [h1] at d
    simp only [go_sem, ↓reduceIte, Nat.reduceEqDiff, Nat.reduceAdd, Nat.one_ne_zero, Nat.reduceLT, reduceCtorEq, Tryz.f137, d]
  · rw [h1] at d
    cases h2 : acc.1
    · simp only [go_sem, ↓reduceIte, Nat.reduceEqDiff, Nat.reduceAdd, Nat.reduceLeDiff, Nat.zero_ne_one, Nat.one_ne_zero, Nat.reduceLT, reduceCtorEq, beq_self_eq_true, Tryz.f137, d]
    · simp only [go_sem, ↓reduceIte, Nat.reduceEqDiff, Nat.reduceAdd, Nat.zero_ne_one, Nat.one_ne_zero, Nat.reduceLT, reduceCtorEq, beq_self_eq_true, Tryz.f137, d, h2]
end Go.Proofs
