/- What is put is written alike: proofs in the places of a name. -/
import Derived.Test.YtjfghnkmladbkaaGreatDoorAvT
import Derived.Test.YtjfghnkmladbkaaGreatDoorAvS
import Derived.Test.YtjfghnkmladbkaaGreatDoorAvP
namespace Go.Proofs
open Go.Av
set_option maxHeartbeats 32000000
set_option maxRecDepth 100000
/-! chapter 12: what is put -/
theorem all_drop {l : List (List UInt8)} {i : Nat} {x : List UInt8} (h : l[i]? = some x) (p : List UInt8 → Bool) : (l.drop i).all p = (p x && (l.drop (i + 1)).all p) := by
 rw [dropGet h, List.all_cons]
theorem apart_den (a b : List (List UInt8)) (hl : a.length < 1000000) (hb : b.length < 1000000) : den E 12 [.slice (a.map .str), .slice (b.map .str)] [] = some (.bool (a.all fun x => !b.contains x), []) := by
 rw [den_eq prim_12, body_12]
 simp only [go_sem, Tryz.f12]
 refine run_ind (fun i : Nat => i ≤ a.length) (fun i => ⟨[(0, .slice (a.map .str)), (1, .slice (b.map .str)), (5, .int .i64 i)], [], [], 1⟩) (fun i => some (.bool ((a.drop i).all fun x => !b.contains x), [])) (fun i => a.length - i) 0 (Nat.zero_le _) ?_ ?_
 · simp only [go_sem]
 · intro i hi h
   by_cases hlt : i < a.length
   · obtain ⟨x, hx⟩ := getS hlt
     have d := has_den b x hb
     rw [all_drop hx]
     have w1 : IntKind.i64.wrap ((i : Int) + 1) = ((i + 1 : Nat) : Int) := wrapN (i + 1) (by omega)
     rcases Bool.eq_false_or_eq_true (b.contains x) with q | q <;> rw [q] at d <;> rw [q]
     · simp only [go_sem, List.length_map, natlt, decide_eq_true hlt, natge0, tonat, strsGet, hx, d, Bool.not_true, Bool.false_and]
     · simp only [Bool.not_false, Bool.true_and]
       simp only [go_sem, List.length_map, natlt, decide_eq_true hlt, natge0, tonat, strsGet, hx, d]
       refine h (i + 1) _ (by omega) (by omega) ?_
       simp only [go_sem, w1]
   · have hie : i = a.length := by omega
     subst hie
     rw [List.drop_length]
     simp only [go_sem, List.length_map, natlt, Nat.lt_irrefl, List.all_nil]
end Go.Proofs
