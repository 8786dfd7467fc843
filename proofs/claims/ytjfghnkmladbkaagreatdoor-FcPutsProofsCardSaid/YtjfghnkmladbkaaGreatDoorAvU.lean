/- What is put is written alike: proofs in the places of a name. -/
import Derived.Test.YtjfghnkmladbkaaGreatDoorAvT
import Derived.Test.YtjfghnkmladbkaaGreatDoorAvS
import Derived.Test.YtjfghnkmladbkaaGreatDoorAvP
namespace Go.Proofs
open Go.Av
set_option maxHeartbeats 32000000
set_option maxRecDepth 100000
/-! chapter 12: what is put -/
theorem all_drop {l : List (List UInt8)} {i : Nat} {x : List UInt8} (h : l[i]? = some x) (p : List UInt8 → Bool) : (l.drop i).all p = (p x && (l.drop (i + 1)).all p) := by
 rw [dropGet h, List.all_cons]
theorem apart_den (a b : List (List UInt8)) (hl : a.length < 1000000) (hb : b.length < 1000000) : den E 12 [.slice (a.map .str), .slice (b.map .str)] [] = some (.bool (a.all fun x => !b.contains x), []) := by
 rw [den_eq prim_12, body_12]
 simp only [go_sem, Tryz.f12]
 refine run_ind (fun i : Nat => i ≤ a.length) (fun i => ⟨[(0, .slice (a.map .str)), (1, .slice (b.map .str)), (5, .int .i64 i)], [], [], 1⟩) (fun i => some (.bool ((a.drop i).all fun x => !b.contains x), [])) (fun i => a.length - i) 0 (Nat.zero_le _) ?_ ?_
 · simp only [go_sem]
 · intro i hi h
   by_cases hlt : i < a.length
   · obtain ⟨x, hx⟩ := getS hlt
     have d := has_den b x hb
     rw [all_drop hx]
     have w1 : IntKind.i64.wrap ((i : Int) + 1) = ((i + 1 : Nat) : Int) := wrapN (i + 1) (by omega)
     rcases Bool.eq_false_or_eq_true (b.contains x) with q | q <;> rw [q] at d <;> rw [q]
     · simp only [go_sem, List.length_map, natlt, decide_eq_true hlt, natge0, tonat, strsGet, hx, d, Bool.not_true, Bool.false_and]
     · simp only [Bool.not_false, Bool.true_and]
       simp only [go_sem, List.length_map, natlt, decide_eq_true hlt, natge0, tonat, strsGet, hx, d]
       refine h (i + 1) _ (by omega) (by omega) ?_
       simp only [go_sem, w1]
   · have hie : i = a.length := by omega
     subst hie
     rw [List.drop_length]
     simp only [go_sem, List.length_map, natlt, Nat.lt_irrefl, List.all_nil]
theorem putsproofs_den (s r name : List UInt8) : den E 4 [.str s, .str r, .str name] [] = some (.bool true, []) := by
 rw [den_eq prim_4, body_4]
 have ha := awake12_den
 obtain ⟨p, hp⟩ := tmO_tot s
 have h1 := fpterm_den hp
 have h2 := r12pterm_den hp
 obtain ⟨q, hq⟩ := coO_tot r
 have h3 := cparse_den hq
 have h4 := r5parse_den hq
 simp only [tmC_eq, cxC_eq] at h1 h2 h3 h4
 have l1 : decide ((s.length : Int) > 600) = decide (s.length > 600) := by simp; omega
 have l2 : decide ((r.length : Int) > 600) = decide (r.length > 600) := by simp; omega
 cases e1 : p.2 != 0
 · cases e2 : q.2 != 0
   · cases e3 : name == []
     · cases e4 : decide (s.length > 600)
       · cases e5 : decide (r.length > 600)
         · have e4' := of_decide_eq_false e4
           have e5' := of_decide_eq_false e5
           have hp0 : p.2 = 0 := by simpa [bne] using e1
           have hq0 : q.2 = 0 := by simpa [bne] using e2
           have hne : name ≠ [] := by simpa using e3
           have kp := tmO_good hp hp0
           have sp := tmO_small hp hp0
           have kq := coO_good hq hq0
           have sq := scanO_le r
           have hle := putC_le name q.1 _ p.1 (Nat.le_refl _)
           have hmul : p.1.tot * q.1.tot ≤ 1200 * 600 := Nat.mul_le_mul (by omega) (by omega)
           have hG : GM (putC name q.1 p.1) := putC_GM kq.1 kp.1
           have d1 := stands_den _ q.1 (Nat.le_refl _) (by omega) kq.1.gc0
           have d4 := putco_den name q.1 _ p.1 (Nat.le_refl _) (by omega)
           have d5 := inC_den name q.1 hne p.1.tot p.1 (Nat.le_refl _) (by omega)
           have hf1 := stC_le q.1
           have hf2 := bnM_le p.1
           have d2 := r12binds_den _ p.1 (Nat.le_refl _) (by omega) kp.1.gm0
           have d3 := apart_den (stC q.1) (bnM p.1) (by omega) (by omega)
           obtain ⟨s1, hs1, hs2⟩ := mpR_tot hG (by omega)
           have d6 := fprint_den (3 * (putC name q.1 p.1).tot) (3 * (putC name q.1 p.1).tot) (putC name q.1 p.1) s1 (by omega) (hs2 _ _ (Nat.le_refl _) (by omega))
           have d7 := r12tprint_den (3 * (putC name q.1 p.1).tot) (3 * (putC name q.1 p.1).tot) (putC name q.1 p.1) s1 (by omega) (hs2 _ _ (Nat.le_refl _) (by omega))
           generalize putC name q.1 p.1 = z at *
           rw [cxC_eq q.1] at d1
           rw [tmC_eq p.1] at d2
           rw [tmC_eq p.1, cxC_eq q.1, tmC_eq z] at d4
           rw [tmC_eq p.1, tmC_eq z] at d5
           rw [tmC_eq z] at d6 d7
           unfold pC at d5
           cases e6 : (stC q.1).all fun x => !(bnM p.1).contains x
           · rw [e6] at d3
             simp only [go_sem, Tryz.f4, ha, h1, h2, h3, h4, e1, e2, e3, e4, e5, l1, l2, d1, d2, d3]
           · rw [e6] at d3
             simp only [go_sem, Tryz.f4, ha, h1, h2, h3, h4, e1, e2, e3, e4, e5, l1, l2, d1, d2, d3, d4, d5, d6, d7]
         · simp only [go_sem, Tryz.f4, ha, h1, h2, h3, h4, e1, e2, e3, e4, e5, l1, l2]
       · simp only [go_sem, Tryz.f4, ha, h1, h2, h3, h4, e1, e2, e3, e4, l1]
     · simp only [go_sem, Tryz.f4, ha, h1, h2, h3, h4, e1, e2, e3]
   · simp only [go_sem, Tryz.f4, ha, h1, h2, h3, h4, e1, e2]
 · simp only [go_sem, Tryz.f4, ha, h1, h2, h3, h4, e1]
end Go.Proofs
