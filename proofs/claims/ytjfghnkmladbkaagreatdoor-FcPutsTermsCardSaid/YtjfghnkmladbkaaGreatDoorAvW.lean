/- What is put is written alike: terms in the places of a variable. -/
import Derived.Test.YtjfghnkmladbkaaGreatDoorAvU
import Derived.Test.YtjfghnkmladbkaaGreatDoorAvV
namespace Go.Proofs
open Go.Av
set_option maxHeartbeats 32000000
set_option maxRecDepth 100000
theorem putsterms_den (s r name : List UInt8) : den E 3 [.str s, .str r, .str name] [] = some (.bool true, []) := by
 rw [den_eq prim_3, body_3]
 have ha := awake12_den
 obtain ⟨p, hp⟩ := tmO_tot s
 have h1 := fpterm_den hp
 have h2 := r12pterm_den hp
 obtain ⟨q, hq⟩ := tmO_tot r
 have h3 := fpterm_den hq
 have h4 := r12pterm_den hq
 simp only [tmC_eq] at h1 h2 h3 h4
 have l1 : decide ((s.length : Int) > 600) = decide (s.length > 600) := by simp; omega
 have l2 : decide ((r.length : Int) > 600) = decide (r.length > 600) := by simp; omega
 cases e1 : p.2 != 0
 · cases e2 : q.2 != 0
   · cases e3 : name == []
     · cases e4 : decide (s.length > 600)
       · cases e5 : decide (r.length > 600)
         · have e4' := of_decide_eq_false e4
           have e5' := of_decide_eq_false e5
           have hp0 : p.2 = 0 := by simpa [bne] using e1
           have hq0 : q.2 = 0 := by simpa [bne] using e2
           have hne : name ≠ [] := by simpa using e3
           have kp := tmO_good hp hp0
           have sp := tmO_small hp hp0
           have kq := tmO_good hq hq0
           have sq := tmO_small hq hq0
           have hle := putV_le name q.1 _ p.1 (Nat.le_refl _)
           have hmul : p.1.tot * q.1.tot ≤ 1200 * 1200 := Nat.mul_le_mul (by omega) (by omega)
           have hG : GM (putV name q.1 p.1) := putV_GM kq.1 kp.1
           have d1 := vars_den _ q.1 (Nat.le_refl _) (by omega) kq.1.gm0
           have d4 := putvar_den name q.1 _ p.1 (Nat.le_refl _) (by omega)
           have d5 := inV_den name q.1 hne p.1.tot p.1 (Nat.le_refl _) (by omega)
           have hf1 := vrM_le q.1
           have hf2 := bnM_le p.1
           have d2 := r12binds_den _ p.1 (Nat.le_refl _) (by omega) kp.1.gm0
           have d3 := apart_den (vrM q.1) (bnM p.1) (by omega) (by omega)
           obtain ⟨s1, hs1, hs2⟩ := mpR_tot hG (by omega)
           have d6 := fprint_den (3 * (putV name q.1 p.1).tot) (3 * (putV name q.1 p.1).tot) (putV name q.1 p.1) s1 (by omega) (hs2 _ _ (Nat.le_refl _) (by omega))
           have d7 := r12tprint_den (3 * (putV name q.1 p.1).tot) (3 * (putV name q.1 p.1).tot) (putV name q.1 p.1) s1 (by omega) (hs2 _ _ (Nat.le_refl _) (by omega))
           generalize putV name q.1 p.1 = z at *
           rw [tmC_eq q.1] at d1
           rw [tmC_eq p.1] at d2
           rw [tmC_eq p.1, tmC_eq q.1, tmC_eq z] at d4
           rw [tmC_eq p.1, tmC_eq z] at d5
           rw [tmC_eq z] at d6 d7
           unfold pV at d5
           cases e6 : (vrM q.1).all fun x => !(bnM p.1).contains x
           · rw [e6] at d3
             simp only [go_sem, Tryz.f3, ha, h1, h2, h3, h4, e1, e2, e3, e4, e5, l1, l2, d1, d2, d3]
           · rw [e6] at d3
             simp only [go_sem, Tryz.f3, ha, h1, h2, h3, h4, e1, e2, e3, e4, e5, l1, l2, d1, d2, d3, d4, d5, d6, d7]
         · simp only [go_sem, Tryz.f3, ha, h1, h2, h3, h4, e1, e2, e3, e4, e5, l1, l2]
       · simp only [go_sem, Tryz.f3, ha, h1, h2, h3, h4, e1, e2, e3, e4, l1]
     · simp only [go_sem, Tryz.f3, ha, h1, h2, h3, h4, e1, e2, e3]
   · simp only [go_sem, Tryz.f3, ha, h1, h2, h3, h4, e1, e2]
 · simp only [go_sem, Tryz.f3, ha, h1, h2, h3, h4, e1]
end Go.Proofs
