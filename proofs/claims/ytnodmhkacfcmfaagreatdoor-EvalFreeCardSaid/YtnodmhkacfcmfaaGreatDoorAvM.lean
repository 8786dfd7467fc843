/- The chapter examples; the way of the document to put an expression; what it comes to is bounded. -/
import Derived.Test.YtnodmhkacfcmfaaGreatDoorAvL
import Derived.Test.YtnodmhkacfcmfaaGreatDoorAvJ
import Derived.Test.YtnodmhkacfcmfaaGreatDoorAvK
namespace Go.Proofs
open Go.Av
set_option maxHeartbeats 64000000
set_option maxRecDepth 100000
/-! definitions of a program -/
def bindsO (l : List De) : List (List UInt8 × Ex) := (l.filter fun d => d.kind == 3).map fun d => (d.name, d.val)
theorem bindsO_snoc {l : List De} {i : Nat} {d : De} (h : l[i]? = some d) : bindsO (l.take (i + 1)) = if d.kind == 3 then bindsO (l.take i) ++ [(d.name, d.val)] else bindsO (l.take i) := by
  unfold bindsO
  rw [take_snoc h, List.filter_append]
  cases hk : d.kind == 3 <;> simp [hk]
theorem bindsO_len (l : List De) : (bindsO l).length ≤ l.length := by unfold bindsO; rw [List.length_map]; exact List.length_filter_le ..
theorem read_den (s x : List UInt8) (ds : List De) (e : Ex) {f g : Nat} (hs : parseO f s = some (ds, 0)) (hx : pexO g x = some (e, 0)) (h1 : s.length ≤ 300) (h2 : x.length ≤ 200) :
    den E 24 [.str s, .str x] [] = some (.tup [.slice ((bindsO ds).map defV), .agg (exC e), .slice ((bindsO ds).map defV), .agg (exC e), .bool true], []) := by
  rw [den_eq prim_24, body_24]
  obtain ⟨a1, a2⟩ := parse_two hs
  obtain ⟨b1, b2⟩ := pex_two hx
  have hln : ds.length < 1000000 := by
    have := (parse_good hs rfl).2
    have := desum_len ds
    simp only at *
    omega
  unfold parV at a1 a2
  unfold pexV at b1 b2
  simp only [exC_eq] at b1 b2
  have l1 : decide ((s.length : Int) > 300) = false := decide_eq_false (by omega)
  have l2 : decide ((x.length : Int) > 200) = false := decide_eq_false (by omega)
  obtain ⟨fin, hfin⟩ : ∃ fin, fin = (some (.tup [.slice ((bindsO ds).map defV), .agg (exC e), .slice ((bindsO ds).map defV), .agg (exC e), .bool true], []) : Option (AVal × Heap)) := ⟨_, rfl⟩
  rw [← hfin]
  rw [exC_eq] at hfin
  simp only [go_sem, ↓reduceIte, Nat.reduceEqDiff, Nat.reduceAdd, Nat.reduceLeDiff, Nat.reduceLT, reduceCtorEq, Tryz.f24, a1, a2, b1, b2, l1, l2, Int.reduceBNe]
  refine run_ind (fun i : Nat => i ≤ ds.length) (fun i => ⟨[(5, .ptr (.loc 5) 0), (7, .ptr (.loc 7) 0), (9, .slice (ds.map deV)), (11, .slice (ds.map deV)), (13, .ptr (.loc 13) 0), (15, .ptr (.loc 15) 0), (17, .own 101 0 ((bindsO (ds.take i)).map defV)), (18, .own 106 0 ((bindsO (ds.take i)).map defV)), (19, .int .i64 i)], [],
      [(5, [.int .i64 0, .str [], .bool false, .int .i64 0, .str [], .int .i64 0, .own 25 0 [], .own 29 0 [], .own 54 0 []]), (7, [.int .i64 0, .str [], .bool false, .int .i64 0, .str [], .int .i64 0, .own 62 0 [], .own 66 0 [], .own 159 0 []]), (13, exC e), (15, exC e)], 1⟩)
    (fun _ => fin) (fun i => ds.length - i) 0 (Nat.zero_le _) ?_ ?_
  · simp only [go_sem, ↓reduceIte, Nat.reduceEqDiff, reduceCtorEq, Int.cast_ofNat_Int, exC_eq, List.take_zero, bindsO, List.filter_nil, List.map_nil]
  · intro i hi h
    by_cases hlt : i < ds.length
    · obtain ⟨d, hd⟩ := getS hlt
      have w1 : IntKind.i64.wrap ((i : Int) + 1) = ((i + 1 : Nat) : Int) := wrapN (i + 1) (by omega)
      have hb := bindsO_snoc hd
      have hap : ((bindsO (ds.take i)).length + 1 ≤ appMax) = True := eq_true (by have := bindsO_len (ds.take i); rw [List.length_take] at this; unfold appMax; omega)
      cases hk : d.kind == 3
      · rw [hk] at hb
        simp only [Bool.false_eq_true, if_false] at hb
        simp only [go_sem, ↓reduceIte, Nat.reduceEqDiff, Nat.reduceAdd, natlt, List.length_map, decide_eq_true hlt, natge0, tonat, des_get, hd, deV, deC, hk, exC_eq]
        refine h (i + 1) _ (by omega) (by omega) ?_
        simp only [go_sem, ↓reduceIte, Nat.reduceEqDiff, w1, exC_eq, hb]
      · rw [hk] at hb
        simp only [if_true] at hb
        simp only [go_sem, ↓reduceIte, Nat.reduceEqDiff, Nat.reduceAdd, Nat.reduceMul, Nat.reduceLeDiff, Nat.reduceLT, reduceCtorEq, natlt, List.length_map, hap, decide_eq_true hlt, natge0, tonat, des_get, hd, deV, deC, hk, exC_eq]
        refine h (i + 1) _ (by omega) (by omega) ?_
        simp only [go_sem, ↓reduceIte, Nat.reduceEqDiff, w1, exC_eq, hb, List.map_append, List.map_cons, List.map_nil, defV_eq]
    · have hie : i = ds.length := by omega
      subst hie
      rw [List.take_length]
      simp only [go_sem, ↓reduceIte, Nat.reduceEqDiff, Nat.reduceAdd, Nat.reduceLeDiff, Nat.reduceLT, natlt, List.length_map, Nat.lt_irrefl, exC_eq, hfin]
end Go.Proofs
namespace Go.Proofs
open Go.Av
set_option maxHeartbeats 64000000
set_option maxRecDepth 100000
/-! the chapter's examples -/
def chkR (f : Nat) (s x : List UInt8) (k : Nat) (o : Nat) (t : List UInt8) : Bool := match parseO f s, pexO f x with
  | some p, some q => p.2 == 0 && q.2 == 0 && decide (s.length ≤ 300) && decide (x.length ≤ 200) && (match runO f (bindsO p.1) k q.1 with
    | some r => r.2 == (o : Int) && decide (r.1.tot < 1000000) && xpR f f r.1 == some t
    | none => false)
  | _, _ => false
theorem binds_good {f : Nat} {s : List UInt8} {p : List De × Int} (h : parseO f s = some p) (h0 : p.2 = 0) : (bindsO p.1).length < 1000000 ∧ ∀ d ∈ bindsO p.1, GX d.2 := by
  have hp := parse_good h h0
  have h1 := desum_len p.1
  have h2 := bindsO_len p.1
  refine ⟨by omega, fun d hd => ?_⟩
  obtain ⟨c, hc, rfl⟩ := List.mem_map.1 hd
  have h3 := (List.mem_filter.1 hc).2
  have := hp.1 c (List.mem_filter.1 hc).1
  cases this with
  | bind n x _ hx => exact hx
  | data => cases h3
  | sig => cases h3
theorem ran_chk {f : Nat} {s x : List UInt8} {k o : Nat} {t w : List UInt8} (hw : Lib.itoa o = w) (hwl : w.length ≤ 20) (htl : t.length ≤ 1000) (hk : k ≤ 10000) (ho : o < 1000000) (h : chkR f s x k o t = true) : den E 10 [.str s, .str x, .int .i64 k] [] = some (.str (w ++ 32 :: t), []) := by
  unfold chkR at h
  split at h
  · rename_i p q hp hq
    obtain ⟨ds, pe⟩ := p
    obtain ⟨e, qe⟩ := q
    simp only [Bool.and_eq_true, beq_iff_eq, decide_eq_true_eq] at h
    obtain ⟨⟨⟨⟨h1, h2⟩, h3⟩, h4⟩, h5⟩ := h
    subst h1; subst h2
    have d1 := read_den s x ds e hp hq h3 h4
    obtain ⟨b1, b2⟩ := binds_good hp rfl
    split at h5
    · rename_i r hr
      simp only [Bool.and_eq_true, beq_iff_eq, decide_eq_true_eq] at h5
      obtain ⟨⟨h6, h7⟩, h8⟩ := h5
      have d2 := (run_den (bindsO ds) b1 b2 f k hk e r (pex_good hq rfl).1 hr).1
      have d3 := xprint_den f f r.1 t h7 h8
      have d4 := decimal_den o (by omega)
      rw [h6] at d2
      obtain ⟨y, u⟩ := r
      simp only at h6 d2 d3
      rw [den_eq prim_10, body_10]
      rw [exC_eq] at d1 d2
      rw [exC_eq y] at d2 d3
      have e1 : w ++ 32 :: t = (w ++ [32]) ++ t := by simp
      rw [e1]
      rw [hw] at d4
      have l1 : (w.length + 1 ≤ strMax) = True := eq_true (by unfold strMax; omega)
      have l2 : (w.length + 1 + t.length ≤ strMax) = True := eq_true (by unfold strMax; omega)
      have mo : (if 0 < (o : Int) then (o : Int) else 0) = o := by split <;> omega
      have mo2 : (if (o : Int) > 0 then (o : Int) else 0) = o := by split <;> omega
      simp only [go_sem, ↓reduceIte, Nat.reduceEqDiff, Nat.reduceAdd, Nat.reduceLeDiff, Nat.reduceLT, reduceCtorEq, Tryz.f10, d1, d2, d3, d4, mo, l1, l2, List.length_append]
    · cases h5
  · cases h
theorem evchk0 : chkR 100 [116, 119, 111, 32, 61, 32, 83, 32, 40, 83, 32, 90, 41, 59, 32, 105, 100, 32, 61, 32, 92, 120, 32, 45, 62, 32, 120] [105, 100, 32, 116, 119, 111] 1 1 [40, 92, 120, 32, 45, 62, 32, 120, 41, 32, 116, 119, 111] = true := by kernel_rfl
theorem evchk1 : chkR 100 [116, 119, 111, 32, 61, 32, 83, 32, 40, 83, 32, 90, 41, 59, 32, 105, 100, 32, 61, 32, 92, 120, 32, 45, 62, 32, 120] [105, 100, 32, 116, 119, 111] 2 1 [116, 119, 111] = true := by kernel_rfl
theorem evchk2 : chkR 100 [116, 119, 111, 32, 61, 32, 83, 32, 40, 83, 32, 90, 41, 59, 32, 105, 100, 32, 61, 32, 92, 120, 32, 45, 62, 32, 120] [105, 100, 32, 116, 119, 111] 4 2 [83, 32, 40, 83, 32, 90, 41] = true := by kernel_rfl
theorem evchk3 : chkR 100 [116, 119, 111, 32, 61, 32, 83, 32, 40, 83, 32, 90, 41, 59, 32, 105, 100, 32, 61, 32, 92, 120, 32, 45, 62, 32, 120] [99, 97, 115, 101, 32, 116, 119, 111, 32, 111, 102, 32, 123, 83, 32, 110, 32, 45, 62, 32, 110, 125] 9 2 [83, 32, 90] = true := by kernel_rfl
theorem evchk4 : chkR 100 [116, 119, 111, 32, 61, 32, 83, 32, 40, 83, 32, 90, 41, 59, 32, 105, 100, 32, 61, 32, 92, 120, 32, 45, 62, 32, 120] [99, 97, 115, 101, 32, 90, 32, 111, 102, 32, 123, 83, 32, 110, 32, 45, 62, 32, 110, 125] 1 3 [99, 97, 115, 101, 32, 90, 32, 111, 102, 32, 123, 83, 32, 110, 32, 45, 62, 32, 110, 125] = true := by kernel_rfl
theorem evchk5 : chkR 100 [116, 119, 111, 32, 61, 32, 83, 32, 40, 83, 32, 90, 41, 59, 32, 105, 100, 32, 61, 32, 92, 120, 32, 45, 62, 32, 120] [40, 92, 120, 32, 45, 62, 32, 120, 41, 32, 121] 9 4 [121] = true := by kernel_rfl
theorem evchk6 : chkR 100 [116, 119, 111, 32, 61, 32, 83, 32, 40, 83, 32, 90, 41, 59, 32, 105, 100, 32, 61, 32, 92, 120, 32, 45, 62, 32, 120] [99, 97, 115, 101, 32, 105, 100, 32, 111, 102, 32, 123, 90, 32, 45, 62, 32, 90, 125] 9 4 [99, 97, 115, 101, 32, 92, 120, 32, 45, 62, 32, 120, 32, 111, 102, 32, 123, 90, 32, 45, 62, 32, 90, 125] = true := by kernel_rfl
theorem awake44_den : den E 4 [] [] = some (.bool true, []) := by
  rw [den_eq prim_4, body_4]
  have t0 := ran_chk (w := [49]) (by kernel_rfl) (by decide) (by decide) (by decide) (by decide) evchk0
  have t1 := ran_chk (w := [49]) (by kernel_rfl) (by decide) (by decide) (by decide) (by decide) evchk1
  have t2 := ran_chk (w := [50]) (by kernel_rfl) (by decide) (by decide) (by decide) (by decide) evchk2
  have t3 := ran_chk (w := [50]) (by kernel_rfl) (by decide) (by decide) (by decide) (by decide) evchk3
  have t4 := ran_chk (w := [51]) (by kernel_rfl) (by decide) (by decide) (by decide) (by decide) evchk4
  have t5 := ran_chk (w := [52]) (by kernel_rfl) (by decide) (by decide) (by decide) (by decide) evchk5
  have t6 := ran_chk (w := [52]) (by kernel_rfl) (by decide) (by decide) (by decide) (by decide) evchk6
  simp only [List.cons_append, List.nil_append, Int.cast_ofNat_Int] at t0 t1 t2 t3 t4 t5 t6
  simp only [go_sem, ↓reduceIte, Nat.reduceEqDiff, Nat.reduceAdd, reduceCtorEq, Tryz.f4, t0, t1, t2, t3, t4, t5, t6]
end Go.Proofs
namespace Go.Proofs
open Go.Av
set_option maxHeartbeats 64000000
set_option maxRecDepth 100000
/-! the document's way to put an expression in the place of a name -/
theorem has_den (l : List (List UInt8)) (n : List UInt8) (hl : l.length < 1000000) : den E 8 [.slice (l.map .str), .str n] [] = some (.bool (l.contains n), []) := by
  rw [den_eq prim_8, body_8]
  simp only [go_sem, ↓reduceIte, Nat.reduceEqDiff, Nat.reduceAdd, reduceCtorEq, Tryz.f8]
  refine run_ind (fun i : Nat => i ≤ l.length ∧ (l.drop i).contains n = l.contains n) (fun i => ⟨[(0, .slice (l.map .str)), (1, .str n), (5, .int .i64 i)], [], [], 1⟩)
    (fun _ => some (.bool (l.contains n), [])) (fun i => l.length - i) 0 ⟨Nat.zero_le _, rfl⟩ ?_ ?_
  · simp only [go_sem, ↓reduceIte, Nat.reduceEqDiff, reduceCtorEq, Int.cast_ofNat_Int]
  · rintro i ⟨hi, hc⟩ h
    by_cases hlt : i < l.length
    · obtain ⟨x, hx⟩ := getS hlt
      rw [dropGet hx, List.contains_cons] at hc
      have w1 : IntKind.i64.wrap ((i : Int) + 1) = ((i + 1 : Nat) : Int) := wrapN (i + 1) (by omega)
      cases hq : x == n
      · have hq' : (n == x) = false := by rw [Bool.eq_false_iff] at hq ⊢; simp only [ne_eq, beq_iff_eq] at hq ⊢; exact fun h => hq h.symm
        rw [hq', Bool.false_or] at hc
        simp only [go_sem, ↓reduceIte, Nat.reduceEqDiff, Nat.reduceAdd, reduceCtorEq, natlt, List.length_map, decide_eq_true hlt, natge0, tonat, strsGet, hx, hq]
        refine h (i + 1) _ ⟨by omega, hc⟩ (by omega) ?_
        simp only [go_sem, ↓reduceIte, Nat.reduceEqDiff, reduceCtorEq, w1]
      · have hq' : (n == x) = true := by simp only [beq_iff_eq] at hq ⊢; exact hq.symm
        rw [hq', Bool.true_or] at hc
        simp only [go_sem, ↓reduceIte, Nat.reduceEqDiff, Nat.reduceAdd, reduceCtorEq, natlt, List.length_map, decide_eq_true hlt, natge0, tonat, strsGet, hx, hq, ← hc]
    · have hie : i = l.length := by omega
      subst hie
      rw [List.drop_length] at hc
      simp only [go_sem, ↓reduceIte, Nat.reduceEqDiff, Nat.reduceAdd, reduceCtorEq, natlt, List.length_map, Nat.lt_irrefl, ← hc, List.contains_nil]
end Go.Proofs
namespace Go.Proofs
open Go.Av
set_option maxHeartbeats 64000000
set_option maxRecDepth 100000
/-! the document's way to put an expression in the place of a name -/
theorem almk_vars (c : List UInt8) (v : List (List UInt8)) (e : Ex) : (Al.mk c v e).vars = v := rfl
theorem almk_body (c : List UInt8) (v : List (List UInt8)) (e : Ex) : (Al.mk c v e).body = e := rfl
theorem kids_gx {e : Ex} (h : GX e) : ∀ x ∈ e.kids, GX x := by
  cases h <;> intro x hx <;> simp only [Ex.kids, List.mem_cons, List.not_mem_nil, or_false] at hx
  · rw [hx]; assumption
  · rcases hx with rfl | rfl <;> assumption
  · rcases hx with rfl | rfl <;> assumption
  · rcases hx with rfl | rfl <;> assumption
  · rw [hx]; assumption
  · rw [hx]; assumption
theorem alts_gx {e : Ex} (h : GX e) : ∀ a ∈ e.alts, GX a.body := by
  cases h <;> intro a ha <;> simp only [Ex.alts, List.not_mem_nil] at ha
  rename_i h1 h2
  exact h1 a ha
end Go.Proofs
namespace Go.Proofs
open Go.Av
set_option maxHeartbeats 64000000
set_option maxRecDepth 100000
/-! how large a thing becomes -/
theorem le_mul_u (a : Nat) {b : Nat} (h : 1 ≤ b) : a ≤ a * b := Nat.le_mul_of_pos_right a h
theorem ptots_cons (e : Ex) (r : List Ex) : Ex.tots (e :: r) = e.tot + Ex.tots r := by simp [Ex.tots]
theorem tots_putK (n : List UInt8) (u : Ex) : ∀ (l : List Ex) (o : Bool), (∀ x ∈ l, (putE n u x).tot ≤ x.tot * u.tot) → Ex.tots (putK n u o l) ≤ Ex.tots l * u.tot
  | [], _, _ => by simp [putK, tots_nil]
  | e :: r, o, h => by
    have h1 := h e (List.mem_cons_self ..)
    have h2 := tots_putK n u r false fun x hx => h x (List.mem_cons_of_mem _ hx)
    have h3 := le_mul_u (Ex.tots r) (tot_pos u)
    simp only [putK]
    rw [ptots_cons, ptots_cons, Nat.add_mul]
    cases o
    · simp only [Bool.false_eq_true, if_false]; omega
    · simp only [if_true]; omega
theorem tots_putA (n : List UInt8) (u : Ex) : ∀ (l : List Al), (∀ x ∈ l, (putE n u x.body).tot ≤ x.body.tot * u.tot) → Al.tots (putA n u l) ≤ Al.tots l * u.tot
  | [], _ => by simp [putA, altots_nil]
  | a :: r, h => by
    have h1 := h a (List.mem_cons_self ..)
    have h2 := tots_putA n u r fun x hx => h x (List.mem_cons_of_mem _ hx)
    have h3 := le_mul_u a.body.tot (tot_pos u)
    have h4 := le_mul_u (a.vars.length + 1) (tot_pos u)
    simp only [putA]
    rw [paltots_cons, paltots_cons, Nat.add_mul, putL_eq, paltot_eq, paltot_eq, almk_body, almk_vars, Nat.add_assoc, Nat.add_assoc a.body.tot, Nat.add_mul a.body.tot]
    split <;> omega
theorem putE_tot (n : List UInt8) (u : Ex) : ∀ (f : Nat) (e : Ex), e.tot ≤ f → (putE n u e).tot ≤ e.tot * u.tot := by
  intro f
  induction f with
  | zero => intro e h; have := tot_pos e; omega
  | succ f ih =>
    intro e h
    have he := le_mul_u e.tot (tot_pos u)
    have h1 : 1 * u.tot ≤ e.tot * u.tot := Nat.mul_le_mul_right _ (tot_pos e)
    rw [putE_eq]
    split
    · omega
    · split
      · exact he
      · have ht := tot_eq e
        have hs := sz_pos e.ty
        have k1 := tots_putK n u e.kids (e.kind == 5 && e.name == n) fun x hx => ih x (by have := tots_mem hx; omega)
        have k2 := tots_putA n u e.alts fun a ha => ih a.body (by have := paltots_mem ha; have := paltot_eq a; omega)
        have k3 := le_mul_u e.ty.sz (tot_pos u)
        rw [tot_mk, ht, Nat.add_mul, Nat.add_mul]
        omega
theorem scanO_len (s : List UInt8) : (scanO s).1.length ≤ s.length := by
  unfold scanO
  split
  · simp
  · split
    · rename_i l h
      have := scanS_ok _ _ _ _ h
      simp only [List.length_drop] at this
      exact Nat.le_trans this.1 (Nat.sub_le _ _)
    · simp
theorem pex_short {f : Nat} {s : List UInt8} {p : Ex × Int} (h : pexO f s = some p) (h0 : p.2 = 0) : GX p.1 ∧ p.1.tot ≤ 2 * s.length := by
  refine ⟨(pex_good h h0).1, ?_⟩
  have hl := scanO_len s
  unfold pexO at h
  split at h
  · rename_i he
    injection h with h; subst h
    simp only at h0
    rw [h0] at he
    exact absurd he (by decide)
  · split at h
    · cases h
    · rename_i ds r hd
      injection h with h; subst h
      unfold endX at h0 ⊢
      cases hb : r.bad
      · have k := (exR_ok _ _ _ _ _ (scanO_ok s).2 hd hb).2
        rw [hb] at h0
        split at h0
        · exact absurd h0 (by decide)
        · split at h0
          · exact absurd h0 (by decide)
          · rename_i h3 h4
            rw [if_neg (by simpa using h3), if_neg h4]
            simp only at k ⊢
            omega
      · rw [hb] at h0; simp at h0
end Go.Proofs
