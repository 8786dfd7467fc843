/- The chapter examples; the way of the document to put an expression; what it comes to is bounded. -/
import Derived.Test.YteidnocfcilajaaGreatDoorAvL
import Derived.Test.YteidnocfcilajaaGreatDoorAvJ
namespace Go.Proofs
open Go.Av
set_option maxHeartbeats 64000000
set_option maxRecDepth 100000
/-! definitions of a program -/
def bindsO (l : List De) : List (List UInt8 × Ex) := (l.filter fun d => d.kind == 3).map fun d => (d.name, d.val)
theorem bindsO_snoc {l : List De} {i : Nat} {d : De} (h : l[i]? = some d) : bindsO (l.take (i + 1)) = if d.kind == 3 then bindsO (l.take i) ++ [(d.name, d.val)] else bindsO (l.take i) := by
  unfold bindsO
  rw [take_snoc h, List.filter_append]
  cases hk : d.kind == 3 <;> simp [hk]
theorem bindsO_len (l : List De) : (bindsO l).length ≤ l.length := by unfold bindsO; rw [List.length_map]; exact List.length_filter_le ..
theorem read_den (s x : List UInt8) (ds : List De) (e : Ex) {f g : Nat} (hs : parseO f s = some (ds, 0)) (hx : pexO g x = some (e, 0)) (h1 : s.length ≤ 300) (h2 : x.length ≤ 200) :
    den E 51 [.str s, .str x] [] = some (.tup [.slice ((bindsO ds).map defV), .agg (exC e), .slice ((bindsO ds).map defV), .agg (exC e), .bool true], []) := by
  rw [den_eq prim_51, body_51]
  obtain ⟨a1, a2⟩ := parse_two hs
  obtain ⟨b1, b2⟩ := pex_two hx
  have hln : ds.length < 1000000 := by
    have := (parse_good hs rfl).2
    have := desum_len ds
    simp only at *
    omega
  unfold parV at a1 a2
  unfold pexV at b1 b2
  simp only [exC_eq] at b1 b2
  have l1 : decide ((s.length : Int) > 300) = false := decide_eq_false (by omega)
  have l2 : decide ((x.length : Int) > 200) = false := decide_eq_false (by omega)
  obtain ⟨fin, hfin⟩ : ∃ fin, fin = (some (.tup [.slice ((bindsO ds).map defV), .agg (exC e), .slice ((bindsO ds).map defV), .agg (exC e), .bool true], []) : Option (AVal × Heap)) := ⟨_, rfl⟩
  rw [← hfin]
  rw [exC_eq] at hfin
  simp only [go_sem, ↓reduceIte, Nat.reduceEqDiff, Nat.reduceAdd, Nat.reduceLeDiff, Nat.reduceLT, reduceCtorEq, Tryz.f51, a1, a2, b1, b2, l1, l2, Int.reduceBNe]
  refine run_ind (fun i : Nat => i ≤ ds.length) (fun i => ⟨[(5, .ptr (.loc 5) 0), (7, .ptr (.loc 7) 0), (9, .slice (ds.map deV)), (11, .slice (ds.map deV)), (13, .ptr (.loc 13) 0), (15, .ptr (.loc 15) 0), (17, .own 82 0 ((bindsO (ds.take i)).map defV)), (18, .own 153 0 ((bindsO (ds.take i)).map defV)), (19, .int .i64 i)], [],
      [(5, [.int .i64 0, .str [], .bool false, .int .i64 0, .str [], .int .i64 0, .own 35 0 [], .own 39 0 [], .own 67 0 []]), (7, [.int .i64 0, .str [], .bool false, .int .i64 0, .str [], .int .i64 0, .own 44 0 [], .own 48 0 [], .own 116 0 []]), (13, exC e), (15, exC e)], 1⟩)
    (fun _ => fin) (fun i => ds.length - i) 0 (Nat.zero_le _) ?_ ?_
  · simp only [go_sem, ↓reduceIte, Nat.reduceEqDiff, reduceCtorEq, Int.cast_ofNat_Int, exC_eq, List.take_zero, bindsO, List.filter_nil, List.map_nil]
  · intro i hi h
    by_cases hlt : i < ds.length
    · obtain ⟨d, hd⟩ := getS hlt
      have w1 : IntKind.i64.wrap ((i : Int) + 1) = ((i + 1 : Nat) : Int) := wrapN (i + 1) (by omega)
      have hb := bindsO_snoc hd
      have hap : ((bindsO (ds.take i)).length + 1 ≤ appMax) = True := eq_true (by have := bindsO_len (ds.take i); rw [List.length_take] at this; unfold appMax; omega)
      cases hk : d.kind == 3
      · rw [hk] at hb
        simp only [Bool.false_eq_true, if_false] at hb
        simp only [go_sem, ↓reduceIte, Nat.reduceEqDiff, Nat.reduceAdd, natlt, List.length_map, decide_eq_true hlt, natge0, tonat, des_get, hd, deV, deC, hk, exC_eq]
        refine h (i + 1) _ (by omega) (by omega) ?_
        simp only [go_sem, ↓reduceIte, Nat.reduceEqDiff, w1, exC_eq, hb]
      · rw [hk] at hb
        simp only [if_true] at hb
        simp only [go_sem, ↓reduceIte, Nat.reduceEqDiff, Nat.reduceAdd, Nat.reduceMul, Nat.reduceLeDiff, Nat.reduceLT, reduceCtorEq, natlt, List.length_map, hap, decide_eq_true hlt, natge0, tonat, des_get, hd, deV, deC, hk, exC_eq]
        refine h (i + 1) _ (by omega) (by omega) ?_
        simp only [go_sem, ↓reduceIte, Nat.reduceEqDiff, w1, exC_eq, hb, List.map_append, List.map_cons, List.map_nil, defV_eq]
    · have hie : i = ds.length := by omega
      subst hie
      rw [List.take_length]
      simp only [go_sem, ↓reduceIte, Nat.reduceEqDiff, Nat.reduceAdd, Nat.reduceLeDiff, Nat.reduceLT, natlt, List.length_map, Nat.lt_irrefl, exC_eq, hfin]
end Go.Proofs
namespace Go.Proofs
open Go.Av
set_option maxHeartbeats 64000000
set_option maxRecDepth 100000
/-! the chapter's examples -/
def chkR (f : Nat) (s x : List UInt8) (k : Nat) (o : Nat) (t : List UInt8) : Bool := match parseO f s, pexO f x with
  | some p, some q => p.2 == 0 && q.2 == 0 && decide (s.length ≤ 300) && decide (x.length ≤ 200) && (match runO f (bindsO p.1) k q.1 with
    | some r => r.2 == (o : Int) && decide (r.1.tot < 1000000) && xpR f f r.1 == some t
    | none => false)
  | _, _ => false
theorem binds_good {f : Nat} {s : List UInt8} {p : List De × Int} (h : parseO f s = some p) (h0 : p.2 = 0) : (bindsO p.1).length < 1000000 ∧ ∀ d ∈ bindsO p.1, GX d.2 := by
  have hp := parse_good h h0
  have h1 := desum_len p.1
  have h2 := bindsO_len p.1
  refine ⟨by omega, fun d hd => ?_⟩
  obtain ⟨c, hc, rfl⟩ := List.mem_map.1 hd
  have h3 := (List.mem_filter.1 hc).2
  have := hp.1 c (List.mem_filter.1 hc).1
  cases this with
  | bind n x _ hx => exact hx
  | data => cases h3
  | sig => cases h3
theorem ran_chk {f : Nat} {s x : List UInt8} {k o : Nat} {t w : List UInt8} (hw : Lib.itoa o = w) (hwl : w.length ≤ 20) (htl : t.length ≤ 1000) (hk : k ≤ 10000) (ho : o < 1000000) (h : chkR f s x k o t = true) : den E 96 [.str s, .str x, .int .i64 k] [] = some (.str (w ++ 32 :: t), []) := by
  unfold chkR at h
  split at h
  · rename_i p q hp hq
    obtain ⟨ds, pe⟩ := p
    obtain ⟨e, qe⟩ := q
    simp only [Bool.and_eq_true, beq_iff_eq, decide_eq_true_eq] at h
    obtain ⟨⟨⟨⟨h1, h2⟩, h3⟩, h4⟩, h5⟩ := h
    subst h1; subst h2
    have d1 := read_den s x ds e hp hq h3 h4
    obtain ⟨b1, b2⟩ := binds_good hp rfl
    split at h5
    · rename_i r hr
      simp only [Bool.and_eq_true, beq_iff_eq, decide_eq_true_eq] at h5
      obtain ⟨⟨h6, h7⟩, h8⟩ := h5
      have d2 := (run_den (bindsO ds) b1 b2 f k hk e r (pex_good hq rfl).1 hr).1
      have d3 := xprint_den f f r.1 t h7 h8
      have d4 := decimal_den o (by omega)
      rw [h6] at d2
      obtain ⟨y, u⟩ := r
      simp only at h6 d2 d3
      rw [den_eq prim_96, body_96]
      rw [exC_eq] at d1 d2
      rw [exC_eq y] at d2 d3
      have e1 : w ++ 32 :: t = (w ++ [32]) ++ t := by simp
      rw [e1]
      rw [hw] at d4
      have l1 : (w.length + 1 ≤ strMax) = True := eq_true (by unfold strMax; omega)
      have l2 : (w.length + 1 + t.length ≤ strMax) = True := eq_true (by unfold strMax; omega)
      have mo : (if 0 < (o : Int) then (o : Int) else 0) = o := by split <;> omega
      have mo2 : (if (o : Int) > 0 then (o : Int) else 0) = o := by split <;> omega
      simp only [go_sem, ↓reduceIte, Nat.reduceEqDiff, Nat.reduceAdd, Nat.reduceLeDiff, Nat.reduceLT, reduceCtorEq, Tryz.f96, d1, d2, d3, d4, mo, l1, l2, List.length_append]
    · cases h5
  · cases h
theorem evchk0 : chkR 100 [116, 119, 111, 32, 61, 32, 83, 32, 40, 83, 32, 90, 41, 59, 32, 105, 100, 32, 61, 32, 92, 120, 32, 45, 62, 32, 120] [105, 100, 32, 116, 119, 111] 1 1 [40, 92, 120, 32, 45, 62, 32, 120, 41, 32, 116, 119, 111] = true := by kernel_rfl
theorem evchk1 : chkR 100 [116, 119, 111, 32, 61, 32, 83, 32, 40, 83, 32, 90, 41, 59, 32, 105, 100, 32, 61, 32, 92, 120, 32, 45, 62, 32, 120] [105, 100, 32, 116, 119, 111] 2 1 [116, 119, 111] = true := by kernel_rfl
theorem evchk2 : chkR 100 [116, 119, 111, 32, 61, 32, 83, 32, 40, 83, 32, 90, 41, 59, 32, 105, 100, 32, 61, 32, 92, 120, 32, 45, 62, 32, 120] [105, 100, 32, 116, 119, 111] 4 2 [83, 32, 40, 83, 32, 90, 41] = true := by kernel_rfl
theorem evchk3 : chkR 100 [116, 119, 111, 32, 61, 32, 83, 32, 40, 83, 32, 90, 41, 59, 32, 105, 100, 32, 61, 32, 92, 120, 32, 45, 62, 32, 120] [99, 97, 115, 101, 32, 116, 119, 111, 32, 111, 102, 32, 123, 83, 32, 110, 32, 45, 62, 32, 110, 125] 9 2 [83, 32, 90] = true := by kernel_rfl
theorem evchk4 : chkR 100 [116, 119, 111, 32, 61, 32, 83, 32, 40, 83, 32, 90, 41, 59, 32, 105, 100, 32, 61, 32, 92, 120, 32, 45, 62, 32, 120] [99, 97, 115, 101, 32, 90, 32, 111, 102, 32, 123, 83, 32, 110, 32, 45, 62, 32, 110, 125] 1 3 [99, 97, 115, 101, 32, 90, 32, 111, 102, 32, 123, 83, 32, 110, 32, 45, 62, 32, 110, 125] = true := by kernel_rfl
theorem evchk5 : chkR 100 [116, 119, 111, 32, 61, 32, 83, 32, 40, 83, 32, 90, 41, 59, 32, 105, 100, 32, 61, 32, 92, 120, 32, 45, 62, 32, 120] [40, 92, 120, 32, 45, 62, 32, 120, 41, 32, 121] 9 4 [121] = true := by kernel_rfl
theorem evchk6 : chkR 100 [116, 119, 111, 32, 61, 32, 83, 32, 40, 83, 32, 90, 41, 59, 32, 105, 100, 32, 61, 32, 92, 120, 32, 45, 62, 32, 120] [99, 97, 115, 101, 32, 105, 100, 32, 111, 102, 32, 123, 90, 32, 45, 62, 32, 90, 125] 9 4 [99, 97, 115, 101, 32, 92, 120, 32, 45, 62, 32, 120, 32, 111, 102, 32, 123, 90, 32, 45, 62, 32, 90, 125] = true := by kernel_rfl
theorem awake44_den : den E 44 [] [] = some (.bool true, []) := by
  rw [den_eq prim_44, body_44]
  have t0 := ran_chk (w := [49]) (by kernel_rfl) (by decide) (by decide) (by decide) (by decide) evchk0
  have t1 := ran_chk (w := [49]) (by kernel_rfl) (by decide) (by decide) (by decide) (by decide) evchk1
  have t2 := ran_chk (w := [50]) (by kernel_rfl) (by decide) (by decide) (by decide) (by decide) evchk2
  have t3 := ran_chk (w := [50]) (by kernel_rfl) (by decide) (by decide) (by decide) (by decide) evchk3
  have t4 := ran_chk (w := [51]) (by kernel_rfl) (by decide) (by decide) (by decide) (by decide) evchk4
  have t5 := ran_chk (w := [52]) (by kernel_rfl) (by decide) (by decide) (by decide) (by decide) evchk5
  have t6 := ran_chk (w := [52]) (by kernel_rfl) (by decide) (by decide) (by decide) (by decide) evchk6
  simp only [List.cons_append, List.nil_append, Int.cast_ofNat_Int] at t0 t1 t2 t3 t4 t5 t6
  simp only [go_sem, ↓reduceIte, Nat.reduceEqDiff, Nat.reduceAdd, reduceCtorEq, Tryz.f44, t0, t1, t2, t3, t4, t5, t6]
end Go.Proofs
