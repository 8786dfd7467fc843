/- Data of two texts of types is read, and written; the law comes out true. -/
import Derived.Test.YteidnocfcilajaaGreatDoorAvJ
import Derived.Test.YteidnocfcilajaaGreatDoorAvK
import Derived.Test.YteidnocfcilajaaGreatDoorAvI
namespace Go.Proofs
open Go.Av
set_option maxHeartbeats 16000000
set_option maxRecDepth 100000
/-! types.Parse -/
theorem gt0 (n : Nat) : decide ((n : Int) > 0) = decide (0 < n) := by simp
theorem tparse_ex (s : List UInt8) : (∃ e : Int, (e != 0) = true ∧ den E 41 [.str s] [] = some (.tup [tyV zTy, .int .i64 e], [])) ∨
    ∃ l t, scanO s = (l, 0) ∧ tyR F0 .typ l = some (t, true, []) ∧ t.depth ≤ 50 ∧ GT t ∧ t.sz ≤ 4000 ∧ den E 41 [.str s] [] = some (.tup [tyV t, .int .i64 0], []) := by
  obtain ⟨pos, hT⟩ := scanO_T s
  have hsc := scanAll_den s
  rw [hT] at hsc
  obtain ⟨h1, h2⟩ := scanO_ok s
  cases h0 : (scanO s).2 != 0
  · have h00 : (scanO s).2 = 0 := by rw [bne_not] at h0; simpa using h0
    obtain ⟨⟨t, ok, l'⟩, hr⟩ := tyR_tot F0 .typ (scanO s).1 (by unfold F0; simp only [rankT]; omega)
    have hd := tread_den (scanO s).1 F0 (t, ok, l') (tok1 h2) (by omega) hr
    cases ok with
    | false =>
      left
      refine ⟨20, by decide, ?_⟩
      simp only [Bool.false_eq_true, if_false] at hd
      rw [den_eq prim_41, body_41]
      rw [zTyV] at hd ⊢
      simp only [go_sem, ↓reduceIte, Nat.reduceEqDiff, Nat.reduceAdd, Nat.reduceLeDiff, Nat.reduceLT, reduceCtorEq, Tryz.f41, hsc, h0, hd]
    | true =>
      simp only [if_true] at hd
      have g := gt0 l'.length
      have k := toksV_len l'
      cases hl : decide (0 < l'.length)
      · have hl0 : l' = [] := by
          cases l' with
          | nil => rfl
          | cons a b => simp at hl
        subst hl0
        have ok := tyR_ok F0 .typ _ t [] h2 hr
        have ok : GT t ∧ t.sz + ([] : List Tok).length ≤ (scanO s).1.length := ok
        have hs : t.sz ≤ 4000 := by have := ok.2; simp at this; omega
        have dd := tdepth_den _ t (Nat.le_refl _) (by omega)
        have td := tyDeep t
        cases hdp : decide (t.depth > 50)
        · right
          refine ⟨(scanO s).1, t, by rw [← h00], hr, by simpa using hdp, ok.1, hs, ?_⟩
          rw [hdp] at td
          rw [den_eq prim_41, body_41]
          rw [tyV_eq] at hd dd ⊢
          simp only [go_sem, ↓reduceIte, Nat.reduceEqDiff, Nat.reduceAdd, Nat.reduceLeDiff, Nat.reduceLT, reduceCtorEq, beq_self_eq_true, decide_false, Int.cast_ofNat_Int, Tryz.f41, hsc, h0, hd, toksV_nil, dd, td, gt_iff_lt, Int.lt_irrefl]
        · left
          refine ⟨3, by decide, ?_⟩
          rw [hdp] at td
          rw [den_eq prim_41, body_41]
          rw [tyV_eq] at hd dd
          rw [zTyV]
          simp only [go_sem, ↓reduceIte, Nat.reduceEqDiff, Nat.reduceAdd, Nat.reduceLeDiff, Nat.reduceLT, reduceCtorEq, beq_self_eq_true, decide_false, Int.cast_ofNat_Int, Tryz.f41, hsc, h0, hd, toksV_nil, dd, td, gt_iff_lt, Int.lt_irrefl]
      · left
        refine ⟨20, by decide, ?_⟩
        rw [hl] at g
        rw [den_eq prim_41, body_41]
        rw [tyV_eq] at hd
        rw [zTyV]
        simp only [go_sem, ↓reduceIte, Nat.reduceEqDiff, Nat.reduceAdd, Nat.reduceLeDiff, Nat.reduceLT, reduceCtorEq, beq_self_eq_true, Tryz.f41, hsc, h0, hd, k, g]
  · left
    refine ⟨(scanO s).2, h0, ?_⟩
    rw [den_eq prim_41, body_41]
    rw [zTyV]
    simp only [go_sem, ↓reduceIte, Nat.reduceEqDiff, Nat.reduceAdd, Nat.reduceLeDiff, Nat.reduceLT, reduceCtorEq, Tryz.f41, hsc, h0]
/-! the declaration is read -/
theorem names_stop : ∀ (ns : List (List UInt8)) (ps : List Tok), ps.map kt = ns.map (fun x => ((1 : Int), x)) → ∀ (t : Tok) (q : List Tok), (t.kind == 1) = false → namesT (ps ++ t :: q) = ns ∧ (ps ++ t :: q).drop ns.length = t :: q
  | [], ps, h, t, q, ht => by
    have : ps = [] := by simpa using h
    subst this
    simp [namesT, ht]
  | n :: ns, ps, h, t, q, ht => by
    obtain ⟨a, b, rfl, h1, h2, h3⟩ := map_cons' h
    obtain ⟨e1, e2⟩ := names_stop ns b h3 t q ht
    simp only at h1 h2
    simp only [List.cons_append, namesT, h1, beq_self_eq_true, if_true, h2, e1, List.length_cons, List.drop_succ_cons, e2, and_self]
def dataD (n : Nat) (t u : Ty) : De := ⟨1, [68], parN n, [⟨[75], t⟩, ⟨[76], u⟩], zTy, zEx⟩
theorem typR_more {f : Nat} {p rest : List Tok} {t : Ty} (h : tyR f .typ p = some (t, true, [])) (hr : fT rest = true) : typR f ⟨p ++ rest, false⟩ = some (t, ⟨rest, false⟩) := by
  unfold typR
  simp only [Bool.false_eq_true, if_false, tyR_more f .typ p t [] rest hr h, List.nil_append, if_true]
theorem de_read {f n : Nat} {l ls lr : List Tok} {t u : Ty} (hl : l.map kt = dataK n (ls.map kt) (lr.map kt)) (ht : tyR (f + 2) .typ ls = some (t, true, [])) (hu : tyR (f + 2) .typ lr = some (u, true, [])) :
    ∃ a q, l = a :: q ∧ deR (f + 2) ⟨l, false⟩ = some (dataD n t u, ⟨[], false⟩) := by
  unfold dataK at hl
  obtain ⟨⟨_, _, p1⟩, q1, rfl, rfl, rfl, g1⟩ := map_cons' hl
  obtain ⟨⟨_, _, p2⟩, q2, rfl, rfl, rfl, g2⟩ := map_cons' g1
  obtain ⟨ps, q3, rfl, hps, g3⟩ := map_app' g2
  obtain ⟨⟨_, _, p3⟩, q4, rfl, rfl, rfl, g4⟩ := map_cons' g3
  obtain ⟨⟨_, _, p4⟩, q5, rfl, rfl, rfl, g5⟩ := map_cons' g4
  obtain ⟨⟨_, _, p5⟩, q6, rfl, rfl, rfl, g6⟩ := map_cons' g5
  obtain ⟨ms, q7, rfl, hms, g7⟩ := map_app' g6
  obtain ⟨⟨_, _, p6⟩, q8, rfl, rfl, rfl, g8⟩ := map_cons' g7
  obtain ⟨⟨_, _, p7⟩, q9, rfl, rfl, rfl, g9⟩ := map_cons' g8
  obtain ⟨⟨_, _, p8⟩, qA, rfl, rfl, rfl, g10⟩ := map_cons' g9
  obtain ⟨mr, qB, rfl, hmr, g11⟩ := map_app' g10
  obtain ⟨⟨_, _, p9⟩, qC, rfl, rfl, rfl, g12⟩ := map_cons' g11
  have hC : qC = [] := by simpa using g12
  subst hC
  refine ⟨_, _, rfl, ?_⟩
  obtain ⟨n1, n2⟩ := names_stop (parN n) ps hps ⟨6, [123], p3⟩ (⟨2, [75], p4⟩ :: ⟨6, [58], p5⟩ :: (ms ++ ⟨6, [59], p6⟩ :: ⟨2, [76], p7⟩ :: ⟨6, [58], p8⟩ :: (mr ++ [⟨6, [125], p9⟩]))) rfl
  have r1 := typR_more (tyR_kt hms ht) (rest := ⟨6, [59], p6⟩ :: ⟨2, [76], p7⟩ :: ⟨6, [58], p8⟩ :: (mr ++ [⟨6, [125], p9⟩])) (by simp [fT, fA, seesT])
  have r2 := typR_more (tyR_kt hmr hu) (rest := [⟨6, [125], p9⟩]) (by simp [fT, fA, seesT])
  simp only at n1 n2 r1 r2 ⊢
  simp [deR, seesR, seesT, takesR, takeR, wordR, textT, behindR, namesR, n1, n2, cosR, coR, r1, r2, dataD]
theorem zEx_deep : decide (zTy.depth > 50) = false ∧ decide (zEx.depth > 50) = false ∧ decide (zEx.tdep > 50) = false := by
  refine ⟨?_, ?_, ?_⟩ <;> simp [zTy, zEx, Ty.depth, Ty.depths, Ex.depth, Ex.depths, Al.depths, Ex.tdep, Ex.tdeps, Al.tdeps]
theorem data_read {n : Nat} (hn : n ≤ 6) {s r : List UInt8} (hs : s.length ≤ 900) (hr : r.length ≤ 900) {ls lr : List Tok} {t u : Ty} (h1 : scanO s = (ls, 0)) (h2 : scanO r = (lr, 0)) (h3 : tyR F0 .typ ls = some (t, true, [])) (h4 : tyR F0 .typ lr = some (u, true, []))
    (h5 : t.depth ≤ 50) (h6 : u.depth ≤ 50) : parseO F0 (dataT n s r) = some ([dataD n t u], 0) := by
  obtain ⟨h, hh⟩ := data_Lx hn (scanO_P h1).1 (scanO_P h2).1
  have hlen : (dataT n s r).length ≤ 4000 := by
    unfold dataT
    simp only [List.length_append, List.length_cons, List.length_nil, parT_len]; omega
  obtain ⟨l, k1, k2⟩ := P_scanO hlen hh
  obtain ⟨g, hg⟩ : ∃ g, F0 = g + 2 := ⟨99998, rfl⟩
  rw [hg] at h3 h4
  obtain ⟨a, q, rfl, hd⟩ := de_read k2 h3 h4
  rw [← hg] at hd
  have hdes : desO F0 (a :: q) = some ([dataD n t u], ⟨[], false⟩) := by
    unfold desO
    simp only
    have : desR F0 F0 [] ⟨a :: q, false⟩ = desR F0 (g + 2) [] ⟨a :: q, false⟩ := by rw [hg]
    rw [this]
    simp only [desR, hd]
    simp [seesR, seesT]
  unfold parseO
  rw [k1]
  simp only [bne_self_eq_false, Bool.false_eq_true, if_false, hdes]
  have z := zEx_deep
  have e1 : decide (t.depth > 50) = false := by simp; omega
  have e2 : decide (u.depth > 50) = false := by simp; omega
  unfold endO
  simp [dataD, deepD, deepC]
  simp only [gt_iff_lt, decide_eq_false_iff_not] at z
  omega
theorem par_join (n : Nat) (h : n ≤ 6) : Lib.join ([68] :: parN n) [32] = 68 :: parT n := by
  have : n = 0 ∨ n = 1 ∨ n = 2 ∨ n = 3 ∨ n = 4 ∨ n = 5 ∨ n = 6 := by omega
  rcases this with h | h | h | h | h | h | h <;> subst h <;> rfl
theorem data_print {n : Nat} (hn : n ≤ 6) {t u : Ty} (ht : GT t) (hu : GT u) (h1 : t.sz ≤ 4000) (h2 : u.sz ≤ 4000) :
    ∃ st su, den E 43 [tyV t] [] = some (.str st, []) ∧ den E 43 [tyV u] [] = some (.str su, []) ∧ st.length ≤ 160000 ∧ su.length ≤ 160000 ∧
      progP F0 F0 [dataD n t u] = some ([100, 97, 116, 97, 32, 68] ++ parT n ++ [32, 123, 75, 32, 58, 32] ++ st ++ [59, 32, 76, 32, 58, 32] ++ su ++ [125]) := by
  obtain ⟨st, a1, a2⟩ := pr_tot ht (by omega)
  obtain ⟨su, b1, b2⟩ := pr_tot hu (by omega)
  have f1 : 3 * t.sz ≤ F0 := by unfold F0; omega
  have f2 : 3 * u.sz ≤ F0 := by unfold F0; omega
  refine ⟨st, su, tprint_den F0 t st (by omega) (a2 F0 f1), tprint_den F0 u su (by omega) (b2 F0 f2), by omega, by omega, ?_⟩
  have hj : Lib.join [coS ⟨[75], t⟩ st, coS ⟨[76], u⟩ su] [59, 32] = [75, 32, 58, 32] ++ st ++ [59, 32] ++ ([76, 32, 58, 32] ++ su) := by simp [Lib.join, List.intercalate, coS]
  have h1 : ∀ x : List UInt8, Lib.join [x] [59, 32] = x := fun x => by simp [Lib.join, List.intercalate]
  have hk : short ([100, 97, 116, 97, 32] ++ Lib.join ([68] :: parN n) [32] ++ [32, 123] ++ Lib.join [coS ⟨[75], t⟩ st, coS ⟨[76], u⟩ su] [59, 32] ++ [125]) = some ([100, 97, 116, 97, 32, 68] ++ parT n ++ [32, 123, 75, 32, 58, 32] ++ st ++ [59, 32, 76, 32, 58, 32] ++ su ++ [125]) := by
    rw [hj, par_join n hn, short_ok]
    · simp [List.append_assoc]
    · simp only [List.length_append, List.length_cons, List.length_nil, parT_len]; omega
  have hd : dpR F0 F0 (dataD n t u) = some ([100, 97, 116, 97, 32, 68] ++ parT n ++ [32, 123, 75, 32, 58, 32] ++ st ++ [59, 32, 76, 32, 58, 32] ++ su ++ [125]) := by
    unfold dpR dataD
    simp only [beq_self_eq_true, if_true, cosP, a2 F0 f1, b2 F0 f2, hk]
  unfold progP
  simp only [desP, hd, h1]
  exact short_ok (by simp only [List.length_append, List.length_cons, List.length_nil, parT_len]; omega)
end Go.Proofs
namespace Go.Proofs
open Go.Av
set_option maxHeartbeats 16000000
set_option maxRecDepth 100000
theorem data_den (s r : List UInt8) (n : Int) : den E 10 [.str s, .str r, .int .i64 n] [] = some (.bool true, []) := by
  rw [den_eq prim_10, body_10]
  have ha := awake_den
  have e1 : decide ((s.length : Int) > 900) = decide (s.length > 900) := by simp; omega
  have e2 : decide ((r.length : Int) > 900) = decide (r.length > 900) := by simp; omega
  cases c1 : decide (s.length > 900)
  rotate_left
  · simp only [go_sem, ↓reduceIte, Nat.reduceEqDiff, Nat.reduceAdd, reduceCtorEq, Tryz.f10, ha, e1, c1]
  cases c2 : decide (r.length > 900)
  rotate_left
  · simp only [go_sem, ↓reduceIte, Nat.reduceEqDiff, Nat.reduceAdd, Nat.zero_ne_one, reduceCtorEq, beq_self_eq_true, Tryz.f10, ha, e1, c1, e2, c2]
  cases c3 : decide (n < 0)
  rotate_left
  · simp only [go_sem, ↓reduceIte, Nat.reduceEqDiff, Nat.reduceAdd, Nat.zero_ne_one, reduceCtorEq, beq_self_eq_true, Tryz.f10, ha, e1, c1, e2, c2, c3]
  cases c4 : decide (n > 6)
  rotate_left
  · simp only [go_sem, ↓reduceIte, Nat.reduceEqDiff, Nat.reduceAdd, Nat.zero_ne_one, reduceCtorEq, beq_self_eq_true, Tryz.f10, ha, e1, c1, e2, c2, c3, c4]
  rcases tparse_ex s with ⟨e, h0, d1⟩ | ⟨ls, t, hs, ht, dt, gt, zt, d1⟩
  · rcases tparse_ex r with ⟨e', h0', d2⟩ | ⟨lr, u, hr, hu, du, gu, zu, d2⟩
    · rw [zTyV] at d1 d2
      simp only [go_sem, ↓reduceIte, Nat.reduceEqDiff, Nat.reduceAdd, Nat.reduceLeDiff, Nat.zero_ne_one, Nat.reduceLT, reduceCtorEq, beq_self_eq_true, Tryz.f10, ha, e1, c1, e2, c2, c3, c4, d1, h0, d2]
    · rw [zTyV] at d1
      rw [tyV_eq] at d2
      simp only [go_sem, ↓reduceIte, Nat.reduceEqDiff, Nat.reduceAdd, Nat.reduceLeDiff, Nat.zero_ne_one, Nat.reduceLT, reduceCtorEq, beq_self_eq_true, Tryz.f10, ha, e1, c1, e2, c2, c3, c4, d1, h0, d2]
  · rcases tparse_ex r with ⟨e', h0', d2⟩ | ⟨lr, u, hr, hu, du, gu, zu, d2⟩
    · rw [tyV_eq] at d1
      rw [zTyV] at d2
      simp only [go_sem, ↓reduceIte, Nat.reduceEqDiff, Nat.reduceAdd, Nat.reduceLeDiff, Nat.zero_ne_one, Nat.reduceLT, reduceCtorEq, beq_self_eq_true, Tryz.f10, ha, e1, c1, e2, c2, c3, c4, d1, h0', d2, bne_self_eq_false]
    · have m1 : s.length ≤ 900 := by simpa using c1
      have m2 : r.length ≤ 900 := by simpa using c2
      have m3 : 0 ≤ n := by simpa using c3
      have m4 : n ≤ 6 := by simpa using c4
      obtain ⟨m, rfl⟩ : ∃ m : Nat, n = m := ⟨n.toNat, by omega⟩
      have m5 : m ≤ 6 := by omega
      obtain ⟨st, su, p1, p2, l1, l2, hp⟩ := data_print m5 gt gu zt zu
      have hd := data_read m5 m1 m2 hs hr ht hu dt du
      have w1 := (parse_two hd).1
      have w2 := (prog_two hd rfl hp).1
      have s1 := same_self t gt (by omega)
      have s2 := same_self u gu (by omega)
      have lp := parT_len m
      unfold dataT at w1
      simp only [parV, List.map_cons, List.map_nil, deV, deC, dataD, coV] at w1 w2
      obtain ⟨fin, hfin⟩ : ∃ fin, fin = (some (.bool true, []) : Option (AVal × Heap)) := ⟨_, rfl⟩
      rw [← hfin]
      rw [tyV_eq] at d1 d2 s1 s2 p1 p2
      simp only [go_sem, ↓reduceIte, Nat.reduceEqDiff, Nat.reduceAdd, Nat.reduceLeDiff, Nat.zero_ne_one, Nat.reduceLT, reduceCtorEq, beq_self_eq_true, Tryz.f10, ha, e1, c1, e2, c2, c3, c4, d1, d2, bne_self_eq_false]
      refine run_for (fun i => ⟨[(0, .str s), (1, .str r), (2, .int .i64 m), (7, .bool true), (8, .ptr (.loc 8) 0), (10, .ptr (.loc 10) 0), (12, .str (parT i)), (13, .int .i64 i)], [], [(8, [.int .i64 t.kind, .str t.name, .int .i64 t.n, .slice (tysV t.args)]), (10, [.int .i64 u.kind, .str u.name, .int .i64 u.n, .slice (tysV u.args)])], 1⟩) m ?_ ?_ ?_
      · simp only [go_sem, ↓reduceIte, Nat.reduceEqDiff, Nat.zero_ne_one, reduceCtorEq, Int.cast_ofNat_Int, parT]
      · intro i hi h
        have b1 : IntKind.i64.wrap (97 + (i : Int)) = ((97 + i : Nat) : Int) := wrapN (97 + i) (by omega)
        have b2 : IntKind.u8.wrap ((97 + i : Nat) : Int) = ((97 + i : Nat) : Int) := IntWalk.u8_in _ (by omega)
        have b3 : IntKind.i64.wrap ((i : Int) + 1) = ((i + 1 : Nat) : Int) := wrapN (i + 1) (by omega)
        have b4 : (parT i).length + 1 ≤ strMax := by rw [parT_len]; unfold strMax; omega
        have b5 : (parT i ++ [32]).length + 1 ≤ strMax := by rw [List.length_append, parT_len]; unfold strMax; simp; omega
        simp only [go_sem, ↓reduceIte, Nat.reduceEqDiff, Nat.reduceAdd, Nat.reduceMul, Nat.reduceLeDiff, Nat.reduceLT, reduceCtorEq, natlt, decide_eq_true hi, b1, b2, b4, b5, bytesOf, tonat]
        refine h _ ?_
        simp only [go_sem, ↓reduceIte, Nat.reduceEqDiff, Nat.zero_ne_one, reduceCtorEq, b3, parT, List.append_assoc]
      · clear hd hp hs hr ht hu
        simp only [List.cons_append, List.nil_append] at w1 w2
        simp (maxSteps := 10000000) (disch := ((try simp only [List.length_append, List.length_cons, List.length_nil]); omega)) only [go_sem, ↓reduceIte, Nat.reduceEqDiff, Nat.reduceAdd, Nat.reduceLeDiff, Nat.zero_ne_one, Nat.one_ne_zero, reduceCtorEq, beq_self_eq_true, decide_false, Int.reduceLE, Int.cast_ofNat_Int, le_str, natlt, Nat.lt_irrefl, w1, w2, bne_i, List.length_map, parN_len, s1, s2, p1, p2, Int.le_refl, Int.toNat_zero, Int.toNat_one, hfin]
end Go.Proofs
