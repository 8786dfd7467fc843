/- What is applied is put. -/
import Derived.Test.YteidnocfcilajaaGreatDoorAvM
namespace Go.Proofs
open Go.Av
set_option maxHeartbeats 64000000
set_option maxRecDepth 100000
/-! a word -/
def wordO (s : List UInt8) : Bool := (scanO s).2 == 0 && (match (scanO s).1 with
  | [t] => t.kind == 1 && t.text == s
  | _ => false)
theorem word_den (s : List UInt8) : den E 47 [.str s] [] = some (.bool (wordO s), []) := by
  rw [den_eq prim_47, body_47]
  obtain ⟨pos, hT⟩ := scanO_T s
  have hsc := scanAll_den s
  rw [hT] at hsc
  unfold wordO
  generalize (scanO s).1 = l at *
  generalize (scanO s).2 = e at *
  cases he : e == 0
  · simp only [go_sem, ↓reduceIte, Nat.reduceEqDiff, Nat.reduceAdd, reduceCtorEq, Tryz.f47, hsc, he]
  · cases l with
    | nil =>
      have z : (((0 : Nat) : Int) == 1) = false := rfl
      simp only [go_sem, ↓reduceIte, Nat.reduceEqDiff, Nat.reduceAdd, reduceCtorEq, Int.cast_ofNat_Int, Tryz.f47, hsc, he, toksV_nil, Int.reduceBEq]
    | cons t r =>
      cases r with
      | nil =>
        rw [toksV_cons, toksV_nil] at hsc
        cases hk : t.kind == 1
        · simp only [go_sem, ↓reduceIte, Nat.reduceEqDiff, Nat.reduceAdd, reduceCtorEq, Int.cast_ofNat_Int, Tryz.f47, hsc, he, hk, Int.le_refl, Int.toNat_zero]
        · cases ht : t.text == s
          · simp only [go_sem, ↓reduceIte, Nat.reduceEqDiff, Nat.reduceAdd, reduceCtorEq, Int.cast_ofNat_Int, Tryz.f47, hsc, he, hk, ht, Int.le_refl, Int.toNat_zero]
          · simp only [go_sem, ↓reduceIte, Nat.reduceEqDiff, Nat.reduceAdd, reduceCtorEq, Int.cast_ofNat_Int, Tryz.f47, hsc, he, hk, ht, Int.le_refl, Int.toNat_zero]
      | cons t2 r =>
        have hn : (((toksV (t :: t2 :: r)).length : Int) == 1) = false := by
          unfold toksV; simp; omega
        simp only [go_sem, ↓reduceIte, Nat.reduceEqDiff, Nat.reduceAdd, reduceCtorEq, Tryz.f47, hsc, he, hn]
theorem word_len {s : List UInt8} (h : wordO s = true) : s.length ≤ 16 := by
  unfold wordO at h
  rw [Bool.and_eq_true] at h
  have h2 := h.2
  split at h2
  · rename_i t ht
    rw [Bool.and_eq_true] at h2
    have := (scanO_ok s).2 t (by rw [ht]; exact List.mem_cons_self ..)
    rw [← eq_of_beq h2.2]
    exact this.2
  · cases h2
/-! what is applied is put -/
theorem spine_two {e x y : Ex} (he : e = .mk 4 [] false zTy [x, y] []) (h4 : (x.kind == 4) = false) : spineE e.tot e [] = (x, [y]) := by
  subst he
  obtain ⟨g, hg⟩ : ∃ g, (Ex.mk 4 [] false zTy [x, y] []).tot = g + 1 := ⟨_, (Nat.succ_pred_eq_of_pos (tot_pos _)).symm⟩
  rw [hg, spine_step rfl rfl, spine_stop h4]
theorem step_lam (n : List UInt8) (x y : Ex) (hb : (Ex.mk 4 [] false zTy [.mk 3 n false zTy [x] [], y] []).tot < 1000000) : stepO 1 [] (.mk 4 [] false zTy [.mk 3 n false zTy [x] [], y] []) = some (putE n y x, 1) := by
  have hs := spine_two (e := .mk 4 [] false zTy [.mk 3 n false zTy [x] [], y] []) rfl rfl
  unfold stepO
  rw [if_pos hb, hs]
  rfl
theorem step_let (n : List UInt8) (x y : Ex) (hb : (Ex.mk 5 n false zTy [y, x] []).tot < 1000000) : stepO 1 [] (.mk 5 n false zTy [y, x] []) = some (putE n y x, 1) := by
  have hs : spineE (Ex.mk 5 n false zTy [y, x] []).tot (.mk 5 n false zTy [y, x] []) [] = (.mk 5 n false zTy [y, x] [], []) := spine_stop rfl
  unfold stepO
  rw [if_pos hb, hs]
  rfl
def kOf (y : Ex) : Ex := .mk 4 [] false zTy [.mk 2 [75] false zTy [] [], y] []
def altsOf (n : List UInt8) (x y : Ex) : List Al := [.mk [76] [] y, .mk [75] [n] x, .mk [75] [] y]
theorem step_case (n : List UInt8) (x y : Ex) (hb : (Ex.mk 6 [] false zTy [kOf y] (altsOf n x y)).tot < 1000000) : stepO 1 [] (.mk 6 [] false zTy [kOf y] (altsOf n x y)) = some (putE n y x, 1) := by
  have hs : spineE (Ex.mk 6 [] false zTy [kOf y] (altsOf n x y)).tot (.mk 6 [] false zTy [kOf y] (altsOf n x y)) [] = (.mk 6 [] false zTy [kOf y] (altsOf n x y), []) := spine_stop rfl
  have hk := spine_two (e := kOf y) (x := .mk 2 [75] false zTy [] []) (y := y) rfl rfl
  have ht : (kOf y).tot < 1000000 ∧ x.tot < 1000000 := by
    rw [tot_mk, tots_one] at hb
    unfold altsOf at hb
    rw [paltots_cons, paltots_cons, paltot_eq, paltot_eq, almk_body, almk_body] at hb
    omega
  have hsp : splitO (.mk 6 [] false zTy [kOf y] (altsOf n x y)) = some (putE n y x, 1) := by
    show (if (altsOf n x y).length = 0 then _ else if (kOf y).tot < 1000000 then _ else none) = _
    rw [if_neg (show ¬ (altsOf n x y).length = 0 from show ¬ ((3 : Nat) = 0) by decide), if_pos ht.1, hk]
    show (match (if x.tot < 1000000 then some (putE n y x) else none) with | some y => some (y, (1 : Int)) | none => none) = _
    rw [if_pos ht.2]
  unfold stepO
  rw [if_pos hb, hs]
  show (match splitO (.mk 6 [] false zTy [kOf y] (altsOf n x y)) with | some (y, o) => if o != 5 then some (y, o) else _ | none => none) = _
  rw [hsp]
  rfl
theorem fast_den (s r name : List UInt8) : den E 12 [.str s, .str r, .str name] [] = some (.bool true, []) := by
  rw [den_eq prim_12, body_12]
  have ha := awake44_den
  have hw := word_den name
  obtain ⟨p, hp⟩ := pexO_tot s
  obtain ⟨q, hq⟩ := pexO_tot r
  have a1 := (pex_two hp).1
  have b1 := (pex_two hq).1
  unfold pexV at a1 b1
  obtain ⟨x, ex⟩ := p
  obtain ⟨y, ey⟩ := q
  simp only at a1 b1
  cases h0 : (ex != 0)
  rotate_left
  · simp only [exC_eq] at a1 b1
    simp only [go_sem, ↓reduceIte, Nat.reduceEqDiff, Nat.reduceAdd, Nat.reduceLeDiff, Nat.reduceLT, reduceCtorEq, Tryz.f12, ha, a1, b1, hw, h0]
  cases h1 : (ey != 0)
  rotate_left
  · simp only [exC_eq] at a1 b1
    simp only [go_sem, ↓reduceIte, Nat.reduceEqDiff, Nat.reduceAdd, Nat.reduceLeDiff, Nat.reduceLT, reduceCtorEq, Tryz.f12, ha, a1, b1, hw, h0, h1]
  cases h2 : decide ((s.length : Int) > 400)
  rotate_left
  · simp only [exC_eq] at a1 b1
    simp only [go_sem, ↓reduceIte, Nat.reduceEqDiff, Nat.reduceAdd, Nat.reduceLeDiff, Nat.reduceLT, reduceCtorEq, Tryz.f12, ha, a1, b1, hw, h0, h1, h2]
  cases h3 : decide ((r.length : Int) > 400)
  rotate_left
  · simp only [exC_eq] at a1 b1
    simp only [go_sem, ↓reduceIte, Nat.reduceEqDiff, Nat.reduceAdd, Nat.reduceLeDiff, Nat.reduceLT, reduceCtorEq, Tryz.f12, ha, a1, b1, hw, h0, h1, h2, h3]
  cases h5 : wordO name
  · rw [h5] at hw
    simp only [exC_eq] at a1 b1
    simp only [go_sem, ↓reduceIte, Nat.reduceEqDiff, Nat.reduceAdd, Nat.reduceLeDiff, Nat.reduceLT, reduceCtorEq, Tryz.f12, ha, a1, b1, hw, h0, h1, h2, h3]
  rw [h5] at hw
  have hn := word_len h5
  have z0 : ex = 0 := by rw [bne_not] at h0; simpa using h0
  have z1 : ey = 0 := by rw [bne_not] at h1; simpa using h1
  have z2 : s.length ≤ 400 := by have := of_decide_eq_false h2; omega
  have z3 : r.length ≤ 400 := by have := of_decide_eq_false h3; omega
  obtain ⟨gx, tx⟩ := pex_short hp z0
  obtain ⟨gy, ty⟩ := pex_short hq z1
  simp only at gx tx gy ty
  have tp := putE_tot name y _ x (Nat.le_refl _)
  have tm : x.tot * y.tot ≤ 800 * 800 := Nat.mul_le_mul (by omega) (by omega)
  have d1 := eput_den _ x y name (Nat.le_refl _) (by omega)
  have gp := gy.put name gx
  obtain ⟨t, t1, t2⟩ := xpR_tot gp (by omega)
  have t3 := t2 3000000 3000000 (by omega) (by omega)
  have d3 := xprint_den 3000000 3000000 _ t (by omega) t3
  have b0 : (Ex.mk 4 [] false zTy [.mk 3 name false zTy [x] [], y] []).tot < 1000000 := by
    rw [tot_mk, tots_two, tot_mk, tots_one, altots_nil, zTy_sz]; omega
  have b2 : (Ex.mk 5 name false zTy [y, x] []).tot < 1000000 := by
    rw [tot_mk, tots_two, altots_nil, zTy_sz]; omega
  have b3 : (Ex.mk 6 [] false zTy [kOf y] (altsOf name x y)).tot < 1000000 := by
    unfold kOf altsOf
    rw [tot_mk, tots_one, tot_mk, tots_two, tot_mk, tots_nil, altots_nil, zTy_sz]
    rw [paltots_cons, paltots_cons, paltots_cons, paltot_eq, paltot_eq, paltot_eq, altots_nil, almk_body, almk_body, almk_body, almk_vars, almk_vars, almk_vars, List.length_cons, List.length_nil]
    omega
  have e1 := (step_den [] (by decide) (fun d hd => nomatch hd) 1 _ _ (.app _ _ (.lam name x hn gx) gy) (step_lam name x y b0)).1
  have e2 := (step_den [] (by decide) (fun d hd => nomatch hd) 1 _ _ (.letu name y x hn gy gx) (step_let name x y b2)).1
  have gk : GX (kOf y) := .app _ _ (.nam 2 [75] (.inr rfl) (by decide)) gy
  have e3 := (step_den [] (by decide) (fun d hd => nomatch hd) 1 _ _ (.cas (kOf y) (altsOf name x y) gk (fun a ha => by
      unfold altsOf at ha
      simp only [List.mem_cons, List.not_mem_nil, or_false] at ha
      rcases ha with rfl | rfl | rfl
      · exact gy
      · exact gx
      · exact gy) (fun a ha => by
      unfold altsOf at ha
      simp only [List.mem_cons, List.not_mem_nil, or_false] at ha
      rcases ha with rfl | rfl | rfl
      · exact ⟨show ([76] : List UInt8).length ≤ 16 by decide, fun v hv => nomatch hv⟩
      · refine ⟨show ([75] : List UInt8).length ≤ 16 by decide, fun v hv => ?_⟩
        have : v = name := by simpa [Al.vars] using hv
        rw [this]; exact hn
      · exact ⟨show ([75] : List UInt8).length ≤ 16 by decide, fun v hv => nomatch hv⟩)) (step_case name x y b3)).1
  unfold kOf altsOf at e3
  simp only at e1 e2 e3
  generalize putE name y x = z at *
  simp only [exC_eq z] at e1 e2 e3 d1 d3
  simp only [exC_mk, exsV_cons, exsV_nil, alsV_cons, alsV_nil, alV_C, alC_eq, almk_con, almk_vars, almk_body, List.map_cons, List.map_nil, zTy_k, zTy_s, zTy_n, zTy_a, tysV_nil, exC_eq x, exC_eq y] at a1 b1 d1 e1 e2 e3
  simp only [go_sem, ↓reduceIte, Nat.reduceEqDiff, Nat.reduceAdd, Nat.reduceMul, Nat.reduceLeDiff, Nat.reduceLT, reduceCtorEq, Tryz.f12, ha, a1, b1, hw, h0, h1, h2, h3, d1, d3, e1, e2, e3]
end Go.Proofs
