/- Coercions are read alike; what is put stays small, and as it is read. -/
import Derived.Test.YtjfghnkmladbkaaGreatDoorAvM
import Derived.Test.YtjfghnkmladbkaaGreatDoorAvL
import Derived.Test.YtjfghnkmladbkaaGreatDoorAvQ
import Derived.Test.YtjfghnkmladbkaaGreatDoorAvR
import Derived.Test.YtjfghnkmladbkaaGreatDoorAvJ
namespace Go.Proofs
open Go.Av
set_option maxHeartbeats 32000000
set_option maxRecDepth 100000
/-! reading a coercion: the program and the document -/
theorem r5deep_den : ∀ (n : Nat) (c : Cx) (a : Nat), c.tot ≤ n → c.tot < 1000000 → a ≤ 1000000 → den E 69 [.agg (cxC c), .int .i64 a] [] = some (.bool (dpC a c), []) := by
 intro n
 induction n with
 | zero => intro c a h; have := cx_tot_pos c; omega
 | succ n ih =>
  intro c a hn hs ha
  have ht := cx_tot_eq c
  have hl1 := cx_tots_len c.kids
  have hp1 := sz_pos c.ty
  have c2 := rdepth_den _ c.ty (Nat.le_refl _) (by omega)
  rw [tyV_eq] at c2
  rw [den_eq prim_69, body_69, dpC_eq, cxC_eq]
  have g50 : decide ((a : Int) ≥ 50) = decide (50 ≤ a) := by simp; omega
  cases q0 : decide (50 ≤ a)
  · have h49 : ¬ 50 ≤ a := by simpa using q0
    obtain ⟨own, hown⟩ : ∃ b, ((c.kind == 2 && decide (c.ty.depth > 50)) || (c.kind == 9 && decide (c.ty.depth > 50))) = b := ⟨_, rfl⟩
    rw [hown]
    cases own
    · obtain ⟨fin, hfin⟩ : ∃ fin, fin = some (AVal.bool (c.kids.any (dpC (a + 1))), ([] : Heap)) := ⟨_, rfl⟩
      simp only [Bool.false_or]
      rw [← hfin]
      have w0 : IntKind.i64.wrap ((a : Int) + 1) = ((a + 1 : Nat) : Int) := wrapN (a + 1) (by omega)
      have key : (match (c.kind == 2 : Bool) with | true => decide (c.ty.depth > 50) | false => false) = false ∧ (match (c.kind == 9 : Bool) with | true => decide (c.ty.depth > 50) | false => false) = false := by
       cases h2 : c.kind == 2 <;> cases h9 : c.kind == 9 <;> simp_all
      cases h2 : c.kind == 2
      all_goals cases h9 : c.kind == 9
      all_goals cases hd : decide (c.ty.depth > 50)
      all_goals first
       | (exfalso; rw [h2, h9, hd] at hown; simp at hown; done)
       | (exfalso; have := eq_of_beq h2; rw [this] at h9; simp at h9; done)
       | (simp only [go_sem, Tryz.f69, c2, g50, natDeep, q0, h2, h9, hd]
          refine run_ind (fun i : Nat => i ≤ c.kids.length ∧ (c.kids.take i).any (dpC (a + 1)) = false) (fun i => ⟨[(1, .int .i64 a), (2, .ptr (.loc 2) 0), (5, .int .i64 i)], [], [(2, cxC c)], 1⟩) (fun _ => fin) (fun i => c.kids.length - i) 0 ⟨Nat.zero_le _, by simp⟩ ?_ ?_
          · simp only [go_sem, cxC_eq]
          · rintro i ⟨hi, h0⟩ hrun
            by_cases hc : i < c.kids.length
            · have hlt := natlt_t hc
              have hx : c.kids[i]? = some c.kids[i] := List.getElem?_eq_getElem hc
              have hg : (cxsV c.kids)[i]? = some (.agg (cxC c.kids[i])) := by rw [cxsV_get, hx]; rfl
              have hm := cx_tots_mem (List.getElem_mem hc)
              have d := ih c.kids[i] (a + 1) (by omega) (by omega) (by omega)
              obtain ⟨ya, yb⟩ := any_take hx h0
              have w1 : IntKind.i64.wrap ((i : Int) + 1) = ((i + 1 : Nat) : Int) := wrapN (i + 1) (by omega)
              simp only [cxC_eq] at hg d
              cases hd2 : dpC (a + 1) c.kids[i]
              · rw [hd2] at d
                simp only [go_sem, cxC_eq, cxsV_len, hlt, natge0, tonat, hg, w0, d]
                refine hrun (i + 1) _ ⟨hc, yb hd2⟩ (by omega) ?_
                simp only [go_sem, cxC_eq, w1]
              · rw [hd2] at d
                rw [hfin, ya hd2]
                simp only [go_sem, cxC_eq, cxsV_len, hlt, natge0, tonat, hg, w0, d]
            · have hlt := natlt_f hc
              have hik : i = c.kids.length := by omega
              rw [hik, List.take_length] at h0
              rw [hfin, h0]
              simp only [go_sem, cxC_eq, cxsV_len, hlt])
    · simp only [Bool.false_or, Bool.true_or]
      cases h2 : c.kind == 2
      all_goals cases h9 : c.kind == 9
      all_goals cases hd : decide (c.ty.depth > 50)
      all_goals first
       | (exfalso; rw [h2, h9, hd] at hown; simp at hown; done)
       | (exfalso; have := eq_of_beq h2; rw [this] at h9; simp at h9; done)
       | simp only [go_sem, Tryz.f69, c2, g50, natDeep, q0, h2, h9, hd]
  · simp only [go_sem, Tryz.f69, g50, q0, Bool.true_or]
def endC (x : Cx) (r : Rd) : Cx × Int := if r.bad || decide (0 < r.l.length) then (zCx, 50) else if dpC 0 x then (zCx, 3) else (x, 0)
def coO (f : Nat) (s : List UInt8) : Option (Cx × Int) := if (scanO s).2 != 0 then some (zCx, (scanO s).2) else match cxR f .co ⟨(scanO s).1, false⟩ with
 | none => none
 | some (x, r) => some (endC x r)
theorem coRead_ok {f : Nat} {s : List UInt8} {x : Cx} {r : Rd} (h : cxR f .co ⟨(scanO s).1, false⟩ = some (x, r)) (hg : r.bad = false) : GC x ∧ x.tot ≤ (scanO s).1.length := by
 obtain ⟨h1, h2⟩ := scanO_F s
 have := cxR_ok _ _ _ _ _ h2 h hg
 exact ⟨this.1, by have := this.2; simp only at this; omega⟩
theorem coO_tot (s : List UInt8) : ∃ p, coO F0 s = some p := by
 obtain ⟨h1, h2⟩ := scanO_F s
 unfold coO
 split
 · exact ⟨_, rfl⟩
 · obtain ⟨⟨x, r⟩, h3⟩ := cxR_tot F0 .co ⟨(scanO s).1, false⟩ h2 trivial (by unfold F0; simp only [rankK]; omega)
   rw [h3]; exact ⟨_, rfl⟩
theorem coO_good {f : Nat} {s : List UInt8} {p : Cx × Int} (h : coO f s = some p) (h0 : p.2 = 0) : GC p.1 ∧ p.1.tot ≤ (scanO s).1.length := by
 unfold coO at h
 split at h
 · rename_i he
   injection h with h; subst h
   simp only at h0
   rw [h0] at he
   exact absurd he (by decide)
 · split at h
   · cases h
   · rename_i x r hd
     injection h with h; subst h
     unfold endC at h0 ⊢
     cases hb : r.bad
     · have k := coRead_ok hd hb
       rw [hb] at h0
       split at h0
       · exact absurd h0 (by decide)
       · split at h0
         · exact absurd h0 (by decide)
         · rename_i h3 h4
           rw [if_neg (by simpa using h3), if_neg h4]
           exact ⟨k.1, k.2⟩
     · rw [hb] at h0; simp at h0
theorem cparse_den {f : Nat} {s : List UInt8} {p : Cx × Int} (h : coO f s = some p) : den E 19 [.str s] [] = some (.tup [.agg (cxC p.1), .int .i64 p.2], []) := by
 rw [den_eq prim_19, body_19]
 obtain ⟨hlen, hok⟩ := scanO_F s
 have hgood : ∀ x r, cxR f .co ⟨(scanO s).1, false⟩ = some (x, r) → r.bad = false → x.tot < 1000000 := fun x r h hg => by have := (coRead_ok h hg).2; omega
 obtain ⟨pos, hT⟩ := scanO_T s
 have hsc := scanAll_den s
 rw [hT] at hsc
 unfold coO at h
 generalize (scanO s).1 = l at *
 generalize (scanO s).2 = e at *
 cases he : e == 0
 · have he' : (e != 0) = true := by rw [bne_not, he]; rfl
   rw [he', if_pos rfl] at h
   injection h with h; subst h
   simp only [go_sem, Tryz.f19, hsc, he', zCxC]
 · have he' : (e != 0) = false := by rw [bne_not, he]; rfl
   rw [he'] at h
   simp only [Bool.false_eq_true, if_false] at h
   split at h
   · cases h
   · rename_i x r hx
     injection h with h; subst h
     have d1 := cread_den f l (x, r) hok (by omega) hx
     unfold endC
     cases hb : r.bad
     · simp only [hb, Bool.false_eq_true, if_false] at d1
       rw [cxC_eq] at d1
       have hgt : decide (((toksV r.l).length : Int) > 0) = decide (0 < r.l.length) := by rw [toksV_len]; simp
       cases hn : decide (0 < r.l.length)
       · have ht := hgood x r hx hb
         have e2 := cdepth_den _ x (Nat.le_refl _) ht
         rw [cxC_eq] at e2
         have g1 : decide ((x.within : Int) > 50) = decide (x.within > 50) := by simp; omega
         have g2 : decide ((x.tdep : Int) > 50) = decide (x.tdep > 50) := by simp; omega
         have q : dpC 0 x = (decide (x.within > 50) || decide (x.tdep > 50)) := by unfold dpC; rw [Nat.zero_add]
         rw [q]
         cases q1 : decide (x.within > 50) <;> cases q2 : decide (x.tdep > 50)
         · simp only [go_sem, Tryz.f19, hsc, he', d1, hgt, hn, e2, g1, g2, q1, q2, cxC_eq, Bool.or_false]
         · simp only [go_sem, Tryz.f19, hsc, he', d1, hgt, hn, e2, g1, g2, q1, q2, zCxC, Bool.or_false, Bool.or_true]
         · simp only [go_sem, Tryz.f19, hsc, he', d1, hgt, hn, e2, g1, q1, zCxC, Bool.or_false]
         · simp only [go_sem, Tryz.f19, hsc, he', d1, hgt, hn, e2, g1, q1, zCxC, Bool.or_false, Bool.or_true]
       · simp only [go_sem, Tryz.f19, hsc, he', d1, hgt, hn, zCxC, Bool.false_or]
     · simp only [hb, if_true] at d1
       rw [zCxC] at d1
       simp only [go_sem, Tryz.f19, hsc, he', d1, zCxC, Bool.true_or]
theorem r5parse_den {f : Nat} {s : List UInt8} {p : Cx × Int} (h : coO f s = some p) : den E 20 [.str s] [] = some (.tup [.agg (cxC p.1), .int .i64 p.2], []) := by
 rw [den_eq prim_20, body_20]
 obtain ⟨hlen, hok⟩ := scanO_F s
 have hgood : ∀ x r, cxR f .co ⟨(scanO s).1, false⟩ = some (x, r) → r.bad = false → x.tot < 1000000 := fun x r h hg => by have := (coRead_ok h hg).2; omega
 obtain ⟨pos, hT⟩ := scanO_T s
 have hsc := scanAll1_den s
 rw [hT] at hsc
 unfold coO at h
 generalize (scanO s).1 = l at *
 generalize (scanO s).2 = e at *
 cases he : e == 0
 · have he' : (e != 0) = true := by rw [bne_not, he]; rfl
   rw [he', if_pos rfl] at h
   injection h with h; subst h
   simp only [go_sem, Tryz.f20, hsc, he', zCxC]
 · have he' : (e != 0) = false := by rw [bne_not, he]; rfl
   rw [he'] at h
   simp only [Bool.false_eq_true, if_false] at h
   split at h
   · cases h
   · rename_i x r hx
     injection h with h; subst h
     have d1 := r5read_den l hok (by omega) f ⟨l, false⟩ (x, r) (List.suffix_refl _) rfl hx
     simp only [RC, Nat.sub_self, Int.natCast_zero] at d1
     obtain ⟨x', d1, hxx⟩ := d1
     have hsr := cxR_suf _ _ _ _ _ hx
     have hne := idx_ne hsr
     simp only at hne hxx d1
     rw [cxC_eq] at d1
     unfold endC
     rw [← hne]
     cases hc : (idx l r != ((l.length : Nat) : Int))
     · rw [hc] at hne
       have hb : r.bad = false := by revert hne; cases r.bad <;> simp
       have hxe := hxx hb
       subst hxe
       have ht := hgood x' r hx hb
       have e2 := r5deep_den _ x' 0 (Nat.le_refl _) ht (by omega)
       rw [cxC_eq, Int.natCast_zero] at e2
       cases q1 : dpC 0 x'
       · rw [q1] at e2
         simp only [go_sem, Tryz.f20, hsc, he', d1, toksV_len, hc, e2, cxC_eq]
       · rw [q1] at e2
         simp only [go_sem, Tryz.f20, hsc, he', d1, toksV_len, hc, e2, zCxC]
     · simp only [go_sem, Tryz.f20, hsc, he', d1, toksV_len, hc, zCxC]
end Go.Proofs
namespace Go.Proofs
open Go.Av
set_option maxHeartbeats 4000000
set_option maxRecDepth 100000
/-! what is put stays small, and as it is read -/
theorem scanO_le (s : List UInt8) : (scanO s).1.length ≤ s.length := by
 unfold scanO
 split
 · simp
 · split
   · rename_i l h
     have := scanS_ok _ _ _ _ h
     simp only [List.length_drop] at this
     simp only; omega
   · simp
theorem tmO_small {f : Nat} {s : List UInt8} {p : Tm × Int} (h : tmO f s = some p) (h0 : p.2 = 0) : p.1.tot ≤ 2 * s.length := by
 have hl := scanO_le s
 obtain ⟨h1, h2⟩ := scanO_F s
 unfold tmO at h
 split at h
 · rename_i he
   injection h with h; subst h
   simp only at h0
   rw [h0] at he
   exact absurd he (by decide)
 · split at h
   · cases h
   · rename_i x r hd
     injection h with h; subst h
     unfold endM at h0 ⊢
     cases hb : r.bad
     · have k := (trR_ok _ _ _ _ _ h2 hd hb).2
       rw [hb] at h0
       split at h0
       · exact absurd h0 (by decide)
       · split at h0
         · exact absurd h0 (by decide)
         · rename_i h3 h4
           rw [if_neg (by simpa using h3), if_neg h4]
           simp only at k ⊢; omega
     · rw [hb] at h0; simp at h0
theorem mapC_le (n : List UInt8) (c : Cx) : ∀ (m : Nat) (x : Cx), x.tot ≤ m → (mapC n c x).tot ≤ x.tot * c.tot := by
 have hu := cx_tot_pos c
 intro m
 induction m with
 | zero => intro t h; have := cx_tot_pos t; omega
 | succ m ih =>
  intro t h
  have ht := cx_tot_of t
  have hp := cx_tot_pos t
  have hs := sz_pos t.ty
  have one : ∀ a : Nat, a ≤ a * c.tot := fun a => Nat.le_mul_of_pos_right a hu
  have hk : ∀ (l : List Cx), (∀ x, x ∈ l → x ∈ t.kids) → Cx.tots (mapCs n c l) ≤ Cx.tots l * c.tot := by
   intro l
   induction l with
   | nil => intro _; simp [mapCs, Cx.tots]
   | cons x r ihr =>
    intro hl
    have hx := cx_tots_mem (hl x (List.mem_cons_self ..))
    have h1 := ih x (by omega)
    have h2 := ihr fun y hy => hl y (List.mem_cons_of_mem _ hy)
    rw [mapCs]
    simp only [Cx.tots, Nat.add_mul]
    omega
  rw [mapC_eq]
  split
  · split
    · exact Nat.le_mul_of_pos_left _ hp
    · exact one _
  · have h1 := hk t.kids fun _ h => h
    have h3 := one t.ty.sz
    simp only [Cx.tot]
    rw [ht]
    simp only [Nat.add_mul]
    omega
theorem putC_le (n : List UInt8) (c : Cx) : ∀ (m : Nat) (t : Tm), t.tot ≤ m → (putC n c t).tot ≤ t.tot * c.tot := by
 have hu := cx_tot_pos c
 intro m
 induction m with
 | zero => intro t h; have := tm_tot_pos t; omega
 | succ m ih =>
  intro t h
  have ht := tm_tot_of t
  have hs := sz_pos t.ty
  have one : ∀ a : Nat, a ≤ a * c.tot := fun a => Nat.le_mul_of_pos_right a hu
  have hk : ∀ (l : List Tm), (∀ x, x ∈ l → x ∈ t.kids) → Tm.tots (putCk n c l) ≤ Tm.tots l * c.tot := by
   intro l
   induction l with
   | nil => intro _; simp [putCk, Tm.tots]
   | cons x r ihr =>
    intro hl
    have hx := tmT_mem (hl x (List.mem_cons_self ..))
    have hcp := cx_tot_pos t.co
    have h1 := ih x (by omega)
    have h2 := ihr fun y hy => hl y (List.mem_cons_of_mem _ hy)
    rw [putCk]
    simp only [Tm.tots, Nat.add_mul]
    omega
  have ha : ∀ l : List Ta, (∀ x, x ∈ l → x ∈ t.alts) → Ta.tots (putCa n c l) ≤ Ta.tots l * c.tot := by
   intro l
   induction l with
   | nil => intro _; simp [putCa, Ta.tots]
   | cons x r ihr =>
    intro hl
    have hx := ta_tots_mem (hl x (List.mem_cons_self ..))
    have e := ta_tot_of x
    have h1 := ih x.body (by omega)
    have h2 := ihr fun y hy => hl y (List.mem_cons_of_mem _ hy)
    have h3 := one x.body.tot
    have h4 := one (x.types.length + x.cos.length + x.vars.length + 1)
    obtain ⟨xc, xt, xo, xv, xb⟩ := x
    rw [putCa]
    simp only [Ta.tots, Ta.tot, Ta.types, Ta.cos, Ta.vars, Ta.body, Nat.add_mul] at *
    split <;> omega
  rw [putC_eq]
  have h1 := hk t.kids fun _ h => h
  have h2 := ha t.alts fun _ h => h
  have h3 := one t.ty.sz
  have h4 := one t.co.tot
  have h5 := mapC_le n c _ t.co (Nat.le_refl _)
  rw [tm_tot_mk, ht]
  simp only [Nat.add_mul]
  split <;> omega
theorem mapC_GC {n : List UInt8} {c x : Cx} (hc : GC c) (h : GC x) : GC (mapC n c x) := by
 induction h with
 | var s h1 =>
  rw [mapC]
  simp only [Int.reduceBEq, if_true]
  split
  · exact hc
  · exact .var s h1
 | refl t hT => rw [mapC]; simp only [mapCs, Int.reduceBEq, Bool.false_eq_true, if_false]; exact .refl t hT
 | sym x hx ih => rw [mapC]; simp only [mapCs, Int.reduceBEq, Bool.false_eq_true, if_false]; exact .sym _ ih
 | trans x y hx hy ihx ihy => rw [mapC]; simp only [mapCs, Int.reduceBEq, Bool.false_eq_true, if_false]; exact .trans _ _ ihx ihy
 | con s l h1 hl ih =>
  rw [mapC]; simp only [mapCs_map, Int.reduceBEq, Bool.false_eq_true, if_false]
  refine .con s _ h1 fun y hy => ?_
  obtain ⟨z, hz, rfl⟩ := List.mem_map.1 hy
  exact ih z hz
 | fn x y hx hy ihx ihy => rw [mapC]; simp only [mapCs, Int.reduceBEq, Bool.false_eq_true, if_false]; exact .fn _ _ ihx ihy
 | all s x h1 hx ih => rw [mapC]; simp only [mapCs, Int.reduceBEq, Bool.false_eq_true, if_false]; exact .all s _ h1 ih
 | nth m x h1 h2 hx ih => rw [mapC]; simp only [mapCs, Int.reduceBEq, Bool.false_eq_true, if_false]; exact .nth m _ h1 h2 ih
 | inst x t hx hT ih => rw [mapC]; simp only [mapCs, Int.reduceBEq, Bool.false_eq_true, if_false]; exact .inst _ t ih hT
theorem putC_GM {n : List UInt8} {c : Cx} {t : Tm} (hu : GC c) (h : GM t) : GM (putC n c t) := by
 induction h with
 | nam k s hk h1 =>
  rw [putC]
  have : (k == 7 || k == 10) = false := by rcases hk with rfl | rfl <;> rfl
  rw [this]
  simp only [putCk, putCa, Bool.false_eq_true, if_false]; exact .nam k s hk h1
 | lam s t x h1 hT hx ih =>
  rw [putC]
  simp only [putCk, putCa, Int.reduceBEq, Bool.or_self, Bool.false_eq_true, if_false]
  exact .lam s t _ h1 hT ih
 | tlam s x h1 hx ih =>
  rw [putC]
  simp only [putCk, putCa, Int.reduceBEq, Bool.or_self, Bool.false_eq_true, if_false]
  exact .tlam s _ h1 ih
 | app x y hx hy ihx ihy =>
  rw [putC]
  simp only [putCk, putCa, Int.reduceBEq, Bool.or_self, Bool.false_eq_true, if_false]
  exact .app _ _ ihx ihy
 | tapp t x hT hx ih =>
  rw [putC]
  simp only [putCk, putCa, Int.reduceBEq, Bool.or_self, Bool.false_eq_true, if_false]
  exact .tapp t _ hT ih
 | capp c x hC hx ih =>
  rw [putC]
  simp only [putCk, putCa, Int.reduceBEq, Bool.true_or, if_true]
  exact .capp _ _ (mapC_GC hu hC) ih
 | lett s t x y h1 hT hx hy ihx ihy =>
  rw [putC]
  simp only [putCk, putCa, Int.reduceBEq, Bool.or_self, Bool.false_eq_true, if_false]
  exact .lett s t _ _ h1 hT ihx ihy
 | cas t x al hT hx hb hn ihx ihb =>
  rw [putC]
  simp only [putCk, putCa_map, Int.reduceBEq, Bool.or_self, Bool.false_eq_true, if_false]
  refine .cas t _ _ hT ihx ?_ ?_
  · intro a ha
    obtain ⟨b, hb1, rfl⟩ := List.mem_map.1 ha
    show GM (if b.cos.contains n then b.body else putC n c b.body)
    split
    · exact hb b hb1
    · exact ihb b hb1
  · intro a ha
    obtain ⟨b, hb1, rfl⟩ := List.mem_map.1 ha
    exact hn b hb1
 | cast c x hC hx ih =>
  rw [putC]
  simp only [putCk, putCa, Int.reduceBEq, Bool.or_true, if_true]
  exact .cast _ _ (mapC_GC hu hC) ih
theorem GC.gc0 {c : Cx} (h : GC c) : GC0 c := by
 have one : ∀ {P : Cx → Prop} {x : Cx}, P x → ∀ y, y ∈ [x] → P y := fun h y hy => by rw [List.mem_singleton.1 hy]; exact h
 have two : ∀ {P : Cx → Prop} {x z : Cx}, P x → P z → ∀ y, y ∈ [x, z] → P y := fun h h' y hy => by
  rcases List.mem_cons.1 hy with rfl | hy
  · exact h
  · rw [List.mem_singleton.1 hy]; exact h'
 have no : ∀ {P : Cx → Prop}, ∀ y, y ∈ ([] : List Cx) → P y := fun y hy => by cases hy
 induction h with
 | var s h1 => exact .mk _ _ _ _ _ (.inr rfl) no
 | refl t hT => exact .mk _ _ _ _ _ (.inl hT) no
 | sym x hx ih => exact .mk _ _ _ _ _ (.inr rfl) (one ih)
 | trans x y hx hy ihx ihy => exact .mk _ _ _ _ _ (.inr rfl) (two ihx ihy)
 | con s l h1 hl ih => exact .mk _ _ _ _ _ (.inr rfl) ih
 | fn x y hx hy ihx ihy => exact .mk _ _ _ _ _ (.inr rfl) (two ihx ihy)
 | all s x h1 hx ih => exact .mk _ _ _ _ _ (.inr rfl) (one ih)
 | nth m x h1 h2 hx ih => exact .mk _ _ _ _ _ (.inr rfl) (one ih)
 | inst x t hx hT ih => exact .mk _ _ _ _ _ (.inl hT) (one ih)
theorem zCx_gc0 : GC0 zCx := .mk _ _ _ _ _ (.inr rfl) (fun y hy => by cases hy)
theorem GM.gm0 {t : Tm} (h : GM t) : GM0 t := by
 have one : ∀ {P : Tm → Prop} {x : Tm}, P x → ∀ y, y ∈ [x] → P y := fun h y hy => by rw [List.mem_singleton.1 hy]; exact h
 have two : ∀ {P : Tm → Prop} {x z : Tm}, P x → P z → ∀ y, y ∈ [x, z] → P y := fun h h' y hy => by
  rcases List.mem_cons.1 hy with rfl | hy
  · exact h
  · rw [List.mem_singleton.1 hy]; exact h'
 have no : ∀ {P : Tm → Prop}, ∀ y, y ∈ ([] : List Tm) → P y := fun y hy => by cases hy
 have noa : ∀ {P : Ta → Prop}, ∀ y, y ∈ ([] : List Ta) → P y := fun y hy => by cases hy
 induction h with
 | nam k s hk h1 => exact .mk _ _ _ _ _ _ (.inr rfl) zCx_gc0 no noa
 | lam s t x h1 hT hx ih => exact .mk _ _ _ _ _ _ (.inl hT) zCx_gc0 (one ih) noa
 | tlam s x h1 hx ih => exact .mk _ _ _ _ _ _ (.inr rfl) zCx_gc0 (one ih) noa
 | app x y hx hy ihx ihy => exact .mk _ _ _ _ _ _ (.inr rfl) zCx_gc0 (two ihx ihy) noa
 | tapp t x hT hx ih => exact .mk _ _ _ _ _ _ (.inl hT) zCx_gc0 (one ih) noa
 | capp c x hC hx ih => exact .mk _ _ _ _ _ _ (.inr rfl) hC.gc0 (one ih) noa
 | lett s t x y h1 hT hx hy ihx ihy => exact .mk _ _ _ _ _ _ (.inl hT) zCx_gc0 (two ihx ihy) noa
 | cas t x al hT hx hb hn ihx ihb => exact .mk _ _ _ _ _ _ (.inl hT) zCx_gc0 (one ihx) ihb
 | cast c x hC hx ih => exact .mk _ _ _ _ _ _ (.inr rfl) hC.gc0 (one ih) noa
end Go.Proofs
