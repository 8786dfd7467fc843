/- Coercions are read alike; what is put stays small, and as it is read. -/
import Derived.Test.YtjfghnkmladbkaaGreatDoorAvM
import Derived.Test.YtjfghnkmladbkaaGreatDoorAvL
import Derived.Test.YtjfghnkmladbkaaGreatDoorAvQ
import Derived.Test.YtjfghnkmladbkaaGreatDoorAvR
import Derived.Test.YtjfghnkmladbkaaGreatDoorAvJ
namespace Go.Proofs
open Go.Av
set_option maxHeartbeats 32000000
set_option maxRecDepth 100000
/-! reading a coercion: the program and the document -/
end Go.Proofs
namespace Go.Proofs
open Go.Av
set_option maxHeartbeats 4000000
set_option maxRecDepth 100000
/-! what is put stays small, and as it is read -/
theorem scanO_le (s : List UInt8) : (scanO s).1.length ≤ s.length := by
 unfold scanO
 split
 · simp
 · split
   · rename_i l h
     have := scanS_ok _ _ _ _ h
     simp only [List.length_drop] at this
     simp only; omega
   · simp
theorem tmO_small {f : Nat} {s : List UInt8} {p : Tm × Int} (h : tmO f s = some p) (h0 : p.2 = 0) : p.1.tot ≤ 2 * s.length := by
 have hl := scanO_le s
 obtain ⟨h1, h2⟩ := scanO_F s
 unfold tmO at h
 split at h
 · rename_i he
   injection h with h; subst h
   simp only at h0
   rw [h0] at he
   exact absurd he (by decide)
 · split at h
   · cases h
   · rename_i x r hd
     injection h with h; subst h
     unfold endM at h0 ⊢
     cases hb : r.bad
     · have k := (trR_ok _ _ _ _ _ h2 hd hb).2
       rw [hb] at h0
       split at h0
       · exact absurd h0 (by decide)
       · split at h0
         · exact absurd h0 (by decide)
         · rename_i h3 h4
           rw [if_neg (by simpa using h3), if_neg h4]
           simp only at k ⊢; omega
     · rw [hb] at h0; simp at h0
theorem putV_le (n : List UInt8) (u : Tm) : ∀ (m : Nat) (t : Tm), t.tot ≤ m → 2 * (putV n u t).tot ≤ t.tot * u.tot := by
 have hu := tm_tot_pos u
 intro m
 induction m with
 | zero => intro t h; have := tm_tot_pos t; omega
 | succ m ih =>
  intro t h
  have ht := tm_tot_of t
  have hp := tm_tot_pos t
  have hs := sz_pos t.ty
  have hc := cx_tot_pos t.co
  have two : ∀ a : Nat, 2 * a ≤ a * u.tot := fun a => by rw [Nat.mul_comm]; exact Nat.mul_le_mul_left a hu
  have hk : ∀ (l : List Tm) (b : Bool) (i : Nat), (∀ x, x ∈ l → x ∈ t.kids) → 2 * Tm.tots (putVk n u b i l) ≤ Tm.tots l * u.tot := by
   intro l
   induction l with
   | nil => intro b i _; simp [putVk, Tm.tots]
   | cons x r ihr =>
    intro b i hl
    have hx := tmT_mem (hl x (List.mem_cons_self ..))
    have h1 := ih x (by omega)
    have h2 := ihr b (i + 1) fun y hy => hl y (List.mem_cons_of_mem _ hy)
    have h3 := two x.tot
    rw [putVk]
    simp only [Tm.tots, Nat.add_mul]
    split <;> omega
  have ha : ∀ l : List Ta, (∀ x, x ∈ l → x ∈ t.alts) → 2 * Ta.tots (putVa n u l) ≤ Ta.tots l * u.tot := by
   intro l
   induction l with
   | nil => intro _; simp [putVa, Ta.tots]
   | cons x r ihr =>
    intro hl
    have hx := ta_tots_mem (hl x (List.mem_cons_self ..))
    have e := ta_tot_of x
    have h1 := ih x.body (by omega)
    have h2 := ihr fun y hy => hl y (List.mem_cons_of_mem _ hy)
    have h3 := two x.body.tot
    have h4 := two (x.types.length + x.cos.length + x.vars.length + 1)
    obtain ⟨xc, xt, xo, xv, xb⟩ := x
    rw [putVa]
    simp only [Ta.tots, Ta.tot, Ta.types, Ta.cos, Ta.vars, Ta.body, Nat.add_mul] at *
    split <;> omega
  rw [putV_eq]
  split
  · exact Nat.mul_le_mul_right _ hp
  · split
    · exact two _
    · have h1 := hk t.kids (t.kind == 8 && t.name == n) 0 fun _ h => h
      have h2 := ha t.alts fun _ h => h
      have h3 := two t.ty.sz
      have h4 := two t.co.tot
      rw [tm_tot_mk, ht]
      simp only [Nat.add_mul]
      omega
theorem putV_GM {n : List UInt8} {u t : Tm} (hu : GM u) (h : GM t) : GM (putV n u t) := by
 induction h with
 | nam k s hk h1 =>
  rw [putV]
  split
  · exact hu
  · split
    · exact .nam k s hk h1
    · simp only [putVk, putVa]; exact .nam k s hk h1
 | lam s t x h1 hT hx ih =>
  rw [putV]
  simp only [putVk, putVa, Int.reduceBEq, Bool.false_and, Bool.true_and, Bool.false_eq_true, if_false]
  split
  · exact .lam s t x h1 hT hx
  · exact .lam s t _ h1 hT ih
 | tlam s x h1 hx ih =>
  rw [putV]
  simp only [putVk, putVa, Int.reduceBEq, Bool.false_and, Bool.false_eq_true, if_false]
  exact .tlam s _ h1 ih
 | app x y hx hy ihx ihy =>
  rw [putV]
  simp only [putVk, putVa, Int.reduceBEq, Bool.false_and, Bool.false_eq_true, if_false]
  exact .app _ _ ihx ihy
 | tapp t x hT hx ih =>
  rw [putV]
  simp only [putVk, putVa, Int.reduceBEq, Bool.false_and, Bool.false_eq_true, if_false]
  exact .tapp t _ hT ih
 | capp c x hC hx ih =>
  rw [putV]
  simp only [putVk, putVa, Int.reduceBEq, Bool.false_and, Bool.false_eq_true, if_false]
  exact .capp c _ hC ih
 | lett s t x y h1 hT hx hy ihx ihy =>
  rw [putV]
  simp only [putVk, putVa, Int.reduceBEq, Bool.false_and, Bool.true_and, Bool.false_eq_true, if_false]
  refine .lett s t _ _ h1 hT ?_ ?_
  · split
    · exact hx
    · exact ihx
  · split
    · exact hy
    · exact ihy
 | cas t x al hT hx hb hn ihx ihb =>
  rw [putV]
  simp only [putVk, putVa_map, Int.reduceBEq, Bool.false_and, Bool.false_eq_true, if_false]
  refine .cas t _ _ hT ihx ?_ ?_
  · intro a ha
    obtain ⟨b, hb1, rfl⟩ := List.mem_map.1 ha
    show GM (if b.vars.contains n then b.body else putV n u b.body)
    split
    · exact hb b hb1
    · exact ihb b hb1
  · intro a ha
    obtain ⟨b, hb1, rfl⟩ := List.mem_map.1 ha
    exact hn b hb1
 | cast c x hC hx ih =>
  rw [putV]
  simp only [putVk, putVa, Int.reduceBEq, Bool.false_and, Bool.false_eq_true, if_false]
  exact .cast c _ hC ih
theorem GC.gc0 {c : Cx} (h : GC c) : GC0 c := by
 have one : ∀ {P : Cx → Prop} {x : Cx}, P x → ∀ y, y ∈ [x] → P y := fun h y hy => by rw [List.mem_singleton.1 hy]; exact h
 have two : ∀ {P : Cx → Prop} {x z : Cx}, P x → P z → ∀ y, y ∈ [x, z] → P y := fun h h' y hy => by
  rcases List.mem_cons.1 hy with rfl | hy
  · exact h
  · rw [List.mem_singleton.1 hy]; exact h'
 have no : ∀ {P : Cx → Prop}, ∀ y, y ∈ ([] : List Cx) → P y := fun y hy => by cases hy
 induction h with
 | var s h1 => exact .mk _ _ _ _ _ (.inr rfl) no
 | refl t hT => exact .mk _ _ _ _ _ (.inl hT) no
 | sym x hx ih => exact .mk _ _ _ _ _ (.inr rfl) (one ih)
 | trans x y hx hy ihx ihy => exact .mk _ _ _ _ _ (.inr rfl) (two ihx ihy)
 | con s l h1 hl ih => exact .mk _ _ _ _ _ (.inr rfl) ih
 | fn x y hx hy ihx ihy => exact .mk _ _ _ _ _ (.inr rfl) (two ihx ihy)
 | all s x h1 hx ih => exact .mk _ _ _ _ _ (.inr rfl) (one ih)
 | nth m x h1 h2 hx ih => exact .mk _ _ _ _ _ (.inr rfl) (one ih)
 | inst x t hx hT ih => exact .mk _ _ _ _ _ (.inl hT) (one ih)
theorem zCx_gc0 : GC0 zCx := .mk _ _ _ _ _ (.inr rfl) (fun y hy => by cases hy)
theorem GM.gm0 {t : Tm} (h : GM t) : GM0 t := by
 have one : ∀ {P : Tm → Prop} {x : Tm}, P x → ∀ y, y ∈ [x] → P y := fun h y hy => by rw [List.mem_singleton.1 hy]; exact h
 have two : ∀ {P : Tm → Prop} {x z : Tm}, P x → P z → ∀ y, y ∈ [x, z] → P y := fun h h' y hy => by
  rcases List.mem_cons.1 hy with rfl | hy
  · exact h
  · rw [List.mem_singleton.1 hy]; exact h'
 have no : ∀ {P : Tm → Prop}, ∀ y, y ∈ ([] : List Tm) → P y := fun y hy => by cases hy
 have noa : ∀ {P : Ta → Prop}, ∀ y, y ∈ ([] : List Ta) → P y := fun y hy => by cases hy
 induction h with
 | nam k s hk h1 => exact .mk _ _ _ _ _ _ (.inr rfl) zCx_gc0 no noa
 | lam s t x h1 hT hx ih => exact .mk _ _ _ _ _ _ (.inl hT) zCx_gc0 (one ih) noa
 | tlam s x h1 hx ih => exact .mk _ _ _ _ _ _ (.inr rfl) zCx_gc0 (one ih) noa
 | app x y hx hy ihx ihy => exact .mk _ _ _ _ _ _ (.inr rfl) zCx_gc0 (two ihx ihy) noa
 | tapp t x hT hx ih => exact .mk _ _ _ _ _ _ (.inl hT) zCx_gc0 (one ih) noa
 | capp c x hC hx ih => exact .mk _ _ _ _ _ _ (.inr rfl) hC.gc0 (one ih) noa
 | lett s t x y h1 hT hx hy ihx ihy => exact .mk _ _ _ _ _ _ (.inl hT) zCx_gc0 (two ihx ihy) noa
 | cas t x al hT hx hb hn ihx ihb => exact .mk _ _ _ _ _ _ (.inl hT) zCx_gc0 (one ihx) ihb
 | cast c x hC hx ih => exact .mk _ _ _ _ _ _ (.inr rfl) hC.gc0 (one ih) noa
end Go.Proofs
