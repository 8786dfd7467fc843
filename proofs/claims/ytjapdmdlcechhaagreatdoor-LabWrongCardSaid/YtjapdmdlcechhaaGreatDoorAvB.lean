/- Each operation of the machine is as the model's; no condition. -/
import Derived.Test.YtjapdmdlcechhaaGreatDoorAvA
import Derived.Laws.BytesString
import Derived.Laws.StructEq
namespace Go.Cx

section
variable {E : Env} {X : Cfg} {ρ : Operand → Option C} {M M' : Mem} {R : Nat} {v : C} {b : Frame} {cs : List Frame} {o : Oper} {a : Act} {μ : Mp} {w w' : World}

theorem op_map [Lay] (hE : EOK E) {T : Nat} {r : Option Operand} (ho : o.op = .makeMap T r) (hn : μ M.nx = none) (hr : RR μ ρ a o.op) (h : oMap T r E X ρ M R = .ok v M') : NOut E.P o a μ M w v M' := by
  have new : (execOp a.eval o).run E.P w = .ok (.value (.map (some w.heap.size))) (w.alloc (.map #[] 0)) → NOut E.P o a μ M w (.map M.nx) (M.add (.mp [] 0)) := fun hr =>
    ⟨_, ⟨w.heap.size, 0, 0, 0⟩, .map (some w.heap.size), .map #[] 0, w.alloc (.map #[] 0), rfl, hr, rfl, rfl, rfl, rfl, rfl, ⟨#[], by show (w.heap.push _)[w.heap.size]? = _; simp, rfl⟩, ⟨_, addM_self _ _ _, rfl⟩, trivial⟩
  unfold oMap at h
  split at h
  · rename_i kt et hT
    obtain ⟨d, hd1, hd2⟩ := hE.kd hT
    replace hd2 : d = .map kt et := hd2
    subst hd2
    split at h
    · injection h with h1 h2; subst h1; subst h2
      exact new (by simp [execOp, ho, Instr.makeMap])
    · rename_i x
      replace h := wv_ok' h; obtain ⟨u, h1, h⟩ := h
      have hu := hr x (by simp [ho, Op.operands]) _ h1
      split at h
      · injection h with h1 h2; subst h1; subst h2
        replace hu : a.eval x = .int _ _ := hu
        exact new (by simp [execOp, ho, Instr.makeMap, run_und hd1, hu, asInt, asIntOf])
      · cases h
  · cases h

theorem op_makeSlice [Lay] (hE : EOK E) {T : Nat} {l c : Operand} (ho : o.op = .makeSlice T l c) (hnx : μ M.nx = none) (hr : RR μ ρ a o.op) (h : oMakeSlice T l c E X ρ M R = .ok v M') : NOut E.P o a μ M w v M' := by
  replace h := wv_ok' h; obtain ⟨u, h1, h⟩ := h
  replace h := wv_ok' h; obtain ⟨u', h1', h⟩ := h
  replace h := out_ok h
  have hu := hr l (by simp [ho, Op.operands]) _ h1
  have hu' := hr c (by simp [ho, Op.operands]) _ h1'
  unfold makeSliceC at h
  split at h
  · rename_i e hT
    obtain ⟨d, hd1, hd2⟩ := hE.kd hT
    replace hd2 : d = .slice e := hd2
    subst hd2
    split at h
    · rename_i y hy
      obtain ⟨i, d, z, ht⟩ := hE.ty e y hy
      split at h
      · rename_i n m hn hm'
        replace h := cond_none h; obtain ⟨hc, h⟩ := h
        simp only [Bool.and_eq_true, nblt, nble, nbeq, decide_eq_true_eq] at hc
        obtain ⟨⟨⟨rfl, c2⟩, c3⟩, c4⟩ := hc
        obtain ⟨k1, rfl⟩ := asNat_some hn
        obtain ⟨k2, rfl⟩ := asNat_some hm'
        replace hu : a.eval l = .int k1 (n : Int) := hu
        replace hu' : a.eval c = .int k2 (n : Int) := hu'
        injection h with h; injection h with h1 h2; subst h1; subst h2
        have hz : VL μ y.zero z.cells.toList := ht.zr.mono (fun _ _ h => by cases h)
        have hrow := rep_row hz n
        rw [ht.zl] at hrow
        unfold appMax at c2
        have hst := new_br (P := E.P) (w := w) (w1 := w) (T := e) (m := .ex) (cur := (Array.range (n * y.size)).map (z.cells[· % z.cells.size]!)) hnx (rep_cell ht.zc n) hrow (fun j x hj => by rw [← Array.getElem?_toList]; exact hj) rfl
        refine ⟨_, _, .slice (some ⟨w.heap.size, 0, none⟩) n n, .cells ((Array.range (n * y.size)).map (z.cells[· % z.cells.size]!)) e, w.alloc (.cells ((Array.range (n * y.size)).map (z.cells[· % z.cells.size]!)) e), rfl, ?_, rfl, rfl, rfl, rfl, rfl, hst, .new_sl (Nat.le_refl _) (fun _ => rfl) (by simp [ht.cells]), trivial⟩
        have hw : IntKind.i64.wrap (n : Int) = (n : Int) := wrap_nat (by omega)
        have hb : i.bytes * n ≤ 34359738368 := by rw [ht.bytes]; exact Nat.le_trans (Nat.mul_le_mul c4 c2) (by decide)
        have hb2 : ¬ ((i.bytes : Int) * (n : Int) > 2 ^ 48) := by
          have h2 : ((i.bytes * n : Nat) : Int) ≤ ((34359738368 : Nat) : Int) := Int.ofNat_le.2 hb
          rw [Int.natCast_mul] at h2
          omega
        have hb3 : ¬ (n * i.bytes > roomBytes) := by rw [Nat.mul_comm]; unfold roomBytes; omega
        have h0 : ¬ ((n : Int) < 0) := by omega
        simp only [execOp, ho, Instr.makeSlice, Sem.run_bind, run_und hd1, Result.andThen_ok, hu, hu', asInt, asIntOf, Sem.run_pure, run_info ht.info, hw, h0, hb2, decide_false, Bool.false_or, Bool.or_false]
        by_cases hn0 : n * y.size = 0
        · have : n = 0 := by
            rcases Nat.eq_zero_or_pos n with h | h
            · exact h
            · have := Nat.mul_pos h c3; omega
          subst this
          have e0 : Array.range 0 = #[] := by simp
          simp [askRoom, run_size ht.info, ht.size, newRow, e0]
        · simp [askRoom, hb3, run_size ht.info, ht.size, hn0, run_zero ht.info ht.zero, newRow]
      · cases h
    · cases h
  · cases h

/-! slices -/
theorem bound_some [Lay] {x : Option Operand} {d m r : Nat} (hr : ∀ y, x = some y → ∀ c, ρ y = some c → VR μ c (a.eval y)) (h : slBound ρ x d m = some r) : (x = none ∧ r = d) ∨ ∃ y k, x = some y ∧ a.eval y = .int k (r : Int) ∧ r ≤ m := by
  unfold slBound at h
  split at h
  · injection h with h; exact .inl ⟨rfl, h.symm⟩
  · rename_i y
    split at h
    · rename_i k n hy
      split at h
      · rename_i q hq
        replace h := cond_none h; obtain ⟨hc, h⟩ := h
        injection h with h; subst h
        rw [nble] at hc; simp at hc
        have := natOf_some hq; subst this
        exact .inr ⟨y, k, rfl, hr y rfl _ hy, hc⟩
      · cases h
    · cases h
theorem run_sliceBound [Lay] {P : Program} {k : IntKind} {r m : Nat} {code : BoundsCode} (h : r ≤ m) : (Instr.sliceBound (.int k (r : Int)) m code).run P w = .ok r w := by
  have : (0 : Int) ≤ (r : Int) ∧ (r : Int) ≤ (m : Int) := by omega
  simp [Instr.sliceBound, asIntOf, h]
theorem run_bounds2 [Lay] {P : Program} {isS : Bool} {len cap l h : Nat} {lo hi : Option Operand} (hh : (hi = none ∧ h = len) ∨ ∃ y k, hi = some y ∧ a.eval y = .int k (h : Int) ∧ h ≤ cap) (hl : (lo = none ∧ l = 0) ∨ ∃ y k, lo = some y ∧ a.eval y = .int k (l : Int) ∧ l ≤ h) :
    (Instr.sliceBounds isS len cap (lo.map a.eval) (hi.map a.eval) none).run P w = .ok (l, h, cap) w := by
  unfold Instr.sliceBounds
  rcases hh with ⟨rfl, rfl⟩ | ⟨y, k, rfl, hy, hyc⟩
  · rcases hl with ⟨rfl, rfl⟩ | ⟨z, j, rfl, hz, hzc⟩
    · simp
    · simp [hz, run_sliceBound hzc]
  · rcases hl with ⟨rfl, rfl⟩ | ⟨z, j, rfl, hz, hzc⟩
    · simp [hy, run_sliceBound hyc]
    · simp [hy, hz, run_sliceBound hyc, run_sliceBound hzc]
theorem run_bounds3 [Lay] {P : Program} {isS : Bool} {len cap l h m : Nat} {lo : Option Operand} {hi mx : Operand} {k k' : IntKind} (hm : a.eval mx = .int k (m : Int)) (hmc : m ≤ cap) (hh : a.eval hi = .int k' (h : Int)) (hhm : h ≤ m) (hl : (lo = none ∧ l = 0) ∨ ∃ y k, lo = some y ∧ a.eval y = .int k (l : Int) ∧ l ≤ h) :
    (Instr.sliceBounds isS len cap (lo.map a.eval) (some (a.eval hi)) (some (a.eval mx))).run P w = .ok (l, h, m) w := by
  unfold Instr.sliceBounds
  rcases hl with ⟨rfl, rfl⟩ | ⟨z, j, rfl, hz, hzc⟩
  · cases isS <;> simp [hm, hh, run_sliceBound hmc, run_sliceBound hhm]
  · cases isS <;> simp [hm, hh, hz, run_sliceBound hmc, run_sliceBound hhm, run_sliceBound hzc]

theorem op_slice [Lay] (hE : EOK E) {T : Nat} {x : Operand} {lo hi mx : Option Operand} (ho : o.op = .slice T x lo hi mx) (hm : MR E.P μ M w) (hf : Fresh μ M) (hr : RR μ ρ a o.op) (h : oSlice T x lo hi mx E X ρ M R = .ok v M') : VOut E.P o a μ M w v M' := by
  replace h := wv_ok' h; obtain ⟨u, h1, h⟩ := h
  replace h := outV_ok h; obtain ⟨rfl, h⟩ := h
  have hu := hr x (by simp [ho, Op.operands]) _ h1
  have hrl : ∀ y, lo = some y → ∀ c, ρ y = some c → VR μ c (a.eval y) := fun y hy => hr y (by subst hy; simp [ho, Op.operands])
  have hrh : ∀ y, hi = some y → ∀ c, ρ y = some c → VR μ c (a.eval y) := fun y hy => hr y (by subst hy; simp [ho, Op.operands])
  have hrm : ∀ y, mx = some y → ∀ c, ρ y = some c → VR μ c (a.eval y) := fun y hy => hr y (by subst hy; simp [ho, Op.operands])
  have hex : ∀ d, E.P.underlying T = some d → (∀ n e, d ≠ .array n e) → ∀ z, (Instr.slice T (a.eval x) (lo.map a.eval) (hi.map a.eval) (mx.map a.eval)).run E.P w = .ok z w → (execOp a.eval o).run E.P w = .ok (.value z) w := by
    intro d hd hn z hz
    have : (Instr.sliceAt T (a.eval x) (lo.map a.eval) (hi.map a.eval) (mx.map a.eval)).run E.P w = .ok z w := by
      unfold Instr.sliceAt
      simp only [Sem.run_bind, run_und hd, Result.andThen_ok]
      cases d <;> first | exact hz | exact absurd rfl (hn _ _)
    simp [execOp, ho, this]
  unfold sliceC at h
  split at h
  · rename_i t hT
    obtain ⟨d, hd1, hd2⟩ := hE.kd hT
    replace hd2 : d = .string := hd2
    subst hd2
    split at h
    · split at h
      · rename_i hv hh
        split at h
        · rename_i lv hl
          injection h with h; subst h
          obtain ⟨bs, hb, rfl⟩ := hu
          have hsz : (ByteArray.mk bs.toArray).size = bs.length := by simp [ByteArray.size]
          have hlen : len (bs.map UInt8.toNat) = bs.length := by simp
          rw [hlen] at hh
          have h3 := bound_some hrh hh
          have h4 := bound_some hrl hl
          refine out_val (x := .string ⟨((bs.drop lv).take (hv - lv)).toArray⟩) (by simp [ho]) hm hf (hex _ hd1 (by simp) _ ?_) ⟨(bs.drop lv).take (hv - lv), rfl, by simp [List.map_take, List.map_drop]⟩
          unfold Instr.slice
          simp only [Sem.run_bind, run_und hd1, Result.andThen_ok, hb]
          have h5 := run_bounds2 (P := E.P) (w := w) (a := a) (isS := false) (len := bs.length) (cap := bs.length) (l := lv) (h := hv) (lo := lo) (hi := hi) h3 h4
          have hx : (ByteArray.mk bs.toArray).extract lv hv = ⟨((bs.drop lv).take (hv - lv)).toArray⟩ := by
            apply ByteArray.ext
            simp only [ByteArray.data_extract, List.extract_toArray, List.extract_eq_take_drop]
          simp [hsz, h5, hx]
        · cases h
      · cases h
    · cases h
  · rename_i e hT
    obtain ⟨d, hd1, hd2⟩ := hE.kd hT
    replace hd2 : d = .slice e := hd2
    subst hd2
    replace hu : a.eval x = .slice none 0 0 := hu
    replace h := none_bb h; obtain ⟨hmh, h⟩ := h
    split at h
    · rename_i z hz
      obtain ⟨i, hi1, hi2⟩ := hE.sz hz
      split at h
      · rename_i m hmv
        split at h
        · rename_i hv hh
          split at h
          · rename_i lv hl
            injection h with h; subst h
            have h2 := bound_some hrm hmv
            have h3 := bound_some hrh hh
            have h4 := bound_some hrl hl
            have hm0 : m = 0 := by rcases h2 with ⟨_, h⟩ | ⟨_, _, _, _, h⟩ <;> omega
            subst hm0
            have hh0 : hv = 0 := by rcases h3 with ⟨_, h⟩ | ⟨_, _, _, _, h⟩ <;> omega
            subst hh0
            have hl0 : lv = 0 := by rcases h4 with ⟨_, h⟩ | ⟨_, _, _, _, h⟩ <;> omega
            subst hl0
            have h5 : (Instr.sliceBounds true 0 0 (lo.map a.eval) (hi.map a.eval) (mx.map a.eval)).run E.P w = .ok (0, 0, 0) w := by
              rcases h2 with ⟨rfl, _⟩ | ⟨_, j, rfl, h2, h2c⟩
              · exact run_bounds2 (h3.imp id fun ⟨y, k, e1, e2, e3⟩ => ⟨y, k, e1, e2, e3⟩) h4
              · rcases h3 with ⟨rfl, _⟩ | ⟨_, j', rfl, h3, h3c⟩
                · simp at hmh
                · exact run_bounds3 h2 h2c h3 h3c h4
            refine out_val (x := .slice none 0 0) (by simp [ho]) hm hf (hex _ hd1 (by simp) _ ?_) rfl
            unfold Instr.slice
            simp only [Sem.run_bind, run_und hd1, Result.andThen_ok, hu, h5, run_size hi1, Sem.run_pure]
            simp
          · cases h
        · cases h
      · cases h
    · cases h
  · rename_i e f k off n hT
    obtain ⟨d, hd1, hd2⟩ := hE.kd hT
    replace hd2 : d = .slice e := hd2
    subst hd2
    obtain ⟨q, off', cap, k1, k2, k3, k4, k5⟩ := hu
    split at h
    · rename_i z U md cl hz hb
      obtain ⟨i, hi1, hi2⟩ := hE.sz hz
      replace h := cond_none h; obtain ⟨hU, h⟩ := h
      have := nbeq_true hU; subst this
      have hsz : q.sz = z := by
        obtain ⟨_, _, _, _, h3, _⟩ := hm.bk k q _ k1 hb
        rw [h3, hE.cells hz]
      have hq : ∀ (l h m : Nat) (f' : Bool), l ≤ h → h ≤ m → m ≤ cap → (f' = true → h = m) → VR μ (.sl f' k (off + l * z) (h - l)) (.slice (if m = l then some ⟨q.g, off', none⟩ else some ⟨q.g, off' + l * z, none⟩) (h - l) (m - l)) := by
        intro l h m f' hlh hhm hmc hf'
        by_cases e : m = l
        · rw [if_pos e]
          exact ⟨q, off', m - l, k1, rfl, by omega, fun h => by have := hf' h; omega, fun h => absurd h (by omega)⟩
        · rw [if_neg e]
          obtain ⟨r1, r2⟩ := k5 (by omega)
          refine ⟨q, off' + l * z, m - l, k1, rfl, by omega, fun h => by have := hf' h; omega, fun _ => ⟨by omega, ?_⟩⟩
          have h3 : l * z + (m - l) * z ≤ cap * z := by rw [← Nat.add_mul]; exact Nat.mul_le_mul_right _ (by omega)
          rw [hsz] at r2 ⊢
          omega
      split at h
      · split at h
        · rename_i hv hh
          split at h
          · rename_i lv hl
            injection h with h; subst h
            have h3 := bound_some hrh hh
            have h4 := bound_some hrl hl
            have h3' : (hi = none ∧ hv = n) ∨ ∃ y k, hi = some y ∧ a.eval y = .int k (hv : Int) ∧ hv ≤ cap := h3.imp id fun ⟨y, k, e1, e2, e3⟩ => ⟨y, k, e1, e2, by omega⟩
            have h5 := run_bounds2 (P := E.P) (w := w) (a := a) (isS := true) (len := n) (cap := cap) (l := lv) (h := hv) (lo := lo) (hi := hi) h3' h4
            have hln : lv ≤ hv := by rcases h4 with ⟨_, e⟩ | ⟨_, _, _, _, e⟩ <;> omega
            have hhn : hv ≤ n := by rcases h3 with ⟨_, e⟩ | ⟨_, _, _, _, e⟩ <;> omega
            refine out_val (by simp [ho]) hm hf (hex _ hd1 (by simp) _ ?_) (hq lv hv cap (f && Nat.beq hv n) hln (by omega) (Nat.le_refl _) fun h => ?_)
            · unfold Instr.slice
              simp only [Sem.run_bind, run_und hd1, Result.andThen_ok, k2]
              simp only [Option.map_none, h5, Result.andThen_ok, Sem.run_bind, run_size hi1, hi2, Sem.run_pure, Option.map_some, addr_add]
            · simp only [Bool.and_eq_true] at h
              have := k4 h.1
              have := nbeq_true h.2
              omega
          · cases h
        · cases h
      · rename_i y
        split at h
        · rename_i m hmv
          split at h
          · rename_i hv y2 hh
            split at h
            · rename_i lv hl
              injection h with h; subst h
              have h2 := bound_some hrm hmv
              have h3 := bound_some hrh hh
              have h4 := bound_some hrl hl
              rcases h2 with ⟨e, _⟩ | ⟨_, j, e, h2, h2c⟩
              · cases e
              injection e with e; subst e
              rcases h3 with ⟨e, _⟩ | ⟨_, j', e, h3, h3c⟩
              · cases e
              injection e with e; subst e
              have hln : lv ≤ hv := by rcases h4 with ⟨_, e⟩ | ⟨_, _, _, _, e⟩ <;> omega
              have h5 := run_bounds3 (P := E.P) (w := w) (a := a) (isS := true) (len := n) (cap := cap) (l := lv) (h := hv) (m := m) (lo := lo) h2 (by omega) h3 h3c h4
              refine out_val (by simp [ho]) hm hf (hex _ hd1 (by simp) _ ?_) (hq lv hv m (Nat.beq hv m) hln h3c (by omega) fun h => nbeq_true h)
              unfold Instr.slice
              simp only [Sem.run_bind, run_und hd1, Result.andThen_ok, k2]
              simp only [Option.map_some, h5, Result.andThen_ok, Sem.run_bind, run_size hi1, hi2, Sem.run_pure, addr_add]
            · cases h
          · cases h
        · cases h
    · cases h
  · cases h
end
end Go.Cx
namespace Go.Cx

theorem rowAt_mono [Lay] {p : Program} {fits : TypeId → Bool} {d e c c' off n : Nat} (h : rowAt p fits d e c off n = true) (hc : c ≤ c') : rowAt p fits d e c' off n = true := by
  cases d with
  | zero => cases h
  | succ d =>
    unfold rowAt at h ⊢
    simp only at h ⊢
    split at h
    · cases h
    · rename_i hs
      rw [if_neg hs]
      simp only [Bool.or_eq_true, Bool.and_eq_true, decide_eq_true_eq] at h ⊢
      rcases h with ⟨⟨h1, h2⟩, h3⟩ | ⟨h1, h2⟩
      · exact .inl ⟨⟨h1, by omega⟩, h3⟩
      · exact .inr ⟨by omega, h2⟩
theorem liesAt_mono [Lay] {p : Program} : ∀ {d e c c' off u n : Nat}, liesAt p d e c off u n = true → c ≤ c' → liesAt p d e c' off u n = true
  | 0, _, _, _, _, _, _, h, _ => by cases h
  | d + 1, e, c, c', off, u, n, h, hc => by
    unfold liesAt at h ⊢
    simp only [Bool.or_eq_true] at h ⊢
    rcases h with h | h
    · exact .inl (rowAt_mono h hc)
    · right
      split at h
      · exact liesAt_mono h hc
      · cases h

section
variable {E : Env} {X : Cfg} {ρ : Operand → Option C} {M M' : Mem} {R : Nat} {v : C} {b : Frame} {cs : List Frame} {o : Oper} {a : Act} {μ : Mp} {w w' : World}

theorem cellBytes_some [Lay] : ∀ {ds : List C} {bs : List Nat}, cellBytes ds = some bs → ds = bs.map (fun (b : Nat) => C.int .u8 (b : Int)) ∧ ∀ b ∈ bs, b < 256
  | [], bs, h => by simp only [cellBytes, Option.some.injEq] at h; subst h; simp
  | c :: ds, bs, h => by
    unfold cellBytes at h
    split at h
    · rename_i h1; cases h1
    · rename_i b l h1
      injection h1 with h1 h2
      subst h1; subst h2
      replace h := cond_none h; obtain ⟨hb, h⟩ := h
      rw [nblt] at hb; simp at hb
      split at h
      · rename_i bs' h3
        injection h with h; subst h
        obtain ⟨h4, h5⟩ := cellBytes_some h3
        exact ⟨by rw [h4]; simp, by simpa using ⟨hb, h5⟩⟩
      · cases h
    · cases h
theorem bytes_vals [Lay] {bs : List Nat} {xs : List Value} (h : VL μ (bs.map fun (b : Nat) => C.int .u8 (b : Int)) xs) : xs = (bs.map fun (b : Nat) => (b : Int)).map (Value.int .u8) := by
  induction bs generalizing xs with
  | nil => exact h
  | cons b bs ih =>
    obtain ⟨x, l, rfl, h1, h2⟩ := h
    replace h1 : x = .int .u8 (b : Int) := h1
    rw [h1, ih h2]; rfl
theorem bytes_back [Lay] {bs : List Nat} (h : ∀ b ∈ bs, b < 256) : (bs.map fun b => UInt8.ofNat b).map UInt8.toNat = bs := by
  induction bs with
  | nil => rfl
  | cons b bs ih =>
    have hb := h b (by simp)
    simp only [List.map_cons]
    rw [ih fun c hc => h c (by simp [hc])]
    congr 1
    simp; omega
theorem foldl_push [Lay] : ∀ (ns : List Int) (l : List UInt8), ns.foldl (fun (r : ByteArray) n => r.push (UInt8.ofNat n.toNat)) ⟨l.toArray⟩ = ⟨(l ++ ns.map fun n => UInt8.ofNat n.toNat).toArray⟩
  | [], l => by simp
  | n :: ns, l => by
    rw [List.foldl_cons]
    have : (ByteArray.mk l.toArray).push (UInt8.ofNat n.toNat) = ⟨(l ++ [UInt8.ofNat n.toNat]).toArray⟩ := by
      apply ByteArray.ext; simp [ByteArray.push]
    rw [this, foldl_push ns]
    simp

theorem byteCells_eq [Lay] : ∀ (s : List Nat), byteCells s = s.map fun (b : Nat) => C.int .u8 (b : Int)
  | [] => rfl
  | b :: s => by simp [byteCells, byteCells_eq s]
theorem byteCells_rep [Lay] (bs : List UInt8) : VL μ (byteCells (bs.map UInt8.toNat)) (bs.map fun b => Value.int .u8 b.toNat) := by
  rw [byteCells_eq]
  induction bs with
  | nil => rfl
  | cons b bs ih => exact VL.cons.2 ⟨rfl, ih⟩
theorem byteCells_cell [Lay] (s : List Nat) : ∀ c ∈ byteCells s, isCell c = true := by
  rw [byteCells_eq]
  intro c hc
  obtain ⟨b, _, rfl⟩ := List.mem_map.1 hc
  rfl

theorem run_seenAt [Lay] {P : Program} {g off : Nat} {cur : Array Value} {T : TypeId} {fz : Nat × Nat} (h : w.heap[g]? = some (.cells cur T fz)) : (Conv.seenAt ⟨g, off, none⟩).run P w = .ok ⟨g, off, none⟩ w := by
  simp [Conv.seenAt, viewAt, shape, Sem.run, blk_shape h]

theorem op_conv [Lay] (hE : EOK E) {src dst : Nat} {x : Operand} (ho : o.op = .convert src dst x) (hm : MR E.P μ M w) (hf : Fresh μ M) (hr : RR μ ρ a o.op) (h : oConv src dst x E X ρ M R = .ok v M') : VOut E.P o a μ M w v M' ∨ (OpOut E.P b cs o a μ M w v M' ∧ E.tk src = some .string ∧ ∃ e, E.tk dst = some (.slice e)) := by
  replace h := wv_ok' h; obtain ⟨u, h1, h⟩ := h
  replace h := out_ok h
  have hu := hr x (by simp [ho, Op.operands]) _ h1
  have hex : ∀ {z w'}, (convert src dst (a.eval x)).run E.P w = .ok z w' → (execOp a.eval o).run E.P w = .ok (.value z) w' := fun hz => by simp [execOp, ho, hz]
  unfold convC at h
  split at h
  · rename_i ks k k0 n hs hd
    obtain ⟨d1, e1, _⟩ := hE.kd hs
    obtain ⟨d2, e2, e3⟩ := hE.kd hd
    replace e3 : d2 = .int k := e3
    subst e3
    injection h with h; injection h with h2 h3; subst h2; subst h3
    replace hu : a.eval x = .int k0 n := hu
    exact .inl <| out_val (x := .int k (k.wrap n)) (by simp [ho]) hm hf (hex (by simp [hu, convert, run_und e1, run_und e2, Conv.intToInt])) (by rw [wrap_eq]; rfl)
  · rename_i ks s hs hd
    obtain ⟨d1, e1, _⟩ := hE.kd hs
    obtain ⟨d2, e2, e3⟩ := hE.kd hd
    replace e3 : d2 = .string := e3
    subst e3
    injection h with h; injection h with h2 h3; subst h2; subst h3
    obtain ⟨bs, hb, rfl⟩ := hu
    exact .inl <| out_val (x := .string ⟨bs.toArray⟩) (by simp [ho]) hm hf (hex (by simp [hb, convert, run_und e1, run_und e2])) ⟨bs, rfl, rfl⟩
  · rename_i e s hs hd
    obtain ⟨d1, e1, e1'⟩ := hE.kd hs
    replace e1' : d1 = .string := e1'
    subst e1'
    obtain ⟨d2, e2, e3⟩ := hE.kd hd
    replace e3 : d2 = .slice e := e3
    subst e3
    split at h
    · rename_i hk hz
      obtain ⟨d4, e4, e5⟩ := hE.kd hk
      replace e5 : d4 = .int .u8 := e5
      subst e5
      injection h with h; injection h with h2 h3; subst h2; subst h3
      obtain ⟨bs, hb, rfl⟩ := hu
      have hsz : (ByteArray.mk bs.toArray).size = bs.length := by simp [ByteArray.size]
      obtain ⟨cap, hcap⟩ : ∃ cap, cap = (Question.appendCap bs.length 0 e).cut (w.tape w.drawn (.appendCap bs.length 0 e)) := ⟨_, rfl⟩
      have hle : bs.length ≤ cap := by rw [hcap]; simp [Question.cut]
      let cur : Array Value := (bs.map fun b => Value.int .u8 b.toNat).toArray ++ Array.replicate (cap - bs.length) (.int .u8 0)
      have hcs : cur.size = cap := by simp [cur]; omega
      let w3 : World := (w.drew.alloc (.cells cur e)).freeze ⟨w.heap.size, cur.size, none⟩ 1
      have hw3 : w3.heap = w.heap.push (.cells cur e (cur.size, cur.size + 1)) := by
        simp only [w3, World.freeze, World.alloc, World.drew]
        apply Array.ext_getElem?
        intro i
        simp only [Nat.one_ne_zero, if_false, Array.getElem?_modify, Array.getElem?_push]
        by_cases hi : w.heap.size = i
        · subst hi; simp
        · rw [if_neg hi]
          have : ¬ i = w.heap.size := fun e => hi e.symm
          simp [this]
      have hst : Step E.P μ M w (addM μ M.nx ⟨w.heap.size, 0, E.P.cellsOf e, cur.size⟩) (M.add (.cells e .sh (byteCells (bs.map UInt8.toNat)))) w3 := by
        refine Step.add hm hf rfl hw3 rfl rfl rfl ⟨cur, (cur.size, cur.size + 1), by rw [hw3]; simp, rfl, rfl, ?_, fun i c hi => ⟨byteCells_cell _ c (List.mem_of_getElem? hi), ?_⟩, trivial⟩
        · rw [byteCells_eq]; simp [hcs]; exact hle
        · obtain ⟨x, hx1, hx2⟩ := (byteCells_rep (μ := addM μ M.nx ⟨w.heap.size, 0, E.P.cellsOf e, cur.size⟩) bs).get hi
          refine ⟨x, ?_, hx2⟩
          have : i < bs.length := by have := (List.getElem?_eq_some_iff.1 hx1).1; simpa using this
          simp only [cur, Nat.zero_add]
          rw [Array.getElem?_append_left (by simpa using this)]; simpa using hx1
      refine .inr ⟨opRun_val (v := .slice (some ⟨w.heap.size, 0, none⟩) bs.length cap) (w' := w3) (by simp [ho]) (hex ?_) ⟨_, _, rfl, ?_, hst⟩, hs, e, hd⟩
      · simp only [hb, convert, Sem.run_bind, run_und e1, run_und e2, Result.andThen_ok, run_und e4, Conv.stringToBytes, hsz]
        have hch : ∀ q : Question, q = .appendCap bs.length 0 e → (choose q).run E.P w = .ok cap w.drew := by
          rintro q rfl
          simp [hcap, Question.forced]
        have hcur : (({ data := bs.toArray } : ByteArray).data.map fun b => Value.int .u8 b.toNat) ++ Array.replicate (cap - bs.length) (.int .u8 0) = cur := by simp [cur]
        simp only [hch _ rfl, Result.andThen_ok, Sem.run_bind, hcur]
        have hnew : (newRow e cur).run E.P w.drew = .ok ⟨w.heap.size, 0, none⟩ (w.drew.alloc (.cells cur e)) := by simp only [newRow, newObj, Sem.run_bind, Sem.run, Result.andThen_ok, Sem.run_pure]; rfl
        have hsh : (w.drew.alloc (.cells cur e)).shape? w.heap.size = some (e, cur.size) := blk_shape (fz := (0, 0)) (by show (w.heap.push _)[w.heap.size]? = _; simp)
        have hmark : (markStringish ⟨w.heap.size, 0, none⟩).run E.P (w.drew.alloc (.cells cur e)) = .ok () w3 := by
          unfold markStringish
          simp only [shape, Sem.run_bind]
          simp only [Sem.run, hsh, Result.andThen_ok]
          rfl
        simp only [hnew, hmark, Result.andThen_ok, Sem.run_bind, Sem.run_pure]
      · rw [len_eq, List.length_map]
        exact .new_sl hle (fun h => by cases h) (by rw [hcs, hE.cells hz]; omega)
    · cases h
  · rename_i e hs hd
    obtain ⟨d1, e1, e1'⟩ := hE.kd hs
    replace e1' : d1 = .slice e := e1'
    subst e1'
    obtain ⟨d2, e2, e3⟩ := hE.kd hd
    replace e3 : d2 = .string := e3
    subst e3
    split at h
    · rename_i hk
      obtain ⟨d4, e4, e5⟩ := hE.kd hk
      replace e5 : d4 = .int .u8 := e5
      subst e5
      injection h with h; injection h with h2 h3; subst h2; subst h3
      replace hu : a.eval x = .slice none 0 0 := hu
      exact .inl <| out_val (x := .string .empty) (by simp [ho]) hm hf (hex (by simp [hu, convert, run_und e1, run_und e2, run_und e4, Conv.bytesToString])) ⟨[], rfl, rfl⟩
    · cases h
  · rename_i e f k off n hs hd
    obtain ⟨d1, e1, e1'⟩ := hE.kd hs
    replace e1' : d1 = .slice e := e1'
    subst e1'
    obtain ⟨d2, e2, e3⟩ := hE.kd hd
    replace e3 : d2 = .string := e3
    subst e3
    split at h
    · rename_i U md cl hk hb
      obtain ⟨d4, e4, e5⟩ := hE.kd hk
      replace e5 : d4 = .int .u8 := e5
      subst e5
      split at h
      · rename_i ds hc
        split at h
        · rename_i bs hbs
          injection h with h; injection h with h2 h3; subst h2; subst h3
          obtain ⟨q, off', cap, k1, k2, k3, k4, k5⟩ := hu
          obtain ⟨xs, r1, r2, _, r3⟩ := (hm.bk k q _ k1 hb).row hc
          obtain ⟨hds, hlt⟩ := cellBytes_some hbs
          subst hds
          have hxs := bytes_vals r2
          have hl : (loadCells ⟨q.g, off', none⟩ n).run E.P w = .ok xs.toArray w := by
            have := run_loadCells_list (P := E.P) w ⟨q.g, off', none⟩ xs (fun j v hv => by
              rw [addr_add]
              have hj : j < n := by have := (List.getElem?_eq_some_iff.1 hv).1; omega
              rw [(k5 (by omega)).1]
              exact r3 j v hv)
            rw [r1] at this; exact this
          have hrun := run_bytesToString (P := E.P) w ⟨q.g, off', none⟩ n cap (bs.map fun (b : Nat) => (b : Int)) (by rw [← hxs]; exact hl)
          have hfp := foldl_push (bs.map fun (b : Nat) => (b : Int)) []
          refine .inl <| out_val (x := .string ⟨(bs.map fun b => UInt8.ofNat b).toArray⟩) (by simp [ho]) hm hf (hex ?_) ⟨_, rfl, (bytes_back hlt).symm⟩
          simp only [k2, convert, Sem.run_bind, run_und e1, run_und e2, Result.andThen_ok, run_und e4]
          rw [hrun]
          simp only [List.nil_append] at hfp
          have e9 : (ByteArray.mk ([] : List UInt8).toArray) = ByteArray.empty := rfl
          rw [← e9, hfp]
          simp
        · cases h
      · cases h
    · cases h
  · rename_i e k off hs hd
    obtain ⟨d1, e1, e1'⟩ := hE.kd hs
    replace e1' : d1 = .pointer e := e1'
    subst e1'
    obtain ⟨d2, e2, e3⟩ := hE.kd hd
    replace e3 : d2 = .unsafePointer := e3
    subst e3
    split at h
    · rename_i n U md cl hz hb
      obtain ⟨i, i1, i2⟩ := hE.sz hz
      replace h := cond_none h; obtain ⟨hc, h⟩ := h
      simp only [Bool.and_eq_true, nblt, decide_eq_true_eq, len_eq] at hc
      injection h with h; injection h with h2 h3; subst h2; subst h3
      obtain ⟨q, k1, k2⟩ := hu
      obtain ⟨cur, fz, r1, r2, r3, r4, _⟩ := hm.bk k q _ k1 hb
      have h5 : ¬ (cur.size ≤ q.sh + off) := by omega
      have h6 : i.size ≠ 0 := by omega
      refine .inl <| out_val (x := .pointer (some ⟨q.g, q.sh + off, none⟩)) (by simp [ho]) hm hf (hex ?_) ⟨q, k1, rfl⟩
      simp [k2, convert, run_und e1, run_und e2, Conv.unsafePointer, run_seenAt r1, cellsIn, shape, Sem.run, blk_shape r1, h5, run_size i1, h6]
    · cases h
  · rename_i u' k off hs hd
    obtain ⟨d1, e1, e1'⟩ := hE.kd hs
    replace e1' : d1 = .unsafePointer := e1'
    subst e1'
    obtain ⟨d2, e2, e3⟩ := hE.kd hd
    replace e3 : d2 = .pointer u' := e3
    subst e3
    split at h
    · rename_i U cl hb
      split at h
      · rename_i n nu hz hzu
        replace h := cond_none h; obtain ⟨hc, h⟩ := h
        injection h with h; injection h with h2 h3; subst h2; subst h3
        obtain ⟨q, k1, k2⟩ := hu
        obtain ⟨cur, fz, r1, r2, r3, r4, _, r5, r6⟩ := hm.bk k q _ k1 hb
        have hcu := hE.cells hz
        rw [r6] at k2 r4
        have hl := liesAt_mono hc (c' := cur.size / n) (Nat.div_le_div_right (by simpa using r4))
        refine .inl <| out_val (x := .pointer (some ⟨q.g, 0 + off, none⟩)) (by simp [ho]) hm hf (hex ?_) ⟨q, k1, by rw [r6]⟩
        obtain ⟨iu, hiu, _⟩ := hE.sz hzu
        simp only [Nat.zero_add] at k2 ⊢
        have hva : (variablesAt ⟨q.g, off, none⟩ u' 1).run E.P w = .ok true w := by
          simp [variablesAt, shape, Sem.run, blk_shape r1, hcu, hl]
        simp [k2, convert, run_und e1, run_und e2, Conv.unsafePointer, run_seenAt r1, run_size hiu, hva]
      · cases h
    · cases h
  · rename_i k off hs hd
    obtain ⟨d1, e1, e1'⟩ := hE.kd hs
    replace e1' : d1 = .unsafePointer := e1'
    subst e1'
    obtain ⟨d2, e2, e3⟩ := hE.kd hd
    replace e3 : d2 = .unsafePointer := e3
    subst e3
    injection h with h; injection h with h2 h3; subst h2; subst h3
    obtain ⟨q, k1, k2⟩ := hu
    refine .inl <| out_val (x := .pointer (some ⟨q.g, q.sh + off, none⟩)) (by simp [ho]) hm hf (hex ?_) ⟨q, k1, rfl⟩
    simp [k2, convert, run_und e1, run_und e2, Conv.unsafePointer]
  · cases h
end
end Go.Cx
namespace Go.Cx

section
variable {E : Env} {X : Cfg} {ρ : Operand → Option C} {M M' : Mem} {R : Nat} {v : C} {b : Frame} {cs : List Frame} {o : Oper} {a : Act} {μ : Mp} {w w' : World}

theorem ba_beq [Lay] (x y : List UInt8) : (ByteArray.mk x.toArray == ByteArray.mk y.toArray) = (x == y) := by
  rw [beq_toListBytes, ByteArray.toList_mk, ByteArray.toList_mk]
/-- is it a key of this kind? -/
def KeyOf (d : TypeDesc) (k : C) : Prop := (∃ j, d = .int j) ∧ (∃ j n, k = .int j n) ∨ d = .string ∧ ∃ s, k = .str s
theorem key_ok [Lay] (hE : EOK E) {kt : Nat} {k : C} (h : keyOK E kt k = true) : ∃ d, E.P.underlying kt = some d ∧ KeyOf d k := by
  unfold keyOK at h
  split at h
  · split at h
    · rename_i j hT
      obtain ⟨d, h1, h2⟩ := hE.kd hT
      exact ⟨d, h1, .inl ⟨⟨j, h2⟩, _, _, rfl⟩⟩
    · cases h
  · split at h
    · rename_i hT
      obtain ⟨d, h1, h2⟩ := hE.kd hT
      exact ⟨d, h1, .inr ⟨h2, _, rfl⟩⟩
    · cases h
  · cases h
theorem same_now [Lay] {d : TypeDesc} {k k' : C} {p p' : Value} {t : Bool} (hd : KeyOf d k) (hp : VR μ k p) (hp' : VR μ k' p') (h : keyEq k k' = some t) : Instr.sameNow d p p' = some t ∧ (t = true → p' = p) := by
  rcases hd with ⟨⟨j, rfl⟩, i, n, rfl⟩ | ⟨rfl, s, rfl⟩
  · cases k' <;> try (cases h; done)
    rename_i i' n'
    simp only [keyEq] at h
    replace h := cond_none h; obtain ⟨hk, h⟩ := h
    have := kindEq_true hk; subst this
    injection h with h; subst h
    replace hp : p = .int i n := hp
    replace hp' : p' = .int i n' := hp'
    subst hp; subst hp'
    rw [intEq_eq]
    refine ⟨by simp [Instr.sameNow]; rfl, fun h => by simp at h; rw [h]⟩
  · cases k' <;> try (cases h; done)
    rename_i s'
    simp only [keyEq, Option.some.injEq] at h
    subst h
    obtain ⟨x, rfl, rfl⟩ := hp
    obtain ⟨y, rfl, rfl⟩ := hp'
    rw [← bytes_eq]
    refine ⟨?_, fun h => by simp at h; rw [h]⟩
    simp only [Instr.sameNow, ba_beq]

theorem find_rep [Lay] {d : TypeDesc} {k : C} {p : Value} (hd : KeyOf d k) (hp : VR μ k p) : ∀ {es : List (C × C × Nat)} {ms : List MapEntry} {r : Option (C × Nat)}, findC k es = some r → ER μ es ms → ∀ i,
    (r = none → Instr.findNow d p ms i = some none) ∧ ∀ v st, r = some (v, st) → ∃ j e, Instr.findNow d p ms i = some (some (i + j, e.val)) ∧ ms[j]? = some e ∧ e.key = p ∧ VR μ v e.val ∧ e.born = st ∧
      ∀ u y, VR μ u y → ER μ (putC k u es) (ms.modify j fun e => { e with key := p, val := y })
  | [], ms, r, h, he, i => by
    simp only [findC, Option.some.injEq] at h
    subst h
    simp only [ER] at he; subst he
    exact ⟨fun _ => rfl, fun v st h => by cases h⟩
  | (k', v', b') :: es, ms, r, h, he, i => by
    obtain ⟨e, l, rfl, h1, h2, h3, h4⟩ := he
    simp only [findC] at h
    split at h
    · rename_i hk
      injection h with h; subst h
      obtain ⟨q1, q2⟩ := same_now hd hp h1 hk
      have q3 := q2 rfl
      refine ⟨fun h => (by cases h), fun v st h => ?_⟩
      injection h with h; injection h with e1 e2; subst e1; subst e2
      refine ⟨0, e, by simp [Instr.findNow, q1], rfl, q3, h2, h3, fun u y hu => ?_⟩
      simp only [putC, hk]
      refine ⟨{ e with key := p, val := y }, l, by simp, q3 ▸ h1, hu, h3, h4⟩
    · rename_i hk
      obtain ⟨q1, _⟩ := same_now hd hp h1 hk
      obtain ⟨r1, r2⟩ := find_rep hd hp h h4 (i + 1)
      refine ⟨fun h => by simp [Instr.findNow, q1, r1 h], fun v st h => ?_⟩
      obtain ⟨j, e', s1, s2, s3, s4, s5, s6⟩ := r2 v st h
      refine ⟨j + 1, e', by simp only [Instr.findNow, q1, s1]; congr 3; omega, by simpa using s2, s3, s4, s5, fun u y hu => ?_⟩
      simp only [putC, hk]
      exact ⟨e, _, by simp, h1, h2, h3, s6 u y hu⟩
    · cases h

theorem run_checkKey [Lay] {P : Program} {d : TypeDesc} {kt : Nat} {k : C} {p : Value} {em : Bool} {n : Nat} (hd1 : P.underlying kt = some d) (hd : KeyOf d k) (hp : VR μ k p) : (Instr.checkKey em (n + 1) kt p).run P w = .ok () w := by
  unfold Instr.checkKey
  simp only [Sem.run_bind, run_und hd1, Result.andThen_ok]
  rcases hd with ⟨⟨j, rfl⟩, i, m, rfl⟩ | ⟨rfl, s, rfl⟩
  · replace hp : p = .int i m := hp
    subst hp; rfl
  · obtain ⟨x, rfl, _⟩ := hp; rfl
theorem run_findKey [Lay] {P : Program} {d : TypeDesc} {kt : Nat} {p : Value} {ms : List MapEntry} {r : Option (Nat × Value)} (hd1 : P.underlying kt = some d) (h : Instr.findNow d p ms 0 = some r) : (Instr.findKey kt p ms).run P w = .ok r w := by
  unfold Instr.findKey
  simp only [Sem.run_bind, run_und hd1, Result.andThen_ok, h, Sem.run_pure]
theorem run_stays [Lay] {P : Program} {d : TypeDesc} {k : C} {p : Value} (hd : KeyOf d k) (hp : VR μ k p) : (Instr.keyThatStays p p).run P w = .ok p w := by
  unfold Instr.keyThatStays
  have : Instr.sameBits 10000 p p = true := by
    rcases hd with ⟨⟨j, rfl⟩, i, m, rfl⟩ | ⟨rfl, s, rfl⟩
    · replace hp : p = .int i m := hp
      subst hp; simp [Instr.sameBits]
    · obtain ⟨x, rfl, _⟩ := hp; simp [Instr.sameBits, ba_beq]
  rw [if_pos this, Sem.run_pure]
theorem run_getMap [Lay] {P : Program} {g : Nat} {ents : Array MapEntry} {c : Nat} (h : w.heap[g]? = some (.map ents c)) : (getObj g).run P w = .ok (.map ents c) w := by
  simp [getObj, Sem.run, h]
def setW (w : World) (g : Nat) (o : Obj) : World := { w with heap := w.heap.setIfInBounds g o }
theorem run_setObj [Lay] {P : Program} {g : Nat} {o o' : Obj} (h : w.heap[g]? = some o') (hn : ∀ c e f, o' ≠ .cells c e f) : (setObj g o).run P w = .ok () (setW w g o) := by
  cases o' <;> first | exact absurd rfl (hn _ _ _) | (simp [setObj, Sem.run, h]; rfl)
/-- a block that is no row of cells turns -/
theorem set_step [Lay] {P : Program} (hm : MR P μ M w) (hf : Fresh μ M) {k : Nat} {y : Home} {b0 b' : Blk} {obj : Obj} (hk : μ k = some y) (hb : M.get k = some b0) (hx : Excl b0) (hb' : BR P μ y b' (setW w y.g obj)) : Step P μ M w μ (M.set k b') (setW w y.g obj) :=
  Step.set hm hf hk hb hx (fun g hg => by simp only [setW]; rw [Array.getElem?_setIfInBounds_ne (Ne.symm hg)]) (by simp [setW]) rfl rfl rfl hb'
theorem setW_get [Lay] {g : Nat} {o : Obj} (h : g < w.heap.size) : (setW w g o).heap[g]? = some o := by
  simp only [setW]; rw [Array.getElem?_setIfInBounds_self_of_lt h]

theorem ER.push [Lay] : ∀ {es : List (C × C × Nat)} {ms : List MapEntry} {k v : C} {p y : Value} {c : Nat}, ER μ es ms → VR μ k p → VR μ v y → ER μ (es ++ [(k, v, c)]) (ms ++ [{ key := p, val := y, born := c }])
  | [], ms, k, v, p, y, c, h, h1, h2 => by simp only [ER] at h; subst h; exact ⟨_, [], rfl, h1, h2, rfl, rfl⟩
  | (_, _, _) :: es, ms, k, v, p, y, c, ⟨e, l, h0, a1, a2, a3, a4⟩, h1, h2 => by subst h0; exact ⟨e, _, rfl, a1, a2, a3, a4.push h1 h2⟩
theorem ER.length [Lay] : ∀ {es : List (C × C × Nat)} {ms : List MapEntry}, ER μ es ms → ms.length = es.length
  | [], ms, h => by simp only [ER] at h; subst h; rfl
  | (_, _, _) :: es, ms, ⟨e, l, h0, _, _, _, a4⟩ => by subst h0; simp [a4.length]

theorem zero_rep [Lay] (hE : EOK E) {et : Nat} {z : TI} {c : C} (hz : E.ty.get et = some z) (h : zeroC z = some c) : ∃ x, (zeroValue et).run E.P w = .ok x w ∧ VR μ c x := by
  obtain ⟨i, d, x, ht⟩ := hE.ty et z hz
  refine ⟨x, run_zero ht.info ht.zero, ?_⟩
  have hr : VL μ z.zero x.cells.toList := ht.zr.mono (fun _ _ h => by cases h)
  unfold zeroC at h
  cases hk : isAggK z.k with
  | true =>
    rw [hk] at h
    replace h : some (C.agg z.zero) = some c := h
    injection h with h; subst h
    obtain ⟨y, rfl⟩ := ht.agg hk
    exact ⟨y, rfl, hr⟩
  | false =>
    rw [hk] at h
    replace h : (match z.zero with | [c] => some c | _ => none) = some c := h
    split at h
    · rename_i c' hz'
      injection h with h; subst h
      rw [hz'] at hr
      have h1 := ht.one hk
      have : x.cells = #[x] := by cases x <;> first | rfl | exact absurd rfl (h1 _)
      rw [this] at hr
      exact (VL.cons.1 hr).1
    · cases h

theorem op_lookup [Lay] (hE : EOK E) {T : Nat} {x k : Operand} {ok : Bool} (ho : o.op = .lookup T x k ok) (hm : MR E.P μ M w) (hf : Fresh μ M) (hr : RR μ ρ a o.op) (h : oLookup T x k ok E X ρ M R = .ok v M') : VOut E.P o a μ M w v M' := by
  replace h := wv_ok' h; obtain ⟨u, h1, h⟩ := h
  replace h := wv_ok' h; obtain ⟨ku, h1', h⟩ := h
  replace h := outV_ok h; obtain ⟨rfl, h⟩ := h
  have hu := hr x (by simp [ho, Op.operands]) _ h1
  have hku := hr k (by simp [ho, Op.operands]) _ h1'
  unfold lookupC at h
  split at h
  · rename_i kt et hT
    obtain ⟨d, hd1, hd2⟩ := hE.kd hT
    replace hd2 : d = .map kt et := hd2
    subst hd2
    replace h := cond_none h; obtain ⟨hk, h⟩ := h
    obtain ⟨dk, hk1, hk2⟩ := key_ok hE hk
    split at h
    · rename_i es hes
      obtain ⟨ms, her, hms⟩ : ∃ ms : Array MapEntry, ER μ es ms.toList ∧ ((a.eval x = .map none ∧ ms = #[]) ∨ ∃ g c, a.eval x = .map (some g) ∧ w.heap[g]? = some (.map ms c)) := by
        unfold mapEnts at hes
        split at hes
        · injection hes with hes; subst hes
          exact ⟨#[], rfl, .inl ⟨hu, rfl⟩⟩
        · rename_i kk
          split at hes
          · rename_i es' c' hb
            injection hes with hes; subst hes
            obtain ⟨y, h2, h3⟩ := hu
            obtain ⟨ents, h4, h5⟩ := hm.bk kk y _ h2 hb
            exact ⟨ents, h5, .inr ⟨y.g, c', h3, h4⟩⟩
          · cases hes
        · cases hes
      have main : ∀ (r : Option (Nat × Value)) v' t', Instr.findNow dk (a.eval k) ms.toList 0 = some r → (∀ i y, r = some (i, y) → v' = y ∧ t' = true) → (r = none → (zeroValue et).run E.P w = .ok v' w ∧ t' = false) → (execOp a.eval o).run E.P w = .ok (.value (if ok then .tuple #[v', .bool t'] else v')) w := by
        intro r v' t' hfn hr1 hr2
        have hfk := run_findKey (w := w) hk1 hfn
        have hck : ∀ em, (Instr.checkKey em 10000 kt (a.eval k)).run E.P w = .ok () w := fun em => run_checkKey hk1 hk2 hku
        have : (Instr.lookup T (a.eval x) (a.eval k) ok).run E.P w = .ok (if ok then .tuple #[v', .bool t'] else v') w := by
          unfold Instr.lookup
          cases r with
          | none =>
            obtain ⟨hz, rfl⟩ := hr2 rfl
            rcases hms with ⟨hx, rfl⟩ | ⟨g, c, hx, hh⟩
            · simp only [Sem.run_bind, run_und hd1, Result.andThen_ok, hx, Sem.run_pure, hck, hfk, hz]
            · simp only [Sem.run_bind, run_und hd1, Result.andThen_ok, hx, Sem.run_pure, hck, hfk, hz, run_getMap hh]
          | some p =>
            obtain ⟨i, y⟩ := p
            obtain ⟨rfl, rfl⟩ := hr1 i y rfl
            rcases hms with ⟨hx, rfl⟩ | ⟨g, c, hx, hh⟩
            · simp only [Sem.run_bind, run_und hd1, Result.andThen_ok, hx, Sem.run_pure, hck, hfk]
            · simp only [Sem.run_bind, run_und hd1, Result.andThen_ok, hx, Sem.run_pure, hck, hfk, run_getMap hh]
        simp [execOp, ho, this]
      split at h
      · rename_i v' st hfd
        injection h with h; subst h
        obtain ⟨j, e, q1, q2, q3, q4, q5, q6⟩ := (find_rep hk2 hku hfd her 0).2 v' st rfl
        refine out_val (by simp [ho]) hm hf (main _ e.val true q1 (fun i y e => by injection e with e; injection e with _ e; exact ⟨e, rfl⟩) (fun e => by cases e)) ?_
        cases ok
        · exact q4
        · exact ⟨#[e.val, .bool true], rfl, VL.cons.2 ⟨q4, VL.cons.2 ⟨rfl, rfl⟩⟩⟩
      · rename_i hfd
        have q1 := (find_rep hk2 hku hfd her 0).1 rfl
        split at h
        · rename_i z hz
          split at h
          · rename_i c hc
            injection h with h; subst h
            obtain ⟨y, hy1, hy2⟩ := zero_rep (w := w) (μ := μ) hE hz hc
            refine out_val (by simp [ho]) hm hf (main none y false q1 (fun i y e => by cases e) (fun _ => ⟨hy1, rfl⟩)) ?_
            cases ok
            · exact hy2
            · exact ⟨#[y, .bool false], rfl, VL.cons.2 ⟨hy2, VL.cons.2 ⟨rfl, rfl⟩⟩⟩
          · cases h
        · cases h
      · cases h
    · cases h
  · cases h

/-- a map, and a key that may be one of it -/
theorem op_mapUpdate [Lay] (hE : EOK E) {T : Nat} {x k y : Operand} (ho : o.op = .mapUpdate T x k y ∨ o.op = .insert T x k y) (hm : MR E.P μ M w) (hf : Fresh μ M) (hr : RR μ ρ a o.op) (h : oInsert T x k y E X ρ M R = .ok v M') : OpOut E.P b cs o a μ M w v M' := by
  replace h := wv_ok' h; obtain ⟨u, h1, h⟩ := h
  replace h := wv_ok' h; obtain ⟨ku, h1', h⟩ := h
  replace h := wv_ok' h; obtain ⟨yu, h1'', h⟩ := h
  replace h := outM_ok h; obtain ⟨rfl, h⟩ := h
  have hu := hr x (by rcases ho with ho | ho <;> simp [ho, Op.operands]) _ h1
  have hku := hr k (by rcases ho with ho | ho <;> simp [ho, Op.operands]) _ h1'
  have hyu := hr y (by rcases ho with ho | ho <;> simp [ho, Op.operands]) _ h1''
  have hnd : ∀ c, o.op ≠ .defer c := fun c => by rcases ho with ho | ho <;> simp [ho]
  unfold mapUpdateC at h
  split at h
  · rename_i kt et bb hT
    obtain ⟨d, hd1, hd2⟩ := hE.kd hT
    replace hd2 : d = .map kt et := hd2
    subst hd2
    replace h := cond_none h; obtain ⟨hk, h⟩ := h
    simp only [Bool.and_eq_true] at hk
    obtain ⟨dk, hk1, hk2⟩ := key_ok hE hk.1
    split at h
    · rename_i es c hb
      obtain ⟨q, q1, q2⟩ := hu
      obtain ⟨ents, q3, q4⟩ := hm.bk bb q _ q1 hb
      have hlt := hm.lt bb q q1
      have hck : (Instr.checkKey false 10000 kt (a.eval k)).run E.P w = .ok () w := run_checkKey hk1 hk2 hku
      have hrun : ∀ w', (Instr.mapUpdate T (a.eval x) (a.eval k) (a.eval y)).run E.P w = .ok () w' → (execOp a.eval o).run E.P w = .ok .skip w' := fun w' h => by
        rcases ho with ho | ho <;> simp [execOp, ho, h]
      split at h
      · rename_i p hfd
        injection h with h; subst h
        obtain ⟨v0, st⟩ := p
        obtain ⟨j, e, r1, r2, r3, r4, r5, r6⟩ := (find_rep hk2 hku hfd q4 0).2 v0 st rfl
        have hfk := run_findKey (w := w) hk1 r1
        have hst := set_step (P := E.P) hm hf q1 hb trivial (obj := .map (ents.modify j fun e => { e with key := a.eval k, val := a.eval y }) c) (b' := .mp (putC ku yu es) c) ⟨_, setW_get hlt, by simpa using r6 yu _ hyu⟩
        refine opRun_skip hnd (hrun _ ?_) ⟨_, μ, rfl, .undef, hst⟩
        have hj : ents[j]? = some e := by simpa using r2
        unfold Instr.mapUpdate
        simp only [Sem.run_bind, run_und hd1, Result.andThen_ok, q2, run_getMap q3, hck, hfk, Nat.zero_add, hj, Option.map_some, Option.getD_some, r3, run_stays hk2 hku]
        exact run_setObj q3 (by simp)
      · rename_i hfd
        injection h with h; subst h
        have r1 := (find_rep hk2 hku hfd q4 0).1 rfl
        have hfk := run_findKey (w := w) hk1 r1
        have hst := set_step (P := E.P) hm hf q1 hb trivial (obj := .map (ents.push { key := a.eval k, val := a.eval y, born := c }) (c + 1)) (b' := .mp (app es [(ku, yu, c)]) (c + 1)) ⟨_, setW_get hlt, by simpa using q4.push hku hyu⟩
        refine opRun_skip hnd (hrun _ ?_) ⟨_, μ, rfl, .undef, hst⟩
        unfold Instr.mapUpdate
        simp only [Sem.run_bind, run_und hd1, Result.andThen_ok, q2, run_getMap q3, hck, hfk]
        exact run_setObj q3 (by simp)
      · cases h
    · cases h
  · cases h

theorem op_mapEntry [Lay] (hE : EOK E) {T : Nat} {x k : Operand} (ho : o.op = .mapEntry T x k) (hm : MR E.P μ M w) (hf : Fresh μ M) (hr : RR μ ρ a o.op) (h : oMapEntry T x k E X ρ M R = .ok v M') : OpOut E.P b cs o a μ M w v M' := by
  replace h := wv_ok' h; obtain ⟨u, h1, h⟩ := h
  replace h := wv_ok' h; obtain ⟨ku, h1', h⟩ := h
  replace h := out_ok h
  have hu := hr x (by simp [ho, Op.operands]) _ h1
  have hku := hr k (by simp [ho, Op.operands]) _ h1'
  unfold mapEntryC at h
  split at h
  · rename_i kt et bb hT
    obtain ⟨d, hd1, hd2⟩ := hE.kd hT
    replace hd2 : d = .map kt et := hd2
    subst hd2
    replace h := cond_none h; obtain ⟨hk, h⟩ := h
    obtain ⟨dk, hk1, hk2⟩ := key_ok hE hk
    split at h
    · rename_i es c hb
      obtain ⟨q, q1, q2⟩ := hu
      obtain ⟨ents, q3, q4⟩ := hm.bk bb q _ q1 hb
      have hlt := hm.lt bb q q1
      have hck : (Instr.checkKey false 10000 kt (a.eval k)).run E.P w = .ok () w := run_checkKey hk1 hk2 hku
      have hrun : ∀ z w', (Instr.mapEntry T (a.eval x) (a.eval k)).run E.P w = .ok z w' → (execOp a.eval o).run E.P w = .ok (.value z) w' := fun z w' h => by
        simp [execOp, ho, h]
      split at h
      · rename_i v0 st hfd
        injection h with h; injection h with h2 h3; subst h2; subst h3
        obtain ⟨j, e, r1, r2, r3, r4, r5, r6⟩ := (find_rep hk2 hku hfd q4 0).2 v0 st rfl
        have hfk := run_findKey (w := w) hk1 r1
        have hj : ents[j]? = some e := by simpa using r2
        -- nothing turns
        have hsame : (ents.modify j fun e => { e with key := a.eval k }) = ents := by
          apply Array.ext_getElem?
          intro i
          rw [Array.getElem?_modify]
          by_cases hij : j = i
          · subst hij; rw [if_pos rfl, hj, Option.map_some, ← r3]
          · rw [if_neg hij]
        have hw : setW w q.g (.map ents c) = w := by
          unfold setW
          have : w.heap.setIfInBounds q.g (.map ents c) = w.heap := by
            apply Array.ext_getElem?
            intro i
            rw [Array.getElem?_setIfInBounds]
            by_cases hij : q.g = i
            · subst hij; rw [if_pos rfl, if_pos hlt, q3]
            · rw [if_neg hij]
          rw [this]
        refine opRun_val (v := .tuple #[e.val, goInt (st : Int)]) (w' := w) (by simp [ho]) (hrun _ _ ?_) ⟨_, μ, rfl, ⟨_, rfl, VL.cons.2 ⟨r4, VL.cons.2 ⟨rfl, rfl⟩⟩⟩, .refl hm hf⟩
        unfold Instr.mapEntry
        simp only [Sem.run_bind, run_und hd1, Result.andThen_ok, q2, run_getMap q3, hck, hfk, Nat.zero_add, hj, Option.map_some, Option.getD_some, r3, run_stays hk2 hku, hsame]
        rw [run_setObj q3 (by simp), hw]
        simp [r5]
      · rename_i hfd
        split at h
        · rename_i z hz
          split at h
          · rename_i zc hzc
            injection h with h; injection h with h2 h3; subst h2; subst h3
            obtain ⟨y, hy1, hy2⟩ := zero_rep (w := w) (μ := μ) hE hz hzc
            have r1 := (find_rep hk2 hku hfd q4 0).1 rfl
            have hfk := run_findKey (w := w) hk1 r1
            have hst := set_step (P := E.P) hm hf q1 hb trivial (obj := .map (ents.push { key := a.eval k, val := y, born := c }) (c + 1)) (b' := .mp (app es [(ku, zc, c)]) (c + 1)) ⟨_, setW_get hlt, by simpa using q4.push hku hy2⟩
            refine opRun_val (v := .tuple #[y, goInt (c : Int)]) (by simp [ho]) (hrun _ _ ?_) ⟨_, μ, rfl, ⟨_, rfl, VL.cons.2 ⟨hy2, VL.cons.2 ⟨rfl, rfl⟩⟩⟩, hst⟩
            unfold Instr.mapEntry
            simp only [Sem.run_bind, run_und hd1, Result.andThen_ok, q2, run_getMap q3, hck, hfk, hy1]
            rw [run_setObj q3 (by simp)]
            simp
          · cases h
        · cases h
      · cases h
    · cases h
  · cases h

theorem store_at [Lay] {n : Nat} {u : C} {y : Value} (hu : VR μ u y) : ∀ {es es' : List (C × C × Nat)} {ms : List MapEntry}, storeAtC n u es = some es' → ER μ es ms → ∃ j, ms.findIdx? (fun e => (e.born : Int) == (n : Int)) = some j ∧ ER μ es' (ms.modify j fun e => { e with val := y })
  | [], _, _, h, _ => by simp [storeAtC] at h
  | (k, v, b) :: es, es', ms, h, ⟨e, l, h0, a1, a2, a3, a4⟩ => by
    subst h0
    simp only [storeAtC] at h
    cases hb : Nat.beq b n with
    | true =>
      rw [hb] at h
      replace h : some ((k, u, b) :: es) = some es' := h
      injection h with h; subst h
      have e1 := nbeq_true hb
      refine ⟨0, ?_, { e with val := y }, l, by simp, a1, hu, a3, a4⟩
      rw [List.findIdx?_cons, if_pos (by rw [a3, e1]; simp)]
    | false =>
      rw [hb] at h
      replace h : (match storeAtC n u es with | some l => some ((k, v, b) :: l) | none => none) = some es' := h
      split at h
      · rename_i l' hl
        injection h with h; subst h
        obtain ⟨j, h1, h2⟩ := store_at hu hl a4
        have hne : b ≠ n := fun e => by subst e; simp at hb
        refine ⟨j + 1, ?_, e, _, by simp, a1, a2, a3, h2⟩
        rw [List.findIdx?_cons, if_neg (by rw [a3]; simp; omega), h1]; rfl
      · cases h

theorem op_entryStore [Lay] {T : Nat} {x st y : Operand} (ho : o.op = .entryStore T x st y) (hm : MR E.P μ M w) (hf : Fresh μ M) (hr : RR μ ρ a o.op) (h : oEntryStore T x st y E X ρ M R = .ok v M') : OpOut E.P b cs o a μ M w v M' := by
  replace h := wv_ok' h; obtain ⟨u, h1, h⟩ := h
  replace h := wv_ok' h; obtain ⟨su, h1', h⟩ := h
  replace h := wv_ok' h; obtain ⟨yu, h1'', h⟩ := h
  replace h := outM_ok h; obtain ⟨rfl, h⟩ := h
  have hu := hr x (by simp [ho, Op.operands]) _ h1
  have hsu := hr st (by simp [ho, Op.operands]) _ h1'
  have hyu := hr y (by simp [ho, Op.operands]) _ h1''
  unfold entryStoreC at h
  split at h
  · rename_i bb n hn
    obtain ⟨kk, rfl⟩ := asNat_some hn
    replace hsu : a.eval st = .int kk (n : Int) := hsu
    replace h := none_cond h
    · split at h
      · rename_i es c hb
        split at h
        · rename_i es' hes
          injection h with h; subst h
          obtain ⟨q, q1, q2⟩ := hu
          obtain ⟨ents, q3, q4⟩ := hm.bk bb q _ q1 hb
          have hlt := hm.lt bb q q1
          obtain ⟨j, r1, r2⟩ := store_at hyu hes q4
          have hst := set_step (P := E.P) hm hf q1 hb trivial (obj := .map (ents.modify j fun e => { e with val := a.eval y }) c) (b' := .mp es' c) ⟨_, setW_get hlt, by simpa using r2⟩
          have r3 : ents.findIdx? (fun e => (e.born : Int) == (n : Int)) = some j := by
            cases ents; rw [List.findIdx?_toArray]; exact r1
          refine opRun_skip (by simp [ho]) ?_ ⟨_, μ, rfl, .undef, hst⟩
          have : (Instr.entryStore T (a.eval x) (a.eval st) (a.eval y)).run E.P w = .ok () (setW w q.g (.map (ents.modify j fun e => { e with val := a.eval y }) c)) := by
            unfold Instr.entryStore
            simp only [q2, hsu, Sem.run_bind, run_getMap q3, Result.andThen_ok, asInt, asIntOf, Sem.run_pure, r3]
            exact run_setObj q3 (by simp)
          simp [execOp, ho, this]
        · cases h
      · cases h
  · cases h
end
end Go.Cx
namespace Go.Cx

section
variable {E : Env} {X : Cfg} {ρ : Operand → Option C} {M M' : Mem} {R : Nat} {v : C} {b : Frame} {cs : List Frame} {o : Oper} {a : Act} {μ : Mp} {w w' : World}

theorem op_range [Lay] (hE : EOK E) {T : Nat} {x : Operand} (ho : o.op = .range T x) (hm : MR E.P μ M w) (hf : Fresh μ M) (hr : RR μ ρ a o.op) (h : oRange T x E X ρ M R = .ok v M') : OpOut E.P b cs o a μ M w v M' := by
  replace h := wv_ok' h; obtain ⟨u, h1, h⟩ := h
  replace h := out_ok h
  have hu := hr x (by simp [ho, Op.operands]) _ h1
  have hle : ∀ h, Le μ (addM μ M.nx h) := fun h => addM_le (hf.1 M.nx (Nat.le_refl _))
  unfold rangeC at h
  split at h
  · rename_i kt et hT
    obtain ⟨d, hd1, hd2⟩ := hE.kd hT
    replace hd2 : d = .map kt et := hd2
    subst hd2
    injection h with h; injection h with h2 h3; subst h2; subst h3
    replace hu : a.eval x = .map none := hu
    refine opRun_val (v := .pointer (some ⟨w.heap.size, 0, none⟩)) (w' := w.alloc (.mapIter none 0 #[] 0)) (by simp [ho]) ?_ ⟨_, _, rfl, ⟨⟨w.heap.size, 0, 0, 0⟩, addM_self _ _ _, rfl⟩, Step.add hm hf rfl (obj := .mapIter none 0 #[] 0) rfl rfl rfl rfl ⟨rfl, none, ?_, rfl⟩⟩
    · simp [execOp, ho, Instr.range, run_und hd1, hu]
    · show (w.heap.push _)[w.heap.size]? = _; simp
  · rename_i kt et bb hT
    obtain ⟨d, hd1, hd2⟩ := hE.kd hT
    replace hd2 : d = .map kt et := hd2
    subst hd2
    split at h
    · rename_i es c hb
      injection h with h; injection h with h2 h3; subst h2; subst h3
      obtain ⟨q, q1, q2⟩ := hu
      obtain ⟨ents, q3, q4⟩ := hm.bk bb q _ q1 hb
      refine opRun_val (v := .pointer (some ⟨w.heap.size, 0, none⟩)) (w' := w.alloc (.mapIter (some q.g) c #[] c)) (by simp [ho]) ?_ ⟨_, _, rfl, ⟨⟨w.heap.size, 0, 0, 0⟩, addM_self _ _ _, rfl⟩, Step.add hm hf rfl (obj := .mapIter (some q.g) c #[] c) rfl rfl rfl rfl ⟨rfl, some q.g, ?_, q, hle _ _ _ q1, rfl⟩⟩
      · simp [execOp, ho, Instr.range, run_und hd1, q2, run_getMap q3]
      · show (w.heap.push _)[w.heap.size]? = _; simp
    · cases h
  · cases h

theorem elemN_eq [Lay] (n : Nat) : ∀ l : List Nat, elemN n l = l.contains n
  | [] => rfl
  | m :: l => by
    simp only [elemN, nbeq, elemN_eq n l, List.contains_cons]
    by_cases h : n = m
    · subst h; simp
    · simp [h]
theorem left_rep [Lay] {seen : List Nat} : ∀ {es : List (C × C × Nat)} {ms : List MapEntry}, ER μ es ms → ER μ (leftC seen es) (ms.filter fun e => !seen.contains e.born)
  | [], ms, h => by simp only [ER] at h; subst h; rfl
  | (k, v, b) :: es, ms, ⟨e, l, h0, a1, a2, a3, a4⟩ => by
    subst h0
    simp only [leftC, elemN_eq]
    cases hc : seen.contains b with
    | true =>
      simp only [cond_true]
      rw [List.filter_cons_of_neg (by rw [a3, hc]; simp)]
      exact left_rep a4
    | false =>
      simp only [cond_false]
      rw [List.filter_cons_of_pos (by rw [a3, hc]; simp)]
      exact ⟨e, _, rfl, a1, a2, a3, left_rep a4⟩
theorem allLt_rep [Lay] {n : Nat} : ∀ {es : List (C × C × Nat)} {ms : List MapEntry}, ER μ es ms → allLt n es = true → ∀ e ∈ ms, e.born < n
  | [], ms, h, _, e, he => by simp only [ER] at h; subst h; cases he
  | (k, v, b) :: es, ms, ⟨e0, l, h0, a1, a2, a3, a4⟩, h, e, he => by
    subst h0
    simp only [allLt] at h
    cases hb : Nat.blt b n with
    | false => rw [hb] at h; cases h
    | true =>
      rw [hb] at h
      rcases List.mem_cons.1 he with rfl | he
      · rw [nblt] at hb; simp at hb; omega
      · exact allLt_rep a4 h e he

theorem run_getIter [Lay] {P : Program} {g : Nat} {m : Option Nat} {s : Nat} {sn : Array Nat} {l : Nat} (h : w.heap[g]? = some (.mapIter m s sn l)) : (getObj g).run P w = .ok (.mapIter m s sn l) w := by
  simp [getObj, Sem.run, h]

theorem op_next [Lay] {x : Operand} {t : Bool} (ho : o.op = .next x t) (hm : MR E.P μ M w) (hf : Fresh μ M) (hr : RR μ ρ a o.op) (h : oNext x t E X ρ M R = .ok v M') : OpOut E.P b cs o a μ M w v M' := by
  replace h := bb_ok h; obtain ⟨rfl, h⟩ := h
  replace h := wv_ok' h; obtain ⟨u, h1, h⟩ := h
  replace h := out_ok h
  have hu := hr x (by simp [ho, Op.operands]) _ h1
  unfold nextC at h
  split at h
  · rename_i r off
    replace h := cond_none h; obtain ⟨h0, h⟩ := h
    have := nbeq_true h0; subst this
    obtain ⟨q, q1, q2⟩ := hu
    split at h
    · rename_i s0 sn0 l0 hb
      injection h with h; injection h with h2 h3; subst h2; subst h3
      obtain ⟨z0, rr, q3, q4⟩ := hm.bk r q _ q1 hb
      subst q4
      refine (out_val (x := .tuple #[.bool false]) (by simp [ho]) hm hf ?_ (show VR μ (.tup [.bool false]) _ from ⟨_, rfl, VL.cons.2 ⟨rfl, rfl⟩⟩)).out (by simp [ho]) hm hf
      simp [execOp, ho, q2, z0, Instr.next, run_getIter q3]
    · rename_i bb since seen last hb
      obtain ⟨z0, rr, q3, hk, q4, q5⟩ := hm.bk r q _ q1 hb
      subst q5
      split at h
      · rename_i es c hb2
        replace h := cond_none h; obtain ⟨hlt, h⟩ := h
        simp only [Bool.and_eq_true, nble, decide_eq_true_eq] at hlt
        obtain ⟨hlt, hsl⟩ := hlt
        obtain ⟨ents, q6, q7⟩ := hm.bk bb hk _ q4 hb2
        have hborn := allLt_rep q7 hlt
        have hleft := left_rep (seen := seen) q7
        have hguard : (!seen.toArray.isEmpty && !ents.isEmpty && ents.all (fun e => decide (e.born ≥ last))) = false := by
          cases hne : ents.toList with
          | nil =>
            have : ents = #[] := by simpa using hne
            subst this; simp
          | cons e l =>
            have h5 := hborn e (by rw [hne]; simp)
            have h6 : ents.all (fun e => decide (e.born ≥ last)) = false := by
              rw [← Array.all_toList, hne]; simp; intro h7; omega
            rw [h6]; simp
        have hfl : ents.filter (fun e => !seen.toArray.contains e.born) = (ents.toList.filter fun e => !seen.contains e.born).toArray := by
          apply Array.ext'
          simp
        have hex : ∀ z w', (Instr.next (a.eval x) false o.type).run E.P w = .ok z w' → (execOp a.eval o).run E.P w = .ok (.value z) w' := fun z w' h => by simp [execOp, ho, h]
        split at h
        · rename_i hl
          injection h with h; injection h with h2 h3; subst h2; subst h3
          rw [hl] at hleft
          replace hleft : (ents.toList.filter fun e => !seen.contains e.born) = [] := hleft
          refine (out_val (x := .tuple #[.bool false]) (by simp [ho]) hm hf (hex _ _ ?_) (show VR μ (.tup [.bool false]) _ from ⟨_, rfl, VL.cons.2 ⟨rfl, rfl⟩⟩)).out (by simp [ho]) hm hf
          rw [hleft] at hfl
          unfold Instr.next
          simp only [q2, z0, Nat.add_zero, Sem.run_bind, run_getIter q3, Result.andThen_ok, run_getMap q6, hguard, hfl]
          simp [Question.forced]
        · rename_i k0 v0 st hl
          injection h with h; injection h with h2 h3; subst h2; subst h3
          rw [hl] at hleft
          obtain ⟨e, l', he, a1, a2, a3, a4⟩ := hleft
          simp only [ER] at a4; subst a4
          have hes : e.born < since := hborn e (by
            have : e ∈ ents.toList.filter fun e => !seen.contains e.born := by rw [he]; simp
            exact (List.mem_filter.1 this).1)
          rw [he] at hfl
          have hlt' := hm.lt r q q1
          have hst := set_step (P := E.P) hm hf q1 hb trivial (obj := .mapIter (some hk.g) since (seen.toArray.push e.born) c) (b' := .it (some bb) since (app seen [st]) c) ⟨z0, some hk.g, by rw [setW_get hlt', app_eq, ← a3]; simp, hk, q4, rfl⟩
          refine opRun_val (v := .tuple #[.bool true, e.key, e.val]) (by simp [ho]) (hex _ _ ?_) ⟨_, μ, rfl, ⟨_, rfl, VL.cons.2 ⟨rfl, VL.cons.2 ⟨a1, VL.cons.2 ⟨a2, rfl⟩⟩⟩⟩, hst⟩
          unfold Instr.next
          simp only [q2, z0, Nat.add_zero, Sem.run_bind, run_getIter q3, Result.andThen_ok, run_getMap q6, hguard, hfl]
          have h8 : ¬ since ≤ e.born := by omega
          simp [Question.forced, hes, h8]
          rw [run_setObj q3 (by simp)]
          simp
        · cases h
      · cases h
    · cases h
  · cases h

theorem born_rep [Lay] {n : Nat} {k v : C} : ∀ {es : List (C × C × Nat)} {ms : List MapEntry}, ER μ es ms → findBorn n es = some (k, v) → ∃ e, ms.find? (fun e => e.born == n) = some e ∧ VR μ k e.key ∧ VR μ v e.val
  | [], ms, _, h => by cases h
  | (k', v', b) :: es, ms, ⟨e, l, h0, a1, a2, a3, a4⟩, h => by
    subst h0
    simp only [findBorn] at h
    cases hb : Nat.beq b n with
    | true =>
      rw [hb] at h
      replace h : some (k', v') = some (k, v) := h
      injection h with h; injection h with h1 h2; subst h1; subst h2
      have := nbeq_true hb
      exact ⟨e, by rw [List.find?_cons_of_pos]; simp [a3, this], a1, a2⟩
    | false =>
      rw [hb] at h
      replace h : findBorn n es = some (k, v) := h
      obtain ⟨e', h1, h2, h3⟩ := born_rep a4 h
      have hne : b ≠ n := fun e => by subst e; simp at hb
      exact ⟨e', by rw [List.find?_cons_of_neg (by rw [a3]; simpa using hne)]; exact h1, h2, h3⟩
theorem last_eq [Lay] : ∀ {l : List Nat} {n : Nat}, lastN l = some n → l.getLast? = some n
  | [], _, h => by cases h
  | [x], n, h => by simpa [lastN] using h
  | _ :: y :: l, n, h => by
    have := last_eq (l := y :: l) h
    simpa [List.getLast?_cons_cons] using this

theorem op_entry [Lay] {x : Operand} (ho : o.op = .entry x) (hm : MR E.P μ M w) (hf : Fresh μ M) (hr : RR μ ρ a o.op) (h : oEntry x E X ρ M R = .ok v M') : VOut E.P o a μ M w v M' := by
  replace h := wv_ok' h; obtain ⟨u, h1, h⟩ := h
  replace h := outV_ok h; obtain ⟨rfl, h⟩ := h
  have hu := hr x (by simp [ho, Op.operands]) _ h1
  unfold entryC at h
  split at h
  · rename_i r off
    replace h := cond_none h; obtain ⟨h0, h⟩ := h
    have := nbeq_true h0; subst this
    obtain ⟨q, q1, q2⟩ := hu
    split at h
    · rename_i bb since seen last hb
      obtain ⟨z0, rr, q3, hk, q4, q5⟩ := hm.bk r q _ q1 hb
      subst q5
      split at h
      · rename_i st es c hst hb2
        replace h := cond_none h; obtain ⟨hc, h⟩ := h
        have := nbeq_true hc; subst this
        obtain ⟨ents, q6, q7⟩ := hm.bk bb hk _ q4 hb2
        split at h
        · rename_i k0 v0 hfb
          injection h with h; subst h
          obtain ⟨e, r1, r2, r3⟩ := born_rep q7 hfb
          have r4 : ents.find? (fun e => e.born == st) = some e := by cases ents; rw [List.find?_toArray]; exact r1
          have r5 : seen.toArray.back? = some st := by rw [List.back?_toArray]; exact last_eq hst
          refine out_val (x := .tuple #[e.key, e.val]) (by simp [ho]) hm hf ?_ ⟨_, rfl, VL.cons.2 ⟨r2, VL.cons.2 ⟨r3, rfl⟩⟩⟩
          have : (Instr.entry (a.eval x)).run E.P w = .ok (.tuple #[e.key, e.val]) w := by
            unfold Instr.entry
            simp only [q2, z0, Nat.add_zero, Sem.run_bind, run_getIter q3, Result.andThen_ok, r5, run_getMap q6, r4, bne_self_eq_false]
            simp
          simp [execOp, ho, this]
        · cases h
      · cases h
    · cases h
  · cases h

theorem op_assert [Lay] (hE : EOK E) {x : Operand} {T A : Nat} {ok : Bool} (ho : o.op = .typeAssert x T A ok) (hm : MR E.P μ M w) (hf : Fresh μ M) (hr : RR μ ρ a o.op) (h : oAssert x T A ok E X ρ M R = .ok v M') : VOut E.P o a μ M w v M' := by
  replace h := wv_ok' h; obtain ⟨u, h1, h⟩ := h
  replace h := outV_ok h; obtain ⟨rfl, h⟩ := h
  have hu := hr x (by simp [ho, Op.operands]) _ h1
  unfold typeAssertC at h
  split at h
  · rename_i kt et t c hT
    obtain ⟨d, hd1, hd2⟩ := hE.kd hT
    replace hd2 : d = .map kt et := hd2
    subst hd2
    replace h := cond_none h; obtain ⟨hc, h⟩ := h
    have := nbeq_true hc; subst this
    injection h with h; subst h
    obtain ⟨y, h2, h3⟩ := hu
    refine out_val (x := if ok then .tuple #[y, .bool true] else y) (by simp [ho]) hm hf ?_ ?_
    · have : (Instr.typeAssert (a.eval x) T t ok).run E.P w = .ok (if ok then .tuple #[y, .bool true] else y) w := by
        unfold Instr.typeAssert
        simp only [Sem.run_bind, run_und hd1, Result.andThen_ok, h2]
        simp
      simp [execOp, ho, this]
    · cases ok
      · exact h3
      · exact ⟨_, rfl, VL.cons.2 ⟨h3, VL.cons.2 ⟨rfl, rfl⟩⟩⟩
  · cases h
end
end Go.Cx
namespace Go.Cx

section
variable {E : Env} {X : Cfg} {ρ : Operand → Option C} {M M' : Mem} {R : Nat} {v : C} {b : Frame} {cs : List Frame} {o : Oper} {a : Act} {μ : Mp} {w w' : World}

/-- a block is only read from now on, as far as its first cells -/
theorem demote_step [Lay] {P : Program} (hm : MR P μ M w) (hf : Fresh μ M) {k : Nat} {q : Home} {U : Nat} {md : Mode} {cl : List C} {t : Nat} (hk : μ k = some q) (hb : M.get k = some (.cells U md cl)) (ht : t ≤ cl.length) (hne : md = .ex ∨ t = cl.length) :
    Step P μ M w μ (M.set k (.cells U .sh (cl.take t))) w := by
  refine ⟨Le.refl _, by simp, fun i h0 h' => absurd h0 h', hf.set hk, ⟨fun i y c hy hc => ?_, fun i i' y y' c c' hy hy' hc hc' hg hne' => ?_, hm.lt, hm.lay⟩, fun i c hi h0 hc => ?_, rfl, rfl, rfl, Nat.le_refl _, fun _ _ _ => rfl, fun i y hy => .inl ⟨i, y, hy, rfl⟩⟩
  · rw [Mem.get_set] at hc
    split at hc
    · rename_i e; subst e
      injection hc with hc; subst hc
      rw [hk] at hy; injection hy with hy; subst hy
      obtain ⟨cur, fz, h1, h2, h3, h4, h5, h6⟩ := hm.bk i q _ hk hb
      refine ⟨cur, fz, h1, h2, h3, by simp; omega, fun j c hj => ?_, trivial⟩
      rw [List.getElem?_take] at hj
      split at hj
      · exact h5 j c hj
      · cases hj
    · exact hm.bk i y c hy hc
  · have key : ∀ i y c, μ i = some y → M.get i = some c → i ≠ k → y.g = q.g → Sib q (.cells U .sh (cl.take t)) y c ∧ Sib y c q (.cells U .sh (cl.take t)) := by
      intro i y c hy hc hi hg
      have h1 := hm.al k i q y _ _ hk hy hb hc hg.symm (Ne.symm hi)
      have h2 := hm.al i k y q _ _ hy hk hc hb hg hi
      cases md with
      | ex => exact absurd h1 (fun h => h.excl trivial)
      | own =>
        have e : cl.take t = cl := by rcases hne with h | h; · cases h
                                      · rw [h, List.take_length]
        rw [e]
        cases c with
        | cells T m cs' => cases m <;> first | exact ⟨trivial, trivial⟩ | exact h1.elim
        | _ => exact h1.elim
      | sh =>
        have e : cl.take t = cl := by rcases hne with h | h; · cases h
                                      · rw [h, List.take_length]
        rw [e]; exact ⟨h1, h2⟩
    rw [Mem.get_set] at hc hc'
    split at hc
    · rename_i e; subst e
      rw [if_neg (Ne.symm hne')] at hc'
      rw [hk] at hy; injection hy with hy; subst hy
      injection hc with hc; subst hc
      exact (key i' y' c' hy' hc' (Ne.symm hne') hg.symm).1
    · rename_i e
      split at hc'
      · rename_i e'; subst e'
        rw [hk] at hy'; injection hy' with hy'; subst hy'
        injection hc' with hc'; subst hc'
        exact (key i y c hy hc e hg).2
      · exact hm.al i i' y y' c c' hy hy' hc hc' hg hne'
  · rw [Mem.get_set] at hc
    split at hc
    · rename_i e; subst e; rw [hk] at h0; cases h0
    · exact hc

/-- a new block lies behind what is there of its home -/
theorem share_step [Lay] {P : Program} (hm : MR P μ M w) (hf : Fresh μ M) {k : Nat} {q x : Home} {U lim : Nat} {ds : List C} {cur cur' : Array Value} {fz : Nat × Nat} (hk : μ k = some q)
    (hsib : ∀ i y b, μ i = some y → M.get i = some b → y.g = q.g → ∃ T cl, b = .cells T .sh cl ∧ y.sh + cl.length ≤ lim) (hh : w.heap[q.g]? = some (.cells cur U fz)) (hh' : w'.heap[q.g]? = some (.cells cur' U fz))
    (hsz : cur'.size = cur.size) (hcur : ∀ j, j < lim → cur'[j]? = cur[j]?) (hw : ∀ g, g ≠ q.g → w'.heap[g]? = w.heap[g]?) (hs : w'.heap.size = w.heap.size) (h1 : w'.os = w.os) (h2 : w'.tape = w.tape) (h3 : w'.output = w.output)
    (hx1 : x.g = q.g) (hx2 : x.sz = P.cellsOf U) (hx3 : x.size = cur.size) (hx4 : lim ≤ x.sh + ds.length) (hx5 : x.sh + ds.length ≤ cur.size) (hfz : fz.2 ≤ x.sh + ds.length)
    (hds : ∀ i c, ds[i]? = some c → isCell c = true ∧ ∃ y, cur'[x.sh + i]? = some y ∧ VR μ c y) : Step P μ M w (addM μ M.nx x) (M.add (.cells U .own ds)) w' := by
  have hn : μ M.nx = none := hf.1 _ (Nat.le_refl _)
  have hle := addM_le (h := x) hn
  have hcase : ∀ k y, addM μ M.nx x k = some y → (k = M.nx ∧ y = x) ∨ (k ≠ M.nx ∧ μ k = some y) := fun k y hy => by
    by_cases e : k = M.nx
    · subst e; rw [addM_self] at hy; injection hy with hy; exact .inl ⟨rfl, hy.symm⟩
    · simp only [addM, e, if_false] at hy; exact .inr ⟨e, hy⟩
  have hold : ∀ i y b, μ i = some y → M.get i = some b → BR P (addM μ M.nx x) y b w' := by
    intro i y b hy hb
    by_cases hg : y.g = q.g
    · obtain ⟨T, cl, rfl, hl⟩ := hsib i y b hy hb hg
      obtain ⟨cur0, fz0, r1, r2, r3, r4, r5, _⟩ := hm.bk i y _ hy hb
      rw [hg, hh] at r1
      injection r1 with r1; injection r1 with r1 r1' r1''
      subst r1; subst r1'; subst r1''
      refine ⟨cur', fz, by rw [hg]; exact hh', by rw [hsz]; exact r2, r3, by rw [hsz]; exact r4, fun j c hj => ?_, trivial⟩
      obtain ⟨k1, z, k2, k3⟩ := r5 j c hj
      have hj' : j < cl.length := (List.getElem?_eq_some_iff.1 hj).1
      exact ⟨k1, z, by rw [hcur _ (by omega)]; exact k2, k3.mono hle⟩
    · exact (hm.bk i y b hy hb).mono hle (hw _ hg)
  refine ⟨hle, by simp, fun k h0 h' => ?_, ⟨fun k hk => ?_, fun k hk => ?_⟩, ⟨fun k y c hy hc => ?_, fun k k' y y' c c' hy hy' hc hc' hg hne => ?_, fun k y hy => ?_, hm.lay.step (fun g hg hgn => hw g (fun e => hgn k q hk e.symm)) fun i y hy => (hcase i y hy).elim (fun e => .inl ⟨k, q, hk, by rw [e.2]; exact hx1.symm⟩) fun e => .inl ⟨i, y, e.2, rfl⟩⟩, fun k c hk h0 hc => ?_, h1, h2, h3, by omega, fun g hg hgn => hw g (fun e => hgn k q hk e.symm), fun i y hy => ?_⟩
  · by_cases e : k = M.nx
    · omega
    · simp only [addM, e, if_false] at h'; exact absurd h0 h'
  · simp only [Mem.nx_add] at hk
    have : k ≠ M.nx := by omega
    simp only [addM, this, if_false]; exact hf.1 k (by omega)
  · simp only [Mem.nx_add] at hk
    rw [Mem.get_add, if_neg (by omega)]; exact hf.2 k (by omega)
  · rw [Mem.get_add] at hc
    rcases hcase k y hy with ⟨rfl, rfl⟩ | ⟨e, hy⟩
    · rw [if_pos rfl] at hc; injection hc with hc; subst hc
      exact ⟨cur', fz, by rw [hx1]; exact hh', by rw [hsz, hx3], hx2, by rw [hsz]; exact hx5, fun i c hi => ⟨(hds i c hi).1, let ⟨z, a, b⟩ := (hds i c hi).2; ⟨z, a, b.mono hle⟩⟩, hfz⟩
    · rw [if_neg e] at hc; exact hold k y c hy hc
  · rw [Mem.get_add] at hc hc'
    rcases hcase k y hy with ⟨rfl, rfl⟩ | ⟨e, hy1⟩
    · rw [if_pos rfl] at hc; injection hc with hc; subst hc
      rcases hcase k' y' hy' with ⟨rfl, rfl⟩ | ⟨e', hy1⟩
      · exact absurd rfl hne
      · rw [if_neg e'] at hc'
        obtain ⟨T, cl, rfl, hl⟩ := hsib k' y' c' hy1 hc' (by rw [← hg, hx1])
        exact Nat.le_trans hl hx4
    · rw [if_neg e] at hc
      rcases hcase k' y' hy' with ⟨rfl, rfl⟩ | ⟨e', hy2⟩
      · rw [if_pos rfl] at hc'; injection hc' with hc'; subst hc'
        obtain ⟨T, cl, rfl, hl⟩ := hsib k y c hy1 hc (by rw [hg, hx1])
        exact Nat.le_trans hl hx4
      · rw [if_neg e'] at hc'
        exact hm.al k k' y y' c c' hy1 hy2 hc hc' hg hne
  · rcases hcase k y hy with ⟨rfl, rfl⟩ | ⟨e, hy⟩
    · rw [hx1, hs]; exact hm.lt _ q ‹_›
    · rw [hs]; exact hm.lt k y hy
  · rw [Mem.get_add, if_neg (by omega)] at hc; exact hc
  · rcases hcase i y hy with ⟨rfl, rfl⟩ | ⟨e, hy⟩
    · exact .inl ⟨k, q, hk, hx1.symm⟩
    · exact .inl ⟨i, y, hy, rfl⟩
end
end Go.Cx
namespace Go.Cx

section
variable {P : Program} {w w' : World}
theorem run_append_grow' [Lay] {t t2 ty e : TypeId} {i : TypeInfo} {z : Value} (ht : P.underlying t = some (.slice e)) {d : TypeDesc} (ht2 : P.underlying t2 = some d) (hd : ∀ k, d ≠ .int k) (hi : P.info? e = some i) (hz : i.zero = some z)
    {A : Option Addr} {sLen sCap m : Nat} {x : Value} {olds news : List Value} (hlen : (Builtin.lenOf x).run P w = .ok m w) (hfo : (Builtin.firstCells i.size sLen (.slice A sLen sCap)).run P w.drew = .ok olds.toArray w.drew)
    (hf : (Builtin.firstCells i.size m x).run P w.drew = .ok news.toArray w.drew) (hg : sCap < sLen + m) (h63 : ((sLen + m : Nat) : Int) ≤ 9223372036854775807) (hfit : Builtin.nextslicecap (sLen + m) sCap * i.bytes ≤ 281474976710656) :
    (Builtin.append_ #[t, t2] ty #[.slice A sLen sCap, x]).run P w =
      .ok (.slice (some ⟨w.heap.size, 0, none⟩) (sLen + m) (grownCap w (sLen + m) sCap e)) (w.drew.alloc (.cells (olds.toArray ++ news.toArray ++ Builtin.zeroCells z.cells (grownCap w (sLen + m) sCap e - (sLen + m))) e)) := by
  have hn : ¬ (sLen + m ≤ sCap) := by omega
  have h63' : ¬ (9223372036854775807 < ((sLen : Int) + (m : Int))) := by omega
  have h48' : ¬ (281474976710656 < Builtin.nextslicecap (sLen + m) sCap * i.bytes) := by omega
  have hd' : (match d with | .int _ => true | _ => false) = false := by cases d <;> first | rfl | exact absurd rfl (hd _)
  simp [Builtin.append_, run_und ht, run_und ht2, Go.sizeOf, typeInfo, zeroValue, hi, hz, hd', hlen, hn, h63', h48', Question.forced, hf, hfo, newRow, grownCap]
  congr 2
  apply Array.ext'
  simp [List.append_assoc]
theorem run_append_room' [Lay] {t t2 ty e : TypeId} {i : TypeInfo} (ht : P.underlying t = some (.slice e)) {d : TypeDesc} (ht2 : P.underlying t2 = some d) (hd : ∀ k, d ≠ .int k) (hi : P.info? e = some i)
    {A : Option Addr} {sLen sCap m : Nat} {x : Value} {news : List Value} (hlen : (Builtin.lenOf x).run P w = .ok m w)
    (hf : (Builtin.firstCells i.size m x).run P w = .ok news.toArray w) (hg : sLen + m ≤ sCap) (hst : ∀ a, A = some a → (storeCells (a.add (sLen * i.size)) news).run P w = .ok () w') (hnil : A = none → w' = w) :
    (Builtin.append_ #[t, t2] ty #[.slice A sLen sCap, x]).run P w = .ok (.slice A (sLen + m) sCap) w' := by
  have hd' : (match d with | .int _ => true | _ => false) = false := by cases d <;> first | rfl | exact absurd rfl (hd _)
  cases A with
  | none =>
    rw [hnil rfl]
    simp [Builtin.append_, run_und ht, run_und ht2, Go.sizeOf, typeInfo, hi, hd', hlen, hg, hf]
  | some ad =>
    simp [Builtin.append_, run_und ht, run_und ht2, Go.sizeOf, typeInfo, hi, hd', hlen, hg, hf, hst ad rfl]
theorem grownCap_ge' [Lay] (w : World) (need old : Nat) (e : TypeId) : need ≤ grownCap w need old e := by simp [grownCap, Question.cut]
end

section
variable {E : Env} {X : Cfg} {ρ : Operand → Option C} {M M' : Mem} {R : Nat} {v : C} {b : Frame} {cs : List Frame} {o : Oper} {a : Act} {μ : Mp} {w w' : World}

/-- what is appended -/
theorem news_rep [Lay] (hE : EOK E) (hm : MR E.P μ M w) {t2 z m : Nat} {y : C} {news : List C} {p : Value} (hy : VR μ y p) (h : newsC E M t2 z y = some (m, news)) :
    ∃ d nvs, E.P.underlying t2 = some d ∧ (∀ k, d ≠ .int k) ∧ VL μ news nvs ∧ (∀ c ∈ news, isCell c = true) ∧ news.length = m * z ∧ (Builtin.lenOf p).run E.P w = .ok m w ∧
      ∀ w2 : World, w2.heap = w.heap → (Builtin.firstCells z m p).run E.P w2 = .ok nvs.toArray w2 := by
  unfold newsC at h
  split at h
  · rename_i s hT
    obtain ⟨d, hd1, hd2⟩ := hE.kd hT
    replace hd2 : d = .string := hd2
    subst hd2
    replace h := cond_none h; obtain ⟨hz, h⟩ := h
    have := nbeq_true hz; subst this
    injection h with h; injection h with h1 h2; subst h1; subst h2
    obtain ⟨bs, rfl, rfl⟩ := hy
    have hsz : (ByteArray.mk bs.toArray).size = bs.length := by simp [ByteArray.size]
    refine ⟨_, bs.map fun b => Value.int .u8 b.toNat, hd1, by simp, byteCells_rep bs, byteCells_cell _, by rw [byteCells_eq]; simp, by simp [Builtin.lenOf, hsz], fun w2 _ => ?_⟩
    have hx : ((ByteArray.mk bs.toArray).extract 0 bs.length).data = bs.toArray := by
      simp [ByteArray.data_extract]
    simp [Builtin.firstCells, hx]
  · rename_i e hT
    obtain ⟨d, hd1, hd2⟩ := hE.kd hT
    replace hd2 : d = .slice e := hd2
    subst hd2
    injection h with h; injection h with h1 h2; subst h1; subst h2
    replace hy : p = .slice none 0 0 := hy
    subst hy
    exact ⟨_, [], hd1, by simp, rfl, by simp, by simp, by simp [Builtin.lenOf], fun w2 _ => by simp [Builtin.firstCells]⟩
  · rename_i e f k off n hT
    obtain ⟨d, hd1, hd2⟩ := hE.kd hT
    replace hd2 : d = .slice e := hd2
    subst hd2
    obtain ⟨q, off', cap, k1, rfl, k3, k4, k5⟩ := hy
    cases hn0 : Nat.beq n 0 with
    | true =>
      rw [hn0] at h
      replace h : some (0, []) = some (m, news) := h
      injection h with h; injection h with h1 h2; subst h1; subst h2
      have := nbeq_true hn0; subst this
      exact ⟨_, [], hd1, by simp, rfl, by simp, by simp, by simp [Builtin.lenOf], fun w2 _ => by simp [Builtin.firstCells, loadCells, loadCellsFrom]⟩
    | false =>
      rw [hn0] at h
      simp only [cond_false] at h
      split at h
      · rename_i U md cl hb
        split at h
        · rename_i ds hc
          injection h with h; injection h with h1 h2; subst h1; subst h2
          obtain ⟨xs, r1, r2, r3, r4⟩ := (hm.bk k q _ k1 hb).row hc
          have hpos : n ≠ 0 := fun e => by subst e; simp at hn0
          have hl : ds.length = n * z := by rw [← r2.length, r1]
          refine ⟨_, xs, hd1, by simp, r2, r3, hl, by simp [Builtin.lenOf], fun w2 hw2 => ?_⟩
          exact run_firstCells_some w2 z n ⟨q.g, off', none⟩ n cap xs r1 (fun j v hv => by
            rw [addr_add, (k5 (by omega)).1]
            have := r4 j v hv
            simp only [World.cell?, hw2] at this ⊢
            exact this)
        · cases h
      · cases h
  · cases h

theorem zeroCells_size [Lay] (z : Array Value) (n : Nat) : (Builtin.zeroCells z n).size = n * z.size := by simp [Builtin.zeroCells]

/-- a call of append -/
theorem append_rep [Lay] (hE : EOK E) {t1 t2 ty : Nat} {x y : C} {p q : Value} (hm : MR E.P μ M w) (hf : Fresh μ M) (hx : VR μ x p) (hy : VR μ y q) (h : appendC E M t1 t2 x y = some (v, M')) :
    ∃ z μ' w', (Builtin.append_ #[t1, t2] ty #[p, q]).run E.P w = .ok z w' ∧ VR μ' v z ∧ Step E.P μ M w μ' M' w' := by
  unfold appendC at h
  split at h
  · rename_i T hT
    obtain ⟨d, hd1, hd2⟩ := hE.kd hT
    replace hd2 : d = .slice T := hd2
    subst hd2
    split at h
    · rename_i ti hti
      obtain ⟨i, dT, zv, ht⟩ := hE.ty T ti hti
      replace h := cond_none h; obtain ⟨hc, h⟩ := h
      simp only [Bool.and_eq_true, nblt, nble, decide_eq_true_eq] at hc
      obtain ⟨hpos, hby⟩ := hc
      split at h
      · rename_i m news hnews
        obtain ⟨d2, nvs, n1, n2, n3, n4, n5, n6, n7⟩ := news_rep hE hm hy hnews
        have hzsz : zv.cells.size = ti.size := by have := ht.zr.length; rw [ht.zl] at this; simpa using this
        have hcellsT : E.P.cellsOf T = ti.size := ht.cells
        have hfit : ∀ c n, c < n + m → n + m ≤ 1048576 → Builtin.nextslicecap (n + m) c * i.bytes ≤ 281474976710656 := fun c n hc hn =>
          growslice_fits hc (Nat.le_trans (Nat.mul_le_mul hn (by rw [ht.bytes]; exact hby)) (by decide))
        -- a new array
        have grow : ∀ {M1 : Mem} {w0 : World} (md : Mode) (A : Option Addr) (n c : Nat) (olds : List C) (ovs : List Value), w0 = w → MR E.P μ M1 w0 → Fresh μ M1 → n + m ≤ 1048576 → c < n + m → VL μ olds ovs → (∀ c ∈ olds, isCell c = true) → olds.length = n * ti.size →
            (∀ w2 : World, w2.heap = w.heap → (Builtin.firstCells ti.size n (.slice A n c)).run E.P w2 = .ok ovs.toArray w2) →
            ∃ z μ' w', (Builtin.append_ #[t1, t2] ty #[.slice A n c, q]).run E.P w = .ok z w' ∧ VR μ' (.sl false M1.nx 0 (n + m)) z ∧ Step E.P μ M1 w0 μ' (M1.add (.cells T md (olds ++ news))) w' := by
          intro M1 w0 md A n c olds ovs hw0 hm1 hf1 hle hlt ho1 ho2 ho3 ho4
          subst hw0
          have hr := run_append_grow' (P := E.P) (w := w0) (ty := ty) hd1 n1 n2 ht.info ht.zero (A := A) (sLen := n) (sCap := c) (m := m) (x := q) (olds := ovs) (news := nvs) n6 (by rw [ht.size]; exact ho4 _ rfl) (by rw [ht.size]; exact n7 _ rfl) hlt (by omega) (hfit c n hlt hle)
          have hge := grownCap_ge' w0 (n + m) c T
          have hol := ho1.length
          have hnl := n3.length
          have hst := new_step (P := E.P) (w1 := w0.drew) (T := T) (m := md) (ds := olds ++ news) (xs := ovs ++ nvs) (cur := ovs.toArray ++ nvs.toArray ++ Builtin.zeroCells zv.cells (grownCap w0 (n + m) c T - (n + m))) hm1 hf1
            (fun c hc => by rcases List.mem_append.1 hc with hc | hc; · exact ho2 c hc
                            · exact n4 c hc) (ho1.append n3) (fun j x hj => by
              have hlt2 : j < (ovs ++ nvs).length := (List.getElem?_eq_some_iff.1 hj).1
              rw [Array.getElem?_append_left (by simpa using hlt2)]
              simpa using hj) rfl rfl rfl rfl
          refine ⟨_, _, _, hr, .new_sl hge (fun h => by cases h) ?_, hst⟩
          rw [hcellsT]
          simp only [Array.size_append, List.size_toArray, hol, hnl, ho3, n5, zeroCells_size, hzsz, ← Nat.add_mul]
          exact Nat.mul_le_mul_right _ (by omega)
        split at h
        · -- nothing yet
          replace hx : p = .slice none 0 0 := hx
          subst hx
          cases hm0 : Nat.beq m 0 with
          | true =>
            rw [hm0] at h
            replace h : some (C.nils, M) = some (v, M') := h
            injection h with h; injection h with h1 h2; subst h1; subst h2
            have := nbeq_true hm0; subst this
            have hnil : nvs = [] := by
              have := n3.length; rw [n5] at this; simpa using this
            have hr := run_append_room' (P := E.P) (w := w) (w' := w) (ty := ty) hd1 n1 n2 ht.info (A := none) (sLen := 0) (sCap := 0) (m := 0) (x := q) (news := nvs) n6 (by rw [ht.size]; exact n7 _ rfl) (by omega) (fun _ e => by cases e) (fun _ => rfl)
            exact ⟨_, μ, w, hr, rfl, .refl hm hf⟩
          | false =>
            rw [hm0] at h
            simp only [cond_false] at h
            replace h := cond_none h; obtain ⟨hle, h⟩ := h
            rw [nble] at hle
            simp only [decide_eq_true_eq] at hle
            unfold appMax at hle
            injection h with h; injection h with h1 h2; subst h1; subst h2
            have hmp : m ≠ 0 := fun e => by subst e; simp at hm0
            obtain ⟨z, μ', w', g1, g2, g3⟩ := grow .ex none 0 0 [] [] rfl hm hf (by omega) (by omega) rfl (by simp) (by simp) (fun w2 _ => by simp [Builtin.firstCells])
            rw [Nat.zero_add] at g2
            exact ⟨z, μ', w', g1, g2, g3⟩
        · rename_i f k off n
          obtain ⟨qh, off', cap, k1, rfl, k3, k4, k5⟩ := hx
          cases hm0 : Nat.beq m 0 with
          | true =>
            rw [hm0] at h
            replace h : some (C.sl f k off n, M) = some (v, M') := h
            injection h with h; injection h with h1 h2; subst h1; subst h2
            have := nbeq_true hm0; subst this
            have hnil : nvs = [] := by
              have := n3.length; rw [n5] at this; simpa using this
            subst hnil
            have hr := run_append_room' (P := E.P) (w := w) (w' := w) (ty := ty) hd1 n1 n2 ht.info (A := some ⟨qh.g, off', none⟩) (sLen := n) (sCap := cap) (m := 0) (x := q) (news := []) n6 (by rw [ht.size]; exact n7 _ rfl) (by omega) (fun _ _ => by simp [storeCells]) (fun _ => rfl)
            exact ⟨_, μ, w, hr, ⟨qh, off', cap, k1, rfl, k3, k4, k5⟩, .refl hm hf⟩
          | false =>
            rw [hm0] at h
            simp only [cond_false] at h
            replace h := cond_none h; obtain ⟨hle, h⟩ := h
            rw [nble] at hle
            simp only [decide_eq_true_eq] at hle
            unfold appMax at hle
            have hmp : m ≠ 0 := fun e => by subst e; simp at hm0
            split at h
            · rename_i U md cl hb
              split at h
              · rename_i olds hcut
                obtain ⟨ovs, r1, r2, r3, r4⟩ := (hm.bk k qh _ k1 hb).row hcut
                have hol : olds.length = n * ti.size := by rw [← r2.length, r1]
                have hfc : ∀ w2 : World, w2.heap = w.heap → (Builtin.firstCells ti.size n (.slice (some ⟨qh.g, off', none⟩) n cap)).run E.P w2 = .ok ovs.toArray w2 := fun w2 hw2 =>
                  run_firstCells_some w2 ti.size n ⟨qh.g, off', none⟩ n cap ovs r1 (fun j v hv => by
                    have hjl : j < n * ti.size := by have := (List.getElem?_eq_some_iff.1 hv).1; omega
                    have hn0 : n ≠ 0 := fun e => by subst e; simp at hjl
                    rw [addr_add, (k5 (by omega)).1]
                    have := r4 j v hv
                    simp only [World.cell?, hw2] at this ⊢
                    exact this)
                cases f with
                | true =>
                  replace h : some (C.sl false M.nx 0 (n + m), M.add (.cells T .ex (app olds news))) = some (v, M') := h
                  injection h with h; injection h with h1 h2; subst h1; subst h2
                  have hcap := k4 rfl
                  subst hcap
                  obtain ⟨z, μ', w', g1, g2, g3⟩ := grow .ex _ cap cap olds ovs rfl hm hf hle (by omega) r2 r3 hol hfc
                  exact ⟨z, μ', w', g1, g2, by rw [app_eq]; exact g3⟩
                | false =>
                  simp only [cond_false] at h
                  replace h := cond_none h; obtain ⟨hU, h⟩ := h
                  have := nbeq_true hU; subst this
                  obtain ⟨hcl, hcl2⟩ := cut_some hcut
                  have hqsz : qh.sz = ti.size := by
                    obtain ⟨_, _, _, _, h3, _⟩ := hm.bk k qh _ k1 hb
                    rw [h3, hcellsT]
                  -- the old block is read from now on; the new one lies behind it, or elsewhere
                  have both : ∀ t, t = off + n * ti.size → (md = .ex ∨ md = .own ∧ t = cl.length) → ∃ z μ' w', (Builtin.append_ #[t1, t2] ty #[.slice (some ⟨qh.g, off', none⟩) n cap, q]).run E.P w = .ok z w' ∧ VR μ' (.sl false M.nx 0 (n + m)) z ∧
                      Step E.P μ M w μ' ((M.set k (.cells U .sh (cl.take t))).add (.cells U .own (olds ++ news))) w' := by
                    intro t ht0 hmd
                    have hdm := demote_step (P := E.P) (t := t) hm hf k1 hb (by omega) (hmd.imp id fun h => h.2)
                    by_cases hroom : n + m ≤ cap
                    · obtain ⟨e1, e2⟩ := k5 (by omega)
                      obtain ⟨cur, fz, c1, c2, c3, c4, c5, c6⟩ := hm.bk k qh _ k1 hb
                      have hnl := n3.length
                      have hfit2 : n * ti.size + m * ti.size ≤ cap * ti.size := by rw [← Nat.add_mul]; exact Nat.mul_le_mul_right _ hroom
                      rw [hqsz] at e2
                      have hfz : ∀ j, qh.sh + t ≤ j → ¬ (fz.1 ≤ j ∧ j < fz.2) := by
                        intro j hj
                        rcases hmd with rfl | ⟨rfl, ht⟩
                        · rw [c6.1]; simp
                        · replace c6 : fz.2 ≤ qh.sh + cl.length := c6
                          omega
                      obtain ⟨w', cur', s1, s2, s3, s4, s5, s6, s7, s8, s9⟩ := run_storeCells (P := E.P) (g := qh.g) (o := qh.sh + t) nvs 0 w cur c1 (one_cells n4 n3) (by omega) (fun j hj _ => hfz j (by omega))
                      have hr := run_append_room' (P := E.P) (w := w) (w' := w') (ty := ty) hd1 n1 n2 ht.info (A := some ⟨qh.g, off', none⟩) (sLen := n) (sCap := cap) (m := m) (x := q) (news := nvs) n6 (by rw [ht.size]; exact n7 _ rfl) hroom (fun ad e => by
                        injection e with e; subst e
                        rw [addr_add, ht.size, e1]
                        rw [show qh.sh + off + n * ti.size = qh.sh + t by omega]; exact s1) (fun e => by cases e)
                      have hk' : (M.set k (.cells U .sh (cl.take t))).get k = some (.cells U .sh (cl.take t)) := by rw [Mem.get_set, if_pos rfl]
                      have hsh := share_step (P := E.P) (M := M.set k (.cells U .sh (cl.take t))) (w := w) (w' := w') (U := U) (lim := qh.sh + t) (ds := olds ++ news) (x := ⟨qh.g, qh.sh + off, qh.sz, qh.size⟩) hdm.mr hdm.fresh k1
                        (fun i y b' hy hb' hg => by
                          by_cases hik : i = k
                          · subst hik
                            rw [k1] at hy; injection hy with hy; subst hy
                            rw [hk'] at hb'; injection hb' with hb'
                            exact ⟨U, _, hb'.symm, by simp; omega⟩
                          · rw [Mem.get_set, if_neg hik] at hb'
                            have hs1 := hm.al k i qh y _ _ k1 hy hb hb' hg.symm (Ne.symm hik)
                            rcases hmd with rfl | ⟨rfl, ht⟩
                            · exact (hs1.excl trivial).elim
                            · cases b' with
                              | cells T' m' cs' =>
                                cases m' with
                                | sh => exact ⟨T', cs', rfl, by have : y.sh + cs'.length ≤ qh.sh + cl.length := hs1; omega⟩
                                | _ => exact hs1.elim
                              | _ => exact hs1.elim) c1 s7 s8 (fun j hj => by rw [s9, if_neg (by omega)]) s6 s5 s2 s3 s4 rfl (by rw [hqsz, hcellsT]) c2.symm (by simp only [List.length_append]; omega) (by simp only [List.length_append]; omega)
                        (by
                          rcases hmd with rfl | ⟨rfl, ht⟩
                          · rw [c6.1]; exact Nat.zero_le _
                          · replace c6 : fz.2 ≤ qh.sh + cl.length := c6
                            simp only [List.length_append]; omega)
                        (fun j c hj => by
                          by_cases hjo : j < olds.length
                          · rw [List.getElem?_append_left hjo] at hj
                            obtain ⟨y, y1, y2⟩ := r2.get hj
                            refine ⟨r3 c (List.mem_of_getElem? hj), y, ?_, y2⟩
                            show cur'[qh.sh + off + j]? = some y
                            rw [s9, if_neg (by omega)]
                            have := r4 j y y1
                            rw [blk_cell c1] at this; exact this
                          · rw [List.getElem?_append_right (by omega)] at hj
                            obtain ⟨y, y1, y2⟩ := n3.get hj
                            refine ⟨n4 c (List.mem_of_getElem? hj), y, ?_, y2⟩
                            have hjn : j - olds.length < nvs.length := (List.getElem?_eq_some_iff.1 y1).1
                            show cur'[qh.sh + off + j]? = some y
                            rw [s9, if_pos (by omega)]
                            rw [show qh.sh + off + j - (qh.sh + t + 0) = j - olds.length by omega]; exact y1)
                      refine ⟨_, _, w', hr, ?_, hdm.trans hsh⟩
                      exact ⟨_, off', cap, addM_self _ _ _, rfl, hroom, (fun h => by cases h), fun _ => ⟨by simp [e1], by simp only [hqsz]; exact e2⟩⟩
                    · obtain ⟨z, μ', w', g1, g2, g3⟩ := grow (M1 := M.set k (.cells U .sh (cl.take t))) (w0 := w) .own _ n cap olds ovs rfl hdm.mr hdm.fresh hle (by omega) r2 r3 hol hfc
                      exact ⟨z, μ', w', g1, g2, hdm.trans g3⟩
                  cases md with
                  | sh => cases h
                  | own =>
                    simp only at h
                    replace h := cond_none h; obtain ⟨he, h⟩ := h
                    have he := nbeq_true he
                    rw [len_eq] at he
                    injection h with h; injection h with h1 h2; subst h1; subst h2
                    obtain ⟨z, μ', w', g1, g2, g3⟩ := both cl.length he.symm (.inr ⟨rfl, rfl⟩)
                    rw [List.take_length] at g3
                    exact ⟨z, μ', w', g1, g2, by rw [app_eq]; exact g3⟩
                  | ex =>
                    simp only at h
                    injection h with h; injection h with h1 h2; subst h1; subst h2
                    obtain ⟨z, μ', w', g1, g2, g3⟩ := both (off + n * ti.size) rfl (.inl rfl)
                    exact ⟨z, μ', w', g1, g2, by rw [app_eq, takeN_eq]; exact g3⟩
              · cases h
            · cases h
        · cases h
      · cases h
    · cases h
  · cases h
end
end Go.Cx
namespace Go.Cx

section
variable {E : Env} {X : Cfg} {ρ : Operand → Option C} {M M' : Mem} {R : Nat} {v : C} {b : Frame} {cs : List Frame} {o : Oper} {a : Act} {μ : Mp} {w w' : World}

/-- what is frozen of a row -/
def fzOf (fz : Nat × Nat) (off n : Nat) : Nat × Nat := if fz.1 == fz.2 then (off, off + n) else (min fz.1 off, max fz.2 (off + n))
theorem freeze_heap [Lay] {g off n : Nat} {cur : Array Value} {T : TypeId} {fz : Nat × Nat} (h : w.heap[g]? = some (.cells cur T fz)) (hn : n ≠ 0) : (w.freeze ⟨g, off, none⟩ n).heap[g]? = some (.cells cur T (fzOf fz off n)) ∧ (∀ k, k ≠ g → (w.freeze ⟨g, off, none⟩ n).heap[k]? = w.heap[k]?) ∧ (w.freeze ⟨g, off, none⟩ n).heap.size = w.heap.size := by
  simp only [World.freeze, hn, if_false]
  refine ⟨?_, fun k hk => ?_, by simp⟩
  · rw [Array.getElem?_modify, if_pos rfl, h]
    obtain ⟨lo, hi⟩ := fz
    rfl
  · rw [Array.getElem?_modify, if_neg (Ne.symm hk)]

theorem loadBytes_run [Lay] {P : Program} {g : Nat} : ∀ (bs : List Nat) (off : Nat) (acc : List UInt8), (∀ (i b : Nat), bs[i]? = some b → w.cell? ⟨g, off + i, none⟩ = some (.int .u8 (b : Int))) → (loadBytes ⟨g, off, none⟩ ⟨acc.toArray⟩ bs.length).run P w = .ok ⟨(acc ++ bs.map fun b => UInt8.ofNat b).toArray⟩ w
  | [], off, acc, _ => by simp [loadBytes]
  | b :: bs, off, acc, h => by
    have h0 := h 0 b rfl
    rw [Nat.add_zero] at h0
    have ih := loadBytes_run (P := P) bs (off + 1) (acc ++ [UInt8.ofNat b]) (fun i c hc => by
      have := h (i + 1) c (by simpa using hc)
      rw [show off + 1 + i = off + (i + 1) by omega]; exact this)
    have e : (ByteArray.mk acc.toArray).push (UInt8.ofNat b) = ⟨(acc ++ [UInt8.ofNat b]).toArray⟩ := by
      apply ByteArray.ext; simp [ByteArray.push]
    have e2 : ((b : Int).toNat).toUInt8 = UInt8.ofNat b := by simp
    simp only [List.length_cons, loadBytes, Sem.run_bind]
    rw [run_load, h0]
    simp only [Result.andThen_ok, e2, e, addr_add]
    rw [ih]
    simp

/-- a row of bytes lies where it lies -/
theorem bytes_lie [Lay] {P : Program} {U c off n : Nat} (hU : P.cellsOf U = 1) (h : off + n ≤ c) : liesAt P P.depth U c off U n = true := by
  have hd : ∃ d, P.depth = d + 1 := ⟨2 * (P.types.size + Made.depth) + 1, by simp [Program.depth]⟩
  obtain ⟨d, hd⟩ := hd
  unfold liesAt
  rw [hd]
  simp only [Bool.or_eq_true]
  left
  unfold rowAt
  have hs : sameLayout P (d + 1) U U = true := by unfold sameLayout; simp
  simp [hU, Nat.mod_one, hs, h]

theorem run_noop_freeze [Lay] (hm : MR E.P μ M w) (hf : Fresh μ M) {k : Nat} {q : Home} {U : Nat} {cl : List C} {off n : Nat} (hk : μ k = some q) (hb : M.get k = some (.cells U .own cl)) (hn : n ≠ 0) (hl : off + n ≤ cl.length) :
    Step E.P μ M w μ M (w.freeze ⟨q.g, q.sh + off, none⟩ n) := by
  obtain ⟨cur, fz, h1, h2, h3, h4, h5, h6⟩ := hm.bk k q _ hk hb
  obtain ⟨f1, f2, f3⟩ := freeze_heap (off := q.sh + off) h1 hn
  refine ⟨Le.refl _, Nat.le_refl _, fun i h0 h' => absurd h0 h', hf, ⟨fun i y c hy hc => ?_, hm.al, fun i y hy => by rw [f3]; exact hm.lt i y hy, hm.lay.step (fun g hg hgn => f2 g (fun e => hgn k q hk e.symm)) fun i y hy => .inl ⟨i, y, hy, rfl⟩⟩, fun _ _ _ _ h => h, by simp only [World.freeze]; split <;> rfl, by simp only [World.freeze]; split <;> rfl, by simp only [World.freeze]; split <;> rfl, by omega, fun g hg hgn => f2 g (fun e => hgn k q hk e.symm), fun i y hy => .inl ⟨i, y, hy, rfl⟩⟩
  by_cases hg : y.g = q.g
  · by_cases hik : i = k
    · subst hik
      rw [hk] at hy; injection hy with hy; subst hy
      rw [hb] at hc; injection hc with hc; subst hc
      refine ⟨cur, _, f1, h2, h3, h4, h5, ?_⟩
      replace h6 : fz.2 ≤ q.sh + cl.length := h6
      show (fzOf fz (q.sh + off) n).2 ≤ q.sh + cl.length
      unfold fzOf
      split
      · simp only; omega
      · simp only; omega
    · have hs := hm.al k i q y _ _ hk hy hb hc hg.symm (Ne.symm hik)
      cases c with
      | cells T' m' cs' =>
        cases m' with
        | sh =>
          obtain ⟨cur', fz', r1, r2, r3, r4, r5, _⟩ := hm.bk i y _ hy hc
          rw [hg, h1] at r1
          injection r1 with r1; injection r1 with r1 r1' r1''
          subst r1; subst r1'
          exact ⟨cur, _, by rw [hg]; exact f1, r2, r3, r4, r5, trivial⟩
        | _ => exact hs.elim
      | _ => exact hs.elim
  · exact (hm.bk i y c hy hc).mono (Le.refl _) (f2 _ hg)

theorem unsafeStr_nil [Lay] {P : Program} {pt it ty : TypeId} {kk : IntKind} {x : Option Addr} : (Builtin.unsafeString_ #[pt, it] ty #[.pointer x, .int kk ((0 : Nat) : Int)]).run P w = .ok (.string .empty) w := by
  have hmax : ¬ ((((0 : Nat) : Int)) > IntKind.i64.max) := by decide
  cases x with
  | none =>
    have hdef : Builtin.unsafeString_ #[pt, it] ty #[.pointer none, .int kk ((0 : Nat) : Int)] =
        (do
          let n ← asInt (.int kk ((0 : Nat) : Int))
          if n < 0 then runtimePanic (.error "unsafe.String: len out of range")
          if n > IntKind.i64.max then unsupported (.unsafePointer "String: a length above the largest int")
          if n = 0 then pure (.string .empty)
          else runtimePanic (.error "unsafe.String: ptr is nil and len is not zero")) := rfl
    rw [hdef]
    simp only [asInt, asIntOf, Sem.run_bind, Sem.run_pure, Result.andThen_ok, hmax, if_false]
    simp
  | some ad =>
    have hdef : Builtin.unsafeString_ #[pt, it] ty #[.pointer (some ad), .int kk ((0 : Nat) : Int)] =
        (do
          let n ← asInt (.int kk ((0 : Nat) : Int))
          if n < 0 then runtimePanic (.error "unsafe.String: len out of range")
          if n > IntKind.i64.max then unsupported (.unsafePointer "String: a length above the largest int")
          if n = 0 then pure (.string .empty)
          else if ← variablesAt ad (← elemOf pt) n.toNat then do
            let s ← loadBytes ad .empty n.toNat
            freeze ad n.toNat
            pure (.string s)
          else unsupported (.unsafePointer "String: not so many bytes at ptr")) := rfl
    rw [hdef]
    simp only [asInt, asIntOf, Sem.run_bind, Sem.run_pure, Result.andThen_ok, hmax, if_false]
    simp
theorem unsafeStr_some [Lay] {P : Program} {pt it ty e : TypeId} {kk : IntKind} {ad : Addr} {m : Nat} {s : ByteArray} (hp : P.underlying pt = some (.pointer e)) (h0 : m ≠ 0) (h63 : m ≤ 9223372036854775807) (hv : (variablesAt ad e m).run P w = .ok true w) (hl : (loadBytes ad .empty m).run P w = .ok s w) :
    (Builtin.unsafeString_ #[pt, it] ty #[.pointer (some ad), .int kk (m : Int)]).run P w = .ok (.string s) (w.freeze ad m) := by
  have hmax : ¬ ((m : Int) > IntKind.i64.max) := by
    have : IntKind.i64.max = 9223372036854775807 := by decide
    rw [this]; omega
  have hneg : ¬ ((m : Int) < 0) := by omega
  have hdef : Builtin.unsafeString_ #[pt, it] ty #[.pointer (some ad), .int kk (m : Int)] =
      (do
        let n ← asInt (.int kk (m : Int))
        if n < 0 then runtimePanic (.error "unsafe.String: len out of range")
        if n > IntKind.i64.max then unsupported (.unsafePointer "String: a length above the largest int")
        if n = 0 then pure (.string .empty)
        else if ← variablesAt ad (← elemOf pt) n.toNat then do
          let s ← loadBytes ad .empty n.toNat
          freeze ad n.toNat
          pure (.string s)
        else unsupported (.unsafePointer "String: not so many bytes at ptr")) := rfl
  rw [hdef]
  have h0' : ¬ ((m : Int) = 0) := by omega
  simp only [asInt, asIntOf, Sem.run_bind, Sem.run_pure, Result.andThen_ok, hmax, hneg, if_false, h0', elemOf, run_und hp, Int.toNat_natCast, hv, if_true, hl]
  simp [freeze, Sem.run]

theorem unsafeStr_rep [Lay] (hE : EOK E) {T it ty : Nat} {p n : C} {x y : Value} (hm : MR E.P μ M w) (hf : Fresh μ M) (hx : VR μ p x) (hy : VR μ n y) (h : unsafeStrC E M T p n = some (v, M')) :
    ∃ z μ' w', (Builtin.unsafeString_ #[T, it] ty #[x, y]).run E.P w = .ok z w' ∧ VR μ' v z ∧ Step E.P μ M w μ' M' w' := by
  unfold unsafeStrC at h
  split at h
  · rename_i _ m hn
    obtain ⟨kk, rfl⟩ := asNat_some hn
    replace hy : y = .int kk (m : Int) := hy
    replace hx : x = .pointer none := hx
    replace h := cond_none h; obtain ⟨h0, h⟩ := h
    have := nbeq_true h0; subst this
    injection h with h; injection h with h1 h2; subst h1; subst h2
    subst hx; subst hy
    exact ⟨.string .empty, μ, w, unsafeStr_nil, ⟨[], rfl, rfl⟩, .refl hm hf⟩
  · rename_i k off m u hn hu
    obtain ⟨kk, rfl⟩ := asNat_some hn
    replace hy : y = .int kk (m : Int) := hy
    subst hy
    obtain ⟨q, q1, rfl⟩ := hx
    cases hm0 : Nat.beq m 0 with
    | true =>
      rw [hm0] at h
      replace h : some (C.str [], M) = some (v, M') := h
      injection h with h; injection h with h1 h2; subst h1; subst h2
      have := nbeq_true hm0; subst this
      exact ⟨.string .empty, μ, w, unsafeStr_nil, ⟨[], rfl, rfl⟩, .refl hm hf⟩
    | false =>
      rw [hm0] at h
      simp only [cond_false] at h
      have hm1 : m ≠ 0 := fun e => by subst e; simp at hm0
      have hpt : E.P.underlying T = some (.pointer u) := by
        unfold elemOfC at hu
        split at hu
        · rename_i e hT
          injection hu with hu; subst hu
          obtain ⟨d, hd1, hd2⟩ := hE.kd hT
          rw [hd1]; exact congrArg some hd2
        · cases hu
      split at h
      · rename_i U md cl hk hz hb
        replace h := cond_none h; obtain ⟨hc, h⟩ := h
        simp only [Bool.and_eq_true, nble, decide_eq_true_eq] at hc
        obtain ⟨hU, hle⟩ := hc
        have := nbeq_true hU; subst this
        unfold appMax at hle
        split at h
        · rename_i ds hcut
          split at h
          · rename_i bs hbs
            obtain ⟨xs, r1, r2, _, r4⟩ := (hm.bk k q _ q1 hb).row hcut
            obtain ⟨hds, hlt⟩ := cellBytes_some hbs
            subst hds
            have hxs := bytes_vals r2
            obtain ⟨cut1, _⟩ := cut_some hcut
            obtain ⟨cur, fz, c1, c2, c3, c4, c5, c6⟩ := hm.bk k q _ q1 hb
            have hbl : bs.length = m := by have := r2.length; simp at this; omega
            have hcU := hE.cells hz
            have hva : (variablesAt ⟨q.g, q.sh + off, none⟩ U m).run E.P w = .ok true w := by
              have := bytes_lie (P := E.P) (U := U) (c := cur.size / E.P.cellsOf U) (off := q.sh + off) (n := m) hcU (by rw [hcU]; simp; omega)
              simp [variablesAt, shape, Sem.run, blk_shape c1, this]
            have hlb := loadBytes_run (w := w) (P := E.P) (g := q.g) bs (q.sh + off) [] (fun i b hi => r4 i _ (by rw [hxs]; simp [hi]))
            rw [hbl] at hlb
            have e0 : (ByteArray.mk ([] : List UInt8).toArray) = ByteArray.empty := rfl
            rw [e0, List.nil_append] at hlb
            have hr := unsafeStr_some (w := w) (it := it) (ty := ty) (kk := kk) hpt hm1 (by omega) hva hlb
            obtain ⟨f1, f2, f3⟩ := freeze_heap (off := q.sh + off) c1 hm1
            have ho : (w.freeze ⟨q.g, q.sh + off, none⟩ m).os = w.os ∧ (w.freeze ⟨q.g, q.sh + off, none⟩ m).tape = w.tape ∧ (w.freeze ⟨q.g, q.sh + off, none⟩ m).output = w.output := by
              simp only [World.freeze]; split <;> exact ⟨rfl, rfl, rfl⟩
            cases md with
            | sh => cases h
            | own =>
              injection h with h; injection h with h1 h2; subst h1; subst h2
              exact ⟨_, μ, _, hr, ⟨_, rfl, (bytes_back hlt).symm⟩, run_noop_freeze hm hf q1 hb hm1 cut1⟩
            | ex =>
              injection h with h; injection h with h1 h2; subst h1; subst h2
              refine ⟨_, μ, _, hr, ⟨_, rfl, (bytes_back hlt).symm⟩, Step.set hm hf q1 hb trivial f2 f3 ho.1 ho.2.1 ho.2.2 ⟨cur, _, f1, c2, c3, c4, c5, ?_⟩⟩
              rw [c6.1]
              show (fzOf (0, 0) (q.sh + off) m).2 ≤ q.sh + cl.length
              simp [fzOf]; omega
          · cases h
        · cases h
      · cases h
  · cases h

/-- the largest, the least -/
theorem maxG_rep [Lay] {P : Program} {mn : Bool} {k : IntKind} : ∀ {l : List C} {q : Int} {vs : List Value}, maxG mn k q l = some v → VL μ l vs →
    ∃ z, (vs.foldlM (if mn then Builtin.min2 else Builtin.max2) (.int k q)).run P w = .ok z w ∧ VR μ v z
  | [], q, vs, h, hv => by
    rw [VL.nil] at hv; subst hv
    simp only [maxG, Option.some.injEq] at h; subst h
    exact ⟨.int k q, by simp, rfl⟩
  | c :: l, q, vs, h, ⟨x, xs, h0, h1, h2⟩ => by
    subst h0
    cases c <;> try (cases h; done)
    rename_i j n
    simp only [maxG] at h
    replace h := bb_none h; obtain ⟨hk, h⟩ := h
    have := kindEq_true hk; subst this
    replace h1 : x = .int k n := h1
    subst h1
    obtain ⟨z, z1, z2⟩ := maxG_rep (P := P) h h2
    refine ⟨z, ?_, z2⟩
    rw [List.foldlM_cons, Sem.run_bind]
    cases mn with
    | true =>
      have e : bb (bb true (intLt n q) (intLt q n)) n q = if n < q then n else q := by simp [bb_eq, intLt_eq]
      rw [e] at z1
      simpa only [if_true, Builtin.min2, Sem.run_pure, Result.andThen_ok] using z1
    | false =>
      have e : bb (bb false (intLt n q) (intLt q n)) n q = if n > q then n else q := by simp [bb_eq, intLt_eq]
      rw [e] at z1
      simpa only [Bool.false_eq_true, if_false, Builtin.max2, Sem.run_pure, Result.andThen_ok] using z1

theorem len_rep [Lay] (hE : EOK E) {T ty : Nat} {x : C} {p : Value} {n : Nat} (hm : MR E.P μ M w) (hx : VR μ x p) (h : lenC E M T x = some n) : (Builtin.len_ #[T] ty #[p]).run E.P w = .ok (goInt n) w := by
  unfold lenC at h
  split at h
  · rename_i s hT
    obtain ⟨d, hd1, hd2⟩ := hE.kd hT
    replace hd2 : d = .string := hd2
    subst hd2
    injection h with h; subst h
    obtain ⟨bs, rfl, rfl⟩ := hx
    have hsz : (ByteArray.mk bs.toArray).size = bs.length := by simp [ByteArray.size]
    simp [Builtin.len_, run_und hd1, hsz]
  · rename_i e hT
    obtain ⟨d, hd1, hd2⟩ := hE.kd hT
    replace hd2 : d = .slice e := hd2
    subst hd2
    injection h with h; subst h
    replace hx : p = .slice none 0 0 := hx
    subst hx
    simp [Builtin.len_, run_und hd1]
  · rename_i e f k off n' hT
    obtain ⟨d, hd1, hd2⟩ := hE.kd hT
    replace hd2 : d = .slice e := hd2
    subst hd2
    injection h with h; subst h
    obtain ⟨_, _, _, _, rfl, _⟩ := hx
    simp [Builtin.len_, run_und hd1]
  · rename_i kt e hT
    obtain ⟨d, hd1, hd2⟩ := hE.kd hT
    replace hd2 : d = .map kt e := hd2
    subst hd2
    injection h with h; subst h
    replace hx : p = .map none := hx
    subst hx
    simp [Builtin.len_, run_und hd1]
  · rename_i kt e k hT
    obtain ⟨d, hd1, hd2⟩ := hE.kd hT
    replace hd2 : d = .map kt e := hd2
    subst hd2
    split at h
    · rename_i es c hb
      injection h with h; subst h
      obtain ⟨q, q1, rfl⟩ := hx
      obtain ⟨ents, q3, q4⟩ := hm.bk k q _ q1 hb
      have := q4.length
      simp only [Array.length_toList] at this
      simp [Builtin.len_, run_und hd1, run_getMap q3, this]
    · cases h
  · rename_i n' e hT
    obtain ⟨d, hd1, hd2⟩ := hE.kd hT
    replace hd2 : d = .array n' e := hd2
    subst hd2
    injection h with h; subst h
    simp [Builtin.len_, run_und hd1]
  · cases h
end
end Go.Cx
namespace Go.Cx

/-- what is left behind a call -/
def Post [Lay] (P : Program) (μ : Mp) (M : Mem) (w : World) (r : C) (M' : Mem) (v : Value) (w' : World) : Prop := ∃ μ', VR μ' r v ∧ Step P μ M w μ' M' w'
/-- calls are as the model's -/
def SndC [Lay] (P : Program) (call : Call) : Prop := ∀ g as M r M', call g as M = some (r, M') → ∀ μ w (xs : Array Value), MR P μ M w → Fresh μ M → VL μ as xs.toList →
  (∃ v w', (callFunc g xs).run P w = .ok (.value v) w' ∧ Post P μ M w r M' v w') ∨ ((callFunc g xs).run P w = .ok (.enter g xs) w ∧ CallN P g xs w (Post P μ M w r M'))
/-- rounds are as the model's -/
def SndY [Lay] (P : Program) (yld : Call) : Prop := ∀ l as M r M', yld l as M = some (r, M') → ∀ μ w (xs : Array Value) h, μ l = some h → MR P μ M w → Fresh μ M → VL μ as xs.toList →
  ∃ f tmps assign body, (Instr.yield h.g xs).run P w = .ok (.round h.g f tmps assign body) w ∧ RoundN P h.g f tmps assign body w (Post P μ M w r M')

section
variable {E : Env} {X : Cfg} {ρ : Operand → Option C} {M M' : Mem} {R : Nat} {v : C} {b : Frame} {cs : List Frame} {o : Oper} {a : Act} {μ : Mp} {w w' : World}

theorem op_callV [Lay] (hC : SndC E.P X.call) (hY : SndY E.P X.yld) {f : Operand} {args : Array Operand} {ats : Array Nat} (ho : o.op = .call { callee := .value f, args := args, argTypes := ats }) (hm : MR E.P μ M w) (hf : Fresh μ M) (hr : RR μ ρ a o.op) (h : cValue f args ats E X ρ M R = .ok v M') : OpOut E.P b cs o a μ M w v M' := by
  replace h := wv_ok' h; obtain ⟨u, h1, h⟩ := h
  have hu := hr f (by simp [ho, Op.operands, Go.Call.operands]) _ h1
  split at h
  · rename_i as has
    replace h := out_ok h
    have hra := rdAll_rep (μ := μ) (a := a) (fun x hx => hr x (by simp [ho, Op.operands, Go.Call.operands, hx])) has
    unfold callC at h
    split at h
    · rename_i g xs ys
      obtain ⟨p, q, h2, h3, h4⟩ := hu
      have hall : VL μ (app xs (app as ys)) (p ++ args.map a.eval ++ q).toList := by
        simp only [app_eq, Array.toList_append, List.append_assoc]
        exact h3.append (hra.append h4)
      have hrun : ∀ r, (callFunc g (p ++ args.map a.eval ++ q)).run E.P w = r → (execOp a.eval o).run E.P w = r := by
        intro r hr'
        simp only [execOp, ho, resolve, h2, Deferred.ofValue, Sem.run_bind, Sem.run_pure, Result.andThen_ok, invoke]
        exact hr'
      rcases hC g _ M v M' h μ w _ hm hf hall with ⟨z, w', k1, k2⟩ | ⟨k1, k2⟩
      · obtain ⟨μ', k3, k4⟩ := k2
        exact opRun_val (by simp [ho]) (hrun _ k1) ⟨z, μ', rfl, k3, k4⟩
      · exact opRun_enter (by simp [ho]) (hrun _ k1) (k2.mono fun z w' ⟨μ', k3, k4⟩ => ⟨z, μ', rfl, k3, k4⟩)
    · rename_i l
      obtain ⟨y, h2, h3⟩ := hu
      obtain ⟨f', tmps, assign, body, k1, k2⟩ := hY l as M v M' h μ w _ y h2 hm hf hra
      have hrun : (execOp a.eval o).run E.P w = .ok (.round y.g f' tmps assign body) w := by
        simp only [execOp, ho, resolve, h3, Deferred.ofValue, Sem.run_bind, Sem.run_pure, Result.andThen_ok, invoke]
        have e : (#[] ++ args.map a.eval : Array Value) = args.map a.eval := by simp
        rw [e]; exact k1
      exact opRun_round (by simp [ho]) hrun fun c cs => let ⟨z, w', ⟨μ', k3, k4⟩, k5⟩ := k2 c cs; ⟨z, w', ⟨z, μ', rfl, k3, k4⟩, k5⟩
    · cases h
  · cases h

theorem op_callB [Lay] (hE : EOK E) (hrec : X.rnd = false → NoRec b cs) {bi : Builtin} {args : Array Operand} {ats : Array Nat} (ho : o.op = .call { callee := .builtin bi, args := args, argTypes := ats }) (hm : MR E.P μ M w) (hf : Fresh μ M) (hr : RR μ ρ a o.op) (h : cBuiltin bi args ats E X ρ M R = .ok v M') : VOut E.P o a μ M w v M' ∨ (OpOut E.P b cs o a μ M w v M' ∧ (bi = .append ∨ bi = .recover ∨ bi = .unsafeString)) := by
  unfold cBuiltin at h
  split at h
  · rename_i as has
    replace h := out_ok h
    have hra := rdAll_rep (μ := μ) (a := a) (fun x hx => hr x (by simp [ho, Op.operands, Go.Call.operands, hx])) has
    have hnd : ∀ c, o.op ≠ .defer c := by simp [ho]
    have hat : ∀ l : List Nat, ats.toList = l → ats = l.toArray := fun l h => by rw [← h]
    have hxs : ∀ l : List Value, (args.map a.eval).toList = l → args.map a.eval = l.toArray := fun l h => by rw [← h]
    have one : ∀ {x : C}, as = [x] → ∃ p, args.map a.eval = #[p] ∧ VR μ x p := by
      intro x e
      subst e
      obtain ⟨p, l, h1, h2, h3⟩ := hra
      rw [VL.nil] at h3; subst h3
      exact ⟨p, hxs _ h1, h2⟩
    have two : ∀ {x y : C}, as = [x, y] → ∃ p q, args.map a.eval = #[p, q] ∧ VR μ x p ∧ VR μ y q := by
      intro x y e
      subst e
      obtain ⟨p, l, h1, h2, q, l', h3, h4, h5⟩ := hra
      rw [VL.nil] at h5; subst h5; subst h3
      exact ⟨p, q, hxs _ h1, h2, h4⟩
    have hrun : ∀ (d : Deferred) (r : Result Next), d = { target := .builtin bi ats o.type (args.map fun | .const _ => true | _ => false), args := args.map a.eval } → (builtin bi ats o.type (args.map fun | .const _ => true | _ => false) (args.map a.eval)).run E.P w = r → (execOp a.eval o).run E.P w = r := by
      intro d r _ hr'
      simp only [execOp, ho, resolve, Sem.run_bind, Sem.run_pure, Result.andThen_ok, invoke]
      exact hr'
    have mx : ∀ mn u, maxC mn as = some u → ∃ z, ((if mn then Builtin.min_ else Builtin.max_) ats o.type (args.map a.eval)).run E.P w = .ok z w ∧ VR μ u z := by
      intro mn u hu
      unfold maxC at hu
      split at hu
      · rename_i k q l
        obtain ⟨p, ps, h1, h2, h3⟩ := hra
        replace h2 : p = .int k q := h2
        subst h2
        obtain ⟨z, z1, z2⟩ := maxG_rep (w := w) (P := E.P) hu h3
        refine ⟨z, ?_, z2⟩
        rw [hxs _ h1]
        cases mn
        · simpa [Builtin.max_] using z1
        · simpa [Builtin.min_] using z1
      · cases hu
    unfold builtinC at h
    split at h
    · rename_i t1 t2 x y hats
      obtain ⟨p, q, h1, h2, h3⟩ := two rfl
      obtain ⟨z, μ', w', k1, k2, k3⟩ := append_rep (ty := o.type) hE hm hf h2 h3 h
      refine .inr ⟨opRun_val hnd (hrun _ _ rfl ?_) ⟨z, μ', rfl, k2, k3⟩, by simp⟩
      rw [hat _ hats, h1]
      simp [builtin, k1]
    · rename_i t x hats
      split at h
      · rename_i n hn
        injection h with h; injection h with h1 h2; subst h1; subst h2
        obtain ⟨p, h1, h2⟩ := one rfl
        have k1 := len_rep (ty := o.type) hE hm h2 hn
        refine .inl <| out_val (x := goInt n) hnd hm hf (hrun _ _ rfl ?_) rfl
        rw [hat _ hats, h1]
        simp [builtin, k1]
      · cases h
    · rename_i t x hats
      obtain ⟨p, h1, h2⟩ := one rfl
      split at h
      · rename_i e hT
        obtain ⟨d, hd1, hd2⟩ := hE.kd hT
        replace hd2 : d = .slice e := hd2
        subst hd2
        injection h with h; injection h with h3 h4; subst h3; subst h4
        replace h2 : p = .slice none 0 0 := h2
        subst h2
        refine .inl <| out_val (x := goInt 0) hnd hm hf (hrun _ _ rfl ?_) rfl
        rw [hat _ hats, h1]
        simp [builtin, Builtin.cap_, run_und hd1]
      · rename_i e k off n hT
        obtain ⟨d, hd1, hd2⟩ := hE.kd hT
        replace hd2 : d = .slice e := hd2
        subst hd2
        injection h with h; injection h with h3 h4; subst h3; subst h4
        obtain ⟨q, off', cap, q1, rfl, q3, q4, q5⟩ := h2
        have := q4 rfl
        subst this
        refine .inl <| out_val (x := goInt cap) hnd hm hf (hrun _ _ rfl ?_) rfl
        rw [hat _ hats, h1]
        simp [builtin, Builtin.cap_, run_und hd1]
      · cases h
    · rename_i as' hats
      split at h
      · rename_i u hu
        injection h with h; injection h with h3 h4; subst h3; subst h4
        obtain ⟨z, z1, z2⟩ := mx false u hu
        simp only [Bool.false_eq_true, if_false] at z1
        exact .inl <| out_val (x := z) hnd hm hf (hrun _ _ rfl (by simp [builtin, z1])) z2
      · cases h
    · rename_i as' hats
      split at h
      · rename_i u hu
        injection h with h; injection h with h3 h4; subst h3; subst h4
        obtain ⟨z, z1, z2⟩ := mx true u hu
        simp only [if_true] at z1
        exact .inl <| out_val (x := z) hnd hm hf (hrun _ _ rfl (by simp [builtin, z1])) z2
      · cases h
    · cases hrd : X.rnd with
      | true => rw [hrd] at h; cases h
      | false =>
        rw [hrd] at h
        replace h : some (C.nili, M) = some (v, M') := h
        injection h with h; injection h with h3 h4; subst h3; subst h4
        exact .inr ⟨opRun_recover (hrec hrd) hnd (hrun _ _ rfl (by simp [builtin])) ⟨.nilIface, μ, rfl, rfl, .refl hm hf⟩, by simp⟩
    · rename_i hats
      injection h with h; injection h with h3 h4; subst h3; subst h4
      obtain ⟨p, h1, h2⟩ := one rfl
      replace h2 : p = .slice none 0 0 := h2
      subst h2
      have k1 : (Builtin.unsafeSliceData_ ats o.type #[.slice none 0 0]).run E.P w = .ok (.pointer none) w := rfl
      exact .inl <| out_val (x := .pointer none) hnd hm hf (hrun _ _ rfl (by rw [h1]; simp [builtin, k1])) rfl
    · rename_i f k off n
      replace h := cond_none h; obtain ⟨hn, h⟩ := h
      rw [nblt] at hn
      simp at hn
      injection h with h; injection h with h3 h4; subst h3; subst h4
      obtain ⟨p, h1, h2⟩ := one rfl
      obtain ⟨q, off', cap, q1, rfl, q3, q4, q5⟩ := h2
      obtain ⟨e1, _⟩ := q5 (by omega)
      have k1 : (Builtin.unsafeSliceData_ ats o.type #[.slice (some ⟨q.g, off', none⟩) n cap]).run E.P w = .ok (.pointer (some ⟨q.g, off', none⟩)) w := by
        obtain ⟨c, rfl⟩ : ∃ c, cap = c + 1 := ⟨cap - 1, by omega⟩
        rfl
      exact .inl <| out_val (x := .pointer (some ⟨q.g, off', none⟩)) hnd hm hf (hrun _ _ rfl (by rw [h1]; simp [builtin, k1])) ⟨q, q1, by rw [e1]⟩
    · rename_i t t' x y hats
      obtain ⟨p, q, h1, h2, h3⟩ := two rfl
      obtain ⟨z, μ', w', k1, k2, k3⟩ := unsafeStr_rep (it := t') (ty := o.type) hE hm hf h2 h3 h
      refine .inr ⟨opRun_val hnd (hrun _ _ rfl ?_) ⟨z, μ', rfl, k2, k3⟩, by simp⟩
      rw [hat _ hats, h1]
      simp [builtin, k1]
    · cases h
  · cases h

/-- a call that is put off -/
theorem op_defer [Lay] {d : D} (hb : X.rnd = false → b.roundOf = none) {c : Go.Call} (ho : o.op = .defer c) (hm : MR E.P μ M w) (hf : Fresh μ M) (hr : RR μ ρ a o.op) (h : oDefer c E X ρ M R = .dfr d M') :
    OpRun E.P b cs o a w fun a' w' => M' = M ∧ w' = w ∧ ∃ (g : Nat) (xs cap : Array Value) (as ys : List C), d = .cal g as ys ∧ VL μ as xs.toList ∧ VL μ ys cap.toList ∧ a' = ({ a with defers := { target := .fn (.func g) cap, args := xs } :: a.defers } : Act).put o.dst undef := by
  unfold oDefer at h
  cases hrd : X.rnd with
  | true => rw [hrd] at h; cases h
  | false =>
    rw [hrd] at h
    simp only [bb_false] at h
    split at h
    · rename_i f args ats
      replace h := wv_ok (by simp) h; obtain ⟨u, h1, h⟩ := h
      have hu := hr f (by simp [ho, Op.operands, Go.Call.operands]) _ h1
      split at h
      · rename_i g xs ys
        split at h
        · rename_i as has
          have hra := rdAll_rep (μ := μ) (a := a) (fun x hx => hr x (by simp [ho, Op.operands, Go.Call.operands, hx])) has
          injection h with h2 h3; subst h2; subst h3
          obtain ⟨p, q, k1, k2, k3⟩ := hu
          refine opRun_defer (d := { target := .fn (.func g) q, args := p ++ args.map a.eval }) (w' := w) (hb hrd) ?_ ⟨rfl, rfl, g, p ++ args.map a.eval, q, _, ys, rfl, ?_, k3, rfl⟩
          · simp only [execOp, ho, resolve, k1, Deferred.ofValue, Sem.run_bind, Sem.run_pure, Result.andThen_ok]
          · simp only [app_eq, Array.toList_append]; exact k2.append hra
        · cases h
      · cases h
    · cases h
end
end Go.Cx
namespace Go.Cx

section
variable {E : Env} {X : Cfg} {ρ : Operand → Option C} {M M' : Mem} {R : Nat} {v : C} {b : Frame} {cs : List Frame} {o : Oper} {a : Act} {μ : Mp} {w w' : World}

theorem op_ok [Lay] (hE : EOK E) (hC : SndC E.P X.call) (hY : SndY E.P X.yld) (hrec : X.rnd = false → NoRec b cs) (hm : MR E.P μ M w) (hf : Fresh μ M) (hr : RR μ ρ a o.op) (h : opTab o.op E X ρ M R = .ok v M') : OpOut E.P b cs o a μ M w v M' := by
  cases ho : o.op with
  | move x => exact (op_move (X := X) (ρ := ρ) (R := R) (.inl ho) hm hf hr (by rw [ho] at h; exact h)).out (by simp [ho]) hm hf
  | assign x => exact (op_move (X := X) (ρ := ρ) (R := R) (.inr ho) hm hf hr (by rw [ho] at h; exact h)).out (by simp [ho]) hm hf
  | pick c x y => exact (op_pick (X := X) (ρ := ρ) (R := R) ho hm hf hr (by rw [ho] at h; exact h)).out (by simp [ho]) hm hf
  | alloc T => exact (op_alloc (X := X) (ρ := ρ) (R := R) hE ho (hf.1 _ (Nat.le_refl _)) (by rw [ho] at h; exact h)).out (by simp [ho]) hm hf
  | box T x => exact (op_box (X := X) (ρ := ρ) (R := R) ho (hf.1 _ (Nat.le_refl _)) hr (by rw [ho] at h; exact h)).out (by simp [ho]) hm hf
  | build T ps => exact (op_build (X := X) (ρ := ρ) (R := R) hE ho hm hf hr (by rw [ho] at h; exact h)).out (by simp [ho]) hm hf
  | buildSlice T n ps => exact (op_buildSlice (X := X) (ρ := ρ) (R := R) hE ho (hf.1 _ (Nat.le_refl _)) hr (by rw [ho] at h; exact h)).out (by simp [ho]) hm hf
  | insert T m k x => exact op_mapUpdate (X := X) (ρ := ρ) (R := R) hE (.inr ho) hm hf hr (by rw [ho] at h; exact h)
  | load T x => exact (op_load (X := X) (ρ := ρ) (R := R) hE ho hm hf hr (by rw [ho] at h; exact h)).out (by simp [ho]) hm hf
  | store T x y => exact op_store (X := X) (ρ := ρ) (R := R) hE ho hm hf hr (by rw [ho] at h; exact h)
  | ready g => rw [ho] at h; cases h
  | waits g => rw [ho] at h; cases h
  | nilCheck x => exact (op_nilCheck (X := X) (ρ := ρ) (R := R) ho hm hf hr (by rw [ho] at h; exact h)).out (by simp [ho]) hm hf
  | binOp op T x y U => exact (op_bin (X := X) (ρ := ρ) (R := R) hE ho hm hf hr (by rw [ho] at h; exact h)).out (by simp [ho]) hm hf
  | unOp op T x => exact (op_un (X := X) (ρ := ρ) (R := R) ho hm hf hr (by rw [ho] at h; exact h)).out (by simp [ho]) hm hf
  | convert s d x => exact (op_conv (X := X) (ρ := ρ) (R := R) hE ho hm hf hr (by rw [ho] at h; exact h)).elim (·.out (by simp [ho]) hm hf) (·.1)
  | sliceToArrayPointer d x => rw [ho] at h; cases h
  | makeInterface T x => exact (op_iface (X := X) (ρ := ρ) (R := R) hE ho hm hf hr (by rw [ho] at h; exact h)).out (by simp [ho]) hm hf
  | makeFunc f xs ys => exact (op_func (X := X) (ρ := ρ) (R := R) ho hm hf hr (by rw [ho] at h; exact h)).out (by simp [ho]) hm hf
  | makeMap T r => exact (op_map (X := X) (ρ := ρ) (R := R) hE ho (hf.1 _ (Nat.le_refl _)) hr (by rw [ho] at h; exact h)).out (by simp [ho]) hm hf
  | makeChan T s => rw [ho] at h; cases h
  | makeSlice T l c => exact (op_makeSlice (X := X) (ρ := ρ) (R := R) hE ho (hf.1 _ (Nat.le_refl _)) hr (by rw [ho] at h; exact h)).out (by simp [ho]) hm hf
  | slice T x lo hi mx => exact (op_slice (X := X) (ρ := ρ) (R := R) hE ho hm hf hr (by rw [ho] at h; exact h)).out (by simp [ho]) hm hf
  | fieldAddr T x f => exact (op_fieldAddr (X := X) (ρ := ρ) (R := R) hE ho hm hf hr (by rw [ho] at h; exact h)).out (by simp [ho]) hm hf
  | field T x f => exact (op_field (X := X) (ρ := ρ) (R := R) hE ho hm hf hr (by rw [ho] at h; exact h)).out (by simp [ho]) hm hf
  | indexAddr T x i => exact (op_indexAddr (X := X) (ρ := ρ) (R := R) hE ho hm hf hr (by rw [ho] at h; exact h)).out (by simp [ho]) hm hf
  | index T x i => exact (op_index (X := X) (ρ := ρ) (R := R) hE ho hm hf hr (by rw [ho] at h; exact h)).out (by simp [ho]) hm hf
  | lookup T x k ok => exact (op_lookup (X := X) (ρ := ρ) (R := R) hE ho hm hf hr (by rw [ho] at h; exact h)).out (by simp [ho]) hm hf
  | mapUpdate T m k x => exact op_mapUpdate (X := X) (ρ := ρ) (R := R) hE (.inl ho) hm hf hr (by rw [ho] at h; exact h)
  | mapEntry T m k => exact op_mapEntry (X := X) (ρ := ρ) (R := R) hE ho hm hf hr (by rw [ho] at h; exact h)
  | entryStore T m s x => exact op_entryStore (X := X) (ρ := ρ) (R := R) ho hm hf hr (by rw [ho] at h; exact h)
  | range T x => exact op_range (X := X) (ρ := ρ) (R := R) hE ho hm hf hr (by rw [ho] at h; exact h)
  | next x t => exact op_next (X := X) (ρ := ρ) (R := R) ho hm hf hr (by rw [ho] at h; exact h)
  | entry x => exact (op_entry (X := X) (ρ := ρ) (R := R) ho hm hf hr (by rw [ho] at h; exact h)).out (by simp [ho]) hm hf
  | typeAssert x T A ok => exact (op_assert (X := X) (ρ := ρ) (R := R) hE ho hm hf hr (by rw [ho] at h; exact h)).out (by simp [ho]) hm hf
  | extract x i => exact (op_extract (X := X) (ρ := ρ) (R := R) ho hm hf hr (by rw [ho] at h; exact h)).out (by simp [ho]) hm hf
  | call c =>
    obtain ⟨cal, args, ats⟩ := c
    cases cal with
    | value f => exact op_callV (X := X) (ρ := ρ) (R := R) hC hY ho hm hf hr (by rw [ho] at h; exact h)
    | invoke f m => rw [ho] at h; cases h
    | builtin bi => exact (op_callB (X := X) (ρ := ρ) (R := R) hE hrec ho hm hf hr (by rw [ho] at h; exact h)).elim (·.out (by simp [ho]) hm hf) (·.1)
  | go c => rw [ho] at h; cases h
  | defer c =>
    rw [ho] at h
    exfalso
    replace h : oDefer c E X ρ M R = .ok v M' := h
    unfold oDefer at h
    replace h := (bb_ok h).2
    split at h
    · replace h := wv_ok' h; obtain ⟨u, h1, h⟩ := h
      split at h
      · split at h <;> cases h
      · cases h
    · cases h
  | panic x => rw [ho] at h; cases h
  | send c x => rw [ho] at h; cases h
  | recv T c ok => rw [ho] at h; cases h
  | select cs bl => rw [ho] at h; cases h

theorem op_quiet [Lay] (hE : EOK E) (hrec : X.rnd = false → NoRec b cs) (hk : kdC E o = .pure ∨ kdC E o = .load) (hm : MR E.P μ M w) (hf : Fresh μ M) (hr : RR μ ρ a o.op) (h : opTab o.op E X ρ M R = .ok v M') : VOut E.P o a μ M w v M' := by
  cases ho : o.op with
  | move x => exact op_move (X := X) (ρ := ρ) (R := R) (.inl ho) hm hf hr (by rw [ho] at h; exact h)
  | assign x => exact op_move (X := X) (ρ := ρ) (R := R) (.inr ho) hm hf hr (by rw [ho] at h; exact h)
  | pick c x y => exact op_pick (X := X) (ρ := ρ) (R := R) ho hm hf hr (by rw [ho] at h; exact h)
  | build T ps => exact op_build (X := X) (ρ := ρ) (R := R) hE ho hm hf hr (by rw [ho] at h; exact h)
  | load T x => exact op_load (X := X) (ρ := ρ) (R := R) hE ho hm hf hr (by rw [ho] at h; exact h)
  | nilCheck x => exact op_nilCheck (X := X) (ρ := ρ) (R := R) ho hm hf hr (by rw [ho] at h; exact h)
  | binOp op T x y U => exact op_bin (X := X) (ρ := ρ) (R := R) hE ho hm hf hr (by rw [ho] at h; exact h)
  | unOp op T x => exact op_un (X := X) (ρ := ρ) (R := R) ho hm hf hr (by rw [ho] at h; exact h)
  | convert s d x =>
    rcases op_conv (b := b) (cs := cs) (X := X) (ρ := ρ) (R := R) hE ho hm hf hr (by rw [ho] at h; exact h) with h1 | ⟨_, h2, e, h3⟩
    · exact h1
    · rcases hk with hk | hk <;> simp [kdC, ho, h2, h3] at hk
  | makeInterface T x => exact op_iface (X := X) (ρ := ρ) (R := R) hE ho hm hf hr (by rw [ho] at h; exact h)
  | makeFunc f xs ys => exact op_func (X := X) (ρ := ρ) (R := R) ho hm hf hr (by rw [ho] at h; exact h)
  | slice T x lo hi mx => exact op_slice (X := X) (ρ := ρ) (R := R) hE ho hm hf hr (by rw [ho] at h; exact h)
  | fieldAddr T x f => exact op_fieldAddr (X := X) (ρ := ρ) (R := R) hE ho hm hf hr (by rw [ho] at h; exact h)
  | field T x f => exact op_field (X := X) (ρ := ρ) (R := R) hE ho hm hf hr (by rw [ho] at h; exact h)
  | indexAddr T x i => exact op_indexAddr (X := X) (ρ := ρ) (R := R) hE ho hm hf hr (by rw [ho] at h; exact h)
  | index T x i => exact op_index (X := X) (ρ := ρ) (R := R) hE ho hm hf hr (by rw [ho] at h; exact h)
  | lookup T x k ok => exact op_lookup (X := X) (ρ := ρ) (R := R) hE ho hm hf hr (by rw [ho] at h; exact h)
  | entry x => exact op_entry (X := X) (ρ := ρ) (R := R) ho hm hf hr (by rw [ho] at h; exact h)
  | typeAssert x T A ok => exact op_assert (X := X) (ρ := ρ) (R := R) hE ho hm hf hr (by rw [ho] at h; exact h)
  | extract x i => exact op_extract (X := X) (ρ := ρ) (R := R) ho hm hf hr (by rw [ho] at h; exact h)
  | call c =>
    obtain ⟨cal, args, ats⟩ := c
    cases cal with
    | value f => rcases hk with hk | hk <;> simp [kdC, ho] at hk
    | invoke f m => rw [ho] at h; cases h
    | builtin bi =>
      rcases op_callB (b := b) (cs := cs) (X := X) (ρ := ρ) (R := R) hE hrec ho hm hf hr (by rw [ho] at h; exact h) with h1 | ⟨_, h2⟩
      · exact h1
      · rcases h2 with rfl | rfl | rfl <;> rcases hk with hk | hk <;> simp [kdC, ho] at hk
  | _ => rcases hk with hk | hk <;> simp [kdC, ho] at hk

theorem op_new [Lay] (hE : EOK E) (hk : kdC E o = .new) (hn : μ M.nx = none) (hr : RR μ ρ a o.op) (h : opTab o.op E X ρ M R = .ok v M') : NOut E.P o a μ M w v M' := by
  cases ho : o.op with
  | alloc T => exact op_alloc (X := X) (ρ := ρ) (R := R) hE ho hn (by rw [ho] at h; exact h)
  | box T x => exact op_box (X := X) (ρ := ρ) (R := R) ho hn hr (by rw [ho] at h; exact h)
  | buildSlice T n ps => exact op_buildSlice (X := X) (ρ := ρ) (R := R) hE ho hn hr (by rw [ho] at h; exact h)
  | makeMap T r => exact op_map (X := X) (ρ := ρ) (R := R) hE ho hn hr (by rw [ho] at h; exact h)
  | makeSlice T l c => exact op_makeSlice (X := X) (ρ := ρ) (R := R) hE ho hn hr (by rw [ho] at h; exact h)
  | binOp op T x y U =>
    simp only [kdC, ho] at hk
    split at hk
    · split at hk <;> cases hk
    · split at hk <;> cases hk
    · cases hk
  | convert s d x =>
    simp only [kdC, ho] at hk
    split at hk <;> cases hk
  | call c =>
    obtain ⟨cal, args, ats⟩ := c
    cases cal with
    | value f => simp [kdC, ho] at hk
    | invoke f m => rw [ho] at h; cases h
    | builtin bi =>
      simp only [kdC, ho] at hk
      split at hk <;> cases hk
  | _ => simp [kdC, ho] at hk

def NoD (r : Res) : Prop := ∀ d M, r ≠ .dfr d M
theorem NoD.no [Lay] : NoD .no := fun _ _ h => by cases h
theorem NoD.ok [Lay] : NoD (.ok v M) := fun _ _ h => by cases h
theorem NoD.outV [Lay] {r : Option C} : NoD (outV M r) := by cases r <;> intro _ _ h <;> cases h
theorem NoD.out [Lay] {r : Option (C × Mem)} : NoD (out r) := by cases r <;> intro _ _ h <;> cases h
theorem NoD.outM [Lay] {r : Option Mem} : NoD (outM r) := by cases r <;> intro _ _ h <;> cases h
theorem NoD.wv [Lay] {x : Option C} {f : C → Res} (h : ∀ c, NoD (f c)) : NoD (wv x f) := by
  cases x with
  | none => exact .no
  | some c => exact h c
theorem NoD.bb [Lay] {t : Bool} {x y : Res} (h : NoD x) (h' : NoD y) : NoD (bb t x y) := by cases t <;> assumption

theorem op_dfr [Lay] {d : D} (h : opTab o.op E X ρ M R = .dfr d M') : ∃ c, o.op = .defer c ∧ oDefer c E X ρ M R = .dfr d M' := by
  have no : ∀ {f : OpF}, opTab o.op = f → NoD (f E X ρ M R) → ∃ c, o.op = .defer c ∧ oDefer c E X ρ M R = .dfr d M' := fun e hn => absurd (by rw [← e]; exact h) (hn d M')
  cases ho : o.op with
  | defer c => exact ⟨c, rfl, by rw [ho] at h; exact h⟩
  | call c =>
    obtain ⟨cal, args, ats⟩ := c
    rw [ho] at h
    cases cal with
    | value f =>
      refine absurd h (NoD.wv (fun u => ?_) d M')
      split
      · exact .out
      · exact .no
    | invoke f m => exact absurd h (NoD.no d M')
    | builtin bi =>
      replace h : cBuiltin bi args ats E X ρ M R = .dfr d M' := h
      unfold cBuiltin at h
      split at h
      · exact absurd h (NoD.out d M')
      · cases h
  | move x => rw [ho] at h; exact absurd h (NoD.outV d M')
  | assign x => rw [ho] at h; exact absurd h (NoD.outV d M')
  | pick c x y => rw [ho] at h; exact absurd h (NoD.wv (fun u => by cases u <;> first | exact .outV | exact .no) d M')
  | alloc T =>
    rw [ho] at h
    replace h : oAlloc T E X ρ M R = .dfr d M' := h
    unfold oAlloc at h
    split at h
    · exact absurd h (NoD.out d M')
    · cases h
  | makeInterface T x =>
    rw [ho] at h
    refine absurd h (NoD.wv (fun u => ?_) d M')
    split
    · exact .no
    · exact .bb .no .ok
    · exact .no
  | makeFunc f xs ys =>
    rw [ho] at h
    replace h : oFunc f xs ys E X ρ M R = .dfr d M' := h
    unfold oFunc at h
    split at h
    · split at h
      · split at h <;> cases h
      · cases h
    · cases h
  | makeMap T r =>
    rw [ho] at h
    replace h : oMap T r E X ρ M R = .dfr d M' := h
    unfold oMap at h
    split at h
    · split at h
      · cases h
      · refine absurd h (NoD.wv (fun u => ?_) d M')
        cases u <;> first | exact .ok | exact .no
    · cases h
  | next x t => rw [ho] at h; exact absurd h (NoD.bb .no (NoD.wv fun u => .out) d M')
  | box T x => rw [ho] at h; exact absurd h (NoD.wv (fun u => .out) d M')
  | build T ps => rw [ho] at h; exact absurd h (NoD.outV d M')
  | buildSlice T n ps => rw [ho] at h; exact absurd h (NoD.out d M')
  | insert T m k x => rw [ho] at h; exact absurd h (NoD.wv (fun u => .wv fun u => .wv fun u => .outM) d M')
  | mapUpdate T m k x => rw [ho] at h; exact absurd h (NoD.wv (fun u => .wv fun u => .wv fun u => .outM) d M')
  | load T x => rw [ho] at h; exact absurd h (NoD.wv (fun u => .outV) d M')
  | store T x y => rw [ho] at h; exact absurd h (NoD.wv (fun u => .wv fun u => .outM) d M')
  | nilCheck x => rw [ho] at h; exact absurd h (NoD.wv (fun u => .outV) d M')
  | binOp op T x y U => rw [ho] at h; exact absurd h (NoD.wv (fun u => .wv fun u => .outV) d M')
  | unOp op T x => rw [ho] at h; exact absurd h (NoD.wv (fun u => .outV) d M')
  | convert s t x => rw [ho] at h; exact absurd h (NoD.wv (fun u => .out) d M')
  | makeSlice T l c => rw [ho] at h; exact absurd h (NoD.wv (fun u => .wv fun u => .out) d M')
  | slice T x lo hi mx => rw [ho] at h; exact absurd h (NoD.wv (fun u => .outV) d M')
  | fieldAddr T x f => rw [ho] at h; exact absurd h (NoD.wv (fun u => .outV) d M')
  | field T x f => rw [ho] at h; exact absurd h (NoD.wv (fun u => .outV) d M')
  | indexAddr T x i => rw [ho] at h; exact absurd h (NoD.wv (fun u => .wv fun u => .outV) d M')
  | index T x i => rw [ho] at h; exact absurd h (NoD.wv (fun u => .wv fun u => .outV) d M')
  | lookup T x k ok => rw [ho] at h; exact absurd h (NoD.wv (fun u => .wv fun u => .outV) d M')
  | mapEntry T m k => rw [ho] at h; exact absurd h (NoD.wv (fun u => .wv fun u => .out) d M')
  | entryStore T m s x => rw [ho] at h; exact absurd h (NoD.wv (fun u => .wv fun u => .wv fun u => .outM) d M')
  | range T x => rw [ho] at h; exact absurd h (NoD.wv (fun u => .out) d M')
  | entry x => rw [ho] at h; exact absurd h (NoD.wv (fun u => .outV) d M')
  | typeAssert x T A ok => rw [ho] at h; exact absurd h (NoD.wv (fun u => .outV) d M')
  | extract x i => rw [ho] at h; exact absurd h (NoD.wv (fun u => .outV) d M')
  | _ => rw [ho] at h; cases h
end
end Go.Cx
