/- From the abstract machine to calls of the program; the table of powers of ten. -/
import Derived.Test.YtnodmhkacfcmfaaGreatDoorAvC
import Derived.Shelf.SlicesQ.Reverse
import Derived.Shelf.SlicesE.Clone
import Derived.Test.YtnodmhkacfcmfaaGreatDoorAvE
import Derived.Test.YtnodmhkacfcmfaaGreatDoorAvD
import Derived.Test.YtnodmhkacfcmfaaGreatDoorAvN
import Derived.Lib.SmallJoins
import Derived.Test.YtnodmhkacfcmfaaGreatDoorCards
import Derived.Test.YtnodmhkacfcmfaaGreatDoorTie
import Derived.Test.YtnodmhkacfcmfaaGreatDoorChecked
import Derived.ProofKit
import Derived.LaidMore
import Derived.OpenShut
import Derived.Deep.DeepHandedRow
import Derived.Lib.LaidTab
import Derived.Stop.LaidErr
import Derived.SevenTiedAt
import Derived.ShutString
namespace Go.Av
open Go.Proofs Go.Shelf Go.RowKit Go.Lib
set_option maxHeartbeats 4000000
set_option maxRecDepth 100000
variable {P : Program} {ρ : Ren}
/-! the contracts of the copying and of the turning -/
/-- the copy of an empty list -/
theorem clone_zero (L : SlLaysE0.n41 P ρ) (i0 : TypeInfo) (z : Value) (size bytes : Nat) (hi : P.info? (ρ.t 23) = some i0) (hz0 : i0.zero = some z) (hz1 : i0.size = size) (hz2 : i0.bytes = bytes) (hzs : z.cells.size = size) (hsz : 0 < size)
    (z23 : ∀ w, (Go.sizeOf (ρ.t 23)).run P w = .ok size w) (ad : Addr) (c : Nat) (w : World) :
    Calls P (ρ.f 41) #[.slice (some ad) 0 c] w fun e w' => ∃ v', e = .returned v' ∧ w'.ownsRow w.heap.size (ρ.t 23) size v' 0 [] ∧ Below w.heap.size w w' := by
  have mixed := L.mixed; have t4 := L.t4; have a4 := L.a4; have z4 := L.z4; have v4 := L.v4; have t22 := L.t22; have a22 := L.a22; have z22 := L.z22; have v22 := L.v22
  have q22 : ∀ (w : World) (a : Option Addr) (n c n' c' : Nat), (binOp .eql (ρ.t 22) (.slice a n c) (.slice none n' c')).run P w = .ok (.bool a.isNone) w := fun w a n c n' c' => Lib.run_eql_slice_nil w _ _ a n c n' c' L.t22
  have u22 : ∀ w, Sem.run P (underlying (ρ.t 22)) w = .ok (TypeDesc.slice (ρ.t 23)) w := run_underlying t22
  obtain ⟨_, _, FG⟩ := L.f41
  go_enter FG, SlBodyN.n41_ntmps ρ
  go_wp2_with (at_builtin; refine wpList_append_own _ rfl _ _ (ρ.t 22) rfl w.heap.size (ρ.t 23) i0 z size bytes t22 hi hz0 hz1 hz2 hzs hsz _ _ _ rfl (World.ownsRow_made w #[] 0 (Nat.le_refl _) (Nat.zero_le _) (by simp)) ad 0 c [] rfl ?qc1 ?qc2 ?qc3 ?qc4 ?qc5 ?qc6 ?_)
  case qc1 => simp
  case qc2 =>
    intro j u hj
    simp at hj
  case qc3 => simp
  case qc4 => simp
  case qc5 => simp
  case qc6 => simp
  intro v' w1 hown hgrow hnil
  go_wp2
  go_ret
  refine ⟨v', rfl, by simpa using hown, ?_⟩
  exact ((Below.refl _ w).alloc (Nat.le_refl _) _).grown hgrow (by simp) (by intro k hk; simp [Value.ownBlock] at hk; omega)
theorem clone_C (L : SlLaysE0.n41 P ρ) (he : Go.Av.Enters P (ρ.f 41)) (i0 : TypeInfo) (z : Value) (hi : P.info? (ρ.t 23) = some i0) (hz0 : i0.zero = some z) (hzs : z.cells.size = i0.size) (hsz : 0 < i0.size)
    (z23 : ∀ w, (Go.sizeOf (ρ.t 23)).run P w = .ok i0.size w) : CloneC P (ρ.f 41) (ρ.t 23) := by
  have hcs : P.cellsOf (ρ.t 23) = i0.size := by unfold Program.cellsOf; rw [hi]; rfl
  have hbs : P.bytesOf (ρ.t 23) = i0.bytes := by unfold Program.bytesOf; rw [hi]; rfl
  refine ⟨he, fun n c w => AnyE.slices_Clone_nil L n c w, fun ad c w => ?_, ?_⟩
  · refine (clone_zero L i0 z _ _ hi hz0 rfl rfl hzs hsz z23 ad c w).mono ?_
    rintro e w' ⟨v', rfl, h1, h2⟩
    refine ⟨?_, h2⟩
    rcases h1.2 with ⟨rfl, _⟩ | ⟨g, cap, cur, rfl, _⟩
    · exact ⟨none, 0, rfl⟩
    · exact ⟨_, cap, rfl⟩
  · intro b off n c news w hl hn0 hn hb hc h1
    rw [hcs] at hl ⊢
    rw [hbs] at hb
    refine (AnyE.slices_Clone L i0 z _ _ hi hz0 rfl rfl hzs hsz z23 b off n c news w hl (by unfold maxLen; omega) ?_ hc h1).mono ?_
    · have := Nat.mul_le_mul hn hb
      omega
    · rintro e w' ⟨v', h1, h2, _, h3⟩
      exact ⟨v', h1, h2, h3⟩
/-! turning -/
theorem flatten_get {k : Nat} (hk : 0 < k) : ∀ {rows : List (List Value)}, (∀ r ∈ rows, r.length = k) → ∀ t, rows.flatten[t]? = (rows[t / k]?).bind fun r => r[t % k]?
  | [], _, t => by simp
  | r :: rows, h, t => by
    have hr := h r (List.mem_cons_self ..)
    rw [List.flatten_cons]
    by_cases ht : t < k
    · rw [List.getElem?_append_left (by omega), Nat.div_eq_of_lt ht, Nat.mod_eq_of_lt ht]; rfl
    · obtain ⟨u, rfl⟩ : ∃ u, t = u + k := ⟨t - k, by omega⟩
      rw [List.getElem?_append_right (by omega), hr, Nat.add_sub_cancel, flatten_get hk (fun x hx => h x (List.mem_cons_of_mem _ hx)) u, Nat.add_div_right u hk, Nat.add_mod_right]; rfl
/-- a row's cells -/
structure RowT (k : Nat) where
  val : List Value
  len : val.length = k
  ok : ∀ v ∈ val, v.oneCell' = true
instance (k : Nat) : Inhabited (RowT k) := ⟨⟨List.replicate k (.bool false), by simp, fun v hv => by rw [(List.mem_replicate.1 hv).2]; rfl⟩⟩
def rowsT {k : Nat} : (rows : List (List Value)) → (∀ r ∈ rows, r.length = k ∧ ∀ v ∈ r, v.oneCell' = true) → List (RowT k)
  | [], _ => []
  | r :: rows, h => ⟨r, (h r (List.mem_cons_self ..)).1, (h r (List.mem_cons_self ..)).2⟩ :: rowsT rows fun x hx => h x (List.mem_cons_of_mem _ hx)
theorem rowsT_val {k : Nat} : ∀ {rows : List (List Value)} (h : ∀ r ∈ rows, r.length = k ∧ ∀ v ∈ r, v.oneCell' = true), (rowsT rows h).map RowT.val = rows
  | [], _ => rfl
  | r :: rows, h => by rw [rowsT, List.map_cons, rowsT_val]
theorem flatK_list {k : Nat} (hk : 0 < k) (d : Array (RowT k)) : (Sort.flatK RowT.val k d).toList = (d.toList.map RowT.val).flatten := by
  have hu : ∀ r ∈ d.toList.map RowT.val, r.length = k := fun r hr => by
    obtain ⟨x, _, rfl⟩ := List.mem_map.1 hr
    exact x.len
  apply List.ext_getElem?
  intro t
  rw [flatten_get hk hu]
  by_cases ht : t < d.size * k
  · have h1 : t / k < d.size := Nat.div_lt_of_lt_mul (by rwa [Nat.mul_comm] at ht)
    have h2 := Sort.get_flatK RowT.val k d t ht
    rw [Array.getElem?_toList, Array.getElem?_eq_getElem (by rwa [Sort.size_flatK]), ← getElem!_pos, h2, List.getElem?_map, Array.getElem?_toList, Array.getElem?_eq_getElem h1, getElem!_pos d _ h1]
    have h3 : t % k < (d[t / k]'h1).val.length := by rw [(d[t / k]'h1).len]; exact Nat.mod_lt _ hk
    show _ = (d[t / k]'h1).val[t % k]?
    rw [getElem!_pos (d[t / k]'h1).val (t % k) h3, List.getElem?_eq_getElem h3]
  · have h1 : d.size ≤ t / k := (Nat.le_div_iff_mul_le hk).2 (by omega)
    rw [Array.getElem?_toList, Array.getElem?_eq_none (by rw [Sort.size_flatK]; omega), List.getElem?_map, Array.getElem?_toList, Array.getElem?_eq_none h1]; rfl
theorem rev_C (L : SlLaysE0.n35 P ρ) (he : Go.Av.Enters P (ρ.f 35)) (hk0 : 0 < P.cellsOf (ρ.t 23)) (aE : ∀ w, (isAgg (ρ.t 23)).run P w = .ok true w) (zE : ∀ w, (Go.sizeOf (ρ.t 23)).run P w = .ok (P.cellsOf (ρ.t 23)) w) : RevC P (ρ.f 35) (ρ.t 23) := by
  generalize hk : P.cellsOf (ρ.t 23) = k at *
  refine ⟨he, fun A c w => AnyQ.slices_Reverse_empty L A c w, ?_⟩
  intro blk cap rows cur U w hheap hr hn0 hn htake hsize
  rw [hk] at hr htake hsize ⊢
  obtain ⟨d, hd⟩ : ∃ d : Array (RowT k), d = (rowsT rows hr).toArray := ⟨_, rfl⟩
  have hdl : d.toList.map RowT.val = rows := by rw [hd]; exact rowsT_val hr
  have hds : d.size = rows.length := by rw [← hdl, List.length_map, Array.length_toList]
  have hF := flatK_list hk0 d
  rw [hdl] at hF
  have hcell : ∀ t, t < rows.length * k → cur[t]? = (Sort.flatK RowT.val k d)[t]? := fun t ht => by
    have h1 : (cur.toList.take (rows.length * k))[t]? = rows.flatten[t]? := by rw [htake]
    rw [List.getElem?_take_of_lt ht, Array.getElem?_toList] at h1
    rw [h1, ← hF, Array.getElem?_toList]
  have hH : Sort.HoldsK RowT.val k w blk 0 d := by
    intro t ht
    rw [Sort.size_flatK, hds] at ht
    have h1 := hcell t ht
    have h2 : t < (Sort.flatK RowT.val k d).size := by rw [Sort.size_flatK, hds]; exact ht
    rw [Nat.zero_add]
    refine ⟨?_, ?_⟩
    · unfold World.cell?
      rw [hheap]
      simp only
      rw [h1, getElem!_pos (Sort.flatK RowT.val k d) t h2, Array.getElem?_eq_getElem h2]; rfl
    · unfold World.frozen?
      rw [hheap]; simp
  have key := AnyQ.slices_Reverse L k aE zE (RowT.val : RowT k → List Value) (fun x => x.len) (fun x => x.ok) blk 0 cap d w hH (by rw [hds]; omega)
  rw [hds] at key
  refine key.mono ?_
  rintro e w' ⟨h1, n, rfl⟩
  refine ⟨h1, ?_, ?_⟩
  · refine ⟨rfl, rfl, rfl, ?_, fun i hi => ?_⟩
    · simp [Sort.putRowK, Sort.putRow, Sort.mapBlock, Sort.ahead]
    · simp only [Sort.putRowK, Sort.putRow, Sort.mapBlock, Sort.ahead, Array.getElem?_modify]
      rw [if_neg (fun h => hi h.symm)]
  · have hG := flatK_list hk0 d.reverse
    have hGl : (d.reverse.toList.map RowT.val) = rows.reverse := by rw [Array.toList_reverse, List.map_reverse, hdl]
    rw [hGl] at hG
    have hGs : (Sort.flatK RowT.val k d.reverse).size = rows.length * k := by rw [Sort.size_flatK, Array.size_reverse, hds]
    refine ⟨Sort.putCells id 0 (Sort.flatK RowT.val k d.reverse) cur, ?_, ?_, ?_⟩
    · simp only [Sort.putRowK, Sort.putRow, Sort.mapBlock, Sort.ahead, Array.getElem?_modify, if_true]
      rw [hheap]; rfl
    · simp [Sort.putCells]
    · rw [← hG]
      apply List.ext_getElem?
      intro t
      by_cases ht : t < rows.length * k
      · have h2 : t < (Sort.flatK RowT.val k d.reverse).size := by rw [hGs]; exact ht
        have h3 : t < cur.size := by omega
        rw [List.getElem?_take_of_lt ht, Array.getElem?_toList, Array.getElem?_toList, Array.getElem?_eq_getElem h2]
        unfold Sort.putCells
        rw [Array.getElem?_mapIdx, Array.getElem?_eq_getElem h3]
        simp only [Option.map_some]
        rw [if_pos ⟨Nat.zero_le _, by omega⟩, Nat.sub_zero, getElem!_pos (Sort.flatK RowT.val k d.reverse) t h2]; rfl
      · rw [List.getElem?_eq_none (by rw [List.length_take]; omega), List.getElem?_eq_none (by rw [Array.length_toList]; omega)]
end Go.Av
namespace Go.Proofs
open Go.Av
open Go.RowKit (Below)
open Go.Shelf (Ren)
set_option maxHeartbeats 4000000
set_option maxRecDepth 100000
/-- what is known of the world: the library's table of powers of ten -/
def Fpow (w : World) : Prop := Lib.TabIs Tryz.prog w "internal/strconv.uint64pow10" .u64 Lib.pow10Tab
theorem below_grow (w : World) (k : Nat) (os : Array Obj) : Below w.heap.size w (Sort.grow (w.drewN k) os) :=
  ⟨rfl, rfl, rfl, by simp [Sort.grow], fun i hi => by
    show (w.heap ++ os)[i]? = _
    rw [Array.getElem?_append, if_pos hi]⟩
theorem enters_at {f : FuncId} {fn : Func} (h : Tryz.prog.funcs[f]? = some fn) (hn : (fn.name == "runtime.NumGoroutine") = false) (hb : fn.body.isSome = true) : Go.Av.Enters Tryz.prog f := by
  obtain ⟨c, hc⟩ := Option.isSome_iff_exists.1 hb
  exact ⟨fn, c, h, hn, hc⟩
theorem join_ok : Sound E.P Fpow fun f l H => if f = 48 then joinP l H else none :=
  join_sound (P := Tryz.prog) (enters_at Tryz.func48 (by kernel_rfl) (by kernel_rfl)) (fun A c sep w => Tryz.strings_Join_none A c sep w) (fun bk o c xs sep w h1 h2 h3 h4 h5 => Tryz.strings_Join bk o c xs sep w h1 h2 h3 h4 h5)
theorem itoa_ok : Sound E.P Fpow fun f l H => if f = 75 then itoaP l H else none :=
  itoa_sound (P := Tryz.prog) (enters_at Tryz.func75 (by kernel_rfl) (by kernel_rfl)) fun n w h0 h1 hF => (Tryz.strconv_Itoa n h0 h1 w hF).mono fun e w' ⟨h2, k, os, h3⟩ => ⟨h2, h3 ▸ below_grow w k os⟩
theorem atoi_ok : Sound E.P Fpow fun f l H => if f = 126 then atoiQ l H else none :=
  atoiQ_sound (P := Tryz.prog) (enters_at Tryz.func126 (by kernel_rfl) (by kernel_rfl)) fun s n w hl h => (Tryz.strconv_Atoi s n hl h w).mono fun e w' ⟨h2, t, h3⟩ => ⟨h2, h3 ▸ Go.Joins.below_bytesWorld _ w 5 t (Nat.le_refl _)⟩
theorem indexByte_ok : Sound E.P Fpow fun f l H => if f = 57 then indexByteP l H else none :=
  indexByte_sound (P := Tryz.prog) (enters_at Tryz.func57 (by kernel_rfl) (by kernel_rfl)) fun s c w => Tryz.strings_IndexByte s c w
theorem clone_ok : Sound E.P Fpow fun f l H => if f = 60 then cloneP l H else none :=
  clone_sound (P := Tryz.prog) (enters_at Tryz.func60 (by kernel_rfl) (by kernel_rfl)) (by kernel_rfl) (fun w => Tryz.maps_Clone_nil w) (fun b es clock w hb => Tryz.maps_Clone b es clock w hb)
theorem prim_ok : PrimOK E Fpow := by
  intro g p hg
  have hp : alGet primT g = some p := hg
  unfold primT at hp
  simp only [alGet] at hp
  split at hp
  · rename_i h
    injection hp with hp
    have h : g = 48 := by simpa [eq_comm] using h
    subst h hp; exact join_ok
  · split at hp
    · rename_i h
      injection hp with hp
      have h : g = 75 := by simpa [eq_comm] using h
      subst h hp; exact itoa_ok
    · split at hp
      · rename_i h
        injection hp with hp
        have h : g = 126 := by simpa [eq_comm] using h
        subst h hp; exact atoi_ok
      · split at hp
        · rename_i h
          injection hp with hp
          have h : g = 57 := by simpa [eq_comm] using h
          subst h hp; exact indexByte_ok
        · split at hp
          · rename_i h
            injection hp with hp
            have h : g = 60 := by simpa [eq_comm] using h
            subst h hp; exact clone_ok
          · cases hp
def r97 : Ren := ⟨fun n => if n = 41 then 21 else n, fun n => if n = 22 then 26 else if n = 23 then 29 else n, fun n => n⟩
def r98 : Ren := ⟨fun n => if n = 41 then 22 else n, fun n => if n = 22 then 27 else if n = 23 then 54 else n, fun n => n⟩
def r144 : Ren := ⟨fun n => if n = 35 then 95 else n, fun n => if n = 22 then 26 else if n = 23 then 29 else n, fun n => n⟩
theorem mixed_ok : Tryz.prog.follows .mixedOrders = true := by kernel_rfl
theorem lays97 : SlLaysE0.n41 Tryz.prog r97 where
  mixed := mixed_ok
  f41 := ⟨Tryz.f21.name, by kernel_rfl, Tryz.func21.trans (congrArg some (by kernel_rfl))⟩
  t4 := Tryz.underlying4
  a4 := Tryz.isAgg4
  z4 := Tryz.sizeOf4
  v4 := Tryz.zeroValue4
  t22 := Tryz.underlying26
  a22 := Tryz.isAgg26
  z22 := Tryz.sizeOf26
  v22 := Tryz.zeroValue26
theorem lays98 : SlLaysE0.n41 Tryz.prog r98 where
  mixed := mixed_ok
  f41 := ⟨Tryz.f22.name, by kernel_rfl, Tryz.func22.trans (congrArg some (by kernel_rfl))⟩
  t4 := Tryz.underlying4
  a4 := Tryz.isAgg4
  z4 := Tryz.sizeOf4
  v4 := Tryz.zeroValue4
  t22 := Tryz.underlying27
  a22 := Tryz.isAgg27
  z22 := Tryz.sizeOf27
  v22 := Tryz.zeroValue27
theorem lays144 : SlLaysE0.n35 Tryz.prog r144 where
  mixed := mixed_ok
  f35 := ⟨Tryz.f95.name, by kernel_rfl, Tryz.func95.trans (congrArg some (by kernel_rfl))⟩
  t0 := Tryz.underlying0
  a0 := Tryz.isAgg0
  z0 := Tryz.sizeOf0
  v0 := Tryz.zeroValue0
  t3 := Tryz.underlying3
  a3 := Tryz.isAgg3
  z3 := Tryz.sizeOf3
  v3 := Tryz.zeroValue3
  t4 := Tryz.underlying4
  a4 := Tryz.isAgg4
  z4 := Tryz.sizeOf4
  v4 := Tryz.zeroValue4
  t22 := Tryz.underlying26
  a22 := Tryz.isAgg26
  z22 := Tryz.sizeOf26
  v22 := Tryz.zeroValue26
theorem info_ok {T : TypeId} (n : Nat) (h : ((Tryz.prog.info? T).bind fun i => i.zero.map fun z => decide (z.cells.size = n) && decide (i.size = n)) = some true) : ∃ i z, Tryz.prog.info? T = some i ∧ i.zero = some z ∧ z.cells.size = i.size ∧ i.size = n := by
  cases hi : Tryz.prog.info? T with
  | none => rw [hi] at h; cases h
  | some i =>
    rw [hi] at h
    cases hz : i.zero with
    | none => simp only [Option.bind_some, hz] at h; cases h
    | some z =>
      simp only [Option.bind_some, hz, Option.map_some, Option.some.injEq, Bool.and_eq_true, decide_eq_true_eq] at h
      exact ⟨i, z, rfl, hz, by omega, h.2⟩
theorem clone97 : CloneC Tryz.prog 21 29 := by
  obtain ⟨i, z, h1, h2, h3, h4⟩ := info_ok (T := 29) 9 (by kernel_rfl)
  exact clone_C (ρ := r97) lays97 (enters_at Tryz.func21 (by kernel_rfl) (by kernel_rfl)) i z h1 h2 h3 (by omega) (by rw [h4]; exact Tryz.sizeOf29)
theorem clone98 : CloneC Tryz.prog 22 54 := by
  obtain ⟨i, z, h1, h2, h3, h4⟩ := info_ok (T := 54) 11 (by kernel_rfl)
  exact clone_C (ρ := r98) lays98 (enters_at Tryz.func22 (by kernel_rfl) (by kernel_rfl)) i z h1 h2 h3 (by omega) (by rw [h4]; exact Tryz.sizeOf54)
theorem rev144 : RevC Tryz.prog 95 29 := by
  have hc : Tryz.prog.cellsOf 29 = 9 := by kernel_rfl
  exact rev_C (ρ := r144) lays144 (enters_at Tryz.func95 (by kernel_rfl) (by kernel_rfl)) (show 0 < Tryz.prog.cellsOf 29 by rw [hc]; decide) Tryz.isAgg29 (show ∀ w, (Go.sizeOf 29).run Tryz.prog w = .ok (Tryz.prog.cellsOf 29) w by rw [hc]; exact Tryz.sizeOf29)
theorem mark_ok : MarkOK E := by
  constructor
  · intro g T h0
    have h : alGet clnT g = some T := h0
    clear h0
    unfold clnT at h
    simp only [alGet] at h
    split at h
    · rename_i hg
      injection h with hT
      have hg : g = 21 := by simpa [eq_comm] using hg
      subst hg hT; exact clone97
    · split at h
      · rename_i hg
        injection h with hT
        have hg : g = 22 := by simpa [eq_comm] using hg
        subst hg hT; exact clone98
      · cases h
  · intro g T h0
    have h : alGet rvsT g = some T := h0
    clear h0
    unfold rvsT at h
    simp only [alGet] at h
    split at h
    · rename_i hg
      injection h with hT
      have hg : g = 95 := by simpa [eq_comm] using hg
      subst hg hT; exact rev144
    · cases h
theorem drawn_idiom : DrawnOK E ∧ IdiomOK E ∧ MarkOK E := ⟨drawn_ok (by kernel_rfl), idiom_ok (by kernel_rfl), mark_ok⟩
end Go.Proofs
namespace Go.Proofs.YtnodmhkacfcmfaaGreatDoor
open Go.ChangeShapes Go.WideShapes Go.ChangeAt Go.RowKit
open Go.ChangeMaps (open_string shut_string)
open Go.Av (den calls_of_den den_sound plainV)
set_option maxRecDepth 100000

theorem own : ownKnob Tryz.prog.godebug = none := by kernel_rfl

section
variable {H : Type} {enc : TypeId × Value → H} {P : Program}
/-- the reading of the end, where the arguments hold no place -/
theorem post_of_flat {f : Func} {s : ChangeSpec} {apart fresh handsOn again : Bool} {W W' : World} {args : Array Value} {v : Value} {ds gs : List (DataW H)}
    (hW : DataW.Whole enc P f.params.toList s.vars apart W args.toList ds gs [])
    (hres : ∀ (b : Nat) (sp : Nat → Bool) (hd : Bool), DataW.TrodAll enc P W' b sp hd f.resultTypes.toList (v.resultList f.resultTypes.size) (s.fn H (ds ++ gs)).results [])
    (hargs : ∀ sp : Nat → Bool, DataW.TrodAll enc P W' 0 sp true f.params.toList args.toList (s.fn H (ds ++ gs)).args [])
    (hvars : ∀ sp : Nat → Bool, DataW.TrodVars enc P W' sp s.vars (s.fn H (ds ++ gs)).vars [])
    (hk : Below W.heap.size W W')
    (hok : ∀ (j : Nat) (t : TypeId) (r : Value), f.resultTypes[j]? = some t → (v.resultList f.resultTypes.size)[j]? = some r → Value.okWide P W' .any 0 t r) :
    s.post enc P f apart fresh handsOn again W args v W' := by
  refine ⟨ds, gs, [], [], [], [], hW, hres _ _ _, hargs _, hvars _, World.keptBut_mono (fun p hp => ⟨hp, ?_⟩) (hk.frame (· ∈ [])), fun _ => ?_⟩
  · simp at hp
  · refine ⟨hok, _, _, ([] ++ []) ++ [], ⟨[] ++ [], [], trodAll_append (hargs _) (hres _ _ _), hvars _, rfl, ?_, ?_⟩, ?_⟩
    · intro b off hp
      simp at hp
    · intro ha
      simp
    · intro p hp _
      simp at hp
end

/-! the table of the row -/
theorem pow_global : Tryz.prog.globalNamed "internal/strconv.uint64pow10" = some 1 := by kernel_rfl
theorem table {W : World} (h : laidMetH Tryz.prog Rows.evalFreeRow.laid W) : Lib.TabIs Tryz.prog W "internal/strconv.uint64pow10" .u64 Lib.pow10Tab := by
  rw [MakeChecks.laidMetH_plain _ _ _ (by kernel_rfl)] at h
  exact Lib.tabIs_of_head (rest := [("strconv.ErrRange", Rows.laid_strconv_ErrRange), ("strconv.ErrSyntax", Rows.laid_strconv_ErrSyntax)]) pow_global (by kernel_rfl : (Tryz.prog.globals[1]?).map (·.type) = some 185) Tryz.underlying185 Tryz.underlying178 (by kernel_rfl) (by kernel_rfl) (laidMet.tail (laidMet.tail h))
theorem fact_lt {W : World} (h : Fpow W) : ∀ g, g = 1 → g < W.heap.size := by
  rintro g rfl
  unfold Fpow Lib.TabIs World.var? at h
  rw [pow_global] at h
  simp only [Option.bind_some] at h
  by_cases hg : 1 < W.heap.size
  · exact hg
  · rw [Array.getElem?_eq_none (by omega)] at h
    cases h
theorem fact_cong (w w' : World) (h : ∀ g, g = 1 → w'.heap[g]? = w.heap[g]?) (hF : Fpow w) : Fpow w' := by
  unfold Fpow Lib.TabIs World.var? at hF ⊢
  rw [pow_global] at hF ⊢
  simp only [Option.bind_some] at hF ⊢
  rw [h 1 rfl]
  exact hF
theorem law_calls {k : FuncId} {vs : List Go.Av.AVal} {xs : Array Value} {W : World} (hF : Fpow W) (hx : Go.Av.All2 (Go.Av.Rep3 W (fun _ _ => False) (fun _ => none)) vs xs.toList) (hp : ∀ v ∈ vs, plainV v = true) (hd : den E k vs [] = some (.bool true, [])) :
    Calls Tryz.prog k xs W fun e w' => e = .returned (.bool true) ∧ Below W.heap.size W w' :=
  calls_of_den (den_sound (F := Fpow) drawn_idiom prim_ok) (· = 1) (fact_lt hF) hF fact_cong hx hp hd

/-! the rows -/
theorem door_met (os : Os) (args : Array Value) : laidMet Tryz.prog Rows.evalFreeRow.laid ((World.doorLaid Tryz.prog 62 os).forCall (fun _ _ => 0) ⟨#[], args, []⟩).memory :=
  laidMet_of_run' 8 (by kernel_rfl) (by kernel_rfl)
end Go.Proofs.YtnodmhkacfcmfaaGreatDoor
