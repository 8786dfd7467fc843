/- From the abstract machine to calls of the program; the table of powers of ten. -/
import Derived.Test.YteidnocfcilajaaGreatDoorAvI
import Derived.Test.YteidnocfcilajaaGreatDoorAvC
import Derived.Test.YteidnocfcilajaaGreatDoorAvN
import Derived.Lib.SmallJoins
import Derived.Test.YteidnocfcilajaaGreatDoorCards
import Derived.Test.YteidnocfcilajaaGreatDoorTie
import Derived.Test.YteidnocfcilajaaGreatDoorChecked
import Derived.ProofKit
import Derived.LaidMore
import Derived.OpenShut
import Derived.Deep.DeepHandedRow
import Derived.Lib.LaidTab
import Derived.Stop.LaidErr
import Derived.SevenTiedAt
import Derived.ShutString
namespace Go.Proofs
open Go.Av
open Go.RowKit (Below)
set_option maxHeartbeats 4000000
set_option maxRecDepth 100000
/-- what is known of the world: the library's table of powers of ten -/
def Fpow (w : World) : Prop := Lib.TabIs Tryz.prog w "internal/strconv.uint64pow10" .u64 Lib.pow10Tab
theorem below_grow (w : World) (k : Nat) (os : Array Obj) : Below w.heap.size w (Sort.grow (w.drewN k) os) :=
  ⟨rfl, rfl, rfl, by simp [Sort.grow], fun i hi => by
    show (w.heap ++ os)[i]? = _
    rw [Array.getElem?_append, if_pos hi]⟩
theorem enters_at {f : FuncId} {fn : Func} (h : Tryz.prog.funcs[f]? = some fn) (hn : (fn.name == "runtime.NumGoroutine") = false) (hb : fn.body.isSome = true) : Go.Av.Enters Tryz.prog f := by
  obtain ⟨c, hc⟩ := Option.isSome_iff_exists.1 hb
  exact ⟨fn, c, h, hn, hc⟩
theorem join_ok : Sound E.P Fpow fun f l H => if f = 63 then joinP l H else none :=
  join_sound (P := Tryz.prog) (enters_at Tryz.func63 (by kernel_rfl) (by kernel_rfl)) (fun A c sep w => Tryz.strings_Join_none A c sep w) (fun bk o c xs sep w h1 h2 h3 h4 h5 => Tryz.strings_Join bk o c xs sep w h1 h2 h3 h4 h5)
theorem itoa_ok : Sound E.P Fpow fun f l H => if f = 93 then itoaP l H else none :=
  itoa_sound (P := Tryz.prog) (enters_at Tryz.func93 (by kernel_rfl) (by kernel_rfl)) fun n w h0 h1 hF => (Tryz.strconv_Itoa n h0 h1 w hF).mono fun e w' ⟨h2, k, os, h3⟩ => ⟨h2, h3 ▸ below_grow w k os⟩
theorem atoi_ok : Sound E.P Fpow fun f l H => if f = 188 then atoiQ l H else none :=
  atoiQ_sound (P := Tryz.prog) (enters_at Tryz.func188 (by kernel_rfl) (by kernel_rfl)) fun s n w hl h => (Tryz.strconv_Atoi s n hl h w).mono fun e w' ⟨h2, t, h3⟩ => ⟨h2, h3 ▸ Go.Joins.below_bytesWorld _ w 5 t (Nat.le_refl _)⟩
theorem indexByte_ok : Sound E.P Fpow fun f l H => if f = 155 then indexByteP l H else none :=
  indexByte_sound (P := Tryz.prog) (enters_at Tryz.func155 (by kernel_rfl) (by kernel_rfl)) fun s c w => Tryz.strings_IndexByte s c w
theorem clone_ok : Sound E.P Fpow fun f l H => if f = 162 then cloneP l H else none :=
  clone_sound (P := Tryz.prog) (enters_at Tryz.func162 (by kernel_rfl) (by kernel_rfl)) (by kernel_rfl) (fun w => Tryz.maps_Clone_nil w) (fun b es clock w hb => Tryz.maps_Clone b es clock w hb)
theorem prim_ok : PrimOK E Fpow := by
  intro g p hg
  have hp : alGet primT g = some p := hg
  unfold primT at hp
  simp only [alGet] at hp
  split at hp
  · rename_i h
    injection hp with hp
    have h : g = 63 := by simpa [eq_comm] using h
    subst h hp; exact join_ok
  · split at hp
    · rename_i h
      injection hp with hp
      have h : g = 93 := by simpa [eq_comm] using h
      subst h hp; exact itoa_ok
    · split at hp
      · rename_i h
        injection hp with hp
        have h : g = 188 := by simpa [eq_comm] using h
        subst h hp; exact atoi_ok
      · split at hp
        · rename_i h
          injection hp with hp
          have h : g = 155 := by simpa [eq_comm] using h
          subst h hp; exact indexByte_ok
        · split at hp
          · rename_i h
            injection hp with hp
            have h : g = 162 := by simpa [eq_comm] using h
            subst h hp; exact clone_ok
          · cases hp
theorem drawn_idiom : DrawnOK E ∧ IdiomOK E := ⟨drawn_ok (by kernel_rfl), idiom_ok (by kernel_rfl)⟩
end Go.Proofs
namespace Go.Proofs.YteidnocfcilajaaGreatDoor
open Go.ChangeShapes Go.WideShapes Go.ChangeAt Go.RowKit
open Go.ChangeMaps (open_string shut_string)
open Go.Av (den calls_of_den den_sound plainV)
set_option maxRecDepth 100000

theorem own : ownKnob Tryz.prog.godebug = none := by kernel_rfl

section
variable {H : Type} {enc : TypeId × Value → H} {P : Program}
/-- the reading of the end, where the arguments hold no place -/
theorem post_of_flat {f : Func} {s : ChangeSpec} {apart fresh handsOn again : Bool} {W W' : World} {args : Array Value} {v : Value} {ds gs : List (DataW H)}
    (hW : DataW.Whole enc P f.params.toList s.vars apart W args.toList ds gs [])
    (hres : ∀ (b : Nat) (sp : Nat → Bool) (hd : Bool), DataW.TrodAll enc P W' b sp hd f.resultTypes.toList (v.resultList f.resultTypes.size) (s.fn H (ds ++ gs)).results [])
    (hargs : ∀ sp : Nat → Bool, DataW.TrodAll enc P W' 0 sp true f.params.toList args.toList (s.fn H (ds ++ gs)).args [])
    (hvars : ∀ sp : Nat → Bool, DataW.TrodVars enc P W' sp s.vars (s.fn H (ds ++ gs)).vars [])
    (hk : Below W.heap.size W W')
    (hok : ∀ (j : Nat) (t : TypeId) (r : Value), f.resultTypes[j]? = some t → (v.resultList f.resultTypes.size)[j]? = some r → Value.okWide P W' .any 0 t r) :
    s.post enc P f apart fresh handsOn again W args v W' := by
  refine ⟨ds, gs, [], [], [], [], hW, hres _ _ _, hargs _, hvars _, World.keptBut_mono (fun p hp => ⟨hp, ?_⟩) (hk.frame (· ∈ [])), fun _ => ?_⟩
  · simp at hp
  · refine ⟨hok, _, _, ([] ++ []) ++ [], ⟨[] ++ [], [], trodAll_append (hargs _) (hres _ _ _), hvars _, rfl, ?_, ?_⟩, ?_⟩
    · intro b off hp
      simp at hp
    · intro ha
      simp
    · intro p hp _
      simp at hp
end

/-! the table of the row -/
theorem pow_global : Tryz.prog.globalNamed "internal/strconv.uint64pow10" = some 1 := by kernel_rfl
theorem table {W : World} (h : laidMetH Tryz.prog Rows.syntaxReadsRow.laid W) : Lib.TabIs Tryz.prog W "internal/strconv.uint64pow10" .u64 Lib.pow10Tab := by
  rw [MakeChecks.laidMetH_plain _ _ _ (by kernel_rfl)] at h
  exact Lib.tabIs_of_head (rest := [("strconv.ErrRange", Rows.laid_strconv_ErrRange), ("strconv.ErrSyntax", Rows.laid_strconv_ErrSyntax)]) pow_global (by kernel_rfl : (Tryz.prog.globals[1]?).map (·.type) = some 229) Tryz.underlying229 Tryz.underlying222 (by kernel_rfl) (by kernel_rfl) (laidMet.tail (laidMet.tail h))
theorem fact_lt {W : World} (h : Fpow W) : ∀ g, g = 1 → g < W.heap.size := by
  rintro g rfl
  unfold Fpow Lib.TabIs World.var? at h
  rw [pow_global] at h
  simp only [Option.bind_some] at h
  by_cases hg : 1 < W.heap.size
  · exact hg
  · rw [Array.getElem?_eq_none (by omega)] at h
    cases h
theorem fact_cong (w w' : World) (h : ∀ g, g = 1 → w'.heap[g]? = w.heap[g]?) (hF : Fpow w) : Fpow w' := by
  unfold Fpow Lib.TabIs World.var? at hF ⊢
  rw [pow_global] at hF ⊢
  simp only [Option.bind_some] at hF ⊢
  rw [h 1 rfl]
  exact hF
theorem law_calls {k : FuncId} {vs : List Go.Av.AVal} {xs : Array Value} {W : World} (hF : Fpow W) (hx : Go.Av.All2 (Go.Av.Rep3 W (fun _ _ => False) (fun _ => none)) vs xs.toList) (hp : ∀ v ∈ vs, plainV v = true) (hd : den E k vs [] = some (.bool true, [])) :
    Calls Tryz.prog k xs W fun e w' => e = .returned (.bool true) ∧ Below W.heap.size W w' :=
  calls_of_den (den_sound (F := Fpow) drawn_idiom prim_ok) (· = 1) (fact_lt hF) hF fact_cong hx hp hd

/-! the rows -/
theorem door_met (os : Os) (args : Array Value) : laidMet Tryz.prog Rows.syntaxReadsRow.laid ((World.doorLaid Tryz.prog 62 os).forCall (fun _ _ => 0) ⟨#[], args, []⟩).memory :=
  laidMet_of_run' 8 (by kernel_rfl) (by kernel_rfl)
end Go.Proofs.YteidnocfcilajaaGreatDoor
