/- From the abstract machine to calls of the program; the table of powers of ten. -/
import Derived.Test.YtjfghnkmladbkaaGreatDoorAvE
import Derived.Test.YtjfghnkmladbkaaGreatDoorAvD
import Derived.Test.YtjfghnkmladbkaaGreatDoorAvQ
import Derived.Test.YtjfghnkmladbkaaGreatDoorAvN
import Derived.Lib.SmallJoins
import Derived.Test.YtjfghnkmladbkaaGreatDoorCards
import Derived.Test.YtjfghnkmladbkaaGreatDoorTie
import Derived.Test.YtjfghnkmladbkaaGreatDoorChecked
import Derived.ProofKit
import Derived.LaidMore
import Derived.OpenShut
import Derived.Deep.DeepHandedRow
import Derived.Lib.LaidTab
import Derived.Stop.LaidErr
import Derived.SevenTiedAt
import Derived.ShutString
namespace Go.Proofs
open Go.Av
open Go.RowKit (Below)
set_option maxHeartbeats 4000000
set_option maxRecDepth 100000
def Fpow (w : World) : Prop := Lib.TabIs Tryz.prog w "internal/strconv.uint64pow10" .u64 Lib.pow10Tab ∧ ∃ u v,w.var? Tryz.prog "strconv.ErrSyntax" = some #[.iface u v]
theorem err_global : Tryz.prog.globalNamed "strconv.ErrSyntax" = some 2 := by kernel_rfl
theorem below_grow (w : World) (k : Nat) (os : Array Obj) : Below w.heap.size w (Sort.grow (w.drewN k) os) :=
 ⟨rfl,rfl,rfl,by simp [Sort.grow],fun i hi => by
  show (w.heap ++ os)[i]? = _
  rw [Array.getElem?_append,if_pos hi]⟩
theorem enters_at {f : FuncId} {fn : Func} (h : Tryz.prog.funcs[f]? = some fn) (hn : (fn.name == "runtime.NumGoroutine") = false) (hb : fn.body.isSome = true) : Go.Av.Enters Tryz.prog f := by
 obtain ⟨c,hc⟩ := Option.isSome_iff_exists.1 hb
 exact ⟨fn,c,h,hn,hc⟩
theorem join_ok : Sound E.P Fpow fun f l H => if f = 61 then joinP l H else none :=
 join_sound (P := Tryz.prog) (enters_at Tryz.func61 (by kernel_rfl) (by kernel_rfl)) (fun A c sep w => Tryz.strings_Join_none A c sep w) (fun bk o c xs sep w h1 h2 h3 h4 h5 => Tryz.strings_Join bk o c xs sep w h1 h2 h3 h4 h5)
theorem itoa_ok : Sound E.P Fpow fun f l H => if f = 120 then itoaP l H else none :=
 itoa_sound (P := Tryz.prog) (enters_at Tryz.func120 (by kernel_rfl) (by kernel_rfl)) fun n w h0 h1 hF => (Tryz.strconv_Itoa n h0 h1 w hF.1).mono fun e w' ⟨h2,k,os,h3⟩ => ⟨h2,h3 ▸ below_grow w k os⟩
theorem atoi_ok2 : Sound E.P Fpow fun f l H => if f = 229 then atoiP l H else none :=
 atoi_sound (P := Tryz.prog) (enters_at Tryz.func229 (by kernel_rfl) (by kernel_rfl))
  (fun s n w hl h => (Tryz.strconv_Atoi s n hl h w).mono fun e w' ⟨h2,t,h3⟩ => ⟨h2,h3 ▸ Go.Joins.below_bytesWorld _ w 5 t (Nat.le_refl _)⟩)
  (fun w hF => by
    obtain ⟨u,v,hv⟩ := hF.2
    have hc : w.cell? ⟨2,0,none⟩ = some (.iface u v) := by
     have := World.var?_cell err_global hv 0
     simpa using this
    exact (Tryz.strconv_Atoi_err ⟨#[]⟩ (by decide) (by decide) (.iface u v) w hc (.inr ⟨_,_,rfl⟩)).mono fun e w' ⟨N,h1,_,_,h4⟩ => ⟨_,_,h1,h4⟩)
theorem indexByte_ok : Sound E.P Fpow fun f l H => if f = 170 then indexByteP l H else none :=
 indexByte_sound (P := Tryz.prog) (enters_at Tryz.func170 (by kernel_rfl) (by kernel_rfl)) fun s c w => Tryz.strings_IndexByte s c w
theorem clone_ok : Sound E.P Fpow fun f l H => if f = 155 then cloneP l H else none :=
 clone_sound (P := Tryz.prog) (enters_at Tryz.func155 (by kernel_rfl) (by kernel_rfl)) (by kernel_rfl) (fun w => Tryz.maps_Clone_nil w) (fun b es clock w hb => Tryz.maps_Clone b es clock w hb)
theorem concat_ok : Sound E.P Fpow fun f l H => if f = 99 then concatP l H else none := concat_sound
theorem known_ok : Sound E.P Fpow fun f l H => if f = 81 then knownP l H else none := known_sound
theorem prim_ok : PrimOK E Fpow := by
 intro g p hg
 have hp : alGet primT g = some p := hg
 unfold primT at hp
 simp only [alGet] at hp
 have join := join_ok
 have itoa := itoa_ok
 have atoi := atoi_ok2
 have ib := indexByte_ok
 have cl := clone_ok
 have cc := concat_ok
 have kn := known_ok
 repeat' split at hp
 all_goals first | (cases hp; done) | (rename_i h; injection hp with hp; subst hp; subst h; first | exact join | exact itoa | exact atoi | exact ib | exact cl | exact cc | exact kn) | skip
theorem mark_ok : MarkOK E := trivial
theorem drawn_idiom : DrawnOK E ∧ IdiomOK E ∧ MarkOK E := ⟨drawn_ok (by kernel_rfl),idiom_ok (by kernel_rfl),mark_ok⟩
end Go.Proofs
namespace Go.Proofs.YtjfghnkmladbkaaGreatDoor
open Go.ChangeShapes Go.WideShapes Go.ChangeAt Go.RowKit
open Go.ChangeMaps (open_string shut_string)
open Go.Av (den calls_of_den den_sound plainV)
set_option maxRecDepth 100000
theorem own : ownKnob Tryz.prog.godebug = none := by kernel_rfl
section
variable {H : Type} {enc : TypeId × Value → H} {P : Program}
theorem post_of_flat {f : Func} {s : ChangeSpec} {apart fresh handsOn again : Bool} {W W' : World} {args : Array Value} {v : Value} {ds gs : List (DataW H)}
 (hW : DataW.Whole enc P f.params.toList s.vars apart W args.toList ds gs [])
 (hres : ∀ (b : Nat) (sp : Nat → Bool) (hd : Bool),DataW.TrodAll enc P W' b sp hd f.resultTypes.toList (v.resultList f.resultTypes.size) (s.fn H (ds ++ gs)).results [])
 (hargs : ∀ sp : Nat → Bool,DataW.TrodAll enc P W' 0 sp true f.params.toList args.toList (s.fn H (ds ++ gs)).args [])
 (hvars : ∀ sp : Nat → Bool,DataW.TrodVars enc P W' sp s.vars (s.fn H (ds ++ gs)).vars [])
 (hk : Below W.heap.size W W')
 (hok : ∀ (j : Nat) (t : TypeId) (r : Value),f.resultTypes[j]? = some t → (v.resultList f.resultTypes.size)[j]? = some r → Value.okWide P W' .any 0 t r) :
 s.post enc P f apart fresh handsOn again W args v W' := by
 refine ⟨ds,gs,[],[],[],[],hW,hres _ _ _,hargs _,hvars _,World.keptBut_mono (fun p hp => ⟨hp,?_⟩) (hk.frame (· ∈ [])),fun _ => ?_⟩
 · simp at hp
 · refine ⟨hok,_,_,([] ++ []) ++ [],⟨[] ++ [],[],trodAll_append (hargs _) (hres _ _ _),hvars _,rfl,?_,?_⟩,?_⟩
   · intro b off hp
     simp at hp
   · intro ha
     simp
   · intro p hp _
     simp at hp
end
theorem pow_global : Tryz.prog.globalNamed "internal/strconv.uint64pow10" = some 1 := by kernel_rfl
theorem table {W : World} (h : laidMetH Tryz.prog Rows.declsSignaturesRow.laid W) : Fpow W := by
 rw [MakeChecks.laidMetH_plain _ _ _ (by kernel_rfl)] at h
 refine ⟨Lib.tabIs_of_head (rest := [("strconv.ErrRange",Rows.laid_strconv_ErrRange),("strconv.ErrSyntax",Rows.laid_strconv_ErrSyntax)]) pow_global (by kernel_rfl : (Tryz.prog.globals[1]?).map (·.type) = some 333) Tryz.underlying333 Tryz.underlying323 (by kernel_rfl) (by kernel_rfl) (laidMet.tail (laidMet.tail h)),?_⟩
 obtain ⟨ps,⟨g0,t0,cs0,f0,p0,q0,hg0,ht0,hv0,hd0,_,e0⟩,_,_⟩ := laidMet.tail (laidMet.tail (laidMet.tail (laidMet.tail h)))
 obtain rfl := Option.some.inj (err_global.symm.trans hg0)
 obtain rfl := Option.some.inj ((by kernel_rfl : (Tryz.prog.globals[2]?).map (·.type) = some 220).symm.trans ht0)
 obtain ⟨l0⟩ := cs0
 obtain ⟨_,u,v,hl,_⟩ := iface_of_trod Tryz.underlying220 hd0
 exact ⟨u,v,by rw [hv0,show l0 = [.iface u v] from hl]⟩
theorem heap_lt_of_var {W : World} {n : String} {g : Nat} {cs : Array Value} (hg : Tryz.prog.globalNamed n = some g) (h : W.var? Tryz.prog n = some cs) : g < W.heap.size := by
 unfold World.var? at h
 rw [hg] at h
 simp only [Option.bind_some] at h
 by_cases hlt : g < W.heap.size
 · exact hlt
 · rw [Array.getElem?_eq_none (by omega)] at h
   cases h
theorem var_cong {w w' : World} {n : String} {g : Nat} (hg : Tryz.prog.globalNamed n = some g) (h : w'.heap[g]? = w.heap[g]?) : w'.var? Tryz.prog n = w.var? Tryz.prog n := by
 unfold World.var?
 rw [hg]
 simp only [Option.bind_some,h]
theorem fact_lt {W : World} (h : Fpow W) : ∀ g,(g = 1 ∨ g = 2) → g < W.heap.size := by
 rintro g (rfl | rfl)
 · have h1 := h.1
   unfold Lib.TabIs at h1
   exact heap_lt_of_var pow_global h1
 · obtain ⟨u,v,hv⟩ := h.2
   exact heap_lt_of_var err_global hv
theorem fact_cong (w w' : World) (h : ∀ g,(g = 1 ∨ g = 2) → w'.heap[g]? = w.heap[g]?) (hF : Fpow w) : Fpow w' := by
 refine ⟨?_,?_⟩
 · have h1 := hF.1
   unfold Lib.TabIs at h1 ⊢
   rw [var_cong pow_global (h 1 (.inl rfl))]
   exact h1
 · obtain ⟨u,v,hv⟩ := hF.2
   exact ⟨u,v,by rw [var_cong err_global (h 2 (.inr rfl)),hv]⟩
theorem law_calls {k : FuncId} {vs : List Go.Av.AVal} {xs : Array Value} {W : World} (hF : Fpow W) (hx : Go.Av.All2 (Go.Av.Rep3 W (fun _ _ => False) (fun _ => none)) vs xs.toList) (hp : ∀ v ∈ vs,plainV v = true) (hd : den E k vs [] = some (.bool true,[])) :
 Calls Tryz.prog k xs W fun e w' => e = .returned (.bool true) ∧ Below W.heap.size W w' :=
 calls_of_den (den_sound (F := Fpow) drawn_idiom prim_ok) (fun g => g = 1 ∨ g = 2) (fact_lt hF) hF fact_cong hx hp hd
theorem door_met (os : Os) (args : Array Value) : laidMet Tryz.prog Rows.declsSignaturesRow.laid ((World.doorLaid Tryz.prog 62 os).forCall (fun _ _ => 0) ⟨#[],args,[]⟩).memory :=
 laidMet_of_run' 8 (by kernel_rfl) (by kernel_rfl)
end Go.Proofs.YtjfghnkmladbkaaGreatDoor
