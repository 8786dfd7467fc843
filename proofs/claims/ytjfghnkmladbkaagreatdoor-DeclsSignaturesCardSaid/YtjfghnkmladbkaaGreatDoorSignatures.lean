/- The statement DeclsSignatures. -/
import Derived.Test.YtjfghnkmladbkaaGreatDoorAvO
import Derived.Test.YtjfghnkmladbkaaGreatDoorAvP
namespace Go.Proofs.YtjfghnkmladbkaaGreatDoor
open Go.ChangeShapes Go.WideShapes Go.ChangeAt Go.RowKit
open Go.ChangeMaps (open_string shut_string)
open Go.Av (den calls_of_den den_sound plainV)
set_option maxRecDepth 100000
theorem declsSignatures_contract (H : Type) (enc : TypeId × Value → H) (W : World) (base : Nat) (args : Array Value) (ds gs : List (DataW H)) (before : List MemPlace)
 (hval : ∀ (j : Nat) t v,Tryz.f6.params[j]? = some t → args[j]? = some v → Value.okWide Tryz.prog W .any base t v)
 (hW : DataW.Whole enc Tryz.prog Tryz.f6.params.toList Rows.declsSignaturesSpec.vars false W args.toList ds gs before) (hL : laidMetH Tryz.prog Rows.declsSignaturesRow.laid W) :
 Calls Tryz.prog 6 args W fun e W' => ∃ v,e = .returned v ∧ Rows.declsSignaturesSpec.post enc Tryz.prog Tryz.f6 false true false false W args v W' := by
 have hW' := hW
 obtain ⟨p,q,hA0,hV,rfl,hfz,hnd⟩ := hW
 have hA : DataW.TrodAll enc Tryz.prog W 0 (fun _ => true) true Tryz.f6.params.toList args.toList ds p := hA0
 rw [Tryz.params6] at hA hval
 obtain ⟨v0,vs0,d0,ds0,p0,q0,hargs0,rfl,rfl,h0,r0⟩ := trodAll_cons hA
 obtain ⟨v1,vs1,d1,ds1,p1,q1,hargs1,rfl,rfl,h1,r1⟩ := trodAll_cons r0
 obtain ⟨rfl,rfl,rfl⟩ := trodAll_nil r1
 obtain rfl : args = #[v0,v1] := by cases args; simp_all
 obtain ⟨rfl,rfl⟩ := trodVars_none hV
 obtain ⟨s0,rfl,rfl,rfl,ws0⟩ := open_string Tryz.underlying9 (hval 0 9 v0 rfl rfl) h0
 obtain ⟨s1,rfl,rfl,rfl,ws1⟩ := open_string Tryz.underlying9 (hval 1 9 v1 rfl rfl) h1
 clear hA0
 simp only [List.append_nil] at hW'
 refine (law_calls (vs := [.str s0.data.toList,.str s1.data.toList]) (xs := #[.string s0,.string s1]) (table hL) (show Value.string s0 = .string ⟨s0.data.toList.toArray⟩ ∧ Value.string s1 = .string ⟨s1.data.toList.toArray⟩ ∧ True from ⟨by simp,by simp,trivial⟩) (by simp [plainV]) (sig_law s0.data.toList s1.data.toList)).mono fun e W' ⟨he,hg⟩ => ?_
 subst he
 exact ⟨_,rfl,post_of_flat hW' (fun _ _ _ => trodAll_cons_mk (shut_bool Tryz.underlying4 _) trodAll_mk0) (fun _ => trodAll_cons_mk (shut_string Tryz.underlying9 ws0) (trodAll_cons_mk (shut_string Tryz.underlying9 ws1) (trodAll_mk0))) (fun _ => rfl)
  hg (ok_one (by kernel_rfl) rfl (okWide_bool_mk Tryz.underlying4 _))⟩
theorem declsSignatures_whole (os : Os) {H : Type} (enc : TypeId × Value → H) : ∃ places,DataW.whole enc Tryz.prog ((World.doorLaid Tryz.prog 62 os).forCall (fun _ _ => 0) ⟨#[],#[.string ⟨#[]⟩,.string ⟨#[]⟩],[]⟩).memory Tryz.f6.params.toList Rows.declsSignaturesSpec.vars false (#[.string ⟨#[]⟩,.string ⟨#[]⟩] : Array Value).toList 8 = some ([.lit (.string []),.lit (.string [])],[],places) :=
 ⟨[],by kernel_rfl⟩
theorem declsSignatures_lifted (os : Os) (started : os.Started) (H : Type) (enc : TypeId × Value → H) (F : Stop.Interp) :
 ReturnsInHanded {} Tryz.checked os 6 .any ((OpenSpec.ofChange Rows.declsSignaturesSpec).preRow enc Tryz.prog Tryz.f6 Rows.declsSignaturesRow.domain false Rows.declsSignaturesRow.laid) (((OpenSpec.ofChange Rows.declsSignaturesSpec).at F).post enc Tryz.prog Tryz.f6 false true false false) := by
 obtain ⟨places,hx⟩ := declsSignatures_whole os enc
 refine returnsInHanded_of_row (C := Tryz.checked) (s := OpenSpec.ofChange Rows.declsSignaturesSpec) own started (by kernel_rfl) Tryz.func6
  (witness_row_at (enc := enc) (C := Tryz.checked) false (World.doorLaid Tryz.prog 62 os) #[.string ⟨#[]⟩,.string ⟨#[]⟩] rfl (by kernel_rfl) (by kernel_rfl) (by kernel_rfl)
    (OpenSpec.preRow_of_cond 8 hx (by kernel_rfl) (fun k hk => by cases hk) (by kernel_rfl) (door_met os _))) ?_
 intro W base args ds gs before hval hW _ _ _ hL _ _
 exact declsSignatures_contract H enc W base args ds gs before hval hW hL
theorem declsSignatures_said : Rows.DeclsSignaturesSaid :=
 OpenClaim.holds_of_cond 6 Tryz.f6 rfl rfl rfl rfl rfl rfl rfl ⟨rfl,rfl,rfl,rfl,rfl⟩ rfl rfl rfl rfl rfl (by kernel_rfl) Tryz.func6 (by kernel_rfl)
  (of_decide_eq_true (by kernel_rfl)) (by unfold Func.isWrapper; first | (rw [if_pos (by decide +kernel)]; kernel_rfl) | (rw [if_neg (by decide +kernel)]; exact ⟨rfl,rfl⟩))
  (fun os started H enc _ F => by rw [OpenClaim.pre_eq_preRow]; exact declsSignatures_lifted os started H enc F)
theorem declsSignatures_plain (f : FuncId) (fn : Func) (hf : Tryz.pinned.checked.prog.funcNamed "savant/savantlaw11.DeclsSignatures" = some f) (hfn : Tryz.pinned.checked.prog.funcs[f]? = some fn) :
 true = Tryz.pinned.checked.prog.looks [] ∧ ∀ (j : Nat) t,fn.params[j]? = some t → Tryz.pinned.checked.prog.wantsStandIn t = false := by
 obtain rfl : f = 6 := Option.some.inj ((show Tryz.prog.funcNamed "savant/savantlaw11.DeclsSignatures" = some 6 by kernel_rfl).symm.trans hf) |>.symm
 obtain rfl : fn = Tryz.f6 := (Option.some.inj (Tryz.func6.symm.trans hfn)).symm
 refine ⟨by kernel_rfl,fun j t ht => ?_⟩
 rw [Tryz.params6] at ht
 have hm : t ∈ [9,9] := by simpa using Array.mem_of_getElem? ht
 have hall : ([9,9].all fun u => !Tryz.prog.wantsStandIn u) = true := by kernel_rfl
 exact (show Tryz.prog.wantsStandIn t = false by simpa using List.all_eq_true.1 hall t hm)
theorem declsSignatures_card : Rows.DeclsSignaturesCardSaid :=
 Claim7.holds_tied_plain_at .later [] _ _ _ _ declsSignatures_said (fun _ h => by cases h) (by kernel_rfl) (fun _ h => by cases h) declsSignatures_row_tie rfl ⟨rfl,rfl⟩ (by kernel_rfl) rfl declsSignatures_plain (by kernel_rfl)
end Go.Proofs.YtjfghnkmladbkaaGreatDoor
