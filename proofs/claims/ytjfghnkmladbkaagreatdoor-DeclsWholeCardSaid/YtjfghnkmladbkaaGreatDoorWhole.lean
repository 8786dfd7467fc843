/- The statement DeclsWhole. -/
import Derived.Test.YtjfghnkmladbkaaGreatDoorAvO
import Derived.Test.YtjfghnkmladbkaaGreatDoorAvV
namespace Go.Proofs.YtjfghnkmladbkaaGreatDoor
open Go.ChangeShapes Go.WideShapes Go.ChangeAt Go.RowKit
open Go.ChangeMaps (open_string shut_string)
open Go.Av (den b6l c8l a1k)
set_option maxRecDepth 100000
theorem b9i(H:Type)(enc:TypeId×Value→H)(W:World)(base:Nat)(args:Array Value)(ds gs:List (DataW H))(before:List MemPlace)
 (hval:∀(j:Nat) t v,Tryz.f8.params[j]? =some t→args[j]? =some v→Value.okWide Tryz.prog W .any base t v)
 (hW:DataW.Whole enc Tryz.prog Tryz.f8.params.toList Rows.declsWholeSpec.vars false W args.toList ds gs before) (hL:laidMetH Tryz.prog Rows.declsWholeRow.laid W):
 Calls Tryz.prog 8 args W fun e W'=>∃v,e=.returned v∧Rows.declsWholeSpec.post enc Tryz.prog Tryz.f8 false true false false W args v W':=by
 have hW':=hW;obtain⟨p,q,hA0,hV,rfl,hfz,hnd⟩:=hW;have hA:DataW.TrodAll enc Tryz.prog W 0 (fun _=>true) true Tryz.f8.params.toList args.toList ds p:=hA0;rw[Tryz.params8] at hA hval;obtain⟨v0,vs0,d0,ds0,p0,q0,hargs0,rfl,rfl,h0,r0⟩:=trodAll_cons hA;obtain⟨rfl,rfl,rfl⟩:=trodAll_nil r0;obtain rfl:args= #[v0]:=by cases args;simp_all
 obtain⟨rfl,rfl⟩:=trodVars_none hV;obtain⟨s0,rfl,rfl,rfl,ws0⟩:=open_string Tryz.underlying9 (hval 0 9 v0 rfl rfl) h0;clear hA0;simp only[List.append_nil] at hW';refine (f6q (vs:=[.str s0.data.toList]) (xs:= #[.string s0]) (g1u hL) (show Value.string s0=.string ⟨s0.data.toList.toArray⟩∧True from⟨by simp,trivial⟩) (by simp[a1k]) (f1r s0.data.toList)).mono fun e W' ⟨he,hg⟩=>?_;subst he;exact⟨_,rfl,d6o hW' (fun _ _ _=>trodAll_cons_mk (shut_bool Tryz.underlying4 _) trodAll_mk0) (fun _=>trodAll_cons_mk (shut_string Tryz.underlying9 ws0) (trodAll_mk0)) (fun _=>rfl)
  hg (ok_one (by kernel_rfl) rfl (okWide_bool_mk Tryz.underlying4 _))⟩
theorem c4n(os:Os){H:Type}(enc:TypeId×Value→H):∃places,DataW.whole enc Tryz.prog ((World.doorLaid Tryz.prog 62 os).forCall (fun _ _=>0) ⟨#[],#[.string ⟨#[]⟩],[]⟩).memory Tryz.f8.params.toList Rows.declsWholeSpec.vars false (#[.string ⟨#[]⟩]:Array Value).toList 8=some ([.lit (.string [])],[],places):=
 ⟨[],by kernel_rfl⟩
theorem c3d(os:Os)(started:os.Started)(H:Type)(enc:TypeId×Value→H)(F:Stop.Interp):
 ReturnsInHanded {} Tryz.checked os 8 .any ((OpenSpec.ofChange Rows.declsWholeSpec).preRow enc Tryz.prog Tryz.f8 Rows.declsWholeRow.domain false Rows.declsWholeRow.laid) (((OpenSpec.ofChange Rows.declsWholeSpec).at F).post enc Tryz.prog Tryz.f8 false true false false):=by
 obtain⟨places,hx⟩:=c4n os enc;refine returnsInHanded_of_row (C:=Tryz.checked) (s:=OpenSpec.ofChange Rows.declsWholeSpec) own started (by kernel_rfl) Tryz.func8
  (witness_row_at (enc:=enc) (C:=Tryz.checked) false (World.doorLaid Tryz.prog 62 os) #[.string ⟨#[]⟩] rfl (by kernel_rfl) (by kernel_rfl) (by kernel_rfl)
    (OpenSpec.preRow_of_cond 8 hx (by kernel_rfl) (fun k hk=>by cases hk) (by kernel_rfl) (g9i os _))) ?_
 intro W base args ds gs before hval hW _ _ _ hL _ _;exact b9i H enc W base args ds gs before hval hW hL
theorem c8m:Rows.DeclsWholeSaid:=
 OpenClaim.holds_of_cond 8 Tryz.f8 rfl rfl rfl rfl rfl rfl rfl ⟨rfl,rfl,rfl,rfl,rfl⟩ rfl rfl rfl rfl rfl (by kernel_rfl) Tryz.func8 (by kernel_rfl)
  (of_decide_eq_true (by kernel_rfl)) (by unfold Func.isWrapper;first|(rw[if_pos (by decide+kernel)];kernel_rfl)|(rw[if_neg (by decide+kernel)];exact⟨rfl,rfl⟩))
  (fun os started H enc _ F=>by rw[OpenClaim.pre_eq_preRow];exact c3d os started H enc F)
theorem c4o(f:FuncId)(fn:Func)(hf:Tryz.pinned.checked.prog.funcNamed "savant/savantlaw11.DeclsWhole"=some f)(hfn:Tryz.pinned.checked.prog.funcs[f]? =some fn):
 true=Tryz.pinned.checked.prog.looks []∧∀(j:Nat) t,fn.params[j]? =some t→Tryz.pinned.checked.prog.wantsStandIn t=false:=by
 obtain rfl:f=8:=Option.some.inj ((show Tryz.prog.funcNamed "savant/savantlaw11.DeclsWhole"=some 8 by kernel_rfl).symm.trans hf) |>.symm
 obtain rfl:fn=Tryz.f8:=(Option.some.inj (Tryz.func8.symm.trans hfn)).symm;refine⟨by kernel_rfl,fun j t ht=>?_⟩;rw[Tryz.params8] at ht;have hm:t∈[9]:=by simpa using Array.mem_of_getElem? ht
 have hall:([9].all fun u=> !Tryz.prog.wantsStandIn u)=true:=by kernel_rfl
 exact (show Tryz.prog.wantsStandIn t=false by simpa using List.all_eq_true.1 hall t hm)
theorem declsWhole_card:Rows.DeclsWholeCardSaid:=
 Claim7.holds_tied_plain_at .later [] _ _ _ _ c8m (fun _ h=>by cases h) (by kernel_rfl) (fun _ h=>by cases h) declsWhole_row_tie rfl ⟨rfl,rfl⟩ (by kernel_rfl) rfl c4o (by kernel_rfl)
end Go.Proofs.YtjfghnkmladbkaaGreatDoor
