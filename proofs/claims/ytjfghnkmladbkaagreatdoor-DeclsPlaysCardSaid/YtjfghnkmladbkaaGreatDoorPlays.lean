/- The statement DeclsPlays. -/
import Derived.Test.YtjfghnkmladbkaaGreatDoorAvO
import Derived.Test.YtjfghnkmladbkaaGreatDoorAvU
namespace Go.Proofs.YtjfghnkmladbkaaGreatDoor
open Go.ChangeShapes Go.WideShapes Go.ChangeAt Go.RowKit
open Go.ChangeMaps (open_string shut_string)
open Go.Av (den b6i c8t a1q)
set_option maxRecDepth 100000
theorem b9k(H:Type)(enc:TypeId×Value→H)(W:World)(base:Nat)(args:Array Value)(ds gs:List (DataW H))(before:List MemPlace)
 (hval:∀(j:Nat) t v,Tryz.f5.params[j]? =some t→args[j]? =some v→Value.okWide Tryz.prog W .any base t v)
 (hW:DataW.Whole enc Tryz.prog Tryz.f5.params.toList Rows.declsPlaysSpec.vars false W args.toList ds gs before) (hL:laidMetH Tryz.prog Rows.declsPlaysRow.laid W):
 Calls Tryz.prog 5 args W fun e W'=>∃v,e=.returned v∧Rows.declsPlaysSpec.post enc Tryz.prog Tryz.f5 false true false false W args v W':=by
 have hW':=hW;obtain⟨p,q,hA0,hV,rfl,hfz,hnd⟩:=hW;have hA:DataW.TrodAll enc Tryz.prog W 0 (fun _=>true) true Tryz.f5.params.toList args.toList ds p:=hA0;rw[Tryz.params5] at hA hval;obtain⟨v0,vs0,d0,ds0,p0,q0,hargs0,rfl,rfl,h0,r0⟩:=trodAll_cons hA;obtain⟨rfl,rfl,rfl⟩:=trodAll_nil r0;obtain rfl:args= #[v0]:=by cases args;simp_all
 obtain⟨rfl,rfl⟩:=trodVars_none hV;obtain⟨s0,rfl,rfl,rfl,ws0⟩:=open_string Tryz.underlying9 (hval 0 9 v0 rfl rfl) h0;clear hA0;simp only[List.append_nil] at hW';refine (f9u (vs:=[.str s0.data.toList]) (xs:= #[.string s0]) (i1d hL) (show Value.string s0=.string ⟨s0.data.toList.toArray⟩∧True from⟨by simp,trivial⟩) (by simp[a1q]) (f5x s0.data.toList)).mono fun e W' ⟨he,hg⟩=>?_;subst he;exact⟨_,rfl,d7p hW' (fun _ _ _=>trodAll_cons_mk (shut_bool Tryz.underlying4 _) trodAll_mk0) (fun _=>trodAll_cons_mk (shut_string Tryz.underlying9 ws0) (trodAll_mk0)) (fun _=>rfl)
  hg (ok_one (by kernel_rfl) rfl (okWide_bool_mk Tryz.underlying4 _))⟩
theorem c4i(os:Os){H:Type}(enc:TypeId×Value→H):∃places,DataW.whole enc Tryz.prog ((World.doorLaid Tryz.prog 62 os).forCall (fun _ _=>0) ⟨#[],#[.string ⟨#[]⟩],[]⟩).memory Tryz.f5.params.toList Rows.declsPlaysSpec.vars false (#[.string ⟨#[]⟩]:Array Value).toList 8=some ([.lit (.string [])],[],places):=
 ⟨[],by kernel_rfl⟩
theorem c2x(os:Os)(started:os.Started)(H:Type)(enc:TypeId×Value→H)(F:Stop.Interp):
 ReturnsInHanded {} Tryz.checked os 5 .any ((OpenSpec.ofChange Rows.declsPlaysSpec).preRow enc Tryz.prog Tryz.f5 Rows.declsPlaysRow.domain false Rows.declsPlaysRow.laid) (((OpenSpec.ofChange Rows.declsPlaysSpec).at F).post enc Tryz.prog Tryz.f5 false true false false):=by
 obtain⟨places,hx⟩:=c4i os enc;refine returnsInHanded_of_row (C:=Tryz.checked) (s:=OpenSpec.ofChange Rows.declsPlaysSpec) own started (by kernel_rfl) Tryz.func5
  (witness_row_at (enc:=enc) (C:=Tryz.checked) false (World.doorLaid Tryz.prog 62 os) #[.string ⟨#[]⟩] rfl (by kernel_rfl) (by kernel_rfl) (by kernel_rfl)
    (OpenSpec.preRow_of_cond 8 hx (by kernel_rfl) (fun k hk=>by cases hk) (by kernel_rfl) (h2f os _))) ?_
 intro W base args ds gs before hval hW _ _ _ hL _ _;exact b9k H enc W base args ds gs before hval hW hL
theorem c8u:Rows.DeclsPlaysSaid:=
 OpenClaim.holds_of_cond 5 Tryz.f5 rfl rfl rfl rfl rfl rfl rfl ⟨rfl,rfl,rfl,rfl,rfl⟩ rfl rfl rfl rfl rfl (by kernel_rfl) Tryz.func5 (by kernel_rfl)
  (of_decide_eq_true (by kernel_rfl)) (by unfold Func.isWrapper;first|(rw[if_pos (by decide+kernel)];kernel_rfl)|(rw[if_neg (by decide+kernel)];exact⟨rfl,rfl⟩))
  (fun os started H enc _ F=>by rw[OpenClaim.pre_eq_preRow];exact c2x os started H enc F)
theorem c4j(f:FuncId)(fn:Func)(hf:Tryz.pinned.checked.prog.funcNamed "savant/savantlaw11.DeclsPlays"=some f)(hfn:Tryz.pinned.checked.prog.funcs[f]? =some fn):
 true=Tryz.pinned.checked.prog.looks []∧∀(j:Nat) t,fn.params[j]? =some t→Tryz.pinned.checked.prog.wantsStandIn t=false:=by
 obtain rfl:f=5:=Option.some.inj ((show Tryz.prog.funcNamed "savant/savantlaw11.DeclsPlays"=some 5 by kernel_rfl).symm.trans hf) |>.symm
 obtain rfl:fn=Tryz.f5:=(Option.some.inj (Tryz.func5.symm.trans hfn)).symm;refine⟨by kernel_rfl,fun j t ht=>?_⟩;rw[Tryz.params5] at ht;have hm:t∈[9]:=by simpa using Array.mem_of_getElem? ht
 have hall:([9].all fun u=> !Tryz.prog.wantsStandIn u)=true:=by kernel_rfl
 exact (show Tryz.prog.wantsStandIn t=false by simpa using List.all_eq_true.1 hall t hm)
theorem declsPlays_card:Rows.DeclsPlaysCardSaid:=
 Claim7.holds_tied_plain_at .later [] _ _ _ _ c8u (fun _ h=>by cases h) (by kernel_rfl) (fun _ h=>by cases h) declsPlays_row_tie rfl ⟨rfl,rfl⟩ (by kernel_rfl) rfl c4j (by kernel_rfl)
end Go.Proofs.YtjfghnkmladbkaaGreatDoor
