/- The statement DeclsTypes. -/
import Derived.Test.YtjfghnkmladbkaaGreatDoorAvO
import Derived.Test.YtjfghnkmladbkaaGreatDoorAvS
namespace Go.Proofs.YtjfghnkmladbkaaGreatDoor
open Go.ChangeShapes Go.WideShapes Go.ChangeAt Go.RowKit
open Go.ChangeMaps (open_string shut_string)
open Go.Av (den b5i c6y a1i)
set_option maxRecDepth 100000
theorem b7z(H:Type)(enc:TypeId×Value→H)(W:World)(base:Nat)(args:Array Value)(ds gs:List (DataW H))(before:List MemPlace)
 (hval:∀(j:Nat) t v,Tryz.f7.params[j]? =some t→args[j]? =some v→Value.okWide Tryz.prog W .any base t v)
 (hW:DataW.Whole enc Tryz.prog Tryz.f7.params.toList Rows.declsTypesSpec.vars false W args.toList ds gs before) (hL:laidMetH Tryz.prog Rows.declsTypesRow.laid W):
 Calls Tryz.prog 7 args W fun e W'=>∃v,e=.returned v∧Rows.declsTypesSpec.post enc Tryz.prog Tryz.f7 false true false false W args v W':=by
 have hW':=hW;obtain⟨p,q,hA0,hV,rfl,hfz,hnd⟩:=hW;have hA:DataW.TrodAll enc Tryz.prog W 0 (fun _=>true) true Tryz.f7.params.toList args.toList ds p:=hA0;rw[Tryz.params7] at hA hval;obtain⟨v0,vs0,d0,ds0,p0,q0,hargs0,rfl,rfl,h0,r0⟩:=trodAll_cons hA;obtain⟨v1,vs1,d1,ds1,p1,q1,hargs1,rfl,rfl,h1,r1⟩:=trodAll_cons r0;obtain⟨v2,vs2,d2,ds2,p2,q2,hargs2,rfl,rfl,h2,r2⟩:=trodAll_cons r1;obtain⟨rfl,rfl,rfl⟩:=trodAll_nil r2;obtain rfl:args= #[v0,v1,v2]:=by cases args;simp_all
 obtain⟨rfl,rfl⟩:=trodVars_none hV;obtain⟨s0,rfl,rfl,rfl,ws0⟩:=open_string Tryz.underlying9 (hval 0 9 v0 rfl rfl) h0;obtain⟨s1,rfl,rfl,rfl,ws1⟩:=open_string Tryz.underlying9 (hval 1 9 v1 rfl rfl) h1;obtain⟨s2,rfl,rfl,rfl,ws2⟩:=open_string Tryz.underlying9 (hval 2 9 v2 rfl rfl) h2;clear hA0;simp only[List.append_nil] at hW';refine (f5q (vs:=[.str s0.data.toList,.str s1.data.toList,.str s2.data.toList]) (xs:= #[.string s0,.string s1,.string s2]) (j0g hL) (show Value.string s0=.string ⟨s0.data.toList.toArray⟩∧Value.string s1=.string ⟨s1.data.toList.toArray⟩∧Value.string s2=.string ⟨s2.data.toList.toArray⟩∧True from⟨by simp,by simp,by simp,trivial⟩) (by simp[a1i]) (f0i s0.data.toList s1.data.toList s2.data.toList)).mono fun e W' ⟨he,hg⟩=>?_;subst he;exact⟨_,rfl,d5a hW' (fun _ _ _=>trodAll_cons_mk (shut_bool Tryz.underlying4 _) trodAll_mk0) (fun _=>trodAll_cons_mk (shut_string Tryz.underlying9 ws0) (trodAll_cons_mk (shut_string Tryz.underlying9 ws1) (trodAll_cons_mk (shut_string Tryz.underlying9 ws2) (trodAll_mk0)))) (fun _=>rfl)
  hg (ok_one (by kernel_rfl) rfl (okWide_bool_mk Tryz.underlying4 _))⟩
theorem c2p(os:Os){H:Type}(enc:TypeId×Value→H):∃places,DataW.whole enc Tryz.prog ((World.doorLaid Tryz.prog 62 os).forCall (fun _ _=>0) ⟨#[],#[.string ⟨#[]⟩,.string ⟨#[]⟩,.string ⟨#[]⟩],[]⟩).memory Tryz.f7.params.toList Rows.declsTypesSpec.vars false (#[.string ⟨#[]⟩,.string ⟨#[]⟩,.string ⟨#[]⟩]:Array Value).toList 8=some ([.lit (.string []),.lit (.string []),.lit (.string [])],[],places):=
 ⟨[],by kernel_rfl⟩
theorem c1d(os:Os)(started:os.Started)(H:Type)(enc:TypeId×Value→H)(F:Stop.Interp):
 ReturnsInHanded {} Tryz.checked os 7 .any ((OpenSpec.ofChange Rows.declsTypesSpec).preRow enc Tryz.prog Tryz.f7 Rows.declsTypesRow.domain false Rows.declsTypesRow.laid) (((OpenSpec.ofChange Rows.declsTypesSpec).at F).post enc Tryz.prog Tryz.f7 false true false false):=by
 obtain⟨places,hx⟩:=c2p os enc;refine returnsInHanded_of_row (C:=Tryz.checked) (s:=OpenSpec.ofChange Rows.declsTypesSpec) own started (by kernel_rfl) Tryz.func7
  (witness_row_at (enc:=enc) (C:=Tryz.checked) false (World.doorLaid Tryz.prog 62 os) #[.string ⟨#[]⟩,.string ⟨#[]⟩,.string ⟨#[]⟩] rfl (by kernel_rfl) (by kernel_rfl) (by kernel_rfl)
    (OpenSpec.preRow_of_cond 8 hx (by kernel_rfl) (fun k hk=>by cases hk) (by kernel_rfl) (g7u os _))) ?_
 intro W base args ds gs before hval hW _ _ _ hL _ _;exact b7z H enc W base args ds gs before hval hW hL
theorem c6z:Rows.DeclsTypesSaid:=
 OpenClaim.holds_of_cond 7 Tryz.f7 rfl rfl rfl rfl rfl rfl rfl ⟨rfl,rfl,rfl,rfl,rfl⟩ rfl rfl rfl rfl rfl (by kernel_rfl) Tryz.func7 (by kernel_rfl)
  (of_decide_eq_true (by kernel_rfl)) (by unfold Func.isWrapper;first|(rw[if_pos (by decide+kernel)];kernel_rfl)|(rw[if_neg (by decide+kernel)];exact⟨rfl,rfl⟩))
  (fun os started H enc _ F=>by rw[OpenClaim.pre_eq_preRow];exact c1d os started H enc F)
theorem c2q(f:FuncId)(fn:Func)(hf:Tryz.pinned.checked.prog.funcNamed "savant/savantlaw11.DeclsTypes"=some f)(hfn:Tryz.pinned.checked.prog.funcs[f]? =some fn):
 true=Tryz.pinned.checked.prog.looks []∧∀(j:Nat) t,fn.params[j]? =some t→Tryz.pinned.checked.prog.wantsStandIn t=false:=by
 obtain rfl:f=7:=Option.some.inj ((show Tryz.prog.funcNamed "savant/savantlaw11.DeclsTypes"=some 7 by kernel_rfl).symm.trans hf) |>.symm
 obtain rfl:fn=Tryz.f7:=(Option.some.inj (Tryz.func7.symm.trans hfn)).symm;refine⟨by kernel_rfl,fun j t ht=>?_⟩;rw[Tryz.params7] at ht;have hm:t∈[9,9,9]:=by simpa using Array.mem_of_getElem? ht
 have hall:([9,9,9].all fun u=> !Tryz.prog.wantsStandIn u)=true:=by kernel_rfl
 exact (show Tryz.prog.wantsStandIn t=false by simpa using List.all_eq_true.1 hall t hm)
theorem declsTypes_card:Rows.DeclsTypesCardSaid:=
 Claim7.holds_tied_plain_at .later [] _ _ _ _ c6z (fun _ h=>by cases h) (by kernel_rfl) (fun _ h=>by cases h) declsTypes_row_tie rfl ⟨rfl,rfl⟩ (by kernel_rfl) rfl c2q (by kernel_rfl)
end Go.Proofs.YtjfghnkmladbkaaGreatDoor
