/- From the abstract machine to calls of the program; the table of powers of ten. -/
import Derived.Test.YtjfghnkmladbkaaGreatDoorAvE
import Derived.Test.YtjfghnkmladbkaaGreatDoorAvD
import Derived.Test.YtjfghnkmladbkaaGreatDoorAvQ
import Derived.Test.YtjfghnkmladbkaaGreatDoorAvN
import Derived.Lib.SmallJoins
import Derived.Test.YtjfghnkmladbkaaGreatDoorCards
import Derived.Test.YtjfghnkmladbkaaGreatDoorTie
import Derived.Test.YtjfghnkmladbkaaGreatDoorChecked
import Derived.ProofKit
import Derived.LaidMore
import Derived.OpenShut
import Derived.Deep.DeepHandedRow
import Derived.Lib.LaidTab
import Derived.Stop.LaidErr
import Derived.SevenTiedAt
import Derived.ShutString
namespace Go.Proofs
open Go.Av
open Go.RowKit (Below)
set_option maxHeartbeats 4000000
set_option maxRecDepth 100000
def d9o(w:World):Prop:=Lib.TabIs Tryz.prog w "internal/strconv.uint64pow10" .u64 Lib.pow10Tab∧∃u v,w.var? Tryz.prog "strconv.ErrSyntax"=some #[.iface u v]
theorem b6f:Tryz.prog.globalNamed "strconv.ErrSyntax"=some 2:=by kernel_rfl
theorem e9o(w:World)(k:Nat)(os:Array Obj):Below w.heap.size w (Sort.grow (w.drewN k) os):=
 ⟨rfl,rfl,rfl,by simp[Sort.grow],fun i hi=>by
  show (w.heap++os)[i]? =_
  rw[Array.getElem?_append,if_pos hi]⟩
theorem b5c{f:FuncId}{fn:Func}(h:Tryz.prog.funcs[f]? =some fn)(hn:(fn.name== "runtime.NumGoroutine")=false)(hb:fn.body.isSome=true):Go.Av.a9r Tryz.prog f:=by
 obtain⟨c,hc⟩:=Option.isSome_iff_exists.1 hb;exact⟨fn,c,h,hn,hc⟩
theorem i2v:a4s E.P d9o fun f l H=>if f=61 then d8k l H else none:=
 e7m (P:=Tryz.prog) (b5c Tryz.func61 (by kernel_rfl) (by kernel_rfl)) (fun A c sep w=>Tryz.strings_Join_none A c sep w) (fun bk o c xs sep w h1 h2 h3 h4 h5=>Tryz.strings_Join bk o c xs sep w h1 h2 h3 h4 h5)
theorem i2z:a4s E.P d9o fun f l H=>if f=120 then d5z l H else none:=
 e7n (P:=Tryz.prog) (b5c Tryz.func120 (by kernel_rfl) (by kernel_rfl)) fun n w h0 h1 hF=>(Tryz.strconv_Itoa n h0 h1 w hF.1).mono fun e w' ⟨h2,k,os,h3⟩=>⟨h2,h3▸e9o w k os⟩
theorem h2a:a4s E.P d9o fun f l H=>if f=229 then d9g l H else none:=
 e9q (P:=Tryz.prog) (b5c Tryz.func229 (by kernel_rfl) (by kernel_rfl))
  (fun s n w hl h=>(Tryz.strconv_Atoi s n hl h w).mono fun e w' ⟨h2,t,h3⟩=>⟨h2,h3▸Go.Joins.below_bytesWorld _ w 5 t (Nat.le_refl _)⟩)
  (fun w hF=>by
    obtain⟨u,v,hv⟩:=hF.2;have hc:w.cell? ⟨2,0,none⟩=some (.iface u v):=by
     have:=World.var?_cell b6f hv 0;simpa using this
    exact (Tryz.strconv_Atoi_err ⟨#[]⟩ (by decide) (by decide) (.iface u v) w hc (.inr ⟨_,_,rfl⟩)).mono fun e w' ⟨N,h1,_,_,h4⟩=>⟨_,_,h1,h4⟩)
theorem d6b:a4s E.P d9o fun f l H=>if f=170 then a8s l H else none:=
 c6h (P:=Tryz.prog) (b5c Tryz.func170 (by kernel_rfl) (by kernel_rfl)) fun s c w=>Tryz.strings_IndexByte s c w
theorem g8e:a4s E.P d9o fun f l H=>if f=155 then c2h l H else none:=
 d9d (P:=Tryz.prog) (b5c Tryz.func155 (by kernel_rfl) (by kernel_rfl)) (by kernel_rfl) (fun w=>Tryz.maps_Clone_nil w) (fun b es clock w hb=>Tryz.maps_Clone b es clock w hb)
theorem f9a:a4s E.P d9o fun f l H=>if f=99 then b3c l H else none:=d7b
theorem g6c:a4s E.P d9o fun f l H=>if f=81 then c6g l H else none:=d8j
theorem f9c:a4s E.P d9o fun f l H=>if f=96 then b3d l H else none:=d7c
theorem i0r:g0d E d9o:=by
 intro g p hg;have hp:a0j i2d g=some p:=hg;unfold i2d at hp;simp only[a0j] at hp;have join:=i2v;have itoa:=i2z;have atoi:=h2a;have ib:=d6b;have cl:=g8e;have cc:=f9a;have kn:=g6c;have cll:=f9c
 repeat' split at hp
 all_goals first|(cases hp;done)|(rename_i h;injection hp with hp;subst hp;subst h;first|exact join|exact itoa|exact atoi|exact ib|exact cl|exact cc|exact kn|exact cll)|skip
theorem i2q:c2j E:=trivial
theorem d9a:c1p E∧c1o E∧c2j E:=⟨g7t (by kernel_rfl),g6n (by kernel_rfl),i2q⟩
end Go.Proofs
namespace Go.Proofs.YtjfghnkmladbkaaGreatDoor
open Go.ChangeShapes Go.WideShapes Go.ChangeAt Go.RowKit
open Go.ChangeMaps (open_string shut_string)
open Go.Av (den b5i c6y a1i)
set_option maxRecDepth 100000
theorem own:ownKnob Tryz.prog.godebug=none:=by kernel_rfl
section
variable{H:Type}{enc:TypeId×Value→H}{P:Program}
theorem d5a{f:Func}{s:ChangeSpec}{apart fresh handsOn again:Bool}{W W':World}{args:Array Value}{v:Value}{ds gs:List (DataW H)}
 (hW:DataW.Whole enc P f.params.toList s.vars apart W args.toList ds gs [])
 (hres:∀(b:Nat) (sp:Nat→Bool) (hd:Bool),DataW.TrodAll enc P W' b sp hd f.resultTypes.toList (v.resultList f.resultTypes.size) (s.fn H (ds++gs)).results [])
 (hargs:∀sp:Nat→Bool,DataW.TrodAll enc P W' 0 sp true f.params.toList args.toList (s.fn H (ds++gs)).args [])
 (hvars:∀sp:Nat→Bool,DataW.TrodVars enc P W' sp s.vars (s.fn H (ds++gs)).vars [])
 (hk:Below W.heap.size W W')
 (hok:∀(j:Nat) (t:TypeId) (r:Value),f.resultTypes[j]? =some t→(v.resultList f.resultTypes.size)[j]? =some r→Value.okWide P W' .any 0 t r):
 s.post enc P f apart fresh handsOn again W args v W':=by
 refine⟨ds,gs,[],[],[],[],hW,hres _ _ _,hargs _,hvars _,World.keptBut_mono (fun p hp=>⟨hp,?_⟩) (hk.frame (· ∈[])),fun _=>?_⟩
 · simp at hp
 · refine⟨hok,_,_,([]++[])++[],⟨[]++[],[],trodAll_append (hargs _) (hres _ _ _),hvars _,rfl,?_,?_⟩,?_⟩
   · intro b off hp;simp at hp
   · intro ha;simp
   · intro p hp _;simp at hp
end
theorem c0k:Tryz.prog.globalNamed "internal/strconv.uint64pow10"=some 1:=by kernel_rfl
theorem j0g{W:World}(h:laidMetH Tryz.prog Rows.declsTypesRow.laid W):d9o W:=by
 rw[MakeChecks.laidMetH_plain _ _ _ (by kernel_rfl)] at h;refine⟨Lib.tabIs_of_head (rest:=[("strconv.ErrRange",Rows.laid_strconv_ErrRange),("strconv.ErrSyntax",Rows.laid_strconv_ErrSyntax)]) c0k (by kernel_rfl:(Tryz.prog.globals[1]?).map (·.type)=some 333) Tryz.underlying333 Tryz.underlying323 (by kernel_rfl) (by kernel_rfl) (laidMet.tail (laidMet.tail h)),?_⟩;obtain⟨ps,⟨g0,t0,cs0,f0,p0,q0,hg0,ht0,hv0,hd0,_,e0⟩,_,_⟩:=laidMet.tail (laidMet.tail (laidMet.tail (laidMet.tail h)));obtain rfl:=Option.some.inj (b6f.symm.trans hg0);obtain rfl:=Option.some.inj ((by kernel_rfl:(Tryz.prog.globals[2]?).map (·.type)=some 220).symm.trans ht0);obtain⟨l0⟩:=cs0;obtain⟨_,u,v,hl,_⟩:=iface_of_trod Tryz.underlying220 hd0;exact⟨u,v,by rw[hv0,show l0=[.iface u v] from hl]⟩
theorem b7e{W:World}{n:String}{g:Nat}{cs:Array Value}(hg:Tryz.prog.globalNamed n=some g)(h:W.var? Tryz.prog n=some cs):g<W.heap.size:=by
 unfold World.var? at h;rw[hg] at h;simp only[Option.bind_some] at h
 by_cases hlt:g<W.heap.size
 · exact hlt
 · rw[Array.getElem?_eq_none (by omega)] at h;cases h
theorem d9q{w w':World}{n:String}{g:Nat}(hg:Tryz.prog.globalNamed n=some g)(h:w'.heap[g]? =w.heap[g]?):w'.var? Tryz.prog n=w.var? Tryz.prog n:=by
 unfold World.var?;rw[hg];simp only[Option.bind_some,h]
theorem i3p{W:World}(h:d9o W):∀g,(g=1∨g=2)→g<W.heap.size:=by
 rintro g (rfl|rfl)
 · have h1:=h.1;unfold Lib.TabIs at h1;exact b7e c0k h1
 · obtain⟨u,v,hv⟩:=h.2;exact b7e b6f hv
theorem f6o(w w':World)(h:∀g,(g=1∨g=2)→w'.heap[g]? =w.heap[g]?)(hF:d9o w):d9o w':=by
 refine⟨?_,?_⟩
 · have h1:=hF.1;unfold Lib.TabIs at h1⊢;rw[d9q c0k (h 1 (.inl rfl))];exact h1
 · obtain⟨u,v,hv⟩:=hF.2;exact⟨u,v,by rw[d9q b6f (h 2 (.inr rfl)),hv]⟩
theorem f5q{k:FuncId}{vs:List Go.Av.AVal}{xs:Array Value}{W:World}(hF:d9o W)(hx:Go.Av.a3c (Go.Av.a4k W (fun _ _=>False) (fun _=>none)) vs xs.toList)(hp:∀v∈vs,a1i v=true)(hd:den E k vs []=some (.bool true,[])):
 Calls Tryz.prog k xs W fun e w'=>e=.returned (.bool true)∧Below W.heap.size W w':=
 b5i (c6y (F:=d9o) d9a i0r) (fun g=>g=1∨g=2) (i3p hF) hF f6o hx hp hd
theorem g7u(os:Os)(args:Array Value):laidMet Tryz.prog Rows.declsTypesRow.laid ((World.doorLaid Tryz.prog 62 os).forCall (fun _ _=>0) ⟨#[],args,[]⟩).memory:=
 laidMet_of_run' 8 (by kernel_rfl) (by kernel_rfl)
end Go.Proofs.YtjfghnkmladbkaaGreatDoor
