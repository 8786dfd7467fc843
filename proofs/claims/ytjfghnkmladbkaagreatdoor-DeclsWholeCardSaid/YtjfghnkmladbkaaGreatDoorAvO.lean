/- From the abstract machine to calls of the program; the table of powers of ten. -/
import Derived.Test.YtjfghnkmladbkaaGreatDoorAvE
import Derived.Test.YtjfghnkmladbkaaGreatDoorAvD
import Derived.Test.YtjfghnkmladbkaaGreatDoorAvQ
import Derived.Test.YtjfghnkmladbkaaGreatDoorAvN
import Derived.Lib.SmallJoins
import Derived.Test.YtjfghnkmladbkaaGreatDoorCards
import Derived.Test.YtjfghnkmladbkaaGreatDoorTie
import Derived.Test.YtjfghnkmladbkaaGreatDoorChecked
import Derived.ProofKit
import Derived.LaidMore
import Derived.OpenShut
import Derived.Deep.DeepHandedRow
import Derived.Lib.LaidTab
import Derived.Stop.LaidErr
import Derived.SevenTiedAt
import Derived.ShutString
namespace Go.Proofs
open Go.Av
open Go.RowKit (Below)
set_option maxHeartbeats 4000000
set_option maxRecDepth 100000
def e1r(w:World):Prop:=Lib.TabIs Tryz.prog w "internal/strconv.uint64pow10" .u64 Lib.pow10Tab∧∃u v,w.var? Tryz.prog "strconv.ErrSyntax"=some #[.iface u v]
theorem b7l:Tryz.prog.globalNamed "strconv.ErrSyntax"=some 2:=by kernel_rfl
theorem f1d(w:World)(k:Nat)(os:Array Obj):Below w.heap.size w (Sort.grow (w.drewN k) os):=
 ⟨rfl,rfl,rfl,by simp[Sort.grow],fun i hi=>by
  show (w.heap++os)[i]? =_
  rw[Array.getElem?_append,if_pos hi]⟩
theorem b6d{f:FuncId}{fn:Func}(h:Tryz.prog.funcs[f]? =some fn)(hn:(fn.name== "runtime.NumGoroutine")=false)(hb:fn.body.isSome=true):Go.Av.b0m Tryz.prog f:=by
 obtain⟨c,hc⟩:=Option.isSome_iff_exists.1 hb;exact⟨fn,c,h,hn,hc⟩
theorem i5f:a4x E.P e1r fun f l H=>if f=61 then e0n l H else none:=
 e9i (P:=Tryz.prog) (b6d Tryz.func61 (by kernel_rfl) (by kernel_rfl)) (fun A c sep w=>Tryz.strings_Join_none A c sep w) (fun bk o c xs sep w h1 h2 h3 h4 h5=>Tryz.strings_Join bk o c xs sep w h1 h2 h3 h4 h5)
theorem i5k:a4x E.P e1r fun f l H=>if f=120 then d7s l H else none:=
 e9j (P:=Tryz.prog) (b6d Tryz.func120 (by kernel_rfl) (by kernel_rfl)) fun n w h0 h1 hF=>(Tryz.strconv_Itoa n h0 h1 w hF.1).mono fun e w' ⟨h2,k,os,h3⟩=>⟨h2,h3▸f1d w k os⟩
theorem h3u:a4x E.P e1r fun f l H=>if f=229 then e1i l H else none:=
 f1f (P:=Tryz.prog) (b6d Tryz.func229 (by kernel_rfl) (by kernel_rfl))
  (fun s n w hl h=>(Tryz.strconv_Atoi s n hl h w).mono fun e w' ⟨h2,t,h3⟩=>⟨h2,h3▸Go.Joins.below_bytesWorld _ w 5 t (Nat.le_refl _)⟩)
  (fun w hF=>by
    obtain⟨u,v,hv⟩:=hF.2;have hc:w.cell? ⟨2,0,none⟩=some (.iface u v):=by
     have:=World.var?_cell b7l hv 0;simpa using this
    exact (Tryz.strconv_Atoi_err ⟨#[]⟩ (by decide) (by decide) (.iface u v) w hc (.inr ⟨_,_,rfl⟩)).mono fun e w' ⟨N,h1,_,_,h4⟩=>⟨_,_,h1,h4⟩)
theorem d7w:a4x E.P e1r fun f l H=>if f=170 then a9n l H else none:=
 c7u (P:=Tryz.prog) (b6d Tryz.func170 (by kernel_rfl) (by kernel_rfl)) fun s c w=>Tryz.strings_IndexByte s c w
theorem g9r:a4x E.P e1r fun f l H=>if f=155 then c4d l H else none:=
 e1d (P:=Tryz.prog) (b6d Tryz.func155 (by kernel_rfl) (by kernel_rfl)) (by kernel_rfl) (fun w=>Tryz.maps_Clone_nil w) (fun b es clock w hb=>Tryz.maps_Clone b es clock w hb)
theorem f9z:a4x E.P e1r fun f l H=>if f=99 then b4a l H else none:=d8w
theorem g7n:a4x E.P e1r fun f l H=>if f=81 then c7t l H else none:=e0m
theorem g0a:a4x E.P e1r fun f l H=>if f=221 then b4b l H else none:=d5a
theorem i3k:g1c E e1r:=by
 intro g p hg;have hp:a0i i4l g=some p:=hg;unfold i4l at hp;simp only[a0i] at hp;have join:=i5f;have itoa:=i5k;have atoi:=h3u;have ib:=d7w;have cl:=g9r;have cc:=f9z;have kn:=g7n;have cll:=g0a
 repeat' split at hp
 all_goals first|(cases hp;done)|(rename_i h;injection hp with hp;subst hp;subst h;first|exact join|exact itoa|exact atoi|exact ib|exact cl|exact cc|exact kn|exact cll)|skip
theorem i5b:c4g E:=trivial
theorem e1a:c3o E∧c3n E∧c4g E:=⟨g9h (by kernel_rfl),g7y (by kernel_rfl),i5b⟩
end Go.Proofs
namespace Go.Proofs.YtjfghnkmladbkaaGreatDoor
open Go.ChangeShapes Go.WideShapes Go.ChangeAt Go.RowKit
open Go.ChangeMaps (open_string shut_string)
open Go.Av (den b6l c8l a1k)
set_option maxRecDepth 100000
theorem own:ownKnob Tryz.prog.godebug=none:=by kernel_rfl
section
variable{H:Type}{enc:TypeId×Value→H}{P:Program}
theorem d6o{f:Func}{s:ChangeSpec}{apart fresh handsOn again:Bool}{W W':World}{args:Array Value}{v:Value}{ds gs:List (DataW H)}
 (hW:DataW.Whole enc P f.params.toList s.vars apart W args.toList ds gs [])
 (hres:∀(b:Nat) (sp:Nat→Bool) (hd:Bool),DataW.TrodAll enc P W' b sp hd f.resultTypes.toList (v.resultList f.resultTypes.size) (s.fn H (ds++gs)).results [])
 (hargs:∀sp:Nat→Bool,DataW.TrodAll enc P W' 0 sp true f.params.toList args.toList (s.fn H (ds++gs)).args [])
 (hvars:∀sp:Nat→Bool,DataW.TrodVars enc P W' sp s.vars (s.fn H (ds++gs)).vars [])
 (hk:Below W.heap.size W W')
 (hok:∀(j:Nat) (t:TypeId) (r:Value),f.resultTypes[j]? =some t→(v.resultList f.resultTypes.size)[j]? =some r→Value.okWide P W' .any 0 t r):
 s.post enc P f apart fresh handsOn again W args v W':=by
 refine⟨ds,gs,[],[],[],[],hW,hres _ _ _,hargs _,hvars _,World.keptBut_mono (fun p hp=>⟨hp,?_⟩) (hk.frame (· ∈[])),fun _=>?_⟩
 · simp at hp
 · refine⟨hok,_,_,([]++[])++[],⟨[]++[],[],trodAll_append (hargs _) (hres _ _ _),hvars _,rfl,?_,?_⟩,?_⟩
   · intro b off hp;simp at hp
   · intro ha;simp
   · intro p hp _;simp at hp
end
theorem c2k:Tryz.prog.globalNamed "internal/strconv.uint64pow10"=some 1:=by kernel_rfl
theorem g1u{W:World}(h:laidMetH Tryz.prog Rows.declsTypesRow.laid W):e1r W:=by
 rw[MakeChecks.laidMetH_plain _ _ _ (by kernel_rfl)] at h;refine⟨Lib.tabIs_of_head (rest:=[("strconv.ErrRange",Rows.laid_strconv_ErrRange),("strconv.ErrSyntax",Rows.laid_strconv_ErrSyntax)]) c2k (by kernel_rfl:(Tryz.prog.globals[1]?).map (·.type)=some 333) Tryz.underlying333 Tryz.underlying323 (by kernel_rfl) (by kernel_rfl) (laidMet.tail (laidMet.tail h)),?_⟩;obtain⟨ps,⟨g0,t0,cs0,f0,p0,q0,hg0,ht0,hv0,hd0,_,e0⟩,_,_⟩:=laidMet.tail (laidMet.tail (laidMet.tail (laidMet.tail h)));obtain rfl:=Option.some.inj (b7l.symm.trans hg0);obtain rfl:=Option.some.inj ((by kernel_rfl:(Tryz.prog.globals[2]?).map (·.type)=some 220).symm.trans ht0);obtain⟨l0⟩:=cs0;obtain⟨_,u,v,hl,_⟩:=iface_of_trod Tryz.underlying220 hd0;exact⟨u,v,by rw[hv0,show l0=[.iface u v] from hl]⟩
theorem b8h{W:World}{n:String}{g:Nat}{cs:Array Value}(hg:Tryz.prog.globalNamed n=some g)(h:W.var? Tryz.prog n=some cs):g<W.heap.size:=by
 unfold World.var? at h;rw[hg] at h;simp only[Option.bind_some] at h
 by_cases hlt:g<W.heap.size
 · exact hlt
 · rw[Array.getElem?_eq_none (by omega)] at h;cases h
theorem e1t{w w':World}{n:String}{g:Nat}(hg:Tryz.prog.globalNamed n=some g)(h:w'.heap[g]? =w.heap[g]?):w'.var? Tryz.prog n=w.var? Tryz.prog n:=by
 unfold World.var?;rw[hg];simp only[Option.bind_some,h]
theorem i6a{W:World}(h:e1r W):∀g,(g=1∨g=2)→g<W.heap.size:=by
 rintro g (rfl|rfl)
 · have h1:=h.1;unfold Lib.TabIs at h1;exact b8h c2k h1
 · obtain⟨u,v,hv⟩:=h.2;exact b8h b7l hv
theorem f7v(w w':World)(h:∀g,(g=1∨g=2)→w'.heap[g]? =w.heap[g]?)(hF:e1r w):e1r w':=by
 refine⟨?_,?_⟩
 · have h1:=hF.1;unfold Lib.TabIs at h1⊢;rw[e1t c2k (h 1 (.inl rfl))];exact h1
 · obtain⟨u,v,hv⟩:=hF.2;exact⟨u,v,by rw[e1t b7l (h 2 (.inr rfl)),hv]⟩
theorem f6q{k:FuncId}{vs:List Go.Av.AVal}{xs:Array Value}{W:World}(hF:e1r W)(hx:Go.Av.a3r (Go.Av.a4r W (fun _ _=>False) (fun _=>none)) vs xs.toList)(hp:∀v∈vs,a1k v=true)(hd:den E k vs []=some (.bool true,[])):
 Calls Tryz.prog k xs W fun e w'=>e=.returned (.bool true)∧Below W.heap.size W w':=
 b6l (c8l (F:=e1r) e1a i3k) (fun g=>g=1∨g=2) (i6a hF) hF f7v hx hp hd
theorem g9i(os:Os)(args:Array Value):laidMet Tryz.prog Rows.declsTypesRow.laid ((World.doorLaid Tryz.prog 62 os).forCall (fun _ _=>0) ⟨#[],args,[]⟩).memory:=
 laidMet_of_run' 8 (by kernel_rfl) (by kernel_rfl)
end Go.Proofs.YtjfghnkmladbkaaGreatDoor
