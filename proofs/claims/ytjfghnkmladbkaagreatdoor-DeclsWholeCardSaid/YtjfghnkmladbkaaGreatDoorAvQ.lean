/- The maps of the data types that are declared, and lists one behind the other: two functions walked in the model itself. -/
import Derived.MapKept
import Derived.Test.YtjfghnkmladbkaaGreatDoorAvD
import Derived.Laws.AppendOwn
import Derived.Below
import Derived.Maps.AppendAt
import Derived.Test.YtjfghnkmladbkaaGreatDoorProg
import Derived.KernelRfl
import Derived.WalkKit
import Derived.WalkSpells
import Derived.OwnWalk
import Derived.Deep.RegionHeld3
import Derived.Deep.AppendLies
import Derived.Deep.MidRow
import Derived.Deep.DrawnRows
import Derived.Shelf.Spec.SlicesGrow
import Derived.Test.YtjfghnkmladbkaaGreatDoorAvC
import Derived.Shelf.SlicesE.Clone
namespace Go.Kn
open Go.RowKit (Below)
def Ent{α:Type}(R:α→Value→Prop):List (ByteArray×α)→List MapEntry→Prop
 | [],[]=>True
 | p::l,m::ms=>(m.key=.string p.1∧R p.2 m.val)∧Ent R l ms
 | _,_=>False
open Classical in
noncomputable def b8o (k:ByteArray) (y:Value) (c:Nat):List MapEntry→List MapEntry
 | []=>[⟨.string k,y,c⟩]
 | m::ms=>if m.key=.string k then {m with key:=.string k,val:=y}::ms else m::b8o k y c ms
open Classical in
noncomputable def a6a (k:ByteArray):List MapEntry→Option Value
 | []=>none
 | m::ms=>if m.key=.string k then some m.val else a6a k ms
theorem c3c{k:ByteArray}{u:Value}:∀ {ms:List MapEntry},a6a k ms=some u→∃m∈ms,m.val=u
 | [],h=>by cases h
 | m::ms,h=>by
  rw[a6a] at h;split at h
  · injection h with h;exact⟨m,by simp,h⟩
  · obtain⟨m',h1,h2⟩:=c3c h;exact⟨m',by simp[h1],h2⟩
def Ap(m m':MapEntry):Prop:=m.val.ownBlock=none∨m.val.ownBlock≠m'.val.ownBlock
theorem Ap.symm{m m':MapEntry}(h:Ap m m'):Ap m' m:=by
 unfold Ap at *;cases h1:m'.val.ownBlock with
 | none=>exact .inl rfl
 | some b=>
  rcases h with h|h
  · rw[h];exact .inr (by simp)
  · rw[h1] at h;exact .inr (Ne.symm h)
theorem Ent.imp{α:Type}{R R':α→Value→Prop}:∀ {l:List (ByteArray×α)} {ms:List MapEntry},Ent R l ms→(∀p∈l,∀m∈ms,R p.2 m.val→R' p.2 m.val)→Ent R' l ms
 | [],[],_,_=>trivial
 | p::l,m::ms,h,hi=>⟨⟨h.1.1,hi p (by simp) m (by simp) h.1.2⟩,Ent.imp h.2 fun p hp m hm=>hi p (by simp[hp]) m (by simp[hm])⟩
 | [],_::_,h,_=>h.elim
 | _::_,[],h,_=>h.elim
theorem g2l(a b:ByteArray):Instr.sameNow .string (.string a) (.string b)=some (decide (a=b)):=by
 obtain⟨r,hr,hiff⟩:=MapKept.sameNow_of_keys (d:=.string) (a:=.string a) (b:=.string b) trivial trivial;rw[hr]
 congr 1
 by_cases h:a=b
 · rw[decide_eq_true h];exact hiff.2 (by rw[h])
 · rw[decide_eq_false h];cases r with
   | false=>rfl
   | true=>have:=hiff.1 rfl;injection this with this;exact absurd this h
theorem d4o{α:Type}{R:α→Value→Prop}(k:ByteArray):∀ {l:List (ByteArray×α)} {ms:List MapEntry} (i:Nat),Ent R l ms→
 (Instr.findNow .string (.string k) ms i=some none∧a6a k ms=none∧look k l=none∧(∀y c,b8o k y c ms=ms++[⟨.string k,y,c⟩])∧∀v,upd k v l=l++[(k,v)])∨
 ∃j m v,Instr.findNow .string (.string k) ms i=some (some (i+j,m.val))∧ms[j]? =some m∧m.key=.string k∧a6a k ms=some m.val∧look k l=some v∧R v m.val∧∀y c,b8o k y c ms=ms.modify j fun e=>{e with key:=.string k,val:=y}
 | [],[],i,_=>.inl ⟨rfl,rfl,rfl,fun _ _=>rfl,fun _=>rfl⟩
 | [],_::_,_,h=>h.elim
 | _::_,[],_,h=>h.elim
 | p::l,m::ms,i,h=>by
  have hs:Instr.sameNow .string (.string k) m.key=some (decide (k=p.1)):=by rw[h.1.1];exact g2l k p.1
  by_cases hk:p.1=k
  · have hd:decide (k=p.1)=true:=decide_eq_true hk.symm;rw[hd] at hs;have hmk:m.key=.string k:=by rw[h.1.1,hk]
    exact .inr ⟨0,m,p.2,by simp[Instr.findNow,hs],rfl,hmk,by simp[a6a,hmk],by simp[look,hk],h.1.2,fun y c=>by simp[b8o,hmk]⟩
  · have hd:decide (k=p.1)=false:=decide_eq_false fun e=>hk e.symm;rw[hd] at hs;have hmk:m.key≠ .string k:=by rw[h.1.1];intro e;injection e with e;exact hk e
    rcases d4o k (i+1) h.2 with⟨h1,h1',h2,h3,h4⟩| ⟨j,m',v,h1,h2,h3,h3',h4,h5,h6⟩
    · exact .inl ⟨by simp[Instr.findNow,hs,h1],by simp[a6a,hmk,h1'],by simp[look,hk,h2],fun y c=>by simp[b8o,hmk,h3],fun v=>by simp[upd,hk,h4]⟩
    · refine .inr ⟨j+1,m',v,by simp[Instr.findNow,hs,h1];omega,by simpa using h2,h3,by simp[a6a,hmk,h3'],by simp[look,hk,h4],h5,fun y c=>?_⟩;simp[b8o,hmk,h6]
theorem f8a{α:Type}{R:α→Value→Prop}(k:ByteArray){v:α}{y:Value}(c:Nat)(hv:R v y):∀ {l:List (ByteArray×α)} {ms:List MapEntry},Ent R l ms→Ent R (upd k v l) (b8o k y c ms)
 | [],[],_=>⟨⟨rfl,hv⟩,trivial⟩
 | [],_::_,h=>h.elim
 | _::_,[],h=>h.elim
 | p::l,m::ms,h=>by
  by_cases hk:p.1=k
  · have hmk:m.key=.string k:=by rw[h.1.1,hk]
    simp only[upd,hk,if_true,b8o,hmk];exact⟨⟨rfl,hv⟩,h.2⟩
  · have hmk:m.key≠ .string k:=by rw[h.1.1];intro e;injection e with e;exact hk e
    simp only[upd,hk,if_false,b8o,hmk];exact⟨h.1,f8a k c hv h.2⟩
theorem e4a{k:ByteArray}{y:Value}{c:Nat}:∀ {ms:List MapEntry} {m:MapEntry},m∈b8o k y c ms→m.val=y∨m∈ms
 | [],m,h=>by simp[b8o] at h;left;rw[h]
 | m0::ms,m,h=>by
  rw[b8o] at h;split at h
  · rcases List.mem_cons.1 h with rfl|h
    · exact .inl rfl
    · exact .inr (by simp[h])
  · rcases List.mem_cons.1 h with rfl|h
    · exact .inr (by simp)
    · rcases e4a h with h|h
      · exact .inl h
      · exact .inr (by simp[h])
theorem f8b{α:Type}{R R':α→Value→Prop}{k:ByteArray}{v:α}{y u:Value}{c:Nat}(hy:R' v y):∀ {l:List (ByteArray×α)} {ms:List MapEntry},Ent R l ms→ms.Pairwise Ap→(a6a k ms=some u∨a6a k ms=none∧u.ownBlock=none)→
 (∀p x,R p x→(x.ownBlock=none∨x.ownBlock≠u.ownBlock)→R' p x)→Ent R' (upd k v l) (b8o k y c ms)
 | [],[],_,_,_,_=>⟨⟨rfl,hy⟩,trivial⟩
 | [],_::_,h,_,_,_=>h.elim
 | _::_,[],h,_,_,_=>h.elim
 | p::l,m::ms,h,hp,hu,hi=>by
  rw[List.pairwise_cons] at hp
  by_cases hk:p.1=k
  · have hmk:m.key=.string k:=by rw[h.1.1,hk]
    simp only[upd,hk,if_true,b8o,hmk];have hmu:m.val=u:=by
     rcases hu with hu| ⟨hu,_⟩
     · simp only[a6a,hmk,if_true] at hu;injection hu
     · simp only[a6a,hmk,if_true] at hu;cases hu
    refine⟨⟨rfl,hy⟩,h.2.imp fun q _ m' hm' hr=>hi _ _ hr ?_⟩;have:=(hp.1 m' hm').symm;unfold Ap at this;rw[hmu] at this;exact this
  · have hmk:m.key≠ .string k:=by rw[h.1.1];intro e;injection e with e;exact hk e
    simp only[upd,hk,if_false,b8o,hmk];have hu':a6a k ms=some u∨a6a k ms=none∧u.ownBlock=none:=by simpa only[a6a,hmk,if_false] using hu
    refine⟨⟨h.1.1,hi _ _ h.1.2 ?_⟩,f8b hy h.2 hp.2 hu' hi⟩;rcases hu' with h1| ⟨_,h1⟩
    · obtain⟨m',h2,h3⟩:=c3c h1;rw[←h3];exact hp.1 m' h2
    · rw[h1];cases m.val.ownBlock<;>simp
theorem h4l{k:ByteArray}{y u:Value}{c:Nat}:∀ {ms:List MapEntry},ms.Pairwise Ap→(a6a k ms=some u∨a6a k ms=none∧u.ownBlock=none)→
 (y.ownBlock=u.ownBlock∨∀m∈ms,m.val.ownBlock≠y.ownBlock)→(b8o k y c ms).Pairwise Ap
 | [],_,_,_=>by simp[b8o]
 | m::ms,hp,hu,hy=>by
  rw[List.pairwise_cons] at hp;rw[b8o];split
  · rename_i hmk;have hmu:m.val=u:=by
     rcases hu with hu| ⟨hu,_⟩
     · simp only[a6a,hmk,if_true] at hu;injection hu
     · simp only[a6a,hmk,if_true] at hu;cases hu
    rw[List.pairwise_cons];refine⟨fun m' hm'=>?_,hp.2⟩;rcases hy with hy|hy
    · have:=hp.1 m' hm';unfold Ap at *;simp only;rw[hy,←hmu];exact this
    · exact .inr (Ne.symm (hy m' (by simp[hm'])))
  · rename_i hmk;have hu':a6a k ms=some u∨a6a k ms=none∧u.ownBlock=none:=by simpa only[a6a,hmk,if_false] using hu
    rw[List.pairwise_cons];refine⟨fun m' hm'=>?_,h4l hp.2 hu' (hy.imp id fun h m' hm'=>h m' (by simp[hm']))⟩;rcases e4a hm' with h|h
    · unfold Ap;rw[h];rcases hy with hy|hy
      · rw[hy];rcases hu' with h1| ⟨_,h1⟩
        · obtain⟨m1,h2,h3⟩:=c3c h1;rw[←h3];exact hp.1 m1 h2
        · rw[h1];cases m.val.ownBlock<;>simp
      · exact .inr (hy m (by simp))
    · exact hp.1 m' h
theorem a0e{P:Program}{t:TypeId}{d:TypeDesc}{w:World}(h:P.underlying t=some d):(underlying t).run P w=.ok d w:=run_underlying h w
section
variable{P:Program}{g:Nat}{e:Array MapEntry}{c:Nat}{T kt et:TypeId}{α:Type}{R:α→Value→Prop}{l:List (ByteArray×α)}
def b8t(w:World)(g:Nat)(o:Obj):World:={w with heap:=w.heap.setIfInBounds g o}
theorem g2p(he:Ent R l e.toList)(hT:P.underlying T=some (.map kt et))(hk:P.underlying kt=some .string){z:Value}(hz:∀w,(zeroValue et).run P w=.ok z w)(k:ByteArray):
 ∃x,(∀w:World,w.heap[g]? =some (.map e c)→(Instr.lookup T (.map (some g)) (.string k) false).run P w=.ok x w)∧((a6a k e.toList=none∧look k l=none∧x=z)∨∃v,a6a k e.toList=some x∧look k l=some v∧R v x):=by
 rcases d4o k 0 he with⟨h1,h1',h2,_⟩| ⟨j,m,v,h1,h2,h3,h3',h4,h5,_⟩
 · exact⟨z,fun w hb=>by simp[Instr.lookup,a0e hT,MapKept.run_getObj_map hb,MapKept.run_checkKey (d:=.string) (k:=.string k) hk trivial,MapKept.run_findKey hk h1,hz],.inl ⟨h1',h2,rfl⟩⟩
 · exact⟨m.val,fun w hb=>by simp[Instr.lookup,a0e hT,MapKept.run_getObj_map hb,MapKept.run_checkKey (d:=.string) (k:=.string k) hk trivial,MapKept.run_findKey hk h1],.inr ⟨v,h3',h4,h5⟩⟩
theorem f3h(he:Ent R l e.toList)(hT:P.underlying T=some (.map kt et))(hk:P.underlying kt=some .string)(k:ByteArray):
 ∃c',∀(w:World) (y:Value),w.heap[g]? =some (.map e c)→(Instr.mapUpdate T (.map (some g)) (.string k) y).run P w=.ok () (b8t w g (.map (b8o k y c e.toList).toArray c')):=by
 rcases d4o k 0 he with⟨h1,_,_,h3,_⟩| ⟨j,m,v,h1,h2,h3,_,_,_,h6⟩
 · refine⟨c+1,fun w y hb=>?_⟩;rw[h3];simp[b8t,Instr.mapUpdate,a0e hT,MapKept.run_getObj_map hb,MapKept.run_checkKey (d:=.string) (k:=.string k) hk trivial,MapKept.run_findKey hk h1,MapKept.run_setObj_map _ hb]
   try (congr 2;apply Array.ext';simp)
 · refine⟨c,fun w y hb=>?_⟩;rw[h6];rw[Nat.zero_add] at h1;have h2':e[j]? =some m:=by simpa using h2
   simp[b8t,Instr.mapUpdate,a0e hT,MapKept.run_getObj_map hb,MapKept.run_checkKey (d:=.string) (k:=.string k) hk trivial,MapKept.run_findKey hk h1,h2',h3,MapKept.run_keyThatStays (d:=.string) (k:=.string k) trivial,MapKept.run_setObj_map _ hb]
   try (congr 2;apply Array.ext';simp)
end
end Go.Kn
namespace Go.Kn
open Go.RowKit (Below)
open Go.Proofs
theorem i8n(w:World):(zeroValue 49).run Tryz.prog w=.ok (.slice none 0 0) w:=by kernel_rfl
abbrev Rs(w:World)(S:Nat)(l:List ByteArray)(v:Value):Prop:=w.ownsRow (S+4) 9 1 v l.length (l.map Value.string)
structure KI (W0 w:World) (ar:List (ByteArray×Int)) (cs:List (ByteArray×List ByteArray)) (N:Nat):Prop where
 below:Below W0.heap.size W0 w
 tab:w.heap[W0.heap.size+3]? =some (.cells #[.map (some W0.heap.size),.map (some (W0.heap.size+1)),.map (some (W0.heap.size+2))] 163 (0,0))
 con:w.heap[W0.heap.size+2]? =some (.map #[] 0)
 arE:∃e c,w.heap[W0.heap.size]? =some (.map e c)∧Ent (fun n v=>v=.int .i64 n) ar e.toList
 csE:∃e c,w.heap[W0.heap.size+1]? =some (.map e c)∧Ent (Rs w W0.heap.size) cs e.toList∧
  e.toList.Pairwise Ap
 len:∀p∈cs,p.2.length≤N
theorem c2u{w:World}{g:Nat}{o:Obj}(h:w.heap[g]? =some o):g<w.heap.size:=(Array.getElem?_eq_some_iff.1 h).1
section
variable{W0 w w':World}{ar:List (ByteArray×Int)}{cs:List (ByteArray×List ByteArray)}{N:Nat}
theorem KI.size(h:KI W0 w ar cs N):W0.heap.size+3<w.heap.size:=c2u h.tab
theorem b8i(hb:Below w.heap.size w w'):w.grownBy w' none:=⟨hb.os,hb.tape,hb.output,hb.size,fun k hk _=>hb.block k hk⟩
theorem KI.later(h:KI W0 w ar cs N)(hb:Below w.heap.size w w'):KI W0 w' ar cs N:=by
 have hs:=h.size;refine⟨h.below.trans (hb.mono (by omega)),(hb.block _ hs).trans h.tab,(hb.block _ (by omega)).trans h.con,?_,?_,h.len⟩
 · obtain⟨e,c,h1,h2⟩:=h.arE;exact⟨e,c,(hb.block _ (by omega)).trans h1,h2⟩
 · obtain⟨e,c,h1,h2,h3⟩:=h.csE;refine⟨e,c,(hb.block _ (by omega)).trans h1,h2.imp fun p _ m _ hr=>?_,h3⟩;refine World.ownsRow.kept hr (b8i hb) ?_;cases m.val.ownBlock<;>simp
theorem c6s{g:Nat}{o o':Obj}(h:w.heap[g]? =some o):(b8t w g o').heap[g]? =some o':=by
 have:=c2u h;simp[b8t,this]
theorem b1h{g i:Nat}{o':Obj}(h:i≠g):(b8t w g o').heap[i]? =w.heap[i]? :=by simp[b8t,Ne.symm h]
theorem c2e{g B:Nat}{o':Obj}(h:B≤g):Below B w (b8t w g o'):=⟨rfl,rfl,rfl,by simp[b8t],fun k hk=>b1h (by omega)⟩
theorem d0g{g:Nat}{o':Obj}:w.grownBy (b8t w g o') (some g):=⟨rfl,rfl,rfl,by simp[b8t],fun k hk hne=>b1h fun e=>hne (by rw[e])⟩
theorem Ent.any{α:Type}{R:α→Value→Prop}:∀ {l:List (ByteArray×α)} {ms:List MapEntry},Ent R l ms→∀m∈ms,∃p,R p m.val
 | [],[],_,_,h=>by cases h
 | p::l,m0::ms,h,m,hm=>by
  rcases List.mem_cons.1 hm with rfl|hm
  · exact⟨_,h.1.2⟩
  · exact Ent.any h.2 m hm
 | [],_::_,h,_,_=>h.elim
 | _::_,[],h,_,_=>h.elim
theorem KI.arity(h:KI W0 w ar cs N)(k:ByteArray)(n:Int):∃e c o,w.heap[W0.heap.size]? =some (.map e c)∧(∀w1:World,w1.heap[W0.heap.size]? =some (.map e c)→(Instr.mapUpdate 159 (.map (some W0.heap.size)) (.string k) (.int .i64 n)).run Tryz.prog w1=.ok () (b8t w1 W0.heap.size o))∧
 ∀w1:World,KI W0 w1 ar cs N→KI W0 (b8t w1 W0.heap.size o) (upd k n ar) cs N:=by
 obtain⟨e,c,h1,h2⟩:=h.arE;obtain⟨c',hr⟩:=f3h (P:=Tryz.prog) (g:=W0.heap.size) (c:=c) h2 Tryz.underlying159 Tryz.underlying9 k;refine⟨e,c,_,h1,fun w1 hw=>hr w1 _ hw,fun w1 hk=>?_⟩;have hs:=hk.size;obtain⟨e1,c1,h3,h4⟩:=hk.arE;refine⟨hk.below.trans (c2e (Nat.le_refl _)),(b1h (by omega)).trans hk.tab,(b1h (by omega)).trans hk.con,⟨_,_,c6s h3,by simpa using f8a (R:=fun (n:Int) v=>v=.int .i64 n) k c rfl h2⟩,?_,hk.len⟩;obtain⟨e2,c2,h5,h6,h7⟩:=hk.csE;refine⟨e2,c2,(b1h (by omega)).trans h5,h6.imp fun p _ m _ hr=>?_,h7⟩;refine World.ownsRow.kept hr d0g (.inr fun e=>?_);have:=(hr.lt _ e).1;omega
theorem f5a{α:Type}{k:ByteArray}{v:α}:∀ {l:List (ByteArray×α)} {p:ByteArray×α},p∈upd k v l→p.2=v∨p∈l
 | [],p,h=>by simp[upd] at h;left;rw[h]
 | q::l,p,h=>by
  rw[upd] at h;split at h
  · rcases List.mem_cons.1 h with rfl|h
    · exact .inl rfl
    · exact .inr (by simp[h])
  · rcases List.mem_cons.1 h with rfl|h
    · exact .inr (by simp)
    · rcases f5a h with h|h
      · exact .inl h
      · exact .inr (by simp[h])
theorem e4b{α:Type}{k:ByteArray}{v:α}:∀ {l:List (ByteArray×α)},look k l=some v→∃p∈l,p.2=v
 | [],h=>by cases h
 | q::l,h=>by
  rw[look] at h;split at h
  · injection h with h;exact⟨q,by simp,h⟩
  · obtain⟨p,h1,h2⟩:=e4b h;exact⟨p,by simp[h1],h2⟩
theorem KI.append(h:KI W0 w ar cs N)(k:ByteArray):∃(e:Array MapEntry) (c:Nat) (u:Value) (l:List ByteArray) (o:Value→Obj),w.heap[W0.heap.size+1]? =some (.map e c)∧l=(look k cs).getD []∧Rs w W0.heap.size l u∧l.length≤N∧
 (∀w1:World,w1.heap[W0.heap.size+1]? =some (.map e c)→(Instr.lookup 160 (.map (some (W0.heap.size+1))) (.string k) false).run Tryz.prog w1=.ok u w1)∧
 (∀(w1:World) (y:Value),w1.heap[W0.heap.size+1]? =some (.map e c)→(Instr.mapUpdate 160 (.map (some (W0.heap.size+1))) (.string k) y).run Tryz.prog w1=.ok () (b8t w1 (W0.heap.size+1) (o y)))∧
 ∀(wa w1:World) (y:Value) (x:ByteArray),Below w.heap.size w wa→wa.grownBy w1 u.ownBlock→Rs w1 W0.heap.size (l++[x]) y→(y.ownBlock=u.ownBlock∨∃g,y.ownBlock=some g∧w.heap.size≤g)→KI W0 (b8t w1 (W0.heap.size+1) (o y)) ar (upd k (l++[x]) cs) (N+1):=by
 obtain⟨e,c,h1,h2,h3⟩:=h.csE;obtain⟨u,hl,hu⟩:=g2p (P:=Tryz.prog) (g:=W0.heap.size+1) (c:=c) h2 Tryz.underlying160 Tryz.underlying9 i8n k;obtain⟨c',hr⟩:=f3h (P:=Tryz.prog) (g:=W0.heap.size+1) (c:=c) h2 Tryz.underlying160 Tryz.underlying9 k;have hRs:Rs w W0.heap.size ((look k cs).getD []) u:=by
  rcases hu with⟨_,h4,h5⟩| ⟨v,_,h4,h5⟩
  · rw[h4,h5];exact World.ownsRow_nil _ _ _ _
  · rw[h4];exact h5
 have hlen:((look k cs).getD []).length≤N:=by
  rcases hu with⟨_,h4,h5⟩| ⟨v,_,h4,h5⟩
  · rw[h4];simp
  · rw[h4];obtain⟨p,h6,h7⟩:=e4b h4;have:=h.len p h6;rw[h7] at this;exact this
 have hfu:a6a k e.toList=some u∨a6a k e.toList=none∧u.ownBlock=none:=by
  rcases hu with⟨h4,_,h5⟩| ⟨v,h4,_,_⟩
  · exact .inr ⟨h4,by rw[h5];rfl⟩
  · exact .inl h4
 refine⟨e,c,u,_,fun y=>.map (b8o k y c e.toList).toArray c',h1,rfl,hRs,hlen,hl,fun w1 y hw=>hr w1 y hw,fun wa w1 y x hb hg hy hby=>?_⟩;have hs:=h.size;have hub:∀g,u.ownBlock=some g→W0.heap.size+4≤g:=fun g hg=>(hRs.lt g hg).1;have old:∀i,i<w.heap.size→some i≠u.ownBlock→w1.heap[i]? =w.heap[i]? :=fun i hi hne=>(hg.block i (Nat.lt_of_lt_of_le hi hb.size) hne).trans (hb.block i hi);have nu:∀i,i<W0.heap.size+4→some i≠u.ownBlock:=fun i hi e=>by have:=hub i e.symm;omega
 have hyb:∀g,y.ownBlock=some g→W0.heap.size+4≤g:=fun g hg=>(hy.lt g hg).1;refine⟨?_,(b1h (by omega)).trans ((old _ hs (nu _ (by omega))).trans h.tab),(b1h (by omega)).trans ((old _ (by omega) (nu _ (by omega))).trans h.con),?_,?_,fun p hp=>?_⟩
 · refine (h.below.trans (hb.mono (by omega))).trans ?_ |>.trans (c2e (by omega))
   exact⟨hg.os,hg.tape,hg.output,hg.size,fun i hi=>hg.block i (by have:=hb.size;omega) (nu i (by omega))⟩
 · obtain⟨e1,c1,h5,h6⟩:=h.arE;exact⟨e1,c1,(b1h (by omega)).trans ((old _ (by omega) (nu _ (by omega))).trans h5),h6⟩
 · have hm1:w1.heap[W0.heap.size+1]? =some (.map e c):=(old _ (by omega) (nu _ (by omega))).trans h1;have keep2:∀(l:List ByteArray) (x:Value),Rs w1 W0.heap.size l x→Rs (b8t w1 (W0.heap.size+1) (.map (b8o k y c e.toList).toArray c')) W0.heap.size l x:=fun l x hr=>by
    refine World.ownsRow.kept hr d0g (.inr fun e=>?_);have:=(hr.lt _ e).1;omega
   refine⟨_,_,c6s hm1,?_,?_⟩
   · have:=f8b (R:=Rs w W0.heap.size) (R':=Rs (b8t w1 (W0.heap.size+1) (.map (b8o k y c e.toList).toArray c')) W0.heap.size) (k:=k) (c:=c) (keep2 _ _ hy) h2 h3 hfu (fun p x hr hne=>keep2 _ _ ?_)
     · simpa using this
     · refine World.ownsRow.kept (World.ownsRow.kept hr (b8i hb) ?_) hg hne;cases x.ownBlock<;>simp
   · have hne:y.ownBlock=u.ownBlock∨∀m∈e.toList,m.val.ownBlock≠y.ownBlock:=hby.imp id fun ⟨g,hyg,hge⟩ m hm e1=>by
      obtain⟨p,hp⟩:=h2.any m hm;rw[hyg] at e1;have:=(hp.lt g e1).2;omega
     have:=h4l (k:=k) (y:=y) (c:=c) h3 hfu hne;simpa using this
 · rcases f5a hp with h1|h1
   · rw[h1];simp;omega
   · have:=h.len p h1;omega
end
end Go.Kn
namespace Go.Kn
open Go.RowKit Go.Proofs
theorem c0u(w:World)(o:Obj):(w.alloc o).heap[w.heap.size]? =some o:=(MapKept.heap_alloc w o).1
theorem i5m(w:World)(g:Nat)(hb:w.heap[g]? =some (.map #[] 0)):(Instr.mapUpdate 159 (.map (some g)) (.string {data:= #[65,110,121]}) (.int .i64 0)).run Tryz.prog w=.ok () (b8t w g (.map #[⟨.string {data:= #[65,110,121]},.int .i64 0,0⟩] 1)):=by
 simp[b8t,Instr.mapUpdate,a0e Tryz.underlying159,MapKept.run_getObj_map hb,MapKept.run_checkKey (P:=Tryz.prog) (d:=.string) (k:=.string {data:= #[65,110,121]}) Tryz.underlying9 trivial,MapKept.run_findKey (P:=Tryz.prog) (d:=.string) (l:=[]) (k:=.string {data:= #[65,110,121]}) (a:=none) Tryz.underlying9 rfl,MapKept.run_setObj_map _ hb]
def j5o(w:World)(b o:Nat)(d:Dc):Prop:=∃(Ap Ac:Option Addr) (cp cc cb co:Nat) (vt:List Value),w.rangeAt b o (.int .i64 d.kind:: .string d.name:: .slice Ap d.np cp:: .slice Ac d.cons.length cc::vt)∧vt.length=13∧(∀v∈vt,v.oneCell'=true)∧
 d.np≤1073741824∧d.cons.length≤1073741824∧(0<d.cons.length→Ac=some ⟨cb,co,none⟩)∧∀(j:Nat) (x:ByteArray),d.cons[j]? =some x→∃us:List Value,w.rangeAt cb (co+j*5) (.string x::us)∧us.length=4∧∀v∈us,v.oneCell'=true
theorem g1y(W0 W1:World)(hW:W1=b8t (W0.alloc (.map #[] 0)) W0.heap.size (.map #[⟨.string h5p,.int .i64 0,0⟩] 1)):
 KI W0 (((W1.alloc (.map #[] 0)).alloc (.map #[] 0)).alloc (.cells #[.map (some W0.heap.size),.map (some (W0.heap.size+1)),.map (some (W0.heap.size+2))] 163)) (arF []) (csF []) (nmF []):=by
 have hs:W1.heap.size=W0.heap.size+1:=by rw[hW];simp[b8t]
 have h0:W1.heap[W0.heap.size]? =some (.map #[⟨.string h5p,.int .i64 0,0⟩] 1):=by rw[hW];exact c6s (o:=.map #[] 0) (c0u _ _)
 have hb:Below W0.heap.size W0 W1:=by rw[hW];exact ((Below.refl _ _).alloc (Nat.le_refl _) _).trans (c2e (Nat.le_refl _))
 have a1:∀(w:World) (o:Obj) (k:Nat),k<w.heap.size→(w.alloc o).heap[k]? =w.heap[k]? :=Below.heap_alloc;have n1:∀(w:World) (o:Obj) (k:Nat),k=w.heap.size→(w.alloc o).heap[k]? =some o:=fun w o k e=>by rw[e];exact c0u w o
 have z:∀(w:World) (o:Obj),(w.alloc o).heap.size=w.heap.size+1:=fun w o=>by simp
 refine⟨?_,n1 _ _ _ (by simp only[z,hs]),(a1 _ _ _ (by simp only[z,hs];omega)).trans (n1 _ _ _ (by simp only[z,hs])),?_,?_,by simp[csF]⟩
 · exact (((hb.alloc (by omega) _).alloc (by simp only[z,hs];omega) _).alloc (by simp only[z,hs];omega) _)
 · exact⟨_,_,(a1 _ _ _ (by simp only[z,hs];omega)).trans ((a1 _ _ _ (by simp only[z,hs];omega)).trans ((a1 _ _ _ (by omega)).trans h0)),⟨rfl,rfl⟩,trivial⟩
 · exact⟨_,_,(a1 _ _ _ (by simp only[z,hs];omega)).trans ((a1 _ _ _ (by simp only[z,hs];omega)).trans (n1 _ _ _ (by omega))),trivial,by simp⟩
theorem e4l:(Tryz.prog.info? 91).map (·.size)=some 17:=by kernel_rfl
theorem k1v:(Tryz.prog.info? 9).map (fun i=>(i.zero,i.size,i.bytes))=some (some (.string {data:= #[]}),1,16):=by kernel_rfl
theorem h5a:(Tryz.prog.info? 94).map (·.size)=some 5:=by kernel_rfl
theorem c0c{w w':World}{b o B:Nat}{cs:List Value}(h:w.rangeAt b o cs)(hb:Below B w w')(hB:b<B):w'.rangeAt b o cs:=fun j v hv=>(hb.cell (p:=⟨b,o+j,none⟩) hB).trans (h j v hv)
theorem f2g(w:World)(C:Array Value)(T:TypeId)(n:Nat)(hn:C.size=n):(w.alloc (.cells C T)).there w.heap.size 0 n:=by
 intro j hj;have hh:(w.alloc (.cells C T)).heap[w.heap.size]? =some (.cells C T (0,0)):=c0u w _;refine⟨?_,?_⟩
 · rw[cell_of_row _ _ _ C T (0,0) hh];simp[hn,hj]
 · unfold World.frozen?;simp only[hh];simp
def IsT(w:World)(g:Nat)(T:TypeId):Prop:=∃C,w.heap[g]? =some (.cells C T (0,0))
def InI(W0 w:World)(B:Nat)(ar:List (ByteArray×Int))(cs:List (ByteArray×List ByteArray))(N:Nat):Prop:=KI W0 w ar cs N∧IsT w B 91
theorem b3u{p:Prop}(h:p):Hid p:=h
theorem e2d{a:Int}{s:ByteArray}{A1 A2:Option Addr}{n1 c1 n2 c2:Nat}{vt L:List Value}(h:L=.int .i64 a:: .string s:: .slice A1 n1 c1:: .slice A2 n2 c2::vt)(hv:∀v∈vt,v.oneCell'=true):L.toArray.all (·.oneCell')=true:=by
 subst h;exact all_oneCell_toArray (by simpa [Value.oneCell'] using hv)
theorem b8d{B b:Nat}(hB:B≤b):∀(vs:List Value) (o:Nat) (w:World),Below B w (w.setCells b o vs)
 | [],_,w=>Below.refl _ _
 | v::r,o,w=>((Below.refl B w).setCell (p:=⟨b,o,none⟩) hB v).trans (b8d hB r (o+1) _)
theorem b9y{b:Nat}:∀(vs:List Value) (o:Nat) (w:World),(w.setCells b o vs).heap.size=w.heap.size
 | [],_,w=>rfl
 | v::r,o,w=>by rw[World.setCells,b9y r (o+1)];simp
theorem f2o{DS:List Dc}{k:Nat}{d:Dc}(hd:DS[k]? =some d):arF (DS.take (k+1))=arS (arF (DS.take k)) d∧csF (DS.take (k+1))=csS (csF (DS.take k)) d∧nmF (DS.take (k+1))=nmS (nmF (DS.take k)) d:=by
 have:DS.take (k+1)=DS.take k++[d]:=by rw[List.take_add_one,hd];rfl
 simp only[arF,csF,nmF,this,List.foldl_append,List.foldl_cons,List.foldl_nil,and_self]
theorem h8r{DS:List Dc}{k:Nat}{d:Dc}{W0 wr w5:World}(hd:DS[k]? =some d)(hk:d.kind≠1)(h:KI W0 wr (arF (DS.take k)) (csF (DS.take k)) (nmF (DS.take k)))(hb:Below wr.heap.size wr w5):
 KI W0 w5 (arF (DS.take (k+1))) (csF (DS.take (k+1))) (nmF (DS.take (k+1))):=by
 obtain⟨e1,e2,e3⟩:=f2o hd;rw[e1,e2,e3];simp only[arS,csS,nmS,hk,if_false];exact h.later hb
theorem b6i{w:World}{g:Nat}{o:Obj}{a:Addr}(h:a.block≠g):(b8t w g o).cell? a=w.cell? a:=World.cell?_of_block (b1h h)
theorem c3t{b:Nat}{T:TypeId}:∀(vs:List Value) (o:Nat) (w:World),IsT w b T→IsT (w.setCells b o vs) b T
 | [],_,w,h=>h
 | v::r,o,w,⟨C,h⟩=>c3t r (o+1) _ ⟨_,heap_setCell_same w b o C T v h⟩
theorem IsT.lt{w:World}{g:Nat}{T:TypeId}(h:IsT w g T):g<w.heap.size:=let ⟨_,h⟩:=h;c2u h
theorem IsT.keep{w w':World}{g:Nat}{T:TypeId}(h:IsT w g T)(he:w'.heap[g]? =w.heap[g]?):IsT w' g T:=let ⟨C,h⟩:=h;⟨C,he.trans h⟩
theorem f3k{w:World}{S g:Nat}{l:List ByteArray}{u:Value}{T:TypeId}(h:Rs w S l u)(ht:IsT w g T)(hT:T≠9):u.ownBlock≠some g:=by
 intro e;obtain⟨C,hc⟩:=ht;rcases h.2 with⟨rfl,_⟩| ⟨b,cap,cur,rfl,_,hb,_⟩
 · cases e
 · injection e with e;simp only at e;subst e;rw[hb] at hc;injection hc with hc;injection hc with _ h2;exact hT h2.symm
theorem k1p{DS:List Dc}{k:Nat}{name:ByteArray}{np:Nat}{cons:List ByteArray}(hd:DS[k]? =some ⟨1,name,np,cons⟩):nmF (DS.take k)+cons.length≤nmF DS:=by
 have mono:∀(l:List Dc) (n:Nat),n≤l.foldl nmS n:=by
  intro l
  induction l with
  | nil=>intro n;exact Nat.le_refl _
  | cons d l ih=>
   intro n;refine Nat.le_trans ?_ (ih _);unfold nmS;split<;>omega
 have e:=(f2o hd).2.2;have h2:nmF DS=(DS.drop (k+1)).foldl nmS (nmF (DS.take (k+1))):=by
  unfold nmF;rw[←List.foldl_append,List.take_append_drop]
 rw[h2];refine Nat.le_trans ?_ (mono _ _);rw[e];simp[nmS]
theorem g1x{DS:List Dc}{k:Nat}{name:ByteArray}{np:Nat}{cons:List ByteArray}{W0 wr:World}{B:Nat}{j:Nat}(hd:DS[k]? =some ⟨1,name,np,cons⟩)(hj:¬j<cons.length)(hj2:j≤cons.length)
 (h:InI W0 wr B (upd name np (arF (DS.take k))) (g1b name (csF (DS.take k)) (cons.take j)) (nmF (DS.take k)+j)):
 KI W0 wr (arF (DS.take (k+1))) (csF (DS.take (k+1))) (nmF (DS.take (k+1))):=by
 obtain⟨e1,e2,e3⟩:=f2o hd;have hj3:j=cons.length:=by omega
 rw[e1,e2,e3];simp only[arS,csS,nmS,if_true];rw[hj3,List.take_length] at h;exact h.1
theorem g1a{name:ByteArray}{cs:List (ByteArray×List ByteArray)}{cons:List ByteArray}{j:Nat}{x:ByteArray}{l:List ByteArray}(hx:cons[j]? =some x)(hl:l=(look name (g1b name cs (cons.take j))).getD []):
 g1b name cs (cons.take (j+1))=upd name (l++[x]) (g1b name cs (cons.take j)):=by
 have:cons.take (j+1)=cons.take j++[x]:=by rw[List.take_add_one,hx];rfl
 rw[hl];unfold g1b;rw[this,List.foldl_append];rfl
theorem f6v{W0 w9 w1:World}{B:Nat}{ar:List (ByteArray×Int)}{cs:List (ByteArray×List ByteArray)}{N cap gg j:Nat}{name x:ByteArray}{cons l:List ByteArray}{u:Value}{o:Value→Obj}{buf:Obj}
 (hst:∀(wa w1:World) (y:Value) (x:ByteArray),Below w9.heap.size w9 wa→wa.grownBy w1 u.ownBlock→Rs w1 W0.heap.size (l++[x]) y→(y.ownBlock=u.ownBlock∨∃g,y.ownBlock=some g∧w9.heap.size≤g)→KI W0 (b8t w1 (W0.heap.size+1) (o y)) ar (upd name (l++[x]) (g1b name cs (cons.take j))) (N+1))
 (hx:cons[j]? =some x) (hl:l=(look name (g1b name cs (cons.take j))).getD []) (hgrow:(w9.alloc buf).drew.grownBy w1 u.ownBlock)
 (hown:w1.ownsRow (W0.heap.size+4) 9 1 (.slice (some ⟨gg,0,none⟩) (l.length+1) cap) (l.length+1) (l.map Value.string++[.string x])) (hat:u.ownBlock=some gg∨gg=w9.heap.size+1)
 (hT:IsT w9 B 91) (hB:B≠W0.heap.size+1) (hu:u.ownBlock≠some B):
 InI W0 (b8t w1 (W0.heap.size+1) (o (.slice (some ⟨gg,0,none⟩) (l.length+1) cap))) B ar (g1b name cs (cons.take (j+1))) (N+1):=by
 refine⟨?_,hT.keep ((b1h hB).trans ((hgrow.block B ?_ (Ne.symm hu)).trans (Below.heap_alloc w9 buf B hT.lt)))⟩
 · rw[g1a hx hl];refine hst (w9.alloc buf).drew w1 _ x (((Below.refl _ _).alloc (Nat.le_refl _) _).drew) hgrow (by simpa [Rs] using hown) ?_;rcases hat with h|h
   · exact .inl h.symm
   · exact .inr ⟨gg,rfl,by omega⟩
 · have:=hT.lt;show B<(w9.alloc buf).heap.size
   simp;omega
theorem f2n{s:ByteArray}{vt L:List Value}(h:L=.string s::vt)(hv:∀v∈vt,v.oneCell'=true):L.toArray.all (·.oneCell')=true:=by
 subst h;exact all_oneCell_toArray (by simpa [Value.oneCell'] using hv)
theorem b0d{P:Program}{ops:Array Oper}{rest:List Oper}{op:Oper}{a:Act}{wr:World}{Q:Exit→Act→World→Prop}(hgd:op.guard=none)(ty:TypeId)(x y:Operand)(ho:op.op=.store ty x y)
 (C:Array Value) (T:TypeId) (L:List Value) (hx:a.eval x=.pointer (some ⟨wr.heap.size,0,none⟩)) (hy:a.eval y=.agg L.toArray) (hn:C.size=L.length) (hi:(P.info? ty).map (·.size)=some L.length) (h1:L.toArray.all (·.oneCell')=true)
 (h:∀w5,Below wr.heap.size wr w5→w5.rangeAt wr.heap.size 0 L→IsT w5 wr.heap.size T→w5.heap.size=wr.heap.size+1→wpList P ops Q rest (a.put op.dst undef) w5):wpList P ops Q (op::rest) a (wr.alloc (.cells C T)):=by
 have ht:=f2g wr C T L.length hn;refine wpList_store_mid hgd ty x y ho wr.heap.size 0 L.toArray hx hy (by simpa using ht) (by simpa using hi) h1 (h _ ?_ ?_ (c3t _ _ _ ⟨C,c0u _ _⟩) ?_)
 · exact ((Below.refl _ _).alloc (Nat.le_refl _) _).trans (b8d (Nat.le_refl _) _ _ _)
 · simpa using World.rangeAt_setCells_same (wr.alloc (.cells C T)) wr.heap.size 0 L ht
 · rw[b9y];simp
set_option maxRecDepth 100000 in
set_option maxHeartbeats 3200000 in
theorem f6s(lb lo c:Nat)(A:Option Addr)(DS:List Dc)(W0:World)(hA:0<DS.length→A=some ⟨lb,lo,none⟩)(hlen:DS.length≤1073741824)(hc:DS.length≤c)(hin:∀(i:Nat) (d:Dc),DS[i]? =some d→j5o W0 lb (lo+i*17) d)(htot:nmF DS≤1073741824):
 Calls Tryz.prog 81 #[.slice A DS.length c] W0 fun e w'=>e=.returned (.pointer (some ⟨W0.heap.size+3,0,none⟩))∧KI W0 w' (arF DS) (csF DS) (nmF DS):=by
 have hmm:= @run_makeMap Tryz.prog;obtain⟨i0,hi0,hz0,hz1,hz2⟩:=info_parts k1v;have hsz:(b8t (W0.alloc (.map #[] 0)) W0.heap.size (.map #[⟨.string h5p,.int .i64 0,0⟩] 1)).heap.size=W0.heap.size+1:=by simp[b8t]
 have hins:=i5m (W0.alloc (.map #[] 0)) W0.heap.size (c0u _ _);obtain⟨W1,hW1⟩:∃W1,W1=b8t (W0.alloc (.map #[] 0)) W0.heap.size (.map #[⟨.string h5p,.int .i64 0,0⟩] 1):=⟨_,rfl⟩
 have hK0:=g1y W0 W1 hW1;unfold h5p at hW1 hsz;rw[←hW1] at hsz hins;have HK0:Hid (KI W0 (((W1.alloc (.map #[] 0)).alloc (.map #[] 0)).alloc (.cells #[.map (some W0.heap.size),.map (some (W0.heap.size+1)),.map (some (W0.heap.size+2))] 163)) (arF []) (csF []) (nmF [])):=hK0;clear hW1 hK0
 go_enter Tryz.func81,Tryz.ntmps81
 go_wp2_with fail
 go_loopw [16] (fun iv wr=>∃k:Nat,k≤DS.length∧iv=.int .i64 k∧Hid (KI W0 wr (arF (DS.take k)) (csF (DS.take k)) (nmF (DS.take k)))) (fun iv _=>DS.length - (intOf iv).toNat)
 case atStart=>exact⟨0,Nat.zero_le _,rfl,HK0⟩
 case round=>
  obtain⟨k,hk,rfl,HK⟩:=hrel;obtain⟨wo,rfl⟩:∃wo:World,wo=wr:=⟨_,rfl⟩
  by_cases hlt:k<DS.length
  · obtain⟨⟨kind,name,np,cons⟩,hd⟩:∃d,DS[k]? =some d:=⟨_,List.getElem?_eq_getElem hlt⟩
    have hA':=hA (by omega);subst hA';obtain⟨Ap,Ac,cp,cc,cb,co,vt,hr,hvt,hv1,hnp,hnc,hAc,hcons⟩:=hin k _ hd;have hlb:lb<W0.heap.size:=World.block_lt_of_cell? W0 _ (hr 0 _ rfl);have hr':=c0c hr HK.out.below hlb;have HC:Hid (∀(j:Nat) (x:ByteArray),cons[j]? =some x→∃us:List Value,W0.rangeAt cb (co+j*5) (.string x::us)∧us.length=4∧∀v∈us,v.oneCell'=true):=hcons;obtain⟨L,hLd⟩:∃L,L=Value.int .i64 kind:: .string name:: .slice Ap np cp:: .slice Ac cons.length cc::vt:=⟨_,rfl⟩
    have HL17:Hid (L.length=17):=b3u (by rw[hLd];simp[hvt]);have HLd:Hid (L=Value.int .i64 kind:: .string name:: .slice Ap np cp:: .slice Ac cons.length cc::vt):=b3u hLd;have HR:Hid (wo.rangeAt lb (lo+k*17) L):=b3u (by rw[hLd];exact hr');have HV:Hid (vt.length=13):=hvt;have HV1:Hid (∀v∈vt,v.oneCell'=true):=hv1;have HAc:Hid (0<cons.length→Ac=some ⟨cb,co,none⟩):=hAc;have Hd:Hid (DS[k]? =some ⟨kind,name,np,cons⟩):=hd;clear hcons hr hr' hvt hv1 hAc hd hA hLd
    by_cases hkd:kind=1
    · subst hkd
      go_wp2_with (first
       | (refine wpList_load_mid (by rfl) 91 _ (by rfl) lb (lo+k*17) (by rfl) _ _ HR.out Tryz.underlying91 rfl (by rw[e4l,HL17.out]) ?_)
       | (refine b0d (by rfl) 91 _ _ (by rfl) _ _ L (by rfl) (by rfl) (by simp[HL17.out]) (by rw[e4l,HL17.out]) (e2d HLd.out HV1.out) ?_
          intro w5 hb5 hr5 ht5 hz5;have c0:w5.cell? ⟨wo.heap.size,0,none⟩=some (.int .i64 1):=hr5 0 _ (by rw[HLd.out];rfl);have c1:w5.cell? ⟨wo.heap.size,1,none⟩=some (.string name):=hr5 1 _ (by rw[HLd.out];rfl);have c2:w5.cell? ⟨wo.heap.size,2,none⟩=some (.slice Ap np cp):=hr5 2 _ (by rw[HLd.out];rfl);have c3:w5.cell? ⟨wo.heap.size,3,none⟩=some (.slice Ac cons.length cc):=hr5 3 _ (by rw[HLd.out];rfl);have HB5:Hid (Below wo.heap.size wo w5):=hb5;have HT5:Hid (IsT w5 wo.heap.size 91):=ht5;clear hr5 hb5 ht5)
       | fail)
      have KI5:=HK.out.later HB5.out;obtain⟨e6,c6,o6,h6,hrun6,hst6⟩:=KI5.arity name np;have H6:=b3u h6;have HR6:=b3u hrun6;have ct:w5.cell? ⟨W0.heap.size+1+1+1,0,none⟩=some (.map (some W0.heap.size)):=by rw[cell_of_row w5 _ _ _ _ _ KI5.tab];rfl
      have hq6:=hrun6 w5.drew h6;have hBs:W0.heap.size+3<wo.heap.size:=HK.out.size;have HK5:=b3u KI5;clear h6 hrun6 KI5
      go_region_held3 (fun w'=>w'.cell? ⟨W0.heap.size+1+1+1,0,none⟩=some (.map (some W0.heap.size))∧w'.cell? ⟨wo.heap.size,1,none⟩=some (.string name)∧w'.cell? ⟨wo.heap.size,2,none⟩=some (.slice Ap np cp))
       (first|go_keep|(go_split_ands;refine⟨?_,?_,?_⟩<;>(rw[b6i (by simp;try omega)];assumption)))
       (fail)
      have HK6:=b3u (hst6 w5.drew (HK5.out.later (Below.drew (Below.refl _ _))));generalize hw6:b8t w5.drew W0.heap.size o6=w6 at HK6⊢;have d1:w6.cell? ⟨wo.heap.size,1,none⟩=some (.string name):=by rw[←hw6,b6i (by simp;omega)];simpa using c1
      have d3:w6.cell? ⟨wo.heap.size,3,none⟩=some (.slice Ac cons.length cc):=by rw[←hw6,b6i (by simp;omega)];simpa using c3
      have HT6:Hid (IsT w6 wo.heap.size 91):=HT5.out.keep (by rw[←hw6];exact b1h (by omega));have hz6:w6.heap.size=wo.heap.size+1:=by rw[←hw6];simpa [b8t] using hz5
      clear hw6 hq6 c0 c1 c2 c3 ct hz5 HK5 HR6 H6 HT5 HB5
      go_wp2_with fail
      go_loopw [35] (fun jv wr=>∃j:Nat,j≤cons.length∧jv=.int .i64 j∧wr.cell? ⟨wo.heap.size,1,none⟩=some (.string name)∧Hid (InI W0 wr wo.heap.size (upd name np (arF (DS.take k))) (g1b name (csF (DS.take k)) (cons.take j)) (nmF (DS.take k)+j))) (fun jv _=>cons.length - (intOf jv).toNat)
      case atStart=>exact⟨0,Nat.zero_le _,rfl,d1,b3u ⟨by simpa [g1b] using HK6.out,HT6.out⟩⟩
      case round=>
       obtain⟨j,hj,rfl,e1,HI⟩:=hrel;clear d1 d3 HK6 HT6 hz6
       by_cases hjl:j<cons.length
       · obtain⟨x,hx⟩:∃x,cons[j]? =some x:=⟨_,List.getElem?_eq_getElem hjl⟩
         obtain⟨us,hu,hu4,hu1⟩:=HC.out j x hx;have hAc:=HAc.out (by omega);subst hAc;have hcb:cb<W0.heap.size:=World.block_lt_of_cell? W0 _ (hu 0 _ rfl);have hu':=c0c hu HI.out.1.below hcb;obtain⟨M,hMd⟩:∃M,M=Value.string x::us:=⟨_,rfl⟩
         have HM5:Hid (M.length=5):=b3u (by rw[hMd];simp[hu4]);have HMd:Hid (M=Value.string x::us):=b3u hMd;have HMR:Hid (wr.rangeAt cb (co+j*5) M):=b3u (by rw[hMd];exact hu');have HU1:=b3u hu1;have Hx:=b3u hx;clear hu hu' hu4 hu1 hMd hx
         go_wp2_with (first
          | (refine wpList_load_mid (by rfl) 94 _ (by rfl) cb (co+j*5) (by rfl) _ _ HMR.out Tryz.underlying94 rfl (by rw[h5a,HM5.out]) ?_)
          | (refine b0d (by rfl) 94 _ _ (by rfl) _ _ M (by rfl) (by rfl) (by simp[HM5.out]) (by rw[h5a,HM5.out]) (f2n HMd.out HU1.out) ?_
             intro w9 hb9 hr9 ht9 hz9;have f0:w9.cell? ⟨wr.heap.size,0,none⟩=some (.string x):=hr9 0 _ (by rw[HMd.out];rfl);have HB9:Hid (Below wr.heap.size wr w9):=hb9;have HT9:Hid (IsT w9 wr.heap.size 94):=ht9;clear hr9 hb9 ht9 hz9)
          | fail)
         have KI9:=HI.out.1.later HB9.out;obtain⟨e,c9,u,l,o,hm,hld,hRs,hlN,hL,hU,hst⟩:=KI9.append name;have ct:w9.cell? ⟨W0.heap.size+1+1+1,1,none⟩=some (.map (some (W0.heap.size+1))):=by rw[cell_of_row w9 _ _ _ _ _ KI9.tab];rfl
         have hB1:wo.heap.size<wr.heap.size:=HI.out.2.lt;have e9:w9.cell? ⟨wo.heap.size,1,none⟩=some (.string name):=(HB9.out.cell (p:=⟨wo.heap.size,1,none⟩) hB1).trans e1;have bs:W0.heap.size+3<w9.heap.size:=KI9.size;have bt:wr.heap.size<w9.heap.size:=HT9.out.lt;have hlk1:=hL w9.drew hm;have hlk2:=hL (w9.alloc (.cells #[.string x] 9)).drew ((Below.heap_alloc w9 _ _ (by omega)).trans hm);have n1:=World.new_ne w9 _ ct;have n2:=World.new_ne w9 _ e9;have n3:=World.new_ne w9 _ f0;have HK9:=b3u KI9;have Hst:=b3u hst;have HU:=b3u hU;have Hl:=b3u hld;have hNN:nmF (DS.take k)+j≤1073741824:=by have:=k1p Hd.out;omega
         have hu1:u.ownBlock≠some wo.heap.size:=f3k hRs (HI.out.2.keep (HB9.out.block _ hB1)) (by decide);have hu2:u.ownBlock≠some wr.heap.size:=f3k hRs HT9.out (by decide);have hu3:u.ownBlock≠some (W0.heap.size+1+1+1):=f3k hRs ⟨_,KI9.tab⟩ (by decide);clear KI9 hst hU hld hL
         go_region_held3 (fun w'=>w'.cell? ⟨W0.heap.size+1+1+1,1,none⟩=some (.map (some (W0.heap.size+1)))∧w'.cell? ⟨wo.heap.size,1,none⟩=some (.string name)∧w'.cell? ⟨wr.heap.size,0,none⟩=some (.string x))
          (first
            | go_keep
            | (go_split_ands
               refine⟨?_,?_,?_⟩
               · (rw[hgrow.cell_far _ (by simp;omega) (Ne.symm hu3)];assumption)
               · (rw[hgrow.cell_far _ (by simp;omega) (Ne.symm hu1)];assumption)
               · (rw[hgrow.cell_far _ (by simp;omega) (Ne.symm hu2)];assumption))
            | (go_split_ands;refine⟨?_,?_,?_⟩<;>(rw[b6i (by simp;try omega)];assumption)))
          ((refine step_append_lies _ (by rfl) _ _ _ (by rfl) (W0.heap.size+4) 9 i0 _ 1 16 Tryz.underlying49 hi0 hz0 hz1 hz2 rfl (by omega) u l.length (l.map Value.string) (by rfl) ((World.ownsRow.alloc hRs _).drew) ⟨w9.heap.size,0,none⟩ 1 1 [.string x] (by rfl) (by rfl) (World.news_of_block (cs:= #[.string x]) (t:=9) (fr:=(0,0)) (heap_alloc_new w9 _)) (by simp[Value.oneCell']) (by omega) (by unfold maxLen;omega) (by omega) (by simp;omega) (w9.heap.size+1) (by simp) ?_
            intro gg cap w1 hown1 hgrow hat hlt;have hq10:=HU.out w1 (.slice (some ⟨gg,0,none⟩) (l.length+1) cap) ((hgrow.block (W0.heap.size+1) (by simp;omega) (fun e=>by have:=(World.ownsRow.lt hRs _ e.symm).1;omega)).trans ((Below.heap_alloc w9 _ _ (by omega)).trans hm))))
         all_goals
          have HII:=b3u (f6v Hst.out Hx.out Hl.out hgrow hown1 hat (HI.out.2.keep (HB9.out.block _ hB1)) (by omega) hu1);have q1:(b8t w1 (W0.heap.size+1) (o (.slice (some ⟨gg,0,none⟩) (l.length+1) cap))).cell? ⟨wo.heap.size,1,none⟩=some (.string name):=by rw[b6i (by simp;omega),hgrow.cell_far _ (by simp;omega) (Ne.symm hu1)];exact (((Below.refl w9.heap.size w9).alloc (Nat.le_refl _) _).cell (p:=⟨wo.heap.size,1,none⟩) (by simp;omega)).trans e9
          generalize b8t w1 (W0.heap.size+1) (o (.slice (some ⟨gg,0,none⟩) (l.length+1) cap))=w7 at HII q1⊢;clear hq10 hgrow hown1
          go_wp2_with fail
          go_roundw
          case rel=>exact⟨j+1,by omega,by go_num,q1,HII⟩
          case measure=>simp[intOf];omega
       · go_wp2_with fail
         go_roundw
         case rel=>exact⟨k+1,by omega,by go_num,b3u (g1x Hd.out hjl hj HI.out)⟩
         case measure=>simp[intOf];omega
    have hk1:(kind==1)=false:=by simpa using hkd
    have hk2:(kind !=1)=true:=by simpa using hkd
    go_wp2_with (first
     | (refine wpList_load_mid (by rfl) 91 _ (by rfl) lb (lo+k*17) (by rfl) _ _ HR.out Tryz.underlying91 rfl (by rw[e4l,HL17.out]) ?_)
     | (refine b0d (by rfl) 91 _ _ (by rfl) _ _ L (by rfl) (by rfl) (by simp[HL17.out]) (by rw[e4l,HL17.out]) (e2d HLd.out HV1.out) ?_
        intro w5 hb5 hr5 ht5 hz5;have c0:w5.cell? ⟨wo.heap.size,0,none⟩=some (.int .i64 kind):=hr5 0 _ (by rw[HLd.out];rfl);have c1:w5.cell? ⟨wo.heap.size,1,none⟩=some (.string name):=hr5 1 _ (by rw[HLd.out];rfl);have c2:w5.cell? ⟨wo.heap.size,2,none⟩=some (.slice Ap np cp):=hr5 2 _ (by rw[HLd.out];rfl);have c3:w5.cell? ⟨wo.heap.size,3,none⟩=some (.slice Ac cons.length cc):=hr5 3 _ (by rw[HLd.out];rfl);have HB5:Hid (Below wo.heap.size wo w5):=hb5;have HT5:Hid (IsT w5 wo.heap.size 91):=ht5;clear hr5 hb5 ht5)
     | fail)
    go_roundw
    case rel=>exact⟨k+1,by omega,by go_num,h8r Hd.out hkd HK.out HB5.out⟩
    case measure=>simp[intOf];omega
  · go_wp2_with fail
    have hkk:k=DS.length:=by omega
    subst hkk;have HK2:=HK.out;rw[List.take_length] at HK2
    go_ret
    exact⟨rfl,HK2⟩
end Go.Kn
namespace Go.Av
open Go.Kn Go.Proofs
open Go.RowKit (Below)
theorem a3b.vals{w:World}{V:Vis}{g:Nat}:∀ {cs:List AVal} {o:Nat},a3b w V g o cs→∃xs:List Value,a3r (a1t w V) cs xs∧w.rangeAt g o xs
 | [],o,_=>⟨[],trivial,fun j v h=>by simp at h⟩
 | c::cs,o,h=>by
  obtain⟨⟨_,x,hx,hr⟩,h2⟩:=h;obtain⟨xs,h3,h4⟩:=a3b.vals h2;refine⟨x::xs,⟨hr,h3⟩,fun j v hv=>?_⟩;cases j with
  | zero=>simp at hv;subst hv;simpa using hx
  | succ j=>rw[show o+(j+1)=o+1+j by omega];exact h4 j v (by simpa using hv)
theorem d5m{w:World}{V:Vis}:∀ {cs:List AVal} {xs:List Value},a3r (a1t w V) cs xs→∀v∈xs,v.oneCell'=true
 | [],[],_,_,h=>by cases h
 | _::_,x::xs,hr,v,h=>by
  rcases List.mem_cons.1 h with rfl|h
  · exact hr.1.one
  · exact d5m hr.2 v h
 | [],_::_,hr,_,_=>hr.elim
 | _::_,[],hr,_,_=>hr.elim
theorem c8t{w:World}{V:Vis}{cb:Nat}:∀ {cs:List AVal} {l:List ByteArray} {co:Nat},b4o cs=some l→b0v w V 5 cb co cs→∀(j:Nat) (x:ByteArray),l[j]? =some x→∃us:List Value,w.rangeAt cb (co+j*5) (.string x::us)∧us.length=4∧∀v∈us,v.oneCell'=true
 | [],l,co,h,_=>by simp only[b4o] at h;injection h with h;subst h;exact fun j x hx=>by simp at hx
 | c::r,l,co,h,hr=>by
  unfold b4o at h;split at h
  · rename_i heq;cases heq
  · rename_i n us r' heq;injection heq with e1 e2;subst e1;subst e2;split at h
    · rename_i hu;obtain⟨l',h1,rfl⟩:=map_some h;rw[a2y] at hr;obtain⟨⟨_,hc⟩,hr2⟩:=hr;intro j x hx;cases j with
      | zero=>
       simp at hx;subst hx;obtain⟨ys,q1,q2⟩:=a3b.vals hc;simp only[cellsOf] at q1;cases ys with
       | nil=>exact q1.elim
       | cons y ys=>
        have hy:y=.string (ba n):=q1.1;subst hy;exact⟨ys,by simpa using q2,by rw[←q1.2.length];exact hu,d5m q1.2⟩
      | succ j=>
       obtain⟨us',a1,a2⟩:=c8t h1 hr2 j x (by simpa using hx);exact⟨us',by rw[show co+(j+1)*5=co+5+j*5 by omega];exact a1,a2⟩
    · cases h
  · cases h
theorem d2b:∀ {cs:List AVal} {l:List ByteArray},b4o cs=some l→l.length=cs.length
 | [],l,h=>by simp only[b4o] at h;injection h with h;subst h;rfl
 | c::r,l,h=>by
  unfold b4o at h;split at h
  · rename_i heq;cases heq
  · rename_i n us r' heq;injection heq with e1 e2;subst e1;subst e2;split at h
    · obtain⟨l',h1,rfl⟩:=map_some h;simp[d2b h1]
    · cases h
  · cases h
theorem f9y{w:World}{V:Vis}{sz cb co:Nat}{cs:List AVal}{l:List ByteArray}(h:b4o cs=some l)(hr:b0v w V sz cb co cs)(hne:cs≠[]):sz=5:=by
 cases cs with
 | nil=>exact absurd rfl hne
 | cons c r=>
  rw[a2y] at hr;unfold b4o at h;split at h
  · rename_i heq;cases heq
  · rename_i n us r' heq;injection heq with e1 e2;subst e1;split at h
    · rename_i hu;have:=hr.1.1;simp only[cellsOf,List.length_cons,hu] at this;omega
    · cases h
  · cases h
theorem d8r{w:World}{V:Vis}{b o:Nat}{v:AVal}{d:Dc}(h:j4l v=some d)(hc:a3b w V b o (cellsOf v)):j5o w b o d∧(cellsOf v).length=17:=by
 unfold j4l at h;split at h
 · rename_i k n ps cs vt;split at h
   · rename_i hb;obtain⟨l,h1,rfl⟩:=map_some h;obtain⟨ys,q1,q2⟩:=a3b.vals hc;simp only[cellsOf] at q1
     match ys,q1,q2 with
     | y0::y1::y2::y3::ys,q1,q2=>
      obtain⟨r0,r1,r2,r3,r4⟩:=q1;have e0:y0=.int .i64 k:=r0;have e1:y1=.string (ba n):=r1;obtain⟨Ap,cp,e2,_,_⟩:=r2;obtain⟨Ac,cc,e3,_,hrow⟩:=r3;subst e0;subst e1;subst e2;subst e3;have hl:=d2b h1;have key:∃cb co,(0<l.length→Ac=some ⟨cb,co,none⟩)∧∀(j:Nat) (x:ByteArray),l[j]? =some x→∃us:List Value,w.rangeAt cb (co+j*5) (.string x::us)∧us.length=4∧∀v∈us,v.oneCell'=true:=by
       rcases hrow with rfl| ⟨g,o',sz,hA,hsz,hrow⟩
       · have:l=[]:=List.eq_nil_of_length_eq_zero hl;subst this;exact⟨0,0,fun h=>absurd h (by simp),fun j x hx=>by simp at hx⟩
       · by_cases hne:cs=[]
         · subst hne;have:l=[]:=List.eq_nil_of_length_eq_zero hl;subst this;exact⟨0,0,fun h=>absurd h (by simp),fun j x hx=>by simp at hx⟩
         · have e5:=f9y h1 hrow hne;subst e5;exact⟨g,o',fun _=>hA,c8t h1 hrow⟩
      obtain⟨cb,co,k1,k2⟩:=key;refine⟨⟨Ap,Ac,cp,cc,cb,co,ys,?_,by rw[←r4.length];exact hb.1,d5m r4,hb.2.1,by rw[hl];exact hb.2.2,k1,k2⟩,by simp[cellsOf,hb.1]⟩;simp only[hl];exact q2
     | [],q1,_=>exact q1.elim
     | [_],q1,_=>exact q1.2.elim
     | [_,_],q1,_=>exact q1.2.2.elim
     | [_,_,_],q1,_=>exact q1.2.2.2.elim
   · cases h
 · cases h
theorem d1z{w:World}{V:Vis}{b:Nat}:∀ {es:List AVal} {DS:List Dc} {o:Nat},c8q es=some DS→b0v w V 17 b o es→∀(i:Nat) (d:Dc),DS[i]? =some d→j5o w b (o+i*17) d
 | [],DS,o,h,_=>by simp only[c8q] at h;injection h with h;subst h;exact fun j x hx=>by simp at hx
 | v::r,DS,o,h,hr=>by
  simp only[c8q] at h;obtain⟨d0,h0,h⟩:=bind_some h;obtain⟨DS',h1,rfl⟩:=map_some h;rw[a2y] at hr;intro i d hd;cases i with
  | zero=>simp at hd;subst hd;simpa using (d8r h0 hr.1.2).1
  | succ i=>
   have:=d1z h1 hr.2 i d (by simpa using hd);rw[show o+(i+1)*17=o+17+i*17 by omega];exact this
theorem d8p:∀ {es:List AVal} {DS:List Dc},c8q es=some DS→DS.length=es.length
 | [],DS,h=>by simp only[c8q] at h;injection h with h;subst h;rfl
 | v::r,DS,h=>by
  simp only[c8q] at h;obtain⟨d0,h0,h⟩:=bind_some h;obtain⟨DS',h1,rfl⟩:=map_some h;simp[d8p h1]
theorem d2z{w:World}{V:Vis}(s:ByteArray):a1t w V (e6c s) (.string s):=by show Value.string s=.string ⟨s.data.toList.toArray⟩;simp
theorem f7y{w:World}{V:Vis}:∀ {l:List (ByteArray×Int)} {ms:List MapEntry},Ent (fun n v=>v=.int .i64 n) l ms→a4v w V (arA l) ms
 | [],[],_=>trivial
 | p::l,m::ms,h=>by
  refine⟨⟨?_,h.1.2⟩,f7y h.2⟩;rw[h.1.1];exact d2z _
 | [],_::_,h=>h.elim
 | _::_,[],h=>h.elim
theorem e0a{w:World}{V:Vis}{g:Nat}:∀ {l:List ByteArray} {o:Nat},(∀(j:Nat) (x:ByteArray),l[j]? =some x→V g (o+j)∧w.cell? ⟨g,o+j,none⟩=some (.string x))→b0v w V 1 g o (l.map e6c)
 | [],_,_=>trivial
 | x::l,o,h=>by
  refine⟨⟨rfl,(h 0 x rfl).1,_,(h 0 x rfl).2,d2z x⟩,e0a fun j y hy=>?_⟩;rw[show o+1+j=o+(j+1) by omega];exact h (j+1) y (by simpa using hy)
theorem j2l{w:World}{V:Vis}{S:Nat}{l:List ByteArray}{v:Value}(h:Rs w S l v)(hV:∀g o,v.ownBlock=some g→o<l.length→V g o):a1t w V (.slice (l.map e6c)) v:=by
 rcases h.2 with⟨rfl,h0⟩| ⟨g,cap,cur,rfl,_,hg,hn,_,hsz,ht⟩
 · have:l=[]:=List.eq_nil_of_length_eq_zero h0;subst this;exact⟨none,0,rfl,Nat.le_refl _,.inl rfl⟩
 · refine⟨some ⟨g,0,none⟩,cap,by simp,by simpa using hn,.inr ⟨g,0,1,rfl,by decide,e0a fun j x hx=>?_⟩⟩;have hj:j<l.length:=(List.getElem?_eq_some_iff.1 hx).1;refine⟨hV g _ rfl (by omega),?_⟩;rw[Nat.zero_add,cell_of_row w g j cur 9 (0,0) hg];have h2:(cur.toList.take (l.length*1))[j]? =some (.string x):=by rw[ht];simp[hx]
   rw[List.getElem?_take_of_lt (by omega)] at h2;simpa using h2
theorem f7x{w:World}{V:Vis}{S:Nat}:∀ {l:List (ByteArray×List ByteArray)} {ms:List MapEntry},Ent (Rs w S) l ms→(∀p m,m∈ms→Rs w S p m.val→∀g o,m.val.ownBlock=some g→o<p.length→V g o)→a4v w V (csA l) ms
 | [],[],_,_=>trivial
 | p::l,m::ms,h,hV=>by
  refine⟨⟨?_,j2l h.1.2 (hV _ m (by simp) h.1.2)⟩,f7x h.2 fun p m hm=>hV p m (by simp[hm])⟩;rw[h.1.1];exact d2z _
 | [],_::_,h,_=>h.elim
 | _::_,[],h,_=>h.elim
theorem d7p:b0m Tryz.prog 81:=⟨Tryz.f81,_,Tryz.func81,by kernel_rfl,rfl⟩
theorem c2w:Tryz.prog.cellsOf a3i=0:=by kernel_rfl
theorem e0m{F:World→Prop}:a4x Tryz.prog F fun f la H=>if f=81 then c7t la H else none:=by
 intro f la H r hr xs w V T0 μ γ hs h hl hF hsl;replace hr:(if f=81 then c7t la H else none)=some r:=hr;split at hr
 case isFalse=>cases hr
 rename_i hf;subst hf;unfold c7t at hr;split at hr
 case h_2=>cases hr
 rename_i es;obtain⟨DS,hDS,hr⟩:=bind_some hr;split at hr
 case isFalse=>cases hr
 rename_i hb;injection hr with hr;subst hr;refine⟨d7p,?_⟩;obtain⟨x,hx,hrx⟩:=h.tm 0 (.slice es) rfl;have hxs:xs= #[x]:=by
  have h1:xs.size=1:=by simpa using hs
  apply Array.ext
  · simpa using h1
  · intro i hi _;have:i=0:=by omega
    subst this;have:=Array.getElem?_eq_some_iff.1 hx;obtain⟨_,h2⟩:=this;simpa using h2
 subst hxs;obtain⟨A,c,rfl,hcl,hrow⟩:=(show a1t w V (.slice es) x from hrx)
 have hlen:=d8p hDS;have key:∃lb lo,(0<DS.length→A=some ⟨lb,lo,none⟩)∧∀(i:Nat) (d:Dc),DS[i]? =some d→j5o w lb (lo+i*17) d:=by
  rcases hrow with rfl| ⟨g,o,sz,hA,hsz,hrow⟩
  · have:DS=[]:=List.eq_nil_of_length_eq_zero hlen;subst this;exact⟨0,0,fun h=>absurd h (by simp),fun j x hx=>by simp at hx⟩
  · cases es with
    | nil=>
     have:DS=[]:=List.eq_nil_of_length_eq_zero hlen;subst this;exact⟨0,0,fun h=>absurd h (by simp),fun j x hx=>by simp at hx⟩
    | cons v r=>
     have hsz:sz=17:=by
      rw[a2y] at hrow;simp only[c8q] at hDS;obtain⟨d0,h0,_⟩:=bind_some hDS;rw[←hrow.1.1];exact (d8r h0 hrow.1.2).2
     subst hsz;exact⟨g,o,fun _=>hA,d1z hDS hrow⟩
 obtain⟨lb,lo,hA,hin⟩:=key;rw[←hlen];rw[←hlen] at hcl hb;refine (f6s lb lo c A DS w hA hb.1 hcl hin hb.2).mono fun e w' ⟨he,hK⟩=>⟨_,he,?_⟩
 have hS:=hK.size;have hbl:=hK.below;obtain⟨e1,c1,m1,m2⟩:=hK.arE;obtain⟨e2,c2,m3,m4,_⟩:=hK.csE;have hno:∀b g,μ b≠some g:=fun b g hb=>by
  obtain⟨cs,hc⟩:=h.dom b g hb;cases b<;>simp[b1u,St.box,a0i] at hc
 let LV:Nat→Nat→Prop:=fun g o=>∃p m,m∈e2.toList∧Rs w' w.heap.size p m.val∧m.val.ownBlock=some g∧o<p.length
 have hLV:∀g o,LV g o→w.heap.size+4≤g∧g<w'.heap.size:=fun g o ⟨p,m,_,h2,h3,_⟩=>World.ownsRow.lt h2 g h3;have hVlt:∀g o,V g o→g<w.heap.size:=h.vis
 let V':Vis:=fun g o=>V g o∨LV g o
 let μ':a5m:=fun b=>if b=.par 0 then some (w.heap.size+3) else none
 let γ':a7a:=fun p n=>if n=0 then (if p=.cell (.par 0) 0 then some (.map (some w.heap.size)) else if p=.cell (.par 0) 1 then some (.map (some (w.heap.size+1))) else if p=.cell (.par 0) 2 then some (.map (some (w.heap.size+2))) else none) else none
 have box:∀b cs,(a2u (.ptr (.par 0) 0) [[.own a3i 0 (arA (arF DS)),.own a3i 0 (csA (csF DS)),.own a3i 0 []]]).box b=some cs→b=.par 0∧cs=[.own a3i 0 (arA (arF DS)),.own a3i 0 (csA (csF DS)),.own a3i 0 []]:=by
  intro b cs hb;cases b with
  | par i=>cases i with
   | zero=>simp[a2u,St.box] at hb;exact⟨rfl,hb.symm⟩
   | succ i=>simp[a2u,St.box] at hb
  | loc k=>simp[a2u,St.box,a0i] at hb
 have own:∀p T n es' y g,(a2u (.ptr (.par 0) 0) [[.own a3i 0 (arA (arF DS)),.own a3i 0 (csA (csF DS)),.own a3i 0 []]]).at p=some (.own T n es')→γ' p n=some y→ownBlock y=some g→T=a3i∧∃i,p=.cell (.par 0) i∧g=w.heap.size+i∧i<3:=by
  intro p T n es' y g hp hy hg;cases p with
  | tmp k=>
   simp only[St.at,a2u,a0i] at hp;split at hp<;>simp at hp
  | cell b off=>
   simp only[St.at] at hp;obtain⟨cs,h1,h2⟩:=bind_some hp;obtain⟨rfl,rfl⟩:=box b cs h1
   match off,h2 with
   | 0,h2=>
    simp at h2;obtain⟨rfl,rfl,_⟩:=h2;simp[γ'] at hy;subst hy;exact⟨rfl,0,rfl,by simpa [ownBlock] using hg.symm,by omega⟩
   | 1,h2=>
    simp at h2;obtain⟨rfl,rfl,_⟩:=h2;simp[γ'] at hy;subst hy;exact⟨rfl,1,rfl,by simpa [ownBlock] using hg.symm,by omega⟩
   | 2,h2=>
    simp at h2;obtain⟨rfl,rfl,_⟩:=h2;simp[γ'] at hy;subst hy;exact⟨rfl,2,rfl,by simpa [ownBlock] using hg.symm,by omega⟩
   | n+3,h2=>simp at h2
 refine⟨V',γ',⟨#[.pointer (some ⟨w.heap.size+3,0,none⟩)],[]⟩,μ',rfl,fun b g hb=>(hno b g hb).elim,?_,?_,?_,.inl rfl⟩
 · refine {tm:=?_,bx:=?_,dom:=?_,inj:=?_,visb:=?_,vis:=?_,ow:=?_,ow2:=?_,gq:=fun _ _ _=>trivial}
   · intro k u hu;simp only[a2u,a0i] at hu;split at hu
     · rename_i hk;injection hu with hu;subst hu;subst hk;exact⟨_,rfl,⟨w.heap.size+3,by simp[μ'],c6x _⟩⟩
     · cases hu
   · intro b cs hb;obtain⟨rfl,rfl⟩:=box b cs hb;refine⟨_,163,_,by simp[μ'],hK.tab,by simp,fun i cc hc=>?_⟩
     match i,hc with
     | 0,hc=>
      simp at hc;subst hc;refine⟨_,rfl,?_,by simp[γ']⟩;unfold a2t;rw[if_pos rfl];exact .inl ⟨c2w,_,_,_,rfl,m1,f7y m2⟩
     | 1,hc=>
      simp at hc;subst hc;refine⟨_,rfl,?_,by simp[γ']⟩;unfold a2t;rw[if_pos rfl];exact .inl ⟨c2w,_,_,_,rfl,m3,f7x m4 fun p m hm hr g o hg ho=>.inr ⟨p,m,hm,hr,hg,ho⟩⟩
     | 2,hc=>
      simp at hc;subst hc;refine⟨_,rfl,?_,by simp[γ']⟩;unfold a2t;rw[if_pos rfl];exact .inl ⟨c2w,_,_,_,rfl,hK.con,trivial⟩
     | n+3,hc=>simp at hc
   · intro b g hb;simp only[μ'] at hb;split at hb
     · rename_i e;subst e;exact⟨_,rfl⟩
     · cases hb
   · intro b b' g hb hb';simp only[μ'] at hb hb';split at hb
     · rename_i e1;split at hb'
       · rename_i e2;rw[e1,e2]
       · cases hb'
     · cases hb
   · intro b g hb o hv;simp only[μ'] at hb;split at hb
     · injection hb with hb;subst hb;rcases hv with hv|hv
       · have:=hVlt _ _ hv;omega
       · have:=(hLV _ _ hv).1;omega
     · cases hb
   · intro g o hv;rcases hv with hv|hv
     · have:=hVlt _ _ hv;omega
     · exact (hLV _ _ hv).2
   · intro p T n es' y g hp hy hg;obtain⟨rfl,i,rfl,rfl,hi⟩:=own p T n es' y g hp hy hg;refine⟨fun b hb=>?_,fun o hv=>?_⟩
     · simp only[μ'] at hb;split at hb
       · injection hb with hb;omega
       · cases hb
     · exfalso;rcases hv with hv|hv
       · have:=hVlt _ _ hv;omega
       · have:=(hLV _ _ hv).1;omega
   · intro p p' T n es1 T' n' es2 y y' g hp hp' hy hy' hg hg';obtain⟨_,i,rfl,e1,_⟩:=own p T n es1 y g hp hy hg;obtain⟨_,i',rfl,e2,_⟩:=own p' T' n' es2 y' g hp' hy' hg';have:i=i':=by omega
     rw[this]
 · refine⟨hbl.os,hbl.tape,hbl.output,hbl.size,fun g hg _=>hbl.block g hg,fun g o hv=>⟨.inl hv,.of (hbl.block g (hVlt g o hv))⟩,fun g o hv=>?_,hsl⟩;rcases hv with hv|hv
   · exact .inl hv
   · exact .inr (.inl (by have:=(hLV g o hv).1;omega))
 · refine⟨fun b g hb=>?_,fun p T n es' y g hp hy hg=>?_⟩
   · simp only[μ'] at hb;split at hb
     · injection hb with hb;exact .inr (by omega)
     · cases hb
   · obtain⟨_,i,_,e1,_⟩:=own p T n es' y g hp hy hg;exact .inr (by omega)
end Go.Av
namespace Go.Av
open Go.Proofs
open Go.RowKit (Below)
open Go.Shelf (Ren)
set_option maxHeartbeats 4000000
set_option maxRecDepth 100000
def g2v:Ren:=⟨fun n=>if n=4 then 158 else n,fun n=>if n=22 then 49 else if n=25 then 9 else n,fun n=>n⟩
theorem e4j:Lays8.n4 Tryz.prog g2v where
 mixed:=by kernel_rfl
 f4:=⟨Tryz.f158.name,by kernel_rfl,Tryz.func158.trans (congrArg some (by kernel_rfl))⟩
 t0:=Tryz.underlying0
 a0:=Tryz.isAgg0
 z0:=Tryz.sizeOf0
 v0:=Tryz.zeroValue0
 t3:=Tryz.underlying3
 a3:=Tryz.isAgg3
 z3:=Tryz.sizeOf3
 v3:=Tryz.zeroValue3
 t4:=Tryz.underlying4
 a4:=Tryz.isAgg4
 z4:=Tryz.sizeOf4
 v4:=Tryz.zeroValue4
 t9:=Tryz.underlying9
 a9:=Tryz.isAgg9
 z9:=Tryz.sizeOf9
 v9:=Tryz.zeroValue9
 t20:=Tryz.underlying20
 a20:=Tryz.isAgg20
 z20:=Tryz.sizeOf20
 v20:=Tryz.zeroValue20
 t22:=Tryz.underlying49
 a22:=Tryz.isAgg49
 z22:=Tryz.sizeOf49
 v22:=Tryz.zeroValue49
theorem h4y:(Tryz.prog.info? 9).map (fun i=>(i.zero,i.size,i.bytes))=some (some (.string {data:= #[]}),1,16):=by kernel_rfl
theorem e9l(n:Nat)(hn:n≤1073741824)(w:World):
 Calls Tryz.prog 158 #[.slice none 0 0,.int .i64 n] w fun e w'=>∃v,e=.returned v∧Below w.heap.size w w'∧w'.ownsRow w.heap.size 9 1 v 0 []:=by
 by_cases h0:n=0
 · subst h0;exact (Any8.slices_Grow_room (ρ:=g2v) e4j none 0 0 0 w (Nat.zero_le _) (by omega) (by omega) (by omega)).mono fun e w' ⟨h1,h2⟩=>⟨_,h1,by rw[h2];exact Below.refl _ _,World.ownsRow_nil _ _ _ _⟩
 · obtain⟨i,hi⟩:∃i,Tryz.prog.info? 9=some i:=by
    cases h:Tryz.prog.info? 9 with
    | none=>have:=h4y;rw[h] at this;cases this
    | some i=>exact⟨i,rfl⟩
   have h9:=h4y;rw[hi] at h9;simp only[Option.map_some,Option.some.injEq,Prod.mk.injEq] at h9;obtain⟨hz,hs,hb⟩:=h9;refine (Any8.slices_Grow_grow (ρ:=g2v) e4j i _ hi hz (by omega) none 0 0 n [] w (Nat.zero_le _) (by omega) (by rw[hb];omega) (by omega) (by simp) (fun _=>rfl) (fun a h=>by cases h)).mono ?_;rintro e w' ⟨rfl,rfl⟩;have hge:=grownCap_ge w (0+n) 0 9;have hle:=grownCap_le_maxLen w (0+n) 0 9 (by unfold maxLen;omega);refine⟨_,rfl,(((Below.refl _ _).drew).alloc (Nat.le_refl _) _),rfl,.inr ⟨_,_,_,rfl,Nat.le_refl _,(MapKept.heap_alloc w.drew _).1,Nat.zero_le _,hle,?_,by simp⟩⟩;simp only[Builtin.zeroCells,Value.cells];simp[g2v];simp at hge;omega
end Go.Av
namespace Go.Kn
open Go.RowKit Go.Proofs Go.Av
def c4f(w:World)(v:Value)(l:List ByteArray):Prop:=∃A c b o,v=.slice A l.length c∧l.length≤c∧(0<l.length→A=some ⟨b,o,none⟩)∧∀(j:Nat) (x:ByteArray),l[j]? =some x→w.cell? ⟨b,o+j,none⟩=some (.string x)
theorem h4z:(Tryz.prog.info? 9).map (fun i=>(i.zero,i.size,i.bytes))=some (some (.string {data:= #[]}),1,16):=by kernel_rfl
theorem c1u{P:Program}{w:World}{ops:Array Oper}{rest:List Oper}{o:Oper}{a:Act}{Q:Exit→Act→World→Prop}(hgd:o.guard=none)(s x:Operand)(t:TypeId)
 (ho:o.op=.call {callee:=.builtin .append,args:= #[s,x],argTypes:= #[t,t]}) {v u v':Value} {w':World} (hs:a.eval s=v) (hx:a.eval x=u)
 (hr:(Builtin.append_ #[t,t] o.type #[v,u]).run P w=.ok v' w') (h:wpList P ops Q rest (a.put o.dst v') w'):wpList P ops Q (o::rest) a w:=by
 refine wpList_plain hgd fun _ hK=>?_;unfold Oper.wp execOp;simp only[ho,resolve,invoke,builtin,Sem.run_bind,Sem.run_pure,Result.andThen_ok,List.map_toArray,List.map_cons,List.map_nil,hs,hx,hr];exact hK _ _ h
theorem c9s{p:Prop}(h:p):Hid p:=h
theorem c4f.below{w w':World}{v:Value}{l:List ByteArray}(h:c4f w v l)(hb:Below w.heap.size w w'):c4f w' v l:=by
 obtain⟨A,c,b,o,h1,h2,h3,h4⟩:=h;exact⟨A,c,b,o,h1,h2,h3,fun j x hx=>(hb.cell (p:=⟨b,o+j,none⟩) (World.block_lt_of_cell? w _ (h4 j x hx))).trans (h4 j x hx)⟩
def e6a(LS:List (List ByteArray))(k:Nat):Nat:=(LS.take k).flatten.length
def h4k(LS:List (List ByteArray))(k:Nat):List Value:=(LS.take k).flatten.map Value.string
theorem e1w{LS:List (List ByteArray)}{k:Nat}{l:List ByteArray}(h:LS[k]? =some l):e6a LS (k+1)=e6a LS k+l.length∧h4k LS (k+1)=h4k LS k++l.map Value.string:=by
 have:LS.take (k+1)=LS.take k++[l]:=by rw[List.take_add_one,h];rfl
 unfold e6a h4k;rw[this];simp only[List.flatten_append,List.flatten_cons,List.flatten_nil,List.append_nil,List.length_append,List.map_append,and_self]
theorem f2c(LS:List (List ByteArray))(k:Nat):e6a LS k≤LS.flatten.length:=by
 unfold e6a
 conv=>rhs;rw[←List.take_append_drop k LS]
 rw[List.flatten_append,List.length_append];omega
theorem f2d{LS:List (List ByteArray)}{k:Nat}(h:¬k<LS.length):e6a LS k=LS.flatten.length∧h4k LS k=LS.flatten.map Value.string:=by
 unfold e6a h4k;rw[List.take_of_length_le (by omega)];exact⟨rfl,rfl⟩
theorem i7w{w:World}{S n:Nat}{v:Value}{xs:List Value}{l:List ByteArray}(hown:w.ownsRow S 9 1 v n xs)(hS:S≤w.heap.size){x:Value}(hx:c4f w x l)(hn:n+l.length≤1073741824):
 ∃v' w',(Builtin.append_ #[49,49] 49 #[v,x]).run Tryz.prog w=.ok v' w'∧w'.ownsRow S 9 1 v' (n+l.length) (xs++l.map Value.string)∧w.grownBy w' v.ownBlock∧(v'.ownBlock=v.ownBlock∨v'.ownBlock=some w.heap.size):=by
 obtain⟨i0,hi0,hz0,hz1,hz2⟩:=info_parts h4z;obtain⟨A,c,b,o,rfl,hc,hA,hcell⟩:=hx;have some_case:∀ad:Addr,A=some ad→(∀(j:Nat) (u:Value),(l.map Value.string)[j]? =some u→w.cell? (ad.add j)=some u)→∃v' w',(Builtin.append_ #[49,49] 49 #[v,.slice A l.length c]).run Tryz.prog w=.ok v' w'∧w'.ownsRow S 9 1 v' (n+l.length) (xs++l.map Value.string)∧w.grownBy w' v.ownBlock∧(v'.ownBlock=v.ownBlock∨v'.ownBlock=some w.heap.size):=by
  rintro ad rfl hnews;obtain⟨v',w',h1,h2,h3,_,h5⟩:=run_append_own_at (P:=Tryz.prog) w S 49 49 9 i0 _ 1 16 Tryz.underlying49 hi0 hz0 hz1 hz2 rfl (by omega) v n xs hown ad l.length c (l.map Value.string) (by simp) hnews (by simp[Value.oneCell']) (by unfold maxLen;omega) (by omega) hS;exact⟨v',w',h1,h2,h3,h5⟩
 by_cases hl:0<l.length
 · exact some_case _ (hA hl) (fun j u hu=>by
    rw[Addr.add_mid];simp only[List.getElem?_map,Option.map_eq_some_iff] at hu;obtain⟨x,h1,rfl⟩:=hu;exact hcell j x h1)
 · have h0:l=[]:=List.eq_nil_of_length_eq_zero (by omega);subst h0;cases A with
   | some ad=>exact some_case ad rfl (fun j u hu=>by simp at hu)
   | none=>
    have key:∀(A':Option Addr) (n' cap:Nat),n'≤cap→(Builtin.append_ #[49,49] 49 #[.slice A' n' cap,.slice none 0 c]).run Tryz.prog w=.ok (.slice A' (n'+0) cap) w:=fun A' n' cap hle=>
     a4z (P:=Tryz.prog) (w:=w) (w':=w) (A:=A') (sLen:=n') (sCap:=cap) (m:=0) (x:=.slice none 0 c) (news:=[]) (ty:=49) Tryz.underlying49 Tryz.underlying49 (by intro k h;cases h) hi0 (by simp[Builtin.lenOf]) (run_firstCells_none w _ 0 0 c) (by omega) (fun ad _=>by simp[storeCells]) (fun _=>rfl)
    refine⟨v,w,?_,by simpa using hown,World.grownBy.refl _ _,.inl rfl⟩;rcases hown.2 with⟨rfl,_⟩| ⟨g,cap,cur,rfl,_,_,hnc,_⟩
    · exact key none 0 0 (Nat.le_refl _)
    · exact key _ n cap hnc
set_option maxRecDepth 100000 in
set_option maxHeartbeats 3200000 in
theorem f0r(lb lo c:Nat)(A:Option Addr)(LS:List (List ByteArray))(W0:World)(hA:0<LS.length→A=some ⟨lb,lo,none⟩)(hlen:LS.length≤1073741824)(hc:LS.length≤c)
 (hin:∀(i:Nat) (l:List ByteArray),LS[i]? =some l→∃v,W0.cell? ⟨lb,lo+i,none⟩=some v∧c4f W0 v l) (htot:LS.flatten.length≤1073741824):
 Calls Tryz.prog 99 #[.slice A LS.length c] W0 fun e w'=>∃v,e=.returned v∧Below W0.heap.size W0 w'∧w'.ownsRow W0.heap.size 9 1 v LS.flatten.length (LS.flatten.map Value.string):=by
 obtain⟨i0,hi0,hz0,hz1,hz2⟩:=info_parts h4z
 go_enter Tryz.func99,Tryz.ntmps99
 go_wp2_with fail
 go_loop [3,11] (fun sv iv=>∃k:Nat,k≤LS.length∧iv=.int .i64 k∧sv=.int .i64 (e6a LS k)) (fun _ iv=>LS.length - (intOf iv).toNat)
 case atStart=>exact⟨0,Nat.zero_le _,rfl,rfl⟩
 case round=>
  obtain⟨k,hk,rfl,rfl⟩:=hrel;have hle:=f2c LS k
  by_cases hlt:k<LS.length
  · obtain⟨l,hl⟩:∃l,LS[k]? =some l:=⟨_,List.getElem?_eq_getElem hlt⟩
    have hA':=hA (by omega);subst hA';obtain⟨v,hv,B,cc,b,o,rfl,hcc,hB,hcell⟩:=hin k l hl;have hle2:=f2c LS (k+1);obtain⟨hs,_⟩:=e1w hl;have hle3:e6a LS k+l.length≤LS.flatten.length:=by omega
    have Hs:=c9s hs;clear hcell hl hin hA hs hle2
    go_wp2_with fail
    all_goals
     go_round
     case rel=>exact⟨k+1,by omega,by go_num,by rw[Hs.out];go_num⟩
     case measure=>simp[intOf];omega
  · obtain⟨hs,_⟩:=f2d hlt;have Hs:=c9s hs;have Hin:=c9s hin;have HA:=c9s hA;have Htot:=c9s htot;have hb2:e6a LS k≤1073741824:=by omega
    clear hs hin hA htot hle
    go_wp2_with ((refine (e9l _ (by omega) _).mono ?_);rintro e w' ⟨v,rfl,hb,hown⟩)
    have HB:=c9s hb;have HO:=c9s hown;clear hb hown
    go_wp2_with fail
    go_loopw [6,27] (fun nv iv wr=>∃k:Nat,k≤LS.length∧iv=.int .i64 k∧Hid (Below W0.heap.size W0 wr)∧Hid (wr.ownsRow W0.heap.size 9 1 nv (e6a LS k) (h4k LS k))) (fun _ iv _=>LS.length - (intOf iv).toNat)
    case atStart=>exact⟨0,Nat.zero_le _,rfl,HB,c9s (by simpa [e6a,h4k] using HO.out)⟩
    case round=>
     obtain⟨k,hk,rfl,HB2,HO2⟩:=hrel
     by_cases hlt:k<LS.length
     · obtain⟨l,hl⟩:∃l,LS[k]? =some l:=⟨_,List.getElem?_eq_getElem hlt⟩
       have hA':=HA.out (by omega);subst hA';obtain⟨v2,hv2,hs2⟩:=Hin.out k l hl;have hle2:=f2c LS (k+1);obtain⟨q1,q2⟩:=e1w hl;have hS:=HB2.out.size;obtain⟨v',w',hq,ho,hg,_⟩:=i7w HO2.out hS (hs2.below HB2.out) (by have:=Htot.out;omega);obtain⟨B,cc,b,o,rfl,_⟩:=hs2;have hlb:lb<W0.heap.size:=World.block_lt_of_cell? W0 _ hv2;have hv3:wr.cell? ⟨lb,lo+k,none⟩=some (.slice B l.length cc):=(HB2.out.cell (p:=⟨lb,lo+k,none⟩) hlb).trans hv2;have hnb:∀j,u6.ownBlock=some j→W0.heap.size≤j:=fun j hj=>(HO2.out.lt j hj).1;have HB3:Hid (Below W0.heap.size W0 w'):=c9s (HB2.out.grown hg hS hnb);have HO3:Hid (w'.ownsRow W0.heap.size 9 1 v' (e6a LS (k+1)) (h4k LS (k+1))):=c9s (by rw[q1,q2];exact ho);clear hl hv2 hle2 q1 q2 hg ho hnb
       go_wp2_with (refine c1u (by rfl) (.tmp 31) (.tmp 32) 49 (by rfl) (by rfl) (by rfl) hq ?_)
       go_roundw
       case rel=>exact⟨k+1,by omega,by go_num,HB3,HO3⟩
       case measure=>simp[intOf];omega
     · go_wp2_with fail
       obtain⟨e1,e2⟩:=f2d hlt;have HO4:=HO2.out;rw[e1,e2] at HO4
       go_ret
       exact⟨_,rfl,HB2.out,HO4⟩
end Go.Kn
namespace Go.Av
open Go.Kn Go.Proofs
open Go.RowKit (Below)
theorem d0d{w:World}{V:Vis}{b sz:Nat}:∀ {es:List AVal} {l:List ByteArray} {o:Nat},d2x es=some l→b0v w V sz b o es→l.length=es.length∧(es≠[]→sz=1)∧∀(j:Nat) (x:ByteArray),l[j]? =some x→w.cell? ⟨b,o+j,none⟩=some (.string x)
 | [],l,o,h,_=>by simp only[d2x] at h;injection h with h;subst h;exact⟨rfl,fun h=>absurd rfl h,fun j x hx=>by simp at hx⟩
 | e::r,l,o,h,hr=>by
  unfold d2x at h;split at h
  · rename_i heq;cases heq
  · rename_i s r' heq;injection heq with e1 e2;subst e1;subst e2;obtain⟨l',h1,rfl⟩:=map_some h;obtain⟨⟨h2,_,x0,h4,h5⟩,h6⟩:=hr;have h5:x0=.string (ba s):=h5;subst h5;subst h2;obtain⟨q1,_,q3⟩:=d0d h1 h6;refine⟨by simp[q1],fun _=>rfl,fun j x hx=>?_⟩;cases j with
    | zero=>simp at hx;subst hx;simpa using h4
    | succ j=>rw[show o+(j+1)=o+1+j by omega];exact q3 j x (by simpa using hx)
  · cases h
theorem h8q{w:World}{V:Vis}{es:List AVal}{l:List ByteArray}{v:Value}(h:d2x es=some l)(hr:a1t w V (.slice es) v):c4f w v l:=by
 obtain⟨A,c,rfl,hc,hrow⟩:=hr;rcases hrow with rfl| ⟨g,o,sz,hA,hsz,hrow⟩
 · simp only[d2x] at h;injection h with h;subst h;exact⟨A,c,0,0,rfl,by simp,fun h=>absurd h (by simp),fun j x hx=>by simp at hx⟩
 · obtain⟨q1,q2,q3⟩:=d0d h hrow;exact⟨A,c,g,o,by rw[q1],by rw[q1];exact hc,fun _=>hA,q3⟩
theorem c7s{w:World}{V:Vis}{b sz:Nat}:∀ {es:List AVal} {LS:List (List ByteArray)} {o:Nat},c0r es=some LS→b0v w V sz b o es→LS.length=es.length∧∀(j:Nat) (l:List ByteArray),LS[j]? =some l→∃v,w.cell? ⟨b,o+j,none⟩=some v∧c4f w v l
 | [],l,o,h,_=>by simp only[c0r] at h;injection h with h;subst h;exact⟨rfl,fun j x hx=>by simp at hx⟩
 | e::r,l,o,h,hr=>by
  unfold c0r at h;split at h
  · rename_i heq;cases heq
  · rename_i es r' heq;injection heq with e1 e2;subst e1;subst e2;obtain⟨l0,h0,h⟩:=bind_some h;obtain⟨l',h1,rfl⟩:=map_some h;obtain⟨⟨h2,_,x0,h4,h5⟩,h6⟩:=hr;subst h2;obtain⟨q1,q3⟩:=c7s h1 h6;refine⟨by simp[q1],fun j x hx=>?_⟩;cases j with
    | zero=>simp at hx;subst hx;exact⟨x0,by simpa using h4,h8q h0 h5⟩
    | succ j=>rw[show o+(j+1)=o+1+j by omega];exact q3 j x (by simpa using hx)
  · cases h
theorem d4y:b0m Tryz.prog 99:=⟨Tryz.f99,_,Tryz.func99,by kernel_rfl,rfl⟩
theorem d1c:∀ {es:List AVal} {LS:List (List ByteArray)},c0r es=some LS→LS.length=es.length
 | [],l,h=>by simp only[c0r] at h;injection h with h;subst h;rfl
 | e::r,l,h=>by
  unfold c0r at h;split at h
  · rename_i heq;cases heq
  · rename_i es r' heq;injection heq with e1 e2;subst e1;subst e2;obtain⟨l0,h0,h⟩:=bind_some h;obtain⟨l',h1,rfl⟩:=map_some h;simp[d1c h1]
  · cases h
theorem d8w{F:World→Prop}:a4x Tryz.prog F fun f la H=>if f=99 then b4a la H else none:=by
 refine a4x.of_plain (fun f la H r hr=>?_) ?_
 · replace hr:(if f=99 then b4a la H else none)=some r:=hr;split at hr
   · unfold b4a at hr;split at hr
     · simp[a1k]
     · cases hr
   · cases hr
 intro f la H r hr xs w V T0 μ γ a0 hx hpl h hl hF hsl;replace hr:(if f=99 then b4a la H else none)=some r:=hr;split at hr
 case isFalse=>cases hr
 rename_i hf;subst hf;unfold b4a at hr;split at hr
 case h_2=>cases hr
 rename_i ls;obtain⟨LS,hLS,hr⟩:=bind_some hr;split at hr
 case isFalse=>cases hr
 rename_i hb;injection hr with hr;subst hr;refine⟨d4y,?_⟩;have hxs:∃x0,xs= #[x0]∧a1t w V (.slice ls) x0:=by
  cases hxl:xs.toList with
  | nil=>rw[hxl] at hx;exact hx.elim
  | cons x0 r=>
   rw[hxl] at hx;cases r with
   | cons _ _=>exact hx.2.elim
   | nil=>exact⟨x0,by apply Array.ext';simpa using hxl,hx.1⟩
 obtain⟨x0,rfl,A,c,rfl,hc,hrow⟩:=hxs;have hlen:=d1c hLS;have key:∃lb lo,(0<LS.length→A=some ⟨lb,lo,none⟩)∧∀(i:Nat) (l:List ByteArray),LS[i]? =some l→∃v,w.cell? ⟨lb,lo+i,none⟩=some v∧c4f w v l:=by
  rcases hrow with rfl| ⟨g,o,sz,hA,hsz,hrow⟩
  · have:LS=[]:=List.eq_nil_of_length_eq_zero hlen;subst this;exact⟨0,0,fun h=>absurd h (by simp),fun j x hx=>by simp at hx⟩
  · exact⟨g,o,fun _=>hA,(c7s hLS hrow).2⟩
 obtain⟨lb,lo,hA,hin⟩:=key;rw[←hlen] at hc hb⊢;refine (f0r lb lo c A LS w hA hb.1 hc hin hb.2).mono fun e w' ⟨v,he,hbl,ho⟩=>⟨v,he,?_⟩
 clear hr;generalize LS.flatten=FL at hb ho⊢
 let V':Vis:=fun g o=>V g o∨(v.ownBlock=some g∧o<FL.length)
 have hVlt:∀g o,V g o→g<w.heap.size:=h.vis;have hnew:∀g,v.ownBlock=some g→w.heap.size≤g∧g<w'.heap.size:=fun g hg=>ho.lt g hg;have hno:∀b g,μ b≠some g:=fun b g hb=>by
  obtain⟨cs,hc⟩:=h.dom b g hb;cases b<;>simp[a5q,St.box,a0i] at hc
 have hrep:a1t w' V' (.slice (FL.map e6c)) v:=by
  rcases ho.2 with⟨rfl,h0⟩| ⟨g,cap,cur,rfl,_,hg,hn,_,hsz,ht⟩
  · have:FL=[]:=List.eq_nil_of_length_eq_zero h0;rw[this];exact⟨none,0,rfl,Nat.le_refl _,.inl rfl⟩
  · refine⟨some ⟨g,0,none⟩,cap,by simp,by simpa using hn,.inr ⟨g,0,1,rfl,by decide,e0a fun j x hx=>?_⟩⟩;have hj:j<FL.length:=(List.getElem?_eq_some_iff.1 hx).1;refine⟨.inr ⟨rfl,by omega⟩,?_⟩;rw[Nat.zero_add,cell_of_row w' g j cur 9 (0,0) hg];have h2:(cur.toList.take (FL.length*1))[j]? =some (.string x):=by rw[ht];simp[hx]
    rw[List.getElem?_take_of_lt (by omega)] at h2;simpa using h2
 have hnb:∀b,(a2u (.slice (FL.map e6c)) []).box b=none:=fun b=>by cases b<;>simp[a2u,St.box,a0i]
 have hat:∀p T n es,(a2u (.slice (FL.map e6c)) []).at p≠some (.own T n es):=fun p T n es hp=>by
  cases p with
  | tmp k=>
   simp only[St.at,a2u,a0i] at hp;split at hp<;>simp at hp
  | cell b off=>simp only[St.at,hnb,Option.bind_none] at hp;cases hp
 refine⟨V',γ,⟨#[v],[]⟩,rfl,?_,?_,?_,.inl rfl⟩
 · refine {tm:=?_,bx:=fun b cs hb=>?_,dom:=fun b g hb=>(hno b g hb).elim,inj:=h.inj,visb:=fun b g hb=>(hno b g hb).elim,vis:=fun g o hv=>?_,ow:=fun p T n es x g hp=>(hat p T n es hp).elim,ow2:=fun p p' T n es T' n' es' x x' g hp=>(hat p T n es hp).elim,gq:=fun _ _ _=>trivial}
   · intro k u hu;simp only[a2u,a0i] at hu;split at hu
     · rename_i hk;injection hu with hu;subst hu;subst hk;exact⟨v,rfl,hrep⟩
     · cases hu
   · rw[hnb] at hb;cases hb
   · rcases hv with hv|hv
     · exact Nat.lt_of_lt_of_le (hVlt g o hv) hbl.size
     · exact (hnew g hv.1).2
 · refine⟨hbl.os,hbl.tape,hbl.output,hbl.size,fun g hg _=>hbl.block g hg,fun g o hv=>⟨.inl hv,.of (hbl.block g (hVlt g o hv))⟩,fun g o hv=>?_,hsl⟩;rcases hv with hv|hv
   · exact .inl hv
   · exact .inr (.inl (hnew g hv.1).1)
 · refine⟨fun b g hb=>(hno b g hb).elim,hl.par,fun p T n es x g hp=>(hat p T n es hp).elim⟩
end Go.Av
namespace Go.Av
open Go.Proofs Go.Shelf Go.RowKit Go.Lib Go.Kn
set_option maxHeartbeats 4000000
set_option maxRecDepth 100000
section
variable{P:Program}{ρ:Ren}
theorem d2d(L:SlLaysE0.n41 P ρ)(i0:TypeInfo)(z:Value)(size bytes:Nat)(hi:P.info? (ρ.t 23)=some i0)(hz0:i0.zero=some z)(hz1:i0.size=size)(hz2:i0.bytes=bytes)(hzs:z.cells.size=size)(hsz:0<size)
 (z23:∀w,(Go.sizeOf (ρ.t 23)).run P w=.ok size w) (ad:Addr) (c:Nat) (w:World):
 Calls P (ρ.f 41) #[.slice (some ad) 0 c] w fun e w'=>∃v',e=.returned v'∧w'.ownsRow w.heap.size (ρ.t 23) size v' 0 []∧Below w.heap.size w w':=by
 have mixed:=L.mixed;have t4:=L.t4;have a4:=L.a4;have z4:=L.z4;have v4:=L.v4;have t22:=L.t22;have a22:=L.a22;have z22:=L.z22;have v22:=L.v22;have q22:∀(w:World) (a:Option Addr) (n c n' c':Nat),(binOp .eql (ρ.t 22) (.slice a n c) (.slice none n' c')).run P w=.ok (.bool a.isNone) w:=fun w a n c n' c'=>Lib.run_eql_slice_nil w _ _ a n c n' c' L.t22;have u22:∀w,Sem.run P (underlying (ρ.t 22)) w=.ok (TypeDesc.slice (ρ.t 23)) w:=run_underlying t22;obtain⟨_,_,FG⟩:=L.f41
 go_enter FG,SlBodyN.n41_ntmps ρ
 go_wp2_with (at_builtin;refine wpList_append_own _ rfl _ _ (ρ.t 22) rfl w.heap.size (ρ.t 23) i0 z size bytes t22 hi hz0 hz1 hz2 hzs hsz _ _ _ rfl (World.ownsRow_made w #[] 0 (Nat.le_refl _) (Nat.zero_le _) (by simp)) ad 0 c [] rfl ?qc1 ?qc2 ?qc3 ?qc4 ?qc5 ?qc6 ?_)
 case qc1=>simp
 case qc2=>
  intro j u hj;simp at hj
 case qc3=>simp
 case qc4=>simp
 case qc5=>simp
 case qc6=>simp
 intro v' w1 hown hgrow hnil
 go_wp2
 go_ret
 refine⟨v',rfl,by simpa using hown,?_⟩;exact ((Below.refl _ w).alloc (Nat.le_refl _) _).grown hgrow (by simp) (by intro k hk;simp[Value.ownBlock] at hk;omega)
theorem i6v(L:SlLaysE0.n41 P ρ)(he:Go.Av.b0m P (ρ.f 41))(i0:TypeInfo)(z:Value)(hi:P.info? (ρ.t 23)=some i0)(hz0:i0.zero=some z)(hzs:z.cells.size=i0.size)(hsz:0<i0.size)
 (z23:∀w,(Go.sizeOf (ρ.t 23)).run P w=.ok i0.size w):h5o P (ρ.f 41) (ρ.t 23):=by
 have hcs:P.cellsOf (ρ.t 23)=i0.size:=by unfold Program.cellsOf;rw[hi];rfl
 have hbs:P.bytesOf (ρ.t 23)=i0.bytes:=by unfold Program.bytesOf;rw[hi];rfl
 refine⟨he,fun n c w=>AnyE.slices_Clone_nil L n c w,fun ad c w=>?_,?_⟩
 · refine (d2d L i0 z _ _ hi hz0 rfl rfl hzs hsz z23 ad c w).mono ?_;rintro e w' ⟨v',rfl,h1,h2⟩;refine⟨?_,h2⟩;rcases h1.2 with⟨rfl,_⟩| ⟨g,cap,cur,rfl,_⟩
   · exact⟨none,0,rfl⟩
   · exact⟨_,cap,rfl⟩
 · intro b off n c news w hl hn0 hn hb hc h1;rw[hcs] at hl⊢;rw[hbs] at hb;refine (AnyE.slices_Clone L i0 z _ _ hi hz0 rfl rfl hzs hsz z23 b off n c news w hl (by unfold maxLen;omega) ?_ hc h1).mono ?_
   · have:=Nat.mul_le_mul hn hb;omega
   · rintro e w' ⟨v',h1,h2,_,h3⟩;exact⟨v',h1,h2,h3⟩
end
theorem f6y{T:TypeId}(n:Nat)(h:((Tryz.prog.info? T).bind fun i=>i.zero.map fun z=>decide (z.cells.size=n)&&decide (i.size=n))=some true):∃i z,Tryz.prog.info? T=some i∧i.zero=some z∧z.cells.size=i.size∧i.size=n:=by
 cases hi:Tryz.prog.info? T with
 | none=>rw[hi] at h;cases h
 | some i=>
  rw[hi] at h;cases hz:i.zero with
  | none=>simp only[Option.bind_some,hz] at h;cases h
  | some z=>
   simp only[Option.bind_some,hz,Option.map_some,Option.some.injEq,Bool.and_eq_true,decide_eq_true_eq] at h;exact⟨i,z,rfl,hz,by omega,h.2⟩
end Go.Av
namespace Go.Av
open Go.Proofs Go.Shelf Go.RowKit Go.Lib Go.Kn
set_option maxHeartbeats 4000000
set_option maxRecDepth 100000
def k1o:Ren:=⟨fun|41=>221|n=>n,fun|22=>297|23=>300|n=>n,fun|n=>n⟩
theorem f6p:SlLaysE0.n41 Tryz.prog k1o where
 mixed:=by kernel_rfl
 f41:=⟨Tryz.f221.name,by kernel_rfl,Tryz.func221.trans (congrArg some (by kernel_rfl))⟩
 t4:=Tryz.underlying4
 a4:=Tryz.isAgg4
 z4:=Tryz.sizeOf4
 v4:=Tryz.zeroValue4
 t22:=Tryz.underlying297
 a22:=Tryz.isAgg297
 z22:=Tryz.sizeOf297
 v22:=Tryz.zeroValue297
theorem c1h:Go.Av.b0m Tryz.prog 221:=⟨Tryz.f221,_,Tryz.func221,by kernel_rfl,rfl⟩
theorem g9s:h5o Tryz.prog 221 300:=by
 obtain⟨i,z,h1,h2,h3,h4⟩:=f6y (T:=300) 2 (by kernel_rfl);exact i6v (ρ:=k1o) f6p c1h i z h1 h2 h3 (by omega) (by rw[h4];exact Tryz.sizeOf300)
theorem d8y(ad:Addr)(c:Nat)(w:World):Calls Tryz.prog 221 #[.slice (some ad) 0 c] w fun e w'=>∃v',e=.returned v'∧w'.ownsRow w.heap.size 300 2 v' 0 []∧Below w.heap.size w w':=by
 obtain⟨i,z,h1,h2,h3,h4⟩:=f6y (T:=300) 2 (by kernel_rfl);exact d2d (ρ:=k1o) f6p i z 2 _ h1 h2 h4 rfl (by omega) (by omega) Tryz.sizeOf300 ad c w
def b9g:List (List UInt8×List UInt8)→List Value
 | []=>[]
 | p::r=>.string ⟨p.1.toArray⟩:: .string ⟨p.2.toArray⟩::b9g r
theorem c7y:∀l,(b9g l).length=l.length*2
 | []=>rfl
 | p::r=>by simp only[b9g,List.length_cons,c7y r];omega
theorem d8h:∀l,∀u∈b9g l,u.oneCell'=true
 | [],u,h=>by cases h
 | p::r,u,h=>by
  simp only[b9g,List.mem_cons] at h;rcases h with rfl|rfl|h
  · rfl
  · rfl
  · exact d8h r u h
theorem d0q{w:World}{V:Vis}{g sz:Nat}:∀ {es:List AVal} {l:List (List UInt8×List UInt8)} {o:Nat},c0i es=some l→b0v w V sz g o es→es=l.map c9o∧∀(j:Nat) (x:Value),(b9g l)[j]? =some x→w.cell? ⟨g,o+j,none⟩=some x
 | [],l,o,h,_=>by simp only[c0i] at h;injection h with h;subst h;exact⟨rfl,fun j x hx=>by simp[b9g] at hx⟩
 | e::r,l,o,h,hr=>by
  unfold c0i at h;split at h
  · rename_i heq;cases heq
  · rename_i a b r' heq;injection heq with e1 e2;subst e1;subst e2;obtain⟨l',h1,rfl⟩:=map_some h;rw[a2y] at hr;simp only[cellsOf,a3b,List.length_cons,List.length_nil] at hr;obtain⟨⟨hsz,⟨_,x0,c0,q0⟩,⟨_,x1,c1,q1⟩,_⟩,hr⟩:=hr;have q0:x0=.string ⟨a.toArray⟩:=q0;have q1:x1=.string ⟨b.toArray⟩:=q1;subst q0;subst q1;have hsz:sz=2:=by omega
    subst hsz;obtain⟨i1,i2⟩:=d0q h1 hr;refine⟨by rw[i1];rfl,fun j x hx=>?_⟩
    match j,hx with
    | 0,hx=>simp[b9g] at hx;subst hx;exact c0
    | 1,hx=>simp[b9g] at hx;subst hx;exact c1
    | j+2,hx=>
     simp only[b9g,List.getElem?_cons_succ] at hx;have:=i2 j x hx
     rwa[show o+2+j=o+(j+2) by omega] at this
  · cases h
theorem e2q{w:World}{V:Vis}{g:Nat}:∀ {l:List (List UInt8×List UInt8)} {o:Nat},(∀(j:Nat) (x:Value),(b9g l)[j]? =some x→V g (o+j)∧w.cell? ⟨g,o+j,none⟩=some x)→b0v w V 2 g o (l.map c9o)
 | [],o,_=>by simp[b0v]
 | p::r,o,h=>by
  rw[List.map_cons,a2y];have h0:=h 0 _ rfl;have h1:=h 1 _ rfl;refine⟨⟨rfl,⟨h0.1,_,h0.2,rfl⟩,⟨h1.1,_,h1.2,rfl⟩,trivial⟩,e2q fun j x hx=>?_⟩;have:=h (j+2) x (by simpa [b9g] using hx)
  rwa[show o+(j+2)=o+2+j by omega] at this
theorem f0s{w:World}{V:Vis}{es:List AVal}{v:Value}{l:List (List UInt8×List UInt8)}(h:c0i es=some l)(hr:a1t w V (.slice es) v)(hl:l.length≤536870912):
 es=l.map c9o∧Calls Tryz.prog 221 #[v] w fun e w'=>∃v',e=.returned v'∧Below w.heap.size w w'∧w'.ownsRow w.heap.size 300 2 v' l.length (b9g l):=by
 obtain⟨_,c1,_,c3⟩:=g9s;obtain⟨A,c,rfl,hc,hrow⟩:=hr;rcases hrow with rfl| ⟨g,o,sz,rfl,hsz,hrow⟩
 · simp only[c0i] at h;injection h with h;subst h;refine⟨rfl,?_⟩;cases A with
   | none=>exact (c1 0 c w).mono fun e w' ⟨h1,h2⟩=>⟨_,h1,by rw[h2];exact Below.refl _ w,by simp[b9g],.inl ⟨rfl,rfl⟩⟩
   | some ad=>exact (d8y ad c w).mono fun e w' ⟨v',h1,h2,h3⟩=>⟨v',h1,h3,h2⟩
 · obtain⟨q1,q2⟩:=d0q h hrow;have hlen:es.length=l.length:=by rw[q1,List.length_map]
   refine⟨q1,?_⟩;have hcs:Tryz.prog.cellsOf 300=2:=by kernel_rfl
   have hbs:Tryz.prog.bytesOf 300≤32768:=of_decide_eq_true (by kernel_rfl);cases l with
   | nil=>
    have:es=[]:=by rw[q1];rfl
    subst this;exact (d8y ⟨g,o,none⟩ c w).mono fun e w' ⟨v',h1,h2,h3⟩=>⟨v',h1,h3,h2⟩
   | cons p r=>
    rw[hlen];refine (c3 g o (p::r).length c (b9g (p::r)) w (by rw[hcs,c7y]) (by simp) (by omega) hbs (fun j u hj=>q2 j u hj) (d8h _)).mono ?_;rintro e w' ⟨v',h1,h2,h3⟩;rw[hcs] at h2;exact⟨v',h1,h3,h2⟩
theorem d5a{F:World→Prop}:a4x Tryz.prog F fun f la H=>if f=221 then b4b la H else none:=by
 refine a4x.of_plain (fun f la H r hr=>?_) ?_
 · replace hr:(if f=221 then b4b la H else none)=some r:=hr;split at hr
   · unfold b4b at hr;split at hr
     · simp[a1k]
     · cases hr
   · cases hr
 intro f la H r hr xs w V T0 μ γ a0 hx hpl h hl hF hsl;replace hr:(if f=221 then b4b la H else none)=some r:=hr;split at hr
 case isFalse=>cases hr
 rename_i hf;subst hf;unfold b4b at hr;split at hr
 case h_2=>cases hr
 rename_i es;obtain⟨l,hL,hr⟩:=bind_some hr;split at hr
 case isFalse=>cases hr
 rename_i hb;injection hr with hr;subst hr;refine⟨c1h,?_⟩;have hxs:∃x0,xs= #[x0]∧a1t w V (.slice es) x0:=by
  cases hxl:xs.toList with
  | nil=>rw[hxl] at hx;exact hx.elim
  | cons x0 r=>
   rw[hxl] at hx;cases r with
   | cons _ _=>exact hx.2.elim
   | nil=>exact⟨x0,by apply Array.ext';simpa using hxl,hx.1⟩
 obtain⟨x0,rfl,hx0⟩:=hxs;obtain⟨hes,hcall⟩:=f0s hL hx0 hb;refine hcall.mono fun e w' ⟨v,he,hbl,ho⟩=>⟨v,he,?_⟩
 clear hr hcall;have hcs:Tryz.prog.cellsOf 300=2:=by kernel_rfl
 have hVlt:∀g o,V g o→g<w.heap.size:=h.vis;have hno:∀b g,μ b≠some g:=fun b g hb=>by
  obtain⟨cs,hc⟩:=h.dom b g hb;cases b<;>simp[a5q,St.box,a0i] at hc
 let V':Vis:=fun g o=>V g o∨(ownBlock v=some g∧o<l.length*2)
 let γ2:a7a:=fun p m=>if p=.tmp 0∧m=0 then some v else none
 have hnew:∀g,ownBlock v=some g→w.heap.size≤g∧g<w'.heap.size:=fun g hg=>by
  rcases ho.2 with⟨rfl,h0⟩| ⟨g',cap,cur,rfl,hlt,hgg,_⟩
  · cases hg
  · simp only[ownBlock] at hg;injection hg with hg;subst hg;refine⟨hlt,?_⟩;rcases Nat.lt_or_ge g' w'.heap.size with hlt2|hge
    · exact hlt2
    · rw[Array.getElem?_eq_none hge] at hgg;cases hgg
 have hown:j5n Tryz.prog w' V' 300 (l.map c9o) v:=by
  rcases ho.2 with⟨rfl,h0⟩| ⟨g,cap,cur,rfl,_,hg,hn,_,hsz,ht⟩
  · have:l=[]:=List.eq_nil_of_length_eq_zero h0;rw[this];exact .inl ⟨rfl,rfl⟩
  · refine .inr ⟨g,cap,cur,by rw[List.length_map],by rw[List.length_map];exact hn,hg,by rw[hcs];exact hsz,by rw[hcs];decide,?_⟩;rw[hcs];refine e2q fun j x hx=>?_;have hj:j<l.length*2:=by have:=(List.getElem?_eq_some_iff.1 hx).1;rwa[c7y] at this
    refine⟨.inr ⟨rfl,by omega⟩,?_⟩;rw[Nat.zero_add,cell_of_row w' g j cur 300 (0,0) hg];have h2:(cur.toList.take (l.length*2))[j]? =some x:=by rw[ht];exact hx
    rw[List.getElem?_take_of_lt hj] at h2;simpa using h2
 have hnb:∀b,(a2u (.own 300 0 (l.map c9o)) []).box b=none:=fun b=>by cases b<;>simp[a2u,St.box,a0i]
 have hat:∀p T n fs,(a2u (.own 300 0 (l.map c9o)) []).at p=some (.own T n fs)→p=.tmp 0∧T=300∧n=0∧fs=l.map c9o:=fun p T n fs hp=>by
  cases p with
  | tmp k=>
   simp only[St.at,a2u,a0i] at hp;split at hp
   · rename_i hk;injection hp with hp;injection hp with e1 e2 e3;exact⟨by rw[←hk],e1.symm,e2.symm,e3.symm⟩
   · cases hp
  | cell b off=>simp only[St.at,hnb,Option.bind_none] at hp;cases hp
 refine⟨V',γ2,⟨#[v],[]⟩,rfl,?_,?_,?_,.inr ⟨_,_,_,rfl⟩⟩
 · refine {tm:=?_,bx:=fun b cs hb=>(by rw[hnb] at hb;cases hb),dom:=fun b g hb=>(hno b g hb).elim,inj:=h.inj,visb:=fun b g hb=>(hno b g hb).elim,vis:=fun g o hv=>?_,ow:=?_,ow2:=?_,gq:=fun _ _ _=>trivial}
   · intro k u hu;simp only[a2u,a0i] at hu;split at hu
     · rename_i hk;injection hu with hu;subst hu;subst hk;exact⟨v,rfl,.ofS (by decide) hown,by simp[γ2]⟩
     · cases hu
   · rcases hv with hv|hv
     · exact Nat.lt_of_lt_of_le (hVlt g o hv) hbl.size
     · exact (hnew g hv.1).2
   · intro p T n fs x g' hp hy hg;obtain⟨rfl,rfl,rfl,rfl⟩:=hat p T n fs hp;simp only[γ2,and_self,if_true] at hy;injection hy with hy;subst hy;refine⟨fun b=>hno b _,fun o hv=>?_⟩;rw[hcs,List.length_map];rcases hv with hv|hv
     · have:=hVlt _ _ hv;have:=(hnew _ hg).1;omega
     · exact hv.2
   · intro p p' T n fs T' n' fs' x x' g hp hp' _ _ _ _;exact (hat p T n fs hp).1.trans (hat p' T' n' fs' hp').1.symm
 · refine⟨hbl.os,hbl.tape,hbl.output,hbl.size,fun g hg _=>hbl.block g hg,fun g o hv=>⟨.inl hv,.of (hbl.block g (hVlt g o hv))⟩,fun g o hv=>?_,hsl⟩;rcases hv with hv|hv
   · exact .inl hv
   · exact .inr (.inl (hnew g hv.1).1)
 · refine⟨fun b g hb=>(hno b g hb).elim,hl.par,fun p T n fs x g' hp hy hg=>?_⟩;obtain⟨rfl,rfl,rfl,rfl⟩:=hat p T n fs hp;simp only[γ2,and_self,if_true] at hy;injection hy with hy;subst hy;exact .inr (hnew _ hg).1
end Go.Av
