/- The maps of the data types that are declared, and lists one behind the other: two functions walked in the model itself. -/
import Derived.MapKept
import Derived.Test.YtjfghnkmladbkaaGreatDoorAvD
import Derived.Laws.AppendOwn
import Derived.Below
import Derived.Maps.AppendAt
import Derived.Test.YtjfghnkmladbkaaGreatDoorProg
import Derived.KernelRfl
import Derived.WalkKit
import Derived.WalkSpells
import Derived.OwnWalk
import Derived.Deep.RegionHeld3
import Derived.Deep.AppendLies
import Derived.Deep.MidRow
import Derived.Deep.DrawnRows
import Derived.Shelf.Spec.SlicesGrow
namespace Go.Kn
open Go.RowKit (Below)
def Ent{α:Type}(R:α→Value→Prop):List (ByteArray×α)→List MapEntry→Prop
 | [],[]=>True
 | p::l,m::ms=>(m.key=.string p.1∧R p.2 m.val)∧Ent R l ms
 | _,_=>False
open Classical in
noncomputable def b8r (k:ByteArray) (y:Value) (c:Nat):List MapEntry→List MapEntry
 | []=>[⟨.string k,y,c⟩]
 | m::ms=>if m.key=.string k then {m with key:=.string k,val:=y}::ms else m::b8r k y c ms
open Classical in
noncomputable def a6f (k:ByteArray):List MapEntry→Option Value
 | []=>none
 | m::ms=>if m.key=.string k then some m.val else a6f k ms
theorem c2w{k:ByteArray}{u:Value}:∀ {ms:List MapEntry},a6f k ms=some u→∃m∈ms,m.val=u
 | [],h=>by cases h
 | m::ms,h=>by
  rw[a6f] at h;split at h
  · injection h with h;exact⟨m,by simp,h⟩
  · obtain⟨m',h1,h2⟩:=c2w h;exact⟨m',by simp[h1],h2⟩
def Ap(m m':MapEntry):Prop:=m.val.ownBlock=none∨m.val.ownBlock≠m'.val.ownBlock
theorem Ap.symm{m m':MapEntry}(h:Ap m m'):Ap m' m:=by
 unfold Ap at *;cases h1:m'.val.ownBlock with
 | none=>exact .inl rfl
 | some b=>
  rcases h with h|h
  · rw[h];exact .inr (by simp)
  · rw[h1] at h;exact .inr (Ne.symm h)
theorem Ent.imp{α:Type}{R R':α→Value→Prop}:∀ {l:List (ByteArray×α)} {ms:List MapEntry},Ent R l ms→(∀p∈l,∀m∈ms,R p.2 m.val→R' p.2 m.val)→Ent R' l ms
 | [],[],_,_=>trivial
 | p::l,m::ms,h,hi=>⟨⟨h.1.1,hi p (by simp) m (by simp) h.1.2⟩,Ent.imp h.2 fun p hp m hm=>hi p (by simp[hp]) m (by simp[hm])⟩
 | [],_::_,h,_=>h.elim
 | _::_,[],h,_=>h.elim
theorem g5q(a b:ByteArray):Instr.sameNow .string (.string a) (.string b)=some (decide (a=b)):=by
 obtain⟨r,hr,hiff⟩:=MapKept.sameNow_of_keys (d:=.string) (a:=.string a) (b:=.string b) trivial trivial;rw[hr]
 congr 1
 by_cases h:a=b
 · rw[decide_eq_true h];exact hiff.2 (by rw[h])
 · rw[decide_eq_false h];cases r with
   | false=>rfl
   | true=>have:=hiff.1 rfl;injection this with this;exact absurd this h
theorem d5l{α:Type}{R:α→Value→Prop}(k:ByteArray):∀ {l:List (ByteArray×α)} {ms:List MapEntry} (i:Nat),Ent R l ms→
 (Instr.findNow .string (.string k) ms i=some none∧a6f k ms=none∧look k l=none∧(∀y c,b8r k y c ms=ms++[⟨.string k,y,c⟩])∧∀v,upd k v l=l++[(k,v)])∨
 ∃j m v,Instr.findNow .string (.string k) ms i=some (some (i+j,m.val))∧ms[j]? =some m∧m.key=.string k∧a6f k ms=some m.val∧look k l=some v∧R v m.val∧∀y c,b8r k y c ms=ms.modify j fun e=>{e with key:=.string k,val:=y}
 | [],[],i,_=>.inl ⟨rfl,rfl,rfl,fun _ _=>rfl,fun _=>rfl⟩
 | [],_::_,_,h=>h.elim
 | _::_,[],_,h=>h.elim
 | p::l,m::ms,i,h=>by
  have hs:Instr.sameNow .string (.string k) m.key=some (decide (k=p.1)):=by rw[h.1.1];exact g5q k p.1
  by_cases hk:p.1=k
  · have hd:decide (k=p.1)=true:=decide_eq_true hk.symm;rw[hd] at hs;have hmk:m.key=.string k:=by rw[h.1.1,hk]
    exact .inr ⟨0,m,p.2,by simp[Instr.findNow,hs],rfl,hmk,by simp[a6f,hmk],by simp[look,hk],h.1.2,fun y c=>by simp[b8r,hmk]⟩
  · have hd:decide (k=p.1)=false:=decide_eq_false fun e=>hk e.symm;rw[hd] at hs;have hmk:m.key≠ .string k:=by rw[h.1.1];intro e;injection e with e;exact hk e
    rcases d5l k (i+1) h.2 with⟨h1,h1',h2,h3,h4⟩| ⟨j,m',v,h1,h2,h3,h3',h4,h5,h6⟩
    · exact .inl ⟨by simp[Instr.findNow,hs,h1],by simp[a6f,hmk,h1'],by simp[look,hk,h2],fun y c=>by simp[b8r,hmk,h3],fun v=>by simp[upd,hk,h4]⟩
    · refine .inr ⟨j+1,m',v,by simp[Instr.findNow,hs,h1];omega,by simpa using h2,h3,by simp[a6f,hmk,h3'],by simp[look,hk,h4],h5,fun y c=>?_⟩;simp[b8r,hmk,h6]
theorem g1a{α:Type}{R:α→Value→Prop}(k:ByteArray){v:α}{y:Value}(c:Nat)(hv:R v y):∀ {l:List (ByteArray×α)} {ms:List MapEntry},Ent R l ms→Ent R (upd k v l) (b8r k y c ms)
 | [],[],_=>⟨⟨rfl,hv⟩,trivial⟩
 | [],_::_,h=>h.elim
 | _::_,[],h=>h.elim
 | p::l,m::ms,h=>by
  by_cases hk:p.1=k
  · have hmk:m.key=.string k:=by rw[h.1.1,hk]
    simp only[upd,hk,if_true,b8r,hmk];exact⟨⟨rfl,hv⟩,h.2⟩
  · have hmk:m.key≠ .string k:=by rw[h.1.1];intro e;injection e with e;exact hk e
    simp only[upd,hk,if_false,b8r,hmk];exact⟨h.1,g1a k c hv h.2⟩
theorem e5a{k:ByteArray}{y:Value}{c:Nat}:∀ {ms:List MapEntry} {m:MapEntry},m∈b8r k y c ms→m.val=y∨m∈ms
 | [],m,h=>by simp[b8r] at h;left;rw[h]
 | m0::ms,m,h=>by
  rw[b8r] at h;split at h
  · rcases List.mem_cons.1 h with rfl|h
    · exact .inl rfl
    · exact .inr (by simp[h])
  · rcases List.mem_cons.1 h with rfl|h
    · exact .inr (by simp)
    · rcases e5a h with h|h
      · exact .inl h
      · exact .inr (by simp[h])
theorem g1b{α:Type}{R R':α→Value→Prop}{k:ByteArray}{v:α}{y u:Value}{c:Nat}(hy:R' v y):∀ {l:List (ByteArray×α)} {ms:List MapEntry},Ent R l ms→ms.Pairwise Ap→(a6f k ms=some u∨a6f k ms=none∧u.ownBlock=none)→
 (∀p x,R p x→(x.ownBlock=none∨x.ownBlock≠u.ownBlock)→R' p x)→Ent R' (upd k v l) (b8r k y c ms)
 | [],[],_,_,_,_=>⟨⟨rfl,hy⟩,trivial⟩
 | [],_::_,h,_,_,_=>h.elim
 | _::_,[],h,_,_,_=>h.elim
 | p::l,m::ms,h,hp,hu,hi=>by
  rw[List.pairwise_cons] at hp
  by_cases hk:p.1=k
  · have hmk:m.key=.string k:=by rw[h.1.1,hk]
    simp only[upd,hk,if_true,b8r,hmk];have hmu:m.val=u:=by
     rcases hu with hu| ⟨hu,_⟩
     · simp only[a6f,hmk,if_true] at hu;injection hu
     · simp only[a6f,hmk,if_true] at hu;cases hu
    refine⟨⟨rfl,hy⟩,h.2.imp fun q _ m' hm' hr=>hi _ _ hr ?_⟩;have:=(hp.1 m' hm').symm;unfold Ap at this;rw[hmu] at this;exact this
  · have hmk:m.key≠ .string k:=by rw[h.1.1];intro e;injection e with e;exact hk e
    simp only[upd,hk,if_false,b8r,hmk];have hu':a6f k ms=some u∨a6f k ms=none∧u.ownBlock=none:=by simpa only[a6f,hmk,if_false] using hu
    refine⟨⟨h.1.1,hi _ _ h.1.2 ?_⟩,g1b hy h.2 hp.2 hu' hi⟩;rcases hu' with h1| ⟨_,h1⟩
    · obtain⟨m',h2,h3⟩:=c2w h1;rw[←h3];exact hp.1 m' h2
    · rw[h1];cases m.val.ownBlock<;>simp
theorem h7j{k:ByteArray}{y u:Value}{c:Nat}:∀ {ms:List MapEntry},ms.Pairwise Ap→(a6f k ms=some u∨a6f k ms=none∧u.ownBlock=none)→
 (y.ownBlock=u.ownBlock∨∀m∈ms,m.val.ownBlock≠y.ownBlock)→(b8r k y c ms).Pairwise Ap
 | [],_,_,_=>by simp[b8r]
 | m::ms,hp,hu,hy=>by
  rw[List.pairwise_cons] at hp;rw[b8r];split
  · rename_i hmk;have hmu:m.val=u:=by
     rcases hu with hu| ⟨hu,_⟩
     · simp only[a6f,hmk,if_true] at hu;injection hu
     · simp only[a6f,hmk,if_true] at hu;cases hu
    rw[List.pairwise_cons];refine⟨fun m' hm'=>?_,hp.2⟩;rcases hy with hy|hy
    · have:=hp.1 m' hm';unfold Ap at *;simp only;rw[hy,←hmu];exact this
    · exact .inr (Ne.symm (hy m' (by simp[hm'])))
  · rename_i hmk;have hu':a6f k ms=some u∨a6f k ms=none∧u.ownBlock=none:=by simpa only[a6f,hmk,if_false] using hu
    rw[List.pairwise_cons];refine⟨fun m' hm'=>?_,h7j hp.2 hu' (hy.imp id fun h m' hm'=>h m' (by simp[hm']))⟩;rcases e5a hm' with h|h
    · unfold Ap;rw[h];rcases hy with hy|hy
      · rw[hy];rcases hu' with h1| ⟨_,h1⟩
        · obtain⟨m1,h2,h3⟩:=c2w h1;rw[←h3];exact hp.1 m1 h2
        · rw[h1];cases m.val.ownBlock<;>simp
      · exact .inr (hy m (by simp))
    · exact hp.1 m' h
theorem a0g{P:Program}{t:TypeId}{d:TypeDesc}{w:World}(h:P.underlying t=some d):(underlying t).run P w=.ok d w:=run_underlying h w
section
variable{P:Program}{g:Nat}{e:Array MapEntry}{c:Nat}{T kt et:TypeId}{α:Type}{R:α→Value→Prop}{l:List (ByteArray×α)}
def b8w(w:World)(g:Nat)(o:Obj):World:={w with heap:=w.heap.setIfInBounds g o}
theorem g5t(he:Ent R l e.toList)(hT:P.underlying T=some (.map kt et))(hk:P.underlying kt=some .string){z:Value}(hz:∀w,(zeroValue et).run P w=.ok z w)(k:ByteArray):
 ∃x,(∀w:World,w.heap[g]? =some (.map e c)→(Instr.lookup T (.map (some g)) (.string k) false).run P w=.ok x w)∧((a6f k e.toList=none∧look k l=none∧x=z)∨∃v,a6f k e.toList=some x∧look k l=some v∧R v x):=by
 rcases d5l k 0 he with⟨h1,h1',h2,_⟩| ⟨j,m,v,h1,h2,h3,h3',h4,h5,_⟩
 · exact⟨z,fun w hb=>by simp[Instr.lookup,a0g hT,MapKept.run_getObj_map hb,MapKept.run_checkKey (d:=.string) (k:=.string k) hk trivial,MapKept.run_findKey hk h1,hz],.inl ⟨h1',h2,rfl⟩⟩
 · exact⟨m.val,fun w hb=>by simp[Instr.lookup,a0g hT,MapKept.run_getObj_map hb,MapKept.run_checkKey (d:=.string) (k:=.string k) hk trivial,MapKept.run_findKey hk h1],.inr ⟨v,h3',h4,h5⟩⟩
theorem f5a(he:Ent R l e.toList)(hT:P.underlying T=some (.map kt et))(hk:P.underlying kt=some .string)(k:ByteArray):
 ∃c',∀(w:World) (y:Value),w.heap[g]? =some (.map e c)→(Instr.mapUpdate T (.map (some g)) (.string k) y).run P w=.ok () (b8w w g (.map (b8r k y c e.toList).toArray c')):=by
 rcases d5l k 0 he with⟨h1,_,_,h3,_⟩| ⟨j,m,v,h1,h2,h3,_,_,_,h6⟩
 · refine⟨c+1,fun w y hb=>?_⟩;rw[h3];simp[b8w,Instr.mapUpdate,a0g hT,MapKept.run_getObj_map hb,MapKept.run_checkKey (d:=.string) (k:=.string k) hk trivial,MapKept.run_findKey hk h1,MapKept.run_setObj_map _ hb]
   try (congr 2;apply Array.ext';simp)
 · refine⟨c,fun w y hb=>?_⟩;rw[h6];rw[Nat.zero_add] at h1;have h2':e[j]? =some m:=by simpa using h2
   simp[b8w,Instr.mapUpdate,a0g hT,MapKept.run_getObj_map hb,MapKept.run_checkKey (d:=.string) (k:=.string k) hk trivial,MapKept.run_findKey hk h1,h2',h3,MapKept.run_keyThatStays (d:=.string) (k:=.string k) trivial,MapKept.run_setObj_map _ hb]
   try (congr 2;apply Array.ext';simp)
end
end Go.Kn
namespace Go.Kn
open Go.RowKit (Below)
open Go.Proofs
theorem j1s(w:World):(zeroValue 49).run Tryz.prog w=.ok (.slice none 0 0) w:=by kernel_rfl
abbrev Rs(w:World)(S:Nat)(l:List ByteArray)(v:Value):Prop:=w.ownsRow (S+4) 9 1 v l.length (l.map Value.string)
structure KI (W0 w:World) (ar:List (ByteArray×Int)) (cs:List (ByteArray×List ByteArray)) (N:Nat):Prop where
 below:Below W0.heap.size W0 w
 tab:w.heap[W0.heap.size+3]? =some (.cells #[.map (some W0.heap.size),.map (some (W0.heap.size+1)),.map (some (W0.heap.size+2))] 163 (0,0))
 con:w.heap[W0.heap.size+2]? =some (.map #[] 0)
 arE:∃e c,w.heap[W0.heap.size]? =some (.map e c)∧Ent (fun n v=>v=.int .i64 n) ar e.toList
 csE:∃e c,w.heap[W0.heap.size+1]? =some (.map e c)∧Ent (Rs w W0.heap.size) cs e.toList∧
  e.toList.Pairwise Ap
 len:∀p∈cs,p.2.length≤N
theorem c2m{w:World}{g:Nat}{o:Obj}(h:w.heap[g]? =some o):g<w.heap.size:=(Array.getElem?_eq_some_iff.1 h).1
section
variable{W0 w w':World}{ar:List (ByteArray×Int)}{cs:List (ByteArray×List ByteArray)}{N:Nat}
theorem KI.size(h:KI W0 w ar cs N):W0.heap.size+3<w.heap.size:=c2m h.tab
theorem b8l(hb:Below w.heap.size w w'):w.grownBy w' none:=⟨hb.os,hb.tape,hb.output,hb.size,fun k hk _=>hb.block k hk⟩
theorem KI.later(h:KI W0 w ar cs N)(hb:Below w.heap.size w w'):KI W0 w' ar cs N:=by
 have hs:=h.size;refine⟨h.below.trans (hb.mono (by omega)),(hb.block _ hs).trans h.tab,(hb.block _ (by omega)).trans h.con,?_,?_,h.len⟩
 · obtain⟨e,c,h1,h2⟩:=h.arE;exact⟨e,c,(hb.block _ (by omega)).trans h1,h2⟩
 · obtain⟨e,c,h1,h2,h3⟩:=h.csE;refine⟨e,c,(hb.block _ (by omega)).trans h1,h2.imp fun p _ m _ hr=>?_,h3⟩;refine World.ownsRow.kept hr (b8l hb) ?_;cases m.val.ownBlock<;>simp
theorem c6w{g:Nat}{o o':Obj}(h:w.heap[g]? =some o):(b8w w g o').heap[g]? =some o':=by
 have:=c2m h;simp[b8w,this]
theorem b1i{g i:Nat}{o':Obj}(h:i≠g):(b8w w g o').heap[i]? =w.heap[i]? :=by simp[b8w,Ne.symm h]
theorem c1x{g B:Nat}{o':Obj}(h:B≤g):Below B w (b8w w g o'):=⟨rfl,rfl,rfl,by simp[b8w],fun k hk=>b1i (by omega)⟩
theorem d0o{g:Nat}{o':Obj}:w.grownBy (b8w w g o') (some g):=⟨rfl,rfl,rfl,by simp[b8w],fun k hk hne=>b1i fun e=>hne (by rw[e])⟩
theorem Ent.any{α:Type}{R:α→Value→Prop}:∀ {l:List (ByteArray×α)} {ms:List MapEntry},Ent R l ms→∀m∈ms,∃p,R p m.val
 | [],[],_,_,h=>by cases h
 | p::l,m0::ms,h,m,hm=>by
  rcases List.mem_cons.1 hm with rfl|hm
  · exact⟨_,h.1.2⟩
  · exact Ent.any h.2 m hm
 | [],_::_,h,_,_=>h.elim
 | _::_,[],h,_,_=>h.elim
theorem KI.arity(h:KI W0 w ar cs N)(k:ByteArray)(n:Int):∃e c o,w.heap[W0.heap.size]? =some (.map e c)∧(∀w1:World,w1.heap[W0.heap.size]? =some (.map e c)→(Instr.mapUpdate 159 (.map (some W0.heap.size)) (.string k) (.int .i64 n)).run Tryz.prog w1=.ok () (b8w w1 W0.heap.size o))∧
 ∀w1:World,KI W0 w1 ar cs N→KI W0 (b8w w1 W0.heap.size o) (upd k n ar) cs N:=by
 obtain⟨e,c,h1,h2⟩:=h.arE;obtain⟨c',hr⟩:=f5a (P:=Tryz.prog) (g:=W0.heap.size) (c:=c) h2 Tryz.underlying159 Tryz.underlying9 k;refine⟨e,c,_,h1,fun w1 hw=>hr w1 _ hw,fun w1 hk=>?_⟩;have hs:=hk.size;obtain⟨e1,c1,h3,h4⟩:=hk.arE;refine⟨hk.below.trans (c1x (Nat.le_refl _)),(b1i (by omega)).trans hk.tab,(b1i (by omega)).trans hk.con,⟨_,_,c6w h3,by simpa using g1a (R:=fun (n:Int) v=>v=.int .i64 n) k c rfl h2⟩,?_,hk.len⟩;obtain⟨e2,c2,h5,h6,h7⟩:=hk.csE;refine⟨e2,c2,(b1i (by omega)).trans h5,h6.imp fun p _ m _ hr=>?_,h7⟩;refine World.ownsRow.kept hr d0o (.inr fun e=>?_);have:=(hr.lt _ e).1;omega
theorem f7m{α:Type}{k:ByteArray}{v:α}:∀ {l:List (ByteArray×α)} {p:ByteArray×α},p∈upd k v l→p.2=v∨p∈l
 | [],p,h=>by simp[upd] at h;left;rw[h]
 | q::l,p,h=>by
  rw[upd] at h;split at h
  · rcases List.mem_cons.1 h with rfl|h
    · exact .inl rfl
    · exact .inr (by simp[h])
  · rcases List.mem_cons.1 h with rfl|h
    · exact .inr (by simp)
    · rcases f7m h with h|h
      · exact .inl h
      · exact .inr (by simp[h])
theorem e5b{α:Type}{k:ByteArray}{v:α}:∀ {l:List (ByteArray×α)},look k l=some v→∃p∈l,p.2=v
 | [],h=>by cases h
 | q::l,h=>by
  rw[look] at h;split at h
  · injection h with h;exact⟨q,by simp,h⟩
  · obtain⟨p,h1,h2⟩:=e5b h;exact⟨p,by simp[h1],h2⟩
theorem KI.append(h:KI W0 w ar cs N)(k:ByteArray):∃(e:Array MapEntry) (c:Nat) (u:Value) (l:List ByteArray) (o:Value→Obj),w.heap[W0.heap.size+1]? =some (.map e c)∧l=(look k cs).getD []∧Rs w W0.heap.size l u∧l.length≤N∧
 (∀w1:World,w1.heap[W0.heap.size+1]? =some (.map e c)→(Instr.lookup 160 (.map (some (W0.heap.size+1))) (.string k) false).run Tryz.prog w1=.ok u w1)∧
 (∀(w1:World) (y:Value),w1.heap[W0.heap.size+1]? =some (.map e c)→(Instr.mapUpdate 160 (.map (some (W0.heap.size+1))) (.string k) y).run Tryz.prog w1=.ok () (b8w w1 (W0.heap.size+1) (o y)))∧
 ∀(wa w1:World) (y:Value) (x:ByteArray),Below w.heap.size w wa→wa.grownBy w1 u.ownBlock→Rs w1 W0.heap.size (l++[x]) y→(y.ownBlock=u.ownBlock∨∃g,y.ownBlock=some g∧w.heap.size≤g)→KI W0 (b8w w1 (W0.heap.size+1) (o y)) ar (upd k (l++[x]) cs) (N+1):=by
 obtain⟨e,c,h1,h2,h3⟩:=h.csE;obtain⟨u,hl,hu⟩:=g5t (P:=Tryz.prog) (g:=W0.heap.size+1) (c:=c) h2 Tryz.underlying160 Tryz.underlying9 j1s k;obtain⟨c',hr⟩:=f5a (P:=Tryz.prog) (g:=W0.heap.size+1) (c:=c) h2 Tryz.underlying160 Tryz.underlying9 k;have hRs:Rs w W0.heap.size ((look k cs).getD []) u:=by
  rcases hu with⟨_,h4,h5⟩| ⟨v,_,h4,h5⟩
  · rw[h4,h5];exact World.ownsRow_nil _ _ _ _
  · rw[h4];exact h5
 have hlen:((look k cs).getD []).length≤N:=by
  rcases hu with⟨_,h4,h5⟩| ⟨v,_,h4,h5⟩
  · rw[h4];simp
  · rw[h4];obtain⟨p,h6,h7⟩:=e5b h4;have:=h.len p h6;rw[h7] at this;exact this
 have hfu:a6f k e.toList=some u∨a6f k e.toList=none∧u.ownBlock=none:=by
  rcases hu with⟨h4,_,h5⟩| ⟨v,h4,_,_⟩
  · exact .inr ⟨h4,by rw[h5];rfl⟩
  · exact .inl h4
 refine⟨e,c,u,_,fun y=>.map (b8r k y c e.toList).toArray c',h1,rfl,hRs,hlen,hl,fun w1 y hw=>hr w1 y hw,fun wa w1 y x hb hg hy hby=>?_⟩;have hs:=h.size;have hub:∀g,u.ownBlock=some g→W0.heap.size+4≤g:=fun g hg=>(hRs.lt g hg).1;have old:∀i,i<w.heap.size→some i≠u.ownBlock→w1.heap[i]? =w.heap[i]? :=fun i hi hne=>(hg.block i (Nat.lt_of_lt_of_le hi hb.size) hne).trans (hb.block i hi);have nu:∀i,i<W0.heap.size+4→some i≠u.ownBlock:=fun i hi e=>by have:=hub i e.symm;omega
 have hyb:∀g,y.ownBlock=some g→W0.heap.size+4≤g:=fun g hg=>(hy.lt g hg).1;refine⟨?_,(b1i (by omega)).trans ((old _ hs (nu _ (by omega))).trans h.tab),(b1i (by omega)).trans ((old _ (by omega) (nu _ (by omega))).trans h.con),?_,?_,fun p hp=>?_⟩
 · refine (h.below.trans (hb.mono (by omega))).trans ?_ |>.trans (c1x (by omega))
   exact⟨hg.os,hg.tape,hg.output,hg.size,fun i hi=>hg.block i (by have:=hb.size;omega) (nu i (by omega))⟩
 · obtain⟨e1,c1,h5,h6⟩:=h.arE;exact⟨e1,c1,(b1i (by omega)).trans ((old _ (by omega) (nu _ (by omega))).trans h5),h6⟩
 · have hm1:w1.heap[W0.heap.size+1]? =some (.map e c):=(old _ (by omega) (nu _ (by omega))).trans h1;have keep2:∀(l:List ByteArray) (x:Value),Rs w1 W0.heap.size l x→Rs (b8w w1 (W0.heap.size+1) (.map (b8r k y c e.toList).toArray c')) W0.heap.size l x:=fun l x hr=>by
    refine World.ownsRow.kept hr d0o (.inr fun e=>?_);have:=(hr.lt _ e).1;omega
   refine⟨_,_,c6w hm1,?_,?_⟩
   · have:=g1b (R:=Rs w W0.heap.size) (R':=Rs (b8w w1 (W0.heap.size+1) (.map (b8r k y c e.toList).toArray c')) W0.heap.size) (k:=k) (c:=c) (keep2 _ _ hy) h2 h3 hfu (fun p x hr hne=>keep2 _ _ ?_)
     · simpa using this
     · refine World.ownsRow.kept (World.ownsRow.kept hr (b8l hb) ?_) hg hne;cases x.ownBlock<;>simp
   · have hne:y.ownBlock=u.ownBlock∨∀m∈e.toList,m.val.ownBlock≠y.ownBlock:=hby.imp id fun ⟨g,hyg,hge⟩ m hm e1=>by
      obtain⟨p,hp⟩:=h2.any m hm;rw[hyg] at e1;have:=(hp.lt g e1).2;omega
     have:=h7j (k:=k) (y:=y) (c:=c) h3 hfu hne;simpa using this
 · rcases f7m hp with h1|h1
   · rw[h1];simp;omega
   · have:=h.len p h1;omega
end
end Go.Kn
namespace Go.Kn
open Go.RowKit Go.Proofs
theorem c0t(w:World)(o:Obj):(w.alloc o).heap[w.heap.size]? =some o:=(MapKept.heap_alloc w o).1
theorem i8j(w:World)(g:Nat)(hb:w.heap[g]? =some (.map #[] 0)):(Instr.mapUpdate 159 (.map (some g)) (.string {data:= #[65,110,121]}) (.int .i64 0)).run Tryz.prog w=.ok () (b8w w g (.map #[⟨.string {data:= #[65,110,121]},.int .i64 0,0⟩] 1)):=by
 simp[b8w,Instr.mapUpdate,a0g Tryz.underlying159,MapKept.run_getObj_map hb,MapKept.run_checkKey (P:=Tryz.prog) (d:=.string) (k:=.string {data:= #[65,110,121]}) Tryz.underlying9 trivial,MapKept.run_findKey (P:=Tryz.prog) (d:=.string) (l:=[]) (k:=.string {data:= #[65,110,121]}) (a:=none) Tryz.underlying9 rfl,MapKept.run_setObj_map _ hb]
def j9g(w:World)(b o:Nat)(d:Dc):Prop:=∃(Ap Ac:Option Addr) (cp cc cb co:Nat) (vt:List Value),w.rangeAt b o (.int .i64 d.kind:: .string d.name:: .slice Ap d.np cp:: .slice Ac d.cons.length cc::vt)∧vt.length=13∧(∀v∈vt,v.oneCell'=true)∧
 d.np≤1073741824∧d.cons.length≤1073741824∧(0<d.cons.length→Ac=some ⟨cb,co,none⟩)∧∀(j:Nat) (x:ByteArray),d.cons[j]? =some x→∃us:List Value,w.rangeAt cb (co+j*5) (.string x::us)∧us.length=4∧∀v∈us,v.oneCell'=true
theorem g5e(W0 W1:World)(hW:W1=b8w (W0.alloc (.map #[] 0)) W0.heap.size (.map #[⟨.string h8e,.int .i64 0,0⟩] 1)):
 KI W0 (((W1.alloc (.map #[] 0)).alloc (.map #[] 0)).alloc (.cells #[.map (some W0.heap.size),.map (some (W0.heap.size+1)),.map (some (W0.heap.size+2))] 163)) (arF []) (csF []) (nmF []):=by
 have hs:W1.heap.size=W0.heap.size+1:=by rw[hW];simp[b8w]
 have h0:W1.heap[W0.heap.size]? =some (.map #[⟨.string h8e,.int .i64 0,0⟩] 1):=by rw[hW];exact c6w (o:=.map #[] 0) (c0t _ _)
 have hb:Below W0.heap.size W0 W1:=by rw[hW];exact ((Below.refl _ _).alloc (Nat.le_refl _) _).trans (c1x (Nat.le_refl _))
 have a1:∀(w:World) (o:Obj) (k:Nat),k<w.heap.size→(w.alloc o).heap[k]? =w.heap[k]? :=Below.heap_alloc;have n1:∀(w:World) (o:Obj) (k:Nat),k=w.heap.size→(w.alloc o).heap[k]? =some o:=fun w o k e=>by rw[e];exact c0t w o
 have z:∀(w:World) (o:Obj),(w.alloc o).heap.size=w.heap.size+1:=fun w o=>by simp
 refine⟨?_,n1 _ _ _ (by simp only[z,hs]),(a1 _ _ _ (by simp only[z,hs];omega)).trans (n1 _ _ _ (by simp only[z,hs])),?_,?_,by simp[csF]⟩
 · exact (((hb.alloc (by omega) _).alloc (by simp only[z,hs];omega) _).alloc (by simp only[z,hs];omega) _)
 · exact⟨_,_,(a1 _ _ _ (by simp only[z,hs];omega)).trans ((a1 _ _ _ (by simp only[z,hs];omega)).trans ((a1 _ _ _ (by omega)).trans h0)),⟨rfl,rfl⟩,trivial⟩
 · exact⟨_,_,(a1 _ _ _ (by simp only[z,hs];omega)).trans ((a1 _ _ _ (by simp only[z,hs];omega)).trans (n1 _ _ _ (by omega))),trivial,by simp⟩
theorem e5l:(Tryz.prog.info? 91).map (·.size)=some 17:=by kernel_rfl
theorem k5r:(Tryz.prog.info? 9).map (fun i=>(i.zero,i.size,i.bytes))=some (some (.string {data:= #[]}),1,16):=by kernel_rfl
theorem h7s:(Tryz.prog.info? 94).map (·.size)=some 5:=by kernel_rfl
theorem c0f{w w':World}{b o B:Nat}{cs:List Value}(h:w.rangeAt b o cs)(hb:Below B w w')(hB:b<B):w'.rangeAt b o cs:=fun j v hv=>(hb.cell (p:=⟨b,o+j,none⟩) hB).trans (h j v hv)
theorem f3z(w:World)(C:Array Value)(T:TypeId)(n:Nat)(hn:C.size=n):(w.alloc (.cells C T)).there w.heap.size 0 n:=by
 intro j hj;have hh:(w.alloc (.cells C T)).heap[w.heap.size]? =some (.cells C T (0,0)):=c0t w _;refine⟨?_,?_⟩
 · rw[cell_of_row _ _ _ C T (0,0) hh];simp[hn,hj]
 · unfold World.frozen?;simp only[hh];simp
def IsT(w:World)(g:Nat)(T:TypeId):Prop:=∃C,w.heap[g]? =some (.cells C T (0,0))
def InI(W0 w:World)(B:Nat)(ar:List (ByteArray×Int))(cs:List (ByteArray×List ByteArray))(N:Nat):Prop:=KI W0 w ar cs N∧IsT w B 91
theorem b3u{p:Prop}(h:p):Hid p:=h
theorem e3a{a:Int}{s:ByteArray}{A1 A2:Option Addr}{n1 c1 n2 c2:Nat}{vt L:List Value}(h:L=.int .i64 a:: .string s:: .slice A1 n1 c1:: .slice A2 n2 c2::vt)(hv:∀v∈vt,v.oneCell'=true):L.toArray.all (·.oneCell')=true:=by
 subst h;exact all_oneCell_toArray (by simpa [Value.oneCell'] using hv)
theorem b8g{B b:Nat}(hB:B≤b):∀(vs:List Value) (o:Nat) (w:World),Below B w (w.setCells b o vs)
 | [],_,w=>Below.refl _ _
 | v::r,o,w=>((Below.refl B w).setCell (p:=⟨b,o,none⟩) hB v).trans (b8g hB r (o+1) _)
theorem c0b{b:Nat}:∀(vs:List Value) (o:Nat) (w:World),(w.setCells b o vs).heap.size=w.heap.size
 | [],_,w=>rfl
 | v::r,o,w=>by rw[World.setCells,c0b r (o+1)];simp
theorem f4f{DS:List Dc}{k:Nat}{d:Dc}(hd:DS[k]? =some d):arF (DS.take (k+1))=arS (arF (DS.take k)) d∧csF (DS.take (k+1))=csS (csF (DS.take k)) d∧nmF (DS.take (k+1))=nmS (nmF (DS.take k)) d:=by
 have:DS.take (k+1)=DS.take k++[d]:=by rw[List.take_add_one,hd];rfl
 simp only[arF,csF,nmF,this,List.foldl_append,List.foldl_cons,List.foldl_nil,and_self]
theorem i1g{DS:List Dc}{k:Nat}{d:Dc}{W0 wr w5:World}(hd:DS[k]? =some d)(hk:d.kind≠1)(h:KI W0 wr (arF (DS.take k)) (csF (DS.take k)) (nmF (DS.take k)))(hb:Below wr.heap.size wr w5):
 KI W0 w5 (arF (DS.take (k+1))) (csF (DS.take (k+1))) (nmF (DS.take (k+1))):=by
 obtain⟨e1,e2,e3⟩:=f4f hd;rw[e1,e2,e3];simp only[arS,csS,nmS,hk,if_false];exact h.later hb
theorem b6f{w:World}{g:Nat}{o:Obj}{a:Addr}(h:a.block≠g):(b8w w g o).cell? a=w.cell? a:=World.cell?_of_block (b1i h)
theorem c3o{b:Nat}{T:TypeId}:∀(vs:List Value) (o:Nat) (w:World),IsT w b T→IsT (w.setCells b o vs) b T
 | [],_,w,h=>h
 | v::r,o,w,⟨C,h⟩=>c3o r (o+1) _ ⟨_,heap_setCell_same w b o C T v h⟩
theorem IsT.lt{w:World}{g:Nat}{T:TypeId}(h:IsT w g T):g<w.heap.size:=let ⟨_,h⟩:=h;c2m h
theorem IsT.keep{w w':World}{g:Nat}{T:TypeId}(h:IsT w g T)(he:w'.heap[g]? =w.heap[g]?):IsT w' g T:=let ⟨C,h⟩:=h;⟨C,he.trans h⟩
theorem f5e{w:World}{S g:Nat}{l:List ByteArray}{u:Value}{T:TypeId}(h:Rs w S l u)(ht:IsT w g T)(hT:T≠9):u.ownBlock≠some g:=by
 intro e;obtain⟨C,hc⟩:=ht;rcases h.2 with⟨rfl,_⟩| ⟨b,cap,cur,rfl,_,hb,_⟩
 · cases e
 · injection e with e;simp only at e;subst e;rw[hb] at hc;injection hc with hc;injection hc with _ h2;exact hT h2.symm
theorem k5l{DS:List Dc}{k:Nat}{name:ByteArray}{np:Nat}{cons:List ByteArray}(hd:DS[k]? =some ⟨1,name,np,cons⟩):nmF (DS.take k)+cons.length≤nmF DS:=by
 have mono:∀(l:List Dc) (n:Nat),n≤l.foldl nmS n:=by
  intro l
  induction l with
  | nil=>intro n;exact Nat.le_refl _
  | cons d l ih=>
   intro n;refine Nat.le_trans ?_ (ih _);unfold nmS;split<;>omega
 have e:=(f4f hd).2.2;have h2:nmF DS=(DS.drop (k+1)).foldl nmS (nmF (DS.take (k+1))):=by
  unfold nmF;rw[←List.foldl_append,List.take_append_drop]
 rw[h2];refine Nat.le_trans ?_ (mono _ _);rw[e];simp[nmS]
theorem g5d{DS:List Dc}{k:Nat}{name:ByteArray}{np:Nat}{cons:List ByteArray}{W0 wr:World}{B:Nat}{j:Nat}(hd:DS[k]? =some ⟨1,name,np,cons⟩)(hj:¬j<cons.length)(hj2:j≤cons.length)
 (h:InI W0 wr B (upd name np (arF (DS.take k))) (g4k name (csF (DS.take k)) (cons.take j)) (nmF (DS.take k)+j)):
 KI W0 wr (arF (DS.take (k+1))) (csF (DS.take (k+1))) (nmF (DS.take (k+1))):=by
 obtain⟨e1,e2,e3⟩:=f4f hd;have hj3:j=cons.length:=by omega
 rw[e1,e2,e3];simp only[arS,csS,nmS,if_true];rw[hj3,List.take_length] at h;exact h.1
theorem g4j{name:ByteArray}{cs:List (ByteArray×List ByteArray)}{cons:List ByteArray}{j:Nat}{x:ByteArray}{l:List ByteArray}(hx:cons[j]? =some x)(hl:l=(look name (g4k name cs (cons.take j))).getD []):
 g4k name cs (cons.take (j+1))=upd name (l++[x]) (g4k name cs (cons.take j)):=by
 have:cons.take (j+1)=cons.take j++[x]:=by rw[List.take_add_one,hx];rfl
 rw[hl];unfold g4k;rw[this,List.foldl_append];rfl
theorem f9z{W0 w9 w1:World}{B:Nat}{ar:List (ByteArray×Int)}{cs:List (ByteArray×List ByteArray)}{N cap gg j:Nat}{name x:ByteArray}{cons l:List ByteArray}{u:Value}{o:Value→Obj}{buf:Obj}
 (hst:∀(wa w1:World) (y:Value) (x:ByteArray),Below w9.heap.size w9 wa→wa.grownBy w1 u.ownBlock→Rs w1 W0.heap.size (l++[x]) y→(y.ownBlock=u.ownBlock∨∃g,y.ownBlock=some g∧w9.heap.size≤g)→KI W0 (b8w w1 (W0.heap.size+1) (o y)) ar (upd name (l++[x]) (g4k name cs (cons.take j))) (N+1))
 (hx:cons[j]? =some x) (hl:l=(look name (g4k name cs (cons.take j))).getD []) (hgrow:(w9.alloc buf).drew.grownBy w1 u.ownBlock)
 (hown:w1.ownsRow (W0.heap.size+4) 9 1 (.slice (some ⟨gg,0,none⟩) (l.length+1) cap) (l.length+1) (l.map Value.string++[.string x])) (hat:u.ownBlock=some gg∨gg=w9.heap.size+1)
 (hT:IsT w9 B 91) (hB:B≠W0.heap.size+1) (hu:u.ownBlock≠some B):
 InI W0 (b8w w1 (W0.heap.size+1) (o (.slice (some ⟨gg,0,none⟩) (l.length+1) cap))) B ar (g4k name cs (cons.take (j+1))) (N+1):=by
 refine⟨?_,hT.keep ((b1i hB).trans ((hgrow.block B ?_ (Ne.symm hu)).trans (Below.heap_alloc w9 buf B hT.lt)))⟩
 · rw[g4j hx hl];refine hst (w9.alloc buf).drew w1 _ x (((Below.refl _ _).alloc (Nat.le_refl _) _).drew) hgrow (by simpa [Rs] using hown) ?_;rcases hat with h|h
   · exact .inl h.symm
   · exact .inr ⟨gg,rfl,by omega⟩
 · have:=hT.lt;show B<(w9.alloc buf).heap.size
   simp;omega
theorem f4e{s:ByteArray}{vt L:List Value}(h:L=.string s::vt)(hv:∀v∈vt,v.oneCell'=true):L.toArray.all (·.oneCell')=true:=by
 subst h;exact all_oneCell_toArray (by simpa [Value.oneCell'] using hv)
theorem b0b{P:Program}{ops:Array Oper}{rest:List Oper}{op:Oper}{a:Act}{wr:World}{Q:Exit→Act→World→Prop}(hgd:op.guard=none)(ty:TypeId)(x y:Operand)(ho:op.op=.store ty x y)
 (C:Array Value) (T:TypeId) (L:List Value) (hx:a.eval x=.pointer (some ⟨wr.heap.size,0,none⟩)) (hy:a.eval y=.agg L.toArray) (hn:C.size=L.length) (hi:(P.info? ty).map (·.size)=some L.length) (h1:L.toArray.all (·.oneCell')=true)
 (h:∀w5,Below wr.heap.size wr w5→w5.rangeAt wr.heap.size 0 L→IsT w5 wr.heap.size T→w5.heap.size=wr.heap.size+1→wpList P ops Q rest (a.put op.dst undef) w5):wpList P ops Q (op::rest) a (wr.alloc (.cells C T)):=by
 have ht:=f3z wr C T L.length hn;refine wpList_store_mid hgd ty x y ho wr.heap.size 0 L.toArray hx hy (by simpa using ht) (by simpa using hi) h1 (h _ ?_ ?_ (c3o _ _ _ ⟨C,c0t _ _⟩) ?_)
 · exact ((Below.refl _ _).alloc (Nat.le_refl _) _).trans (b8g (Nat.le_refl _) _ _ _)
 · simpa using World.rangeAt_setCells_same (wr.alloc (.cells C T)) wr.heap.size 0 L ht
 · rw[c0b];simp
set_option maxRecDepth 100000 in
set_option maxHeartbeats 3200000 in
theorem f9w(lb lo c:Nat)(A:Option Addr)(DS:List Dc)(W0:World)(hA:0<DS.length→A=some ⟨lb,lo,none⟩)(hlen:DS.length≤1073741824)(hc:DS.length≤c)(hin:∀(i:Nat) (d:Dc),DS[i]? =some d→j9g W0 lb (lo+i*17) d)(htot:nmF DS≤1073741824):
 Calls Tryz.prog 81 #[.slice A DS.length c] W0 fun e w'=>e=.returned (.pointer (some ⟨W0.heap.size+3,0,none⟩))∧KI W0 w' (arF DS) (csF DS) (nmF DS):=by
 have hmm:= @run_makeMap Tryz.prog;obtain⟨i0,hi0,hz0,hz1,hz2⟩:=info_parts k5r;have hsz:(b8w (W0.alloc (.map #[] 0)) W0.heap.size (.map #[⟨.string h8e,.int .i64 0,0⟩] 1)).heap.size=W0.heap.size+1:=by simp[b8w]
 have hins:=i8j (W0.alloc (.map #[] 0)) W0.heap.size (c0t _ _);obtain⟨W1,hW1⟩:∃W1,W1=b8w (W0.alloc (.map #[] 0)) W0.heap.size (.map #[⟨.string h8e,.int .i64 0,0⟩] 1):=⟨_,rfl⟩
 have hK0:=g5e W0 W1 hW1;unfold h8e at hW1 hsz;rw[←hW1] at hsz hins;have HK0:Hid (KI W0 (((W1.alloc (.map #[] 0)).alloc (.map #[] 0)).alloc (.cells #[.map (some W0.heap.size),.map (some (W0.heap.size+1)),.map (some (W0.heap.size+2))] 163)) (arF []) (csF []) (nmF [])):=hK0;clear hW1 hK0
 go_enter Tryz.func81,Tryz.ntmps81
 go_wp2_with fail
 go_loopw [16] (fun iv wr=>∃k:Nat,k≤DS.length∧iv=.int .i64 k∧Hid (KI W0 wr (arF (DS.take k)) (csF (DS.take k)) (nmF (DS.take k)))) (fun iv _=>DS.length - (intOf iv).toNat)
 case atStart=>exact⟨0,Nat.zero_le _,rfl,HK0⟩
 case round=>
  obtain⟨k,hk,rfl,HK⟩:=hrel;obtain⟨wo,rfl⟩:∃wo:World,wo=wr:=⟨_,rfl⟩
  by_cases hlt:k<DS.length
  · obtain⟨⟨kind,name,np,cons⟩,hd⟩:∃d,DS[k]? =some d:=⟨_,List.getElem?_eq_getElem hlt⟩
    have hA':=hA (by omega);subst hA';obtain⟨Ap,Ac,cp,cc,cb,co,vt,hr,hvt,hv1,hnp,hnc,hAc,hcons⟩:=hin k _ hd;have hlb:lb<W0.heap.size:=World.block_lt_of_cell? W0 _ (hr 0 _ rfl);have hr':=c0f hr HK.out.below hlb;have HC:Hid (∀(j:Nat) (x:ByteArray),cons[j]? =some x→∃us:List Value,W0.rangeAt cb (co+j*5) (.string x::us)∧us.length=4∧∀v∈us,v.oneCell'=true):=hcons;obtain⟨L,hLd⟩:∃L,L=Value.int .i64 kind:: .string name:: .slice Ap np cp:: .slice Ac cons.length cc::vt:=⟨_,rfl⟩
    have HL17:Hid (L.length=17):=b3u (by rw[hLd];simp[hvt]);have HLd:Hid (L=Value.int .i64 kind:: .string name:: .slice Ap np cp:: .slice Ac cons.length cc::vt):=b3u hLd;have HR:Hid (wo.rangeAt lb (lo+k*17) L):=b3u (by rw[hLd];exact hr');have HV:Hid (vt.length=13):=hvt;have HV1:Hid (∀v∈vt,v.oneCell'=true):=hv1;have HAc:Hid (0<cons.length→Ac=some ⟨cb,co,none⟩):=hAc;have Hd:Hid (DS[k]? =some ⟨kind,name,np,cons⟩):=hd;clear hcons hr hr' hvt hv1 hAc hd hA hLd
    by_cases hkd:kind=1
    · subst hkd
      go_wp2_with (first
       | (refine wpList_load_mid (by rfl) 91 _ (by rfl) lb (lo+k*17) (by rfl) _ _ HR.out Tryz.underlying91 rfl (by rw[e5l,HL17.out]) ?_)
       | (refine b0b (by rfl) 91 _ _ (by rfl) _ _ L (by rfl) (by rfl) (by simp[HL17.out]) (by rw[e5l,HL17.out]) (e3a HLd.out HV1.out) ?_
          intro w5 hb5 hr5 ht5 hz5;have c0:w5.cell? ⟨wo.heap.size,0,none⟩=some (.int .i64 1):=hr5 0 _ (by rw[HLd.out];rfl);have c1:w5.cell? ⟨wo.heap.size,1,none⟩=some (.string name):=hr5 1 _ (by rw[HLd.out];rfl);have c2:w5.cell? ⟨wo.heap.size,2,none⟩=some (.slice Ap np cp):=hr5 2 _ (by rw[HLd.out];rfl);have c3:w5.cell? ⟨wo.heap.size,3,none⟩=some (.slice Ac cons.length cc):=hr5 3 _ (by rw[HLd.out];rfl);have HB5:Hid (Below wo.heap.size wo w5):=hb5;have HT5:Hid (IsT w5 wo.heap.size 91):=ht5;clear hr5 hb5 ht5)
       | fail)
      have KI5:=HK.out.later HB5.out;obtain⟨e6,c6,o6,h6,hrun6,hst6⟩:=KI5.arity name np;have H6:=b3u h6;have HR6:=b3u hrun6;have ct:w5.cell? ⟨W0.heap.size+1+1+1,0,none⟩=some (.map (some W0.heap.size)):=by rw[cell_of_row w5 _ _ _ _ _ KI5.tab];rfl
      have hq6:=hrun6 w5.drew h6;have hBs:W0.heap.size+3<wo.heap.size:=HK.out.size;have HK5:=b3u KI5;clear h6 hrun6 KI5
      go_region_held3 (fun w'=>w'.cell? ⟨W0.heap.size+1+1+1,0,none⟩=some (.map (some W0.heap.size))∧w'.cell? ⟨wo.heap.size,1,none⟩=some (.string name)∧w'.cell? ⟨wo.heap.size,2,none⟩=some (.slice Ap np cp))
       (first|go_keep|(go_split_ands;refine⟨?_,?_,?_⟩<;>(rw[b6f (by simp;try omega)];assumption)))
       (fail)
      have HK6:=b3u (hst6 w5.drew (HK5.out.later (Below.drew (Below.refl _ _))));generalize hw6:b8w w5.drew W0.heap.size o6=w6 at HK6⊢;have d1:w6.cell? ⟨wo.heap.size,1,none⟩=some (.string name):=by rw[←hw6,b6f (by simp;omega)];simpa using c1
      have d3:w6.cell? ⟨wo.heap.size,3,none⟩=some (.slice Ac cons.length cc):=by rw[←hw6,b6f (by simp;omega)];simpa using c3
      have HT6:Hid (IsT w6 wo.heap.size 91):=HT5.out.keep (by rw[←hw6];exact b1i (by omega));have hz6:w6.heap.size=wo.heap.size+1:=by rw[←hw6];simpa [b8w] using hz5
      clear hw6 hq6 c0 c1 c2 c3 ct hz5 HK5 HR6 H6 HT5 HB5
      go_wp2_with fail
      go_loopw [35] (fun jv wr=>∃j:Nat,j≤cons.length∧jv=.int .i64 j∧wr.cell? ⟨wo.heap.size,1,none⟩=some (.string name)∧Hid (InI W0 wr wo.heap.size (upd name np (arF (DS.take k))) (g4k name (csF (DS.take k)) (cons.take j)) (nmF (DS.take k)+j))) (fun jv _=>cons.length - (intOf jv).toNat)
      case atStart=>exact⟨0,Nat.zero_le _,rfl,d1,b3u ⟨by simpa [g4k] using HK6.out,HT6.out⟩⟩
      case round=>
       obtain⟨j,hj,rfl,e1,HI⟩:=hrel;clear d1 d3 HK6 HT6 hz6
       by_cases hjl:j<cons.length
       · obtain⟨x,hx⟩:∃x,cons[j]? =some x:=⟨_,List.getElem?_eq_getElem hjl⟩
         obtain⟨us,hu,hu4,hu1⟩:=HC.out j x hx;have hAc:=HAc.out (by omega);subst hAc;have hcb:cb<W0.heap.size:=World.block_lt_of_cell? W0 _ (hu 0 _ rfl);have hu':=c0f hu HI.out.1.below hcb;obtain⟨M,hMd⟩:∃M,M=Value.string x::us:=⟨_,rfl⟩
         have HM5:Hid (M.length=5):=b3u (by rw[hMd];simp[hu4]);have HMd:Hid (M=Value.string x::us):=b3u hMd;have HMR:Hid (wr.rangeAt cb (co+j*5) M):=b3u (by rw[hMd];exact hu');have HU1:=b3u hu1;have Hx:=b3u hx;clear hu hu' hu4 hu1 hMd hx
         go_wp2_with (first
          | (refine wpList_load_mid (by rfl) 94 _ (by rfl) cb (co+j*5) (by rfl) _ _ HMR.out Tryz.underlying94 rfl (by rw[h7s,HM5.out]) ?_)
          | (refine b0b (by rfl) 94 _ _ (by rfl) _ _ M (by rfl) (by rfl) (by simp[HM5.out]) (by rw[h7s,HM5.out]) (f4e HMd.out HU1.out) ?_
             intro w9 hb9 hr9 ht9 hz9;have f0:w9.cell? ⟨wr.heap.size,0,none⟩=some (.string x):=hr9 0 _ (by rw[HMd.out];rfl);have HB9:Hid (Below wr.heap.size wr w9):=hb9;have HT9:Hid (IsT w9 wr.heap.size 94):=ht9;clear hr9 hb9 ht9 hz9)
          | fail)
         have KI9:=HI.out.1.later HB9.out;obtain⟨e,c9,u,l,o,hm,hld,hRs,hlN,hL,hU,hst⟩:=KI9.append name;have ct:w9.cell? ⟨W0.heap.size+1+1+1,1,none⟩=some (.map (some (W0.heap.size+1))):=by rw[cell_of_row w9 _ _ _ _ _ KI9.tab];rfl
         have hB1:wo.heap.size<wr.heap.size:=HI.out.2.lt;have e9:w9.cell? ⟨wo.heap.size,1,none⟩=some (.string name):=(HB9.out.cell (p:=⟨wo.heap.size,1,none⟩) hB1).trans e1;have bs:W0.heap.size+3<w9.heap.size:=KI9.size;have bt:wr.heap.size<w9.heap.size:=HT9.out.lt;have hlk1:=hL w9.drew hm;have hlk2:=hL (w9.alloc (.cells #[.string x] 9)).drew ((Below.heap_alloc w9 _ _ (by omega)).trans hm);have n1:=World.new_ne w9 _ ct;have n2:=World.new_ne w9 _ e9;have n3:=World.new_ne w9 _ f0;have HK9:=b3u KI9;have Hst:=b3u hst;have HU:=b3u hU;have Hl:=b3u hld;have hNN:nmF (DS.take k)+j≤1073741824:=by have:=k5l Hd.out;omega
         have hu1:u.ownBlock≠some wo.heap.size:=f5e hRs (HI.out.2.keep (HB9.out.block _ hB1)) (by decide);have hu2:u.ownBlock≠some wr.heap.size:=f5e hRs HT9.out (by decide);have hu3:u.ownBlock≠some (W0.heap.size+1+1+1):=f5e hRs ⟨_,KI9.tab⟩ (by decide);clear KI9 hst hU hld hL
         go_region_held3 (fun w'=>w'.cell? ⟨W0.heap.size+1+1+1,1,none⟩=some (.map (some (W0.heap.size+1)))∧w'.cell? ⟨wo.heap.size,1,none⟩=some (.string name)∧w'.cell? ⟨wr.heap.size,0,none⟩=some (.string x))
          (first
            | go_keep
            | (go_split_ands
               refine⟨?_,?_,?_⟩
               · (rw[hgrow.cell_far _ (by simp;omega) (Ne.symm hu3)];assumption)
               · (rw[hgrow.cell_far _ (by simp;omega) (Ne.symm hu1)];assumption)
               · (rw[hgrow.cell_far _ (by simp;omega) (Ne.symm hu2)];assumption))
            | (go_split_ands;refine⟨?_,?_,?_⟩<;>(rw[b6f (by simp;try omega)];assumption)))
          ((refine step_append_lies _ (by rfl) _ _ _ (by rfl) (W0.heap.size+4) 9 i0 _ 1 16 Tryz.underlying49 hi0 hz0 hz1 hz2 rfl (by omega) u l.length (l.map Value.string) (by rfl) ((World.ownsRow.alloc hRs _).drew) ⟨w9.heap.size,0,none⟩ 1 1 [.string x] (by rfl) (by rfl) (World.news_of_block (cs:= #[.string x]) (t:=9) (fr:=(0,0)) (heap_alloc_new w9 _)) (by simp[Value.oneCell']) (by omega) (by unfold maxLen;omega) (by omega) (by simp;omega) (w9.heap.size+1) (by simp) ?_
            intro gg cap w1 hown1 hgrow hat hlt;have hq10:=HU.out w1 (.slice (some ⟨gg,0,none⟩) (l.length+1) cap) ((hgrow.block (W0.heap.size+1) (by simp;omega) (fun e=>by have:=(World.ownsRow.lt hRs _ e.symm).1;omega)).trans ((Below.heap_alloc w9 _ _ (by omega)).trans hm))))
         all_goals
          have HII:=b3u (f9z Hst.out Hx.out Hl.out hgrow hown1 hat (HI.out.2.keep (HB9.out.block _ hB1)) (by omega) hu1);have q1:(b8w w1 (W0.heap.size+1) (o (.slice (some ⟨gg,0,none⟩) (l.length+1) cap))).cell? ⟨wo.heap.size,1,none⟩=some (.string name):=by rw[b6f (by simp;omega),hgrow.cell_far _ (by simp;omega) (Ne.symm hu1)];exact (((Below.refl w9.heap.size w9).alloc (Nat.le_refl _) _).cell (p:=⟨wo.heap.size,1,none⟩) (by simp;omega)).trans e9
          generalize b8w w1 (W0.heap.size+1) (o (.slice (some ⟨gg,0,none⟩) (l.length+1) cap))=w7 at HII q1⊢;clear hq10 hgrow hown1
          go_wp2_with fail
          go_roundw
          case rel=>exact⟨j+1,by omega,by go_num,q1,HII⟩
          case measure=>simp[intOf];omega
       · go_wp2_with fail
         go_roundw
         case rel=>exact⟨k+1,by omega,by go_num,b3u (g5d Hd.out hjl hj HI.out)⟩
         case measure=>simp[intOf];omega
    have hk1:(kind==1)=false:=by simpa using hkd
    have hk2:(kind !=1)=true:=by simpa using hkd
    go_wp2_with (first
     | (refine wpList_load_mid (by rfl) 91 _ (by rfl) lb (lo+k*17) (by rfl) _ _ HR.out Tryz.underlying91 rfl (by rw[e5l,HL17.out]) ?_)
     | (refine b0b (by rfl) 91 _ _ (by rfl) _ _ L (by rfl) (by rfl) (by simp[HL17.out]) (by rw[e5l,HL17.out]) (e3a HLd.out HV1.out) ?_
        intro w5 hb5 hr5 ht5 hz5;have c0:w5.cell? ⟨wo.heap.size,0,none⟩=some (.int .i64 kind):=hr5 0 _ (by rw[HLd.out];rfl);have c1:w5.cell? ⟨wo.heap.size,1,none⟩=some (.string name):=hr5 1 _ (by rw[HLd.out];rfl);have c2:w5.cell? ⟨wo.heap.size,2,none⟩=some (.slice Ap np cp):=hr5 2 _ (by rw[HLd.out];rfl);have c3:w5.cell? ⟨wo.heap.size,3,none⟩=some (.slice Ac cons.length cc):=hr5 3 _ (by rw[HLd.out];rfl);have HB5:Hid (Below wo.heap.size wo w5):=hb5;have HT5:Hid (IsT w5 wo.heap.size 91):=ht5;clear hr5 hb5 ht5)
     | fail)
    go_roundw
    case rel=>exact⟨k+1,by omega,by go_num,i1g Hd.out hkd HK.out HB5.out⟩
    case measure=>simp[intOf];omega
  · go_wp2_with fail
    have hkk:k=DS.length:=by omega
    subst hkk;have HK2:=HK.out;rw[List.take_length] at HK2
    go_ret
    exact⟨rfl,HK2⟩
end Go.Kn
namespace Go.Av
open Go.Kn Go.Proofs
open Go.RowKit (Below)
theorem a3g.vals{w:World}{V:Vis}{g:Nat}:∀ {cs:List AVal} {o:Nat},a3g w V g o cs→∃xs:List Value,a3q (a1v w V) cs xs∧w.rangeAt g o xs
 | [],o,_=>⟨[],trivial,fun j v h=>by simp at h⟩
 | c::cs,o,h=>by
  obtain⟨⟨_,x,hx,hr⟩,h2⟩:=h;obtain⟨xs,h3,h4⟩:=a3g.vals h2;refine⟨x::xs,⟨hr,h3⟩,fun j v hv=>?_⟩;cases j with
  | zero=>simp at hv;subst hv;simpa using hx
  | succ j=>rw[show o+(j+1)=o+1+j by omega];exact h4 j v (by simpa using hv)
theorem d6i{w:World}{V:Vis}:∀ {cs:List AVal} {xs:List Value},a3q (a1v w V) cs xs→∀v∈xs,v.oneCell'=true
 | [],[],_,_,h=>by cases h
 | _::_,x::xs,hr,v,h=>by
  rcases List.mem_cons.1 h with rfl|h
  · exact hr.1.one
  · exact d6i hr.2 v h
 | [],_::_,hr,_,_=>hr.elim
 | _::_,[],hr,_,_=>hr.elim
theorem c8z{w:World}{V:Vis}{cb:Nat}:∀ {cs:List AVal} {l:List ByteArray} {co:Nat},b4m cs=some l→b1p w V 5 cb co cs→∀(j:Nat) (x:ByteArray),l[j]? =some x→∃us:List Value,w.rangeAt cb (co+j*5) (.string x::us)∧us.length=4∧∀v∈us,v.oneCell'=true
 | [],l,co,h,_=>by simp only[b4m] at h;injection h with h;subst h;exact fun j x hx=>by simp at hx
 | c::r,l,co,h,hr=>by
  unfold b4m at h;split at h
  · rename_i heq;cases heq
  · rename_i n us r' heq;injection heq with e1 e2;subst e1;subst e2;split at h
    · rename_i hu;obtain⟨l',h1,rfl⟩:=map_some h;rw[a3l] at hr;obtain⟨⟨_,hc⟩,hr2⟩:=hr;intro j x hx;cases j with
      | zero=>
       simp at hx;subst hx;obtain⟨ys,q1,q2⟩:=a3g.vals hc;simp only[cellsOf] at q1;cases ys with
       | nil=>exact q1.elim
       | cons y ys=>
        have hy:y=.string (ba n):=q1.1;subst hy;exact⟨ys,by simpa using q2,by rw[←q1.2.length];exact hu,d6i q1.2⟩
      | succ j=>
       obtain⟨us',a1,a2⟩:=c8z h1 hr2 j x (by simpa using hx);exact⟨us',by rw[show co+(j+1)*5=co+5+j*5 by omega];exact a1,a2⟩
    · cases h
  · cases h
theorem d2n:∀ {cs:List AVal} {l:List ByteArray},b4m cs=some l→l.length=cs.length
 | [],l,h=>by simp only[b4m] at h;injection h with h;subst h;rfl
 | c::r,l,h=>by
  unfold b4m at h;split at h
  · rename_i heq;cases heq
  · rename_i n us r' heq;injection heq with e1 e2;subst e1;subst e2;split at h
    · obtain⟨l',h1,rfl⟩:=map_some h;simp[d2n h1]
    · cases h
  · cases h
theorem g3i{w:World}{V:Vis}{sz cb co:Nat}{cs:List AVal}{l:List ByteArray}(h:b4m cs=some l)(hr:b1p w V sz cb co cs)(hne:cs≠[]):sz=5:=by
 cases cs with
 | nil=>exact absurd rfl hne
 | cons c r=>
  rw[a3l] at hr;unfold b4m at h;split at h
  · rename_i heq;cases heq
  · rename_i n us r' heq;injection heq with e1 e2;subst e1;split at h
    · rename_i hu;have:=hr.1.1;simp only[cellsOf,List.length_cons,hu] at this;omega
    · cases h
  · cases h
theorem d9q{w:World}{V:Vis}{b o:Nat}{v:AVal}{d:Dc}(h:j8f v=some d)(hc:a3g w V b o (cellsOf v)):j9g w b o d∧(cellsOf v).length=17:=by
 unfold j8f at h;split at h
 · rename_i k n ps cs vt;split at h
   · rename_i hb;obtain⟨l,h1,rfl⟩:=map_some h;obtain⟨ys,q1,q2⟩:=a3g.vals hc;simp only[cellsOf] at q1
     match ys,q1,q2 with
     | y0::y1::y2::y3::ys,q1,q2=>
      obtain⟨r0,r1,r2,r3,r4⟩:=q1;have e0:y0=.int .i64 k:=r0;have e1:y1=.string (ba n):=r1;obtain⟨Ap,cp,e2,_,_⟩:=r2;obtain⟨Ac,cc,e3,_,hrow⟩:=r3;subst e0;subst e1;subst e2;subst e3;have hl:=d2n h1;have key:∃cb co,(0<l.length→Ac=some ⟨cb,co,none⟩)∧∀(j:Nat) (x:ByteArray),l[j]? =some x→∃us:List Value,w.rangeAt cb (co+j*5) (.string x::us)∧us.length=4∧∀v∈us,v.oneCell'=true:=by
       rcases hrow with rfl| ⟨g,o',sz,hA,hsz,hrow⟩
       · have:l=[]:=List.eq_nil_of_length_eq_zero hl;subst this;exact⟨0,0,fun h=>absurd h (by simp),fun j x hx=>by simp at hx⟩
       · by_cases hne:cs=[]
         · subst hne;have:l=[]:=List.eq_nil_of_length_eq_zero hl;subst this;exact⟨0,0,fun h=>absurd h (by simp),fun j x hx=>by simp at hx⟩
         · have e5:=g3i h1 hrow hne;subst e5;exact⟨g,o',fun _=>hA,c8z h1 hrow⟩
      obtain⟨cb,co,k1,k2⟩:=key;refine⟨⟨Ap,Ac,cp,cc,cb,co,ys,?_,by rw[←r4.length];exact hb.1,d6i r4,hb.2.1,by rw[hl];exact hb.2.2,k1,k2⟩,by simp[cellsOf,hb.1]⟩;simp only[hl];exact q2
     | [],q1,_=>exact q1.elim
     | [_],q1,_=>exact q1.2.elim
     | [_,_],q1,_=>exact q1.2.2.elim
     | [_,_,_],q1,_=>exact q1.2.2.2.elim
   · cases h
 · cases h
theorem d2l{w:World}{V:Vis}{b:Nat}:∀ {es:List AVal} {DS:List Dc} {o:Nat},c8x es=some DS→b1p w V 17 b o es→∀(i:Nat) (d:Dc),DS[i]? =some d→j9g w b (o+i*17) d
 | [],DS,o,h,_=>by simp only[c8x] at h;injection h with h;subst h;exact fun j x hx=>by simp at hx
 | v::r,DS,o,h,hr=>by
  simp only[c8x] at h;obtain⟨d0,h0,h⟩:=bind_some h;obtain⟨DS',h1,rfl⟩:=map_some h;rw[a3l] at hr;intro i d hd;cases i with
  | zero=>simp at hd;subst hd;simpa using (d9q h0 hr.1.2).1
  | succ i=>
   have:=d2l h1 hr.2 i d (by simpa using hd);rw[show o+(i+1)*17=o+17+i*17 by omega];exact this
theorem d9o:∀ {es:List AVal} {DS:List Dc},c8x es=some DS→DS.length=es.length
 | [],DS,h=>by simp only[c8x] at h;injection h with h;subst h;rfl
 | v::r,DS,h=>by
  simp only[c8x] at h;obtain⟨d0,h0,h⟩:=bind_some h;obtain⟨DS',h1,rfl⟩:=map_some h;simp[d9o h1]
theorem d3i{w:World}{V:Vis}(s:ByteArray):a1v w V (e7d s) (.string s):=by show Value.string s=.string ⟨s.data.toList.toArray⟩;simp
theorem g0y{w:World}{V:Vis}:∀ {l:List (ByteArray×Int)} {ms:List MapEntry},Ent (fun n v=>v=.int .i64 n) l ms→a5d w V (arA l) ms
 | [],[],_=>trivial
 | p::l,m::ms,h=>by
  refine⟨⟨?_,h.1.2⟩,g0y h.2⟩;rw[h.1.1];exact d3i _
 | [],_::_,h=>h.elim
 | _::_,[],h=>h.elim
theorem e0z{w:World}{V:Vis}{g:Nat}:∀ {l:List ByteArray} {o:Nat},(∀(j:Nat) (x:ByteArray),l[j]? =some x→V g (o+j)∧w.cell? ⟨g,o+j,none⟩=some (.string x))→b1p w V 1 g o (l.map e7d)
 | [],_,_=>trivial
 | x::l,o,h=>by
  refine⟨⟨rfl,(h 0 x rfl).1,_,(h 0 x rfl).2,d3i x⟩,e0z fun j y hy=>?_⟩;rw[show o+1+j=o+(j+1) by omega];exact h (j+1) y (by simpa using hy)
theorem j5x{w:World}{V:Vis}{S:Nat}{l:List ByteArray}{v:Value}(h:Rs w S l v)(hV:∀g o,v.ownBlock=some g→o<l.length→V g o):a1v w V (.slice (l.map e7d)) v:=by
 rcases h.2 with⟨rfl,h0⟩| ⟨g,cap,cur,rfl,_,hg,hn,_,hsz,ht⟩
 · have:l=[]:=List.eq_nil_of_length_eq_zero h0;subst this;exact⟨none,0,rfl,Nat.le_refl _,.inl rfl⟩
 · refine⟨some ⟨g,0,none⟩,cap,by simp,by simpa using hn,.inr ⟨g,0,1,rfl,by decide,e0z fun j x hx=>?_⟩⟩;have hj:j<l.length:=(List.getElem?_eq_some_iff.1 hx).1;refine⟨hV g _ rfl (by omega),?_⟩;rw[Nat.zero_add,cell_of_row w g j cur 9 (0,0) hg];have h2:(cur.toList.take (l.length*1))[j]? =some (.string x):=by rw[ht];simp[hx]
   rw[List.getElem?_take_of_lt (by omega)] at h2;simpa using h2
theorem g0x{w:World}{V:Vis}{S:Nat}:∀ {l:List (ByteArray×List ByteArray)} {ms:List MapEntry},Ent (Rs w S) l ms→(∀p m,m∈ms→Rs w S p m.val→∀g o,m.val.ownBlock=some g→o<p.length→V g o)→a5d w V (csA l) ms
 | [],[],_,_=>trivial
 | p::l,m::ms,h,hV=>by
  refine⟨⟨?_,j5x h.1.2 (hV _ m (by simp) h.1.2)⟩,g0x h.2 fun p m hm=>hV p m (by simp[hm])⟩;rw[h.1.1];exact d3i _
 | [],_::_,h,_=>h.elim
 | _::_,[],h,_=>h.elim
theorem d8s:b3j Tryz.prog 81:=⟨Tryz.f81,_,Tryz.func81,by kernel_rfl,rfl⟩
theorem c2o:Tryz.prog.cellsOf a4b=0:=by kernel_rfl
theorem e1i{F:World→Prop}:a5s Tryz.prog F fun f la H=>if f=81 then c7z la H else none:=by
 intro f la H r hr xs w V T0 μ γ hs h hl hF hsl;replace hr:(if f=81 then c7z la H else none)=some r:=hr;split at hr
 case isFalse=>cases hr
 rename_i hf;subst hf;unfold c7z at hr;split at hr
 case h_2=>cases hr
 rename_i es;obtain⟨DS,hDS,hr⟩:=bind_some hr;split at hr
 case isFalse=>cases hr
 rename_i hb;injection hr with hr;subst hr;refine⟨d8s,?_⟩;obtain⟨x,hx,hrx⟩:=h.tm 0 (.slice es) rfl;have hxs:xs= #[x]:=by
  have h1:xs.size=1:=by simpa using hs
  apply Array.ext
  · simpa using h1
  · intro i hi _;have:i=0:=by omega
    subst this;have:=Array.getElem?_eq_some_iff.1 hx;obtain⟨_,h2⟩:=this;simpa using h2
 subst hxs;obtain⟨A,c,rfl,hcl,hrow⟩:=(show a1v w V (.slice es) x from hrx)
 have hlen:=d9o hDS;have key:∃lb lo,(0<DS.length→A=some ⟨lb,lo,none⟩)∧∀(i:Nat) (d:Dc),DS[i]? =some d→j9g w lb (lo+i*17) d:=by
  rcases hrow with rfl| ⟨g,o,sz,hA,hsz,hrow⟩
  · have:DS=[]:=List.eq_nil_of_length_eq_zero hlen;subst this;exact⟨0,0,fun h=>absurd h (by simp),fun j x hx=>by simp at hx⟩
  · cases es with
    | nil=>
     have:DS=[]:=List.eq_nil_of_length_eq_zero hlen;subst this;exact⟨0,0,fun h=>absurd h (by simp),fun j x hx=>by simp at hx⟩
    | cons v r=>
     have hsz:sz=17:=by
      rw[a3l] at hrow;simp only[c8x] at hDS;obtain⟨d0,h0,_⟩:=bind_some hDS;rw[←hrow.1.1];exact (d9q h0 hrow.1.2).2
     subst hsz;exact⟨g,o,fun _=>hA,d2l hDS hrow⟩
 obtain⟨lb,lo,hA,hin⟩:=key;rw[←hlen];rw[←hlen] at hcl hb;refine (f9w lb lo c A DS w hA hb.1 hcl hin hb.2).mono fun e w' ⟨he,hK⟩=>⟨_,he,?_⟩
 have hS:=hK.size;have hbl:=hK.below;obtain⟨e1,c1,m1,m2⟩:=hK.arE;obtain⟨e2,c2,m3,m4,_⟩:=hK.csE;have hno:∀b g,μ b≠some g:=fun b g hb=>by
  obtain⟨cs,hc⟩:=h.dom b g hb;cases b<;>simp[b1r,St.box,a0j] at hc
 let LV:Nat→Nat→Prop:=fun g o=>∃p m,m∈e2.toList∧Rs w' w.heap.size p m.val∧m.val.ownBlock=some g∧o<p.length
 have hLV:∀g o,LV g o→w.heap.size+4≤g∧g<w'.heap.size:=fun g o ⟨p,m,_,h2,h3,_⟩=>World.ownsRow.lt h2 g h3;have hVlt:∀g o,V g o→g<w.heap.size:=h.vis
 let V':Vis:=fun g o=>V g o∨LV g o
 let μ':a5r:=fun b=>if b=.par 0 then some (w.heap.size+3) else none
 let γ':a7b:=fun p n=>if n=0 then (if p=.cell (.par 0) 0 then some (.map (some w.heap.size)) else if p=.cell (.par 0) 1 then some (.map (some (w.heap.size+1))) else if p=.cell (.par 0) 2 then some (.map (some (w.heap.size+2))) else none) else none
 have box:∀b cs,(a3e (.ptr (.par 0) 0) [[.own a4b 0 (arA (arF DS)),.own a4b 0 (csA (csF DS)),.own a4b 0 []]]).box b=some cs→b=.par 0∧cs=[.own a4b 0 (arA (arF DS)),.own a4b 0 (csA (csF DS)),.own a4b 0 []]:=by
  intro b cs hb;cases b with
  | par i=>cases i with
   | zero=>simp[a3e,St.box] at hb;exact⟨rfl,hb.symm⟩
   | succ i=>simp[a3e,St.box] at hb
  | loc k=>simp[a3e,St.box,a0j] at hb
 have own:∀p T n es' y g,(a3e (.ptr (.par 0) 0) [[.own a4b 0 (arA (arF DS)),.own a4b 0 (csA (csF DS)),.own a4b 0 []]]).at p=some (.own T n es')→γ' p n=some y→ownBlock y=some g→T=a4b∧∃i,p=.cell (.par 0) i∧g=w.heap.size+i∧i<3:=by
  intro p T n es' y g hp hy hg;cases p with
  | tmp k=>
   simp only[St.at,a3e,a0j] at hp;split at hp<;>simp at hp
  | cell b off=>
   simp only[St.at] at hp;obtain⟨cs,h1,h2⟩:=bind_some hp;obtain⟨rfl,rfl⟩:=box b cs h1
   match off,h2 with
   | 0,h2=>
    simp at h2;obtain⟨rfl,rfl,_⟩:=h2;simp[γ'] at hy;subst hy;exact⟨rfl,0,rfl,by simpa [ownBlock] using hg.symm,by omega⟩
   | 1,h2=>
    simp at h2;obtain⟨rfl,rfl,_⟩:=h2;simp[γ'] at hy;subst hy;exact⟨rfl,1,rfl,by simpa [ownBlock] using hg.symm,by omega⟩
   | 2,h2=>
    simp at h2;obtain⟨rfl,rfl,_⟩:=h2;simp[γ'] at hy;subst hy;exact⟨rfl,2,rfl,by simpa [ownBlock] using hg.symm,by omega⟩
   | n+3,h2=>simp at h2
 refine⟨V',γ',⟨#[.pointer (some ⟨w.heap.size+3,0,none⟩)],[]⟩,μ',rfl,fun b g hb=>(hno b g hb).elim,?_,?_,?_,.inl rfl⟩
 · refine {tm:=?_,bx:=?_,dom:=?_,inj:=?_,visb:=?_,vis:=?_,ow:=?_,ow2:=?_,gq:=fun _ _ _=>trivial}
   · intro k u hu;simp only[a3e,a0j] at hu;split at hu
     · rename_i hk;injection hu with hu;subst hu;subst hk;exact⟨_,rfl,⟨w.heap.size+3,by simp[μ'],d7o _⟩⟩
     · cases hu
   · intro b cs hb;obtain⟨rfl,rfl⟩:=box b cs hb;refine⟨_,163,_,by simp[μ'],hK.tab,by simp,fun i cc hc=>?_⟩
     match i,hc with
     | 0,hc=>
      simp at hc;subst hc;refine⟨_,rfl,?_,by simp[γ']⟩;unfold a2t;rw[if_pos rfl];exact .inl ⟨c2o,_,_,_,rfl,m1,g0y m2⟩
     | 1,hc=>
      simp at hc;subst hc;refine⟨_,rfl,?_,by simp[γ']⟩;unfold a2t;rw[if_pos rfl];exact .inl ⟨c2o,_,_,_,rfl,m3,g0x m4 fun p m hm hr g o hg ho=>.inr ⟨p,m,hm,hr,hg,ho⟩⟩
     | 2,hc=>
      simp at hc;subst hc;refine⟨_,rfl,?_,by simp[γ']⟩;unfold a2t;rw[if_pos rfl];exact .inl ⟨c2o,_,_,_,rfl,hK.con,trivial⟩
     | n+3,hc=>simp at hc
   · intro b g hb;simp only[μ'] at hb;split at hb
     · rename_i e;subst e;exact⟨_,rfl⟩
     · cases hb
   · intro b b' g hb hb';simp only[μ'] at hb hb';split at hb
     · rename_i e1;split at hb'
       · rename_i e2;rw[e1,e2]
       · cases hb'
     · cases hb
   · intro b g hb o hv;simp only[μ'] at hb;split at hb
     · injection hb with hb;subst hb;rcases hv with hv|hv
       · have:=hVlt _ _ hv;omega
       · have:=(hLV _ _ hv).1;omega
     · cases hb
   · intro g o hv;rcases hv with hv|hv
     · have:=hVlt _ _ hv;omega
     · exact (hLV _ _ hv).2
   · intro p T n es' y g hp hy hg;obtain⟨rfl,i,rfl,rfl,hi⟩:=own p T n es' y g hp hy hg;refine⟨fun b hb=>?_,fun o hv=>?_⟩
     · simp only[μ'] at hb;split at hb
       · injection hb with hb;omega
       · cases hb
     · exfalso;rcases hv with hv|hv
       · have:=hVlt _ _ hv;omega
       · have:=(hLV _ _ hv).1;omega
   · intro p p' T n es1 T' n' es2 y y' g hp hp' hy hy' hg hg';obtain⟨_,i,rfl,e1,_⟩:=own p T n es1 y g hp hy hg;obtain⟨_,i',rfl,e2,_⟩:=own p' T' n' es2 y' g hp' hy' hg';have:i=i':=by omega
     rw[this]
 · refine⟨hbl.os,hbl.tape,hbl.output,hbl.size,fun g hg _=>hbl.block g hg,fun g o hv=>⟨.inl hv,.of (hbl.block g (hVlt g o hv))⟩,fun g o hv=>?_,hsl⟩;rcases hv with hv|hv
   · exact .inl hv
   · exact .inr (.inl (by have:=(hLV g o hv).1;omega))
 · refine⟨fun b g hb=>?_,fun p T n es' y g hp hy hg=>?_⟩
   · simp only[μ'] at hb;split at hb
     · injection hb with hb;exact .inr (by omega)
     · cases hb
   · obtain⟨_,i,_,e1,_⟩:=own p T n es' y g hp hy hg;exact .inr (by omega)
end Go.Av
namespace Go.Av
open Go.Proofs
open Go.RowKit (Below)
open Go.Shelf (Ren)
set_option maxHeartbeats 4000000
set_option maxRecDepth 100000
def g5z:Ren:=⟨fun n=>if n=4 then 158 else n,fun n=>if n=22 then 49 else if n=25 then 9 else n,fun n=>n⟩
theorem e5j:Lays8.n4 Tryz.prog g5z where
 mixed:=by kernel_rfl
 f4:=⟨Tryz.f158.name,by kernel_rfl,Tryz.func158.trans (congrArg some (by kernel_rfl))⟩
 t0:=Tryz.underlying0
 a0:=Tryz.isAgg0
 z0:=Tryz.sizeOf0
 v0:=Tryz.zeroValue0
 t3:=Tryz.underlying3
 a3:=Tryz.isAgg3
 z3:=Tryz.sizeOf3
 v3:=Tryz.zeroValue3
 t4:=Tryz.underlying4
 a4:=Tryz.isAgg4
 z4:=Tryz.sizeOf4
 v4:=Tryz.zeroValue4
 t9:=Tryz.underlying9
 a9:=Tryz.isAgg9
 z9:=Tryz.sizeOf9
 v9:=Tryz.zeroValue9
 t20:=Tryz.underlying20
 a20:=Tryz.isAgg20
 z20:=Tryz.sizeOf20
 v20:=Tryz.zeroValue20
 t22:=Tryz.underlying49
 a22:=Tryz.isAgg49
 z22:=Tryz.sizeOf49
 v22:=Tryz.zeroValue49
theorem h7q:(Tryz.prog.info? 9).map (fun i=>(i.zero,i.size,i.bytes))=some (some (.string {data:= #[]}),1,16):=by kernel_rfl
theorem f0w(n:Nat)(hn:n≤1073741824)(w:World):
 Calls Tryz.prog 158 #[.slice none 0 0,.int .i64 n] w fun e w'=>∃v,e=.returned v∧Below w.heap.size w w'∧w'.ownsRow w.heap.size 9 1 v 0 []:=by
 by_cases h0:n=0
 · subst h0;exact (Any8.slices_Grow_room (ρ:=g5z) e5j none 0 0 0 w (Nat.zero_le _) (by omega) (by omega) (by omega)).mono fun e w' ⟨h1,h2⟩=>⟨_,h1,by rw[h2];exact Below.refl _ _,World.ownsRow_nil _ _ _ _⟩
 · obtain⟨i,hi⟩:∃i,Tryz.prog.info? 9=some i:=by
    cases h:Tryz.prog.info? 9 with
    | none=>have:=h7q;rw[h] at this;cases this
    | some i=>exact⟨i,rfl⟩
   have h9:=h7q;rw[hi] at h9;simp only[Option.map_some,Option.some.injEq,Prod.mk.injEq] at h9;obtain⟨hz,hs,hb⟩:=h9;refine (Any8.slices_Grow_grow (ρ:=g5z) e5j i _ hi hz (by omega) none 0 0 n [] w (Nat.zero_le _) (by omega) (by rw[hb];omega) (by omega) (by simp) (fun _=>rfl) (fun a h=>by cases h)).mono ?_;rintro e w' ⟨rfl,rfl⟩;have hge:=grownCap_ge w (0+n) 0 9;have hle:=grownCap_le_maxLen w (0+n) 0 9 (by unfold maxLen;omega);refine⟨_,rfl,(((Below.refl _ _).drew).alloc (Nat.le_refl _) _),rfl,.inr ⟨_,_,_,rfl,Nat.le_refl _,(MapKept.heap_alloc w.drew _).1,Nat.zero_le _,hle,?_,by simp⟩⟩;simp only[Builtin.zeroCells,Value.cells];simp[g5z];simp at hge;omega
end Go.Av
namespace Go.Kn
open Go.RowKit Go.Proofs Go.Av
def c4c(w:World)(v:Value)(l:List ByteArray):Prop:=∃A c b o,v=.slice A l.length c∧l.length≤c∧(0<l.length→A=some ⟨b,o,none⟩)∧∀(j:Nat) (x:ByteArray),l[j]? =some x→w.cell? ⟨b,o+j,none⟩=some (.string x)
theorem h7r:(Tryz.prog.info? 9).map (fun i=>(i.zero,i.size,i.bytes))=some (some (.string {data:= #[]}),1,16):=by kernel_rfl
theorem c1m{P:Program}{w:World}{ops:Array Oper}{rest:List Oper}{o:Oper}{a:Act}{Q:Exit→Act→World→Prop}(hgd:o.guard=none)(s x:Operand)(t:TypeId)
 (ho:o.op=.call {callee:=.builtin .append,args:= #[s,x],argTypes:= #[t,t]}) {v u v':Value} {w':World} (hs:a.eval s=v) (hx:a.eval x=u)
 (hr:(Builtin.append_ #[t,t] o.type #[v,u]).run P w=.ok v' w') (h:wpList P ops Q rest (a.put o.dst v') w'):wpList P ops Q (o::rest) a w:=by
 refine wpList_plain hgd fun _ hK=>?_;unfold Oper.wp execOp;simp only[ho,resolve,invoke,builtin,Sem.run_bind,Sem.run_pure,Result.andThen_ok,List.map_toArray,List.map_cons,List.map_nil,hs,hx,hr];exact hK _ _ h
theorem c9z{p:Prop}(h:p):Hid p:=h
theorem c4c.below{w w':World}{v:Value}{l:List ByteArray}(h:c4c w v l)(hb:Below w.heap.size w w'):c4c w' v l:=by
 obtain⟨A,c,b,o,h1,h2,h3,h4⟩:=h;exact⟨A,c,b,o,h1,h2,h3,fun j x hx=>(hb.cell (p:=⟨b,o+j,none⟩) (World.block_lt_of_cell? w _ (h4 j x hx))).trans (h4 j x hx)⟩
def e7b(LS:List (List ByteArray))(k:Nat):Nat:=(LS.take k).flatten.length
def h7i(LS:List (List ByteArray))(k:Nat):List Value:=(LS.take k).flatten.map Value.string
theorem e2r{LS:List (List ByteArray)}{k:Nat}{l:List ByteArray}(h:LS[k]? =some l):e7b LS (k+1)=e7b LS k+l.length∧h7i LS (k+1)=h7i LS k++l.map Value.string:=by
 have:LS.take (k+1)=LS.take k++[l]:=by rw[List.take_add_one,h];rfl
 unfold e7b h7i;rw[this];simp only[List.flatten_append,List.flatten_cons,List.flatten_nil,List.append_nil,List.length_append,List.map_append,and_self]
theorem f3t(LS:List (List ByteArray))(k:Nat):e7b LS k≤LS.flatten.length:=by
 unfold e7b
 conv=>rhs;rw[←List.take_append_drop k LS]
 rw[List.flatten_append,List.length_append];omega
theorem f3u{LS:List (List ByteArray)}{k:Nat}(h:¬k<LS.length):e7b LS k=LS.flatten.length∧h7i LS k=LS.flatten.map Value.string:=by
 unfold e7b h7i;rw[List.take_of_length_le (by omega)];exact⟨rfl,rfl⟩
theorem j1d{w:World}{S n:Nat}{v:Value}{xs:List Value}{l:List ByteArray}(hown:w.ownsRow S 9 1 v n xs)(hS:S≤w.heap.size){x:Value}(hx:c4c w x l)(hn:n+l.length≤1073741824):
 ∃v' w',(Builtin.append_ #[49,49] 49 #[v,x]).run Tryz.prog w=.ok v' w'∧w'.ownsRow S 9 1 v' (n+l.length) (xs++l.map Value.string)∧w.grownBy w' v.ownBlock∧(v'.ownBlock=v.ownBlock∨v'.ownBlock=some w.heap.size):=by
 obtain⟨i0,hi0,hz0,hz1,hz2⟩:=info_parts h7r;obtain⟨A,c,b,o,rfl,hc,hA,hcell⟩:=hx;have some_case:∀ad:Addr,A=some ad→(∀(j:Nat) (u:Value),(l.map Value.string)[j]? =some u→w.cell? (ad.add j)=some u)→∃v' w',(Builtin.append_ #[49,49] 49 #[v,.slice A l.length c]).run Tryz.prog w=.ok v' w'∧w'.ownsRow S 9 1 v' (n+l.length) (xs++l.map Value.string)∧w.grownBy w' v.ownBlock∧(v'.ownBlock=v.ownBlock∨v'.ownBlock=some w.heap.size):=by
  rintro ad rfl hnews;obtain⟨v',w',h1,h2,h3,_,h5⟩:=run_append_own_at (P:=Tryz.prog) w S 49 49 9 i0 _ 1 16 Tryz.underlying49 hi0 hz0 hz1 hz2 rfl (by omega) v n xs hown ad l.length c (l.map Value.string) (by simp) hnews (by simp[Value.oneCell']) (by unfold maxLen;omega) (by omega) hS;exact⟨v',w',h1,h2,h3,h5⟩
 by_cases hl:0<l.length
 · exact some_case _ (hA hl) (fun j u hu=>by
    rw[Addr.add_mid];simp only[List.getElem?_map,Option.map_eq_some_iff] at hu;obtain⟨x,h1,rfl⟩:=hu;exact hcell j x h1)
 · have h0:l=[]:=List.eq_nil_of_length_eq_zero (by omega);subst h0;cases A with
   | some ad=>exact some_case ad rfl (fun j u hu=>by simp at hu)
   | none=>
    have key:∀(A':Option Addr) (n' cap:Nat),n'≤cap→(Builtin.append_ #[49,49] 49 #[.slice A' n' cap,.slice none 0 c]).run Tryz.prog w=.ok (.slice A' (n'+0) cap) w:=fun A' n' cap hle=>
     a5g (P:=Tryz.prog) (w:=w) (w':=w) (A:=A') (sLen:=n') (sCap:=cap) (m:=0) (x:=.slice none 0 c) (news:=[]) (ty:=49) Tryz.underlying49 Tryz.underlying49 (by intro k h;cases h) hi0 (by simp[Builtin.lenOf]) (run_firstCells_none w _ 0 0 c) (by omega) (fun ad _=>by simp[storeCells]) (fun _=>rfl)
    refine⟨v,w,?_,by simpa using hown,World.grownBy.refl _ _,.inl rfl⟩;rcases hown.2 with⟨rfl,_⟩| ⟨g,cap,cur,rfl,_,_,hnc,_⟩
    · exact key none 0 0 (Nat.le_refl _)
    · exact key _ n cap hnc
set_option maxRecDepth 100000 in
set_option maxHeartbeats 3200000 in
theorem f2h(lb lo c:Nat)(A:Option Addr)(LS:List (List ByteArray))(W0:World)(hA:0<LS.length→A=some ⟨lb,lo,none⟩)(hlen:LS.length≤1073741824)(hc:LS.length≤c)
 (hin:∀(i:Nat) (l:List ByteArray),LS[i]? =some l→∃v,W0.cell? ⟨lb,lo+i,none⟩=some v∧c4c W0 v l) (htot:LS.flatten.length≤1073741824):
 Calls Tryz.prog 99 #[.slice A LS.length c] W0 fun e w'=>∃v,e=.returned v∧Below W0.heap.size W0 w'∧w'.ownsRow W0.heap.size 9 1 v LS.flatten.length (LS.flatten.map Value.string):=by
 obtain⟨i0,hi0,hz0,hz1,hz2⟩:=info_parts h7r
 go_enter Tryz.func99,Tryz.ntmps99
 go_wp2_with fail
 go_loop [3,11] (fun sv iv=>∃k:Nat,k≤LS.length∧iv=.int .i64 k∧sv=.int .i64 (e7b LS k)) (fun _ iv=>LS.length - (intOf iv).toNat)
 case atStart=>exact⟨0,Nat.zero_le _,rfl,rfl⟩
 case round=>
  obtain⟨k,hk,rfl,rfl⟩:=hrel;have hle:=f3t LS k
  by_cases hlt:k<LS.length
  · obtain⟨l,hl⟩:∃l,LS[k]? =some l:=⟨_,List.getElem?_eq_getElem hlt⟩
    have hA':=hA (by omega);subst hA';obtain⟨v,hv,B,cc,b,o,rfl,hcc,hB,hcell⟩:=hin k l hl;have hle2:=f3t LS (k+1);obtain⟨hs,_⟩:=e2r hl;have hle3:e7b LS k+l.length≤LS.flatten.length:=by omega
    have Hs:=c9z hs;clear hcell hl hin hA hs hle2
    go_wp2_with fail
    all_goals
     go_round
     case rel=>exact⟨k+1,by omega,by go_num,by rw[Hs.out];go_num⟩
     case measure=>simp[intOf];omega
  · obtain⟨hs,_⟩:=f3u hlt;have Hs:=c9z hs;have Hin:=c9z hin;have HA:=c9z hA;have Htot:=c9z htot;have hb2:e7b LS k≤1073741824:=by omega
    clear hs hin hA htot hle
    go_wp2_with ((refine (f0w _ (by omega) _).mono ?_);rintro e w' ⟨v,rfl,hb,hown⟩)
    have HB:=c9z hb;have HO:=c9z hown;clear hb hown
    go_wp2_with fail
    go_loopw [6,27] (fun nv iv wr=>∃k:Nat,k≤LS.length∧iv=.int .i64 k∧Hid (Below W0.heap.size W0 wr)∧Hid (wr.ownsRow W0.heap.size 9 1 nv (e7b LS k) (h7i LS k))) (fun _ iv _=>LS.length - (intOf iv).toNat)
    case atStart=>exact⟨0,Nat.zero_le _,rfl,HB,c9z (by simpa [e7b,h7i] using HO.out)⟩
    case round=>
     obtain⟨k,hk,rfl,HB2,HO2⟩:=hrel
     by_cases hlt:k<LS.length
     · obtain⟨l,hl⟩:∃l,LS[k]? =some l:=⟨_,List.getElem?_eq_getElem hlt⟩
       have hA':=HA.out (by omega);subst hA';obtain⟨v2,hv2,hs2⟩:=Hin.out k l hl;have hle2:=f3t LS (k+1);obtain⟨q1,q2⟩:=e2r hl;have hS:=HB2.out.size;obtain⟨v',w',hq,ho,hg,_⟩:=j1d HO2.out hS (hs2.below HB2.out) (by have:=Htot.out;omega);obtain⟨B,cc,b,o,rfl,_⟩:=hs2;have hlb:lb<W0.heap.size:=World.block_lt_of_cell? W0 _ hv2;have hv3:wr.cell? ⟨lb,lo+k,none⟩=some (.slice B l.length cc):=(HB2.out.cell (p:=⟨lb,lo+k,none⟩) hlb).trans hv2;have hnb:∀j,u6.ownBlock=some j→W0.heap.size≤j:=fun j hj=>(HO2.out.lt j hj).1;have HB3:Hid (Below W0.heap.size W0 w'):=c9z (HB2.out.grown hg hS hnb);have HO3:Hid (w'.ownsRow W0.heap.size 9 1 v' (e7b LS (k+1)) (h7i LS (k+1))):=c9z (by rw[q1,q2];exact ho);clear hl hv2 hle2 q1 q2 hg ho hnb
       go_wp2_with (refine c1m (by rfl) (.tmp 31) (.tmp 32) 49 (by rfl) (by rfl) (by rfl) hq ?_)
       go_roundw
       case rel=>exact⟨k+1,by omega,by go_num,HB3,HO3⟩
       case measure=>simp[intOf];omega
     · go_wp2_with fail
       obtain⟨e1,e2⟩:=f3u hlt;have HO4:=HO2.out;rw[e1,e2] at HO4
       go_ret
       exact⟨_,rfl,HB2.out,HO4⟩
end Go.Kn
namespace Go.Av
open Go.Kn Go.Proofs
open Go.RowKit (Below)
theorem d0l{w:World}{V:Vis}{b sz:Nat}:∀ {es:List AVal} {l:List ByteArray} {o:Nat},d3g es=some l→b1p w V sz b o es→l.length=es.length∧(es≠[]→sz=1)∧∀(j:Nat) (x:ByteArray),l[j]? =some x→w.cell? ⟨b,o+j,none⟩=some (.string x)
 | [],l,o,h,_=>by simp only[d3g] at h;injection h with h;subst h;exact⟨rfl,fun h=>absurd rfl h,fun j x hx=>by simp at hx⟩
 | e::r,l,o,h,hr=>by
  unfold d3g at h;split at h
  · rename_i heq;cases heq
  · rename_i s r' heq;injection heq with e1 e2;subst e1;subst e2;obtain⟨l',h1,rfl⟩:=map_some h;obtain⟨⟨h2,_,x0,h4,h5⟩,h6⟩:=hr;have h5:x0=.string (ba s):=h5;subst h5;subst h2;obtain⟨q1,_,q3⟩:=d0l h1 h6;refine⟨by simp[q1],fun _=>rfl,fun j x hx=>?_⟩;cases j with
    | zero=>simp at hx;subst hx;simpa using h4
    | succ j=>rw[show o+(j+1)=o+1+j by omega];exact q3 j x (by simpa using hx)
  · cases h
theorem i1f{w:World}{V:Vis}{es:List AVal}{l:List ByteArray}{v:Value}(h:d3g es=some l)(hr:a1v w V (.slice es) v):c4c w v l:=by
 obtain⟨A,c,rfl,hc,hrow⟩:=hr;rcases hrow with rfl| ⟨g,o,sz,hA,hsz,hrow⟩
 · simp only[d3g] at h;injection h with h;subst h;exact⟨A,c,0,0,rfl,by simp,fun h=>absurd h (by simp),fun j x hx=>by simp at hx⟩
 · obtain⟨q1,q2,q3⟩:=d0l h hrow;exact⟨A,c,g,o,by rw[q1],by rw[q1];exact hc,fun _=>hA,q3⟩
theorem c7y{w:World}{V:Vis}{b sz:Nat}:∀ {es:List AVal} {LS:List (List ByteArray)} {o:Nat},c0p es=some LS→b1p w V sz b o es→LS.length=es.length∧∀(j:Nat) (l:List ByteArray),LS[j]? =some l→∃v,w.cell? ⟨b,o+j,none⟩=some v∧c4c w v l
 | [],l,o,h,_=>by simp only[c0p] at h;injection h with h;subst h;exact⟨rfl,fun j x hx=>by simp at hx⟩
 | e::r,l,o,h,hr=>by
  unfold c0p at h;split at h
  · rename_i heq;cases heq
  · rename_i es r' heq;injection heq with e1 e2;subst e1;subst e2;obtain⟨l0,h0,h⟩:=bind_some h;obtain⟨l',h1,rfl⟩:=map_some h;obtain⟨⟨h2,_,x0,h4,h5⟩,h6⟩:=hr;subst h2;obtain⟨q1,q3⟩:=c7y h1 h6;refine⟨by simp[q1],fun j x hx=>?_⟩;cases j with
    | zero=>simp at hx;subst hx;exact⟨x0,by simpa using h4,i1f h0 h5⟩
    | succ j=>rw[show o+(j+1)=o+1+j by omega];exact q3 j x (by simpa using hx)
  · cases h
theorem d5u:b3j Tryz.prog 99:=⟨Tryz.f99,_,Tryz.func99,by kernel_rfl,rfl⟩
theorem d1m:∀ {es:List AVal} {LS:List (List ByteArray)},c0p es=some LS→LS.length=es.length
 | [],l,h=>by simp only[c0p] at h;injection h with h;subst h;rfl
 | e::r,l,h=>by
  unfold c0p at h;split at h
  · rename_i heq;cases heq
  · rename_i es r' heq;injection heq with e1 e2;subst e1;subst e2;obtain⟨l0,h0,h⟩:=bind_some h;obtain⟨l',h1,rfl⟩:=map_some h;simp[d1m h1]
  · cases h
theorem d9w{F:World→Prop}:a5s Tryz.prog F fun f la H=>if f=99 then b3z la H else none:=by
 refine a5s.of_plain (fun f la H r hr=>?_) ?_
 · replace hr:(if f=99 then b3z la H else none)=some r:=hr;split at hr
   · unfold b3z at hr;split at hr
     · simp[a1q]
     · cases hr
   · cases hr
 intro f la H r hr xs w V T0 μ γ a0 hx hpl h hl hF hsl;replace hr:(if f=99 then b3z la H else none)=some r:=hr;split at hr
 case isFalse=>cases hr
 rename_i hf;subst hf;unfold b3z at hr;split at hr
 case h_2=>cases hr
 rename_i ls;obtain⟨LS,hLS,hr⟩:=bind_some hr;split at hr
 case isFalse=>cases hr
 rename_i hb;injection hr with hr;subst hr;refine⟨d5u,?_⟩;have hxs:∃x0,xs= #[x0]∧a1v w V (.slice ls) x0:=by
  cases hxl:xs.toList with
  | nil=>rw[hxl] at hx;exact hx.elim
  | cons x0 r=>
   rw[hxl] at hx;cases r with
   | cons _ _=>exact hx.2.elim
   | nil=>exact⟨x0,by apply Array.ext';simpa using hxl,hx.1⟩
 obtain⟨x0,rfl,A,c,rfl,hc,hrow⟩:=hxs;have hlen:=d1m hLS;have key:∃lb lo,(0<LS.length→A=some ⟨lb,lo,none⟩)∧∀(i:Nat) (l:List ByteArray),LS[i]? =some l→∃v,w.cell? ⟨lb,lo+i,none⟩=some v∧c4c w v l:=by
  rcases hrow with rfl| ⟨g,o,sz,hA,hsz,hrow⟩
  · have:LS=[]:=List.eq_nil_of_length_eq_zero hlen;subst this;exact⟨0,0,fun h=>absurd h (by simp),fun j x hx=>by simp at hx⟩
  · exact⟨g,o,fun _=>hA,(c7y hLS hrow).2⟩
 obtain⟨lb,lo,hA,hin⟩:=key;rw[←hlen] at hc hb⊢;refine (f2h lb lo c A LS w hA hb.1 hc hin hb.2).mono fun e w' ⟨v,he,hbl,ho⟩=>⟨v,he,?_⟩
 clear hr;generalize LS.flatten=FL at hb ho⊢
 let V':Vis:=fun g o=>V g o∨(v.ownBlock=some g∧o<FL.length)
 have hVlt:∀g o,V g o→g<w.heap.size:=h.vis;have hnew:∀g,v.ownBlock=some g→w.heap.size≤g∧g<w'.heap.size:=fun g hg=>ho.lt g hg;have hno:∀b g,μ b≠some g:=fun b g hb=>by
  obtain⟨cs,hc⟩:=h.dom b g hb;cases b<;>simp[a6d,St.box,a0j] at hc
 have hrep:a1v w' V' (.slice (FL.map e7d)) v:=by
  rcases ho.2 with⟨rfl,h0⟩| ⟨g,cap,cur,rfl,_,hg,hn,_,hsz,ht⟩
  · have:FL=[]:=List.eq_nil_of_length_eq_zero h0;rw[this];exact⟨none,0,rfl,Nat.le_refl _,.inl rfl⟩
  · refine⟨some ⟨g,0,none⟩,cap,by simp,by simpa using hn,.inr ⟨g,0,1,rfl,by decide,e0z fun j x hx=>?_⟩⟩;have hj:j<FL.length:=(List.getElem?_eq_some_iff.1 hx).1;refine⟨.inr ⟨rfl,by omega⟩,?_⟩;rw[Nat.zero_add,cell_of_row w' g j cur 9 (0,0) hg];have h2:(cur.toList.take (FL.length*1))[j]? =some (.string x):=by rw[ht];simp[hx]
    rw[List.getElem?_take_of_lt (by omega)] at h2;simpa using h2
 have hnb:∀b,(a3e (.slice (FL.map e7d)) []).box b=none:=fun b=>by cases b<;>simp[a3e,St.box,a0j]
 have hat:∀p T n es,(a3e (.slice (FL.map e7d)) []).at p≠some (.own T n es):=fun p T n es hp=>by
  cases p with
  | tmp k=>
   simp only[St.at,a3e,a0j] at hp;split at hp<;>simp at hp
  | cell b off=>simp only[St.at,hnb,Option.bind_none] at hp;cases hp
 refine⟨V',γ,⟨#[v],[]⟩,rfl,?_,?_,?_,.inl rfl⟩
 · refine {tm:=?_,bx:=fun b cs hb=>?_,dom:=fun b g hb=>(hno b g hb).elim,inj:=h.inj,visb:=fun b g hb=>(hno b g hb).elim,vis:=fun g o hv=>?_,ow:=fun p T n es x g hp=>(hat p T n es hp).elim,ow2:=fun p p' T n es T' n' es' x x' g hp=>(hat p T n es hp).elim,gq:=fun _ _ _=>trivial}
   · intro k u hu;simp only[a3e,a0j] at hu;split at hu
     · rename_i hk;injection hu with hu;subst hu;subst hk;exact⟨v,rfl,hrep⟩
     · cases hu
   · rw[hnb] at hb;cases hb
   · rcases hv with hv|hv
     · exact Nat.lt_of_lt_of_le (hVlt g o hv) hbl.size
     · exact (hnew g hv.1).2
 · refine⟨hbl.os,hbl.tape,hbl.output,hbl.size,fun g hg _=>hbl.block g hg,fun g o hv=>⟨.inl hv,.of (hbl.block g (hVlt g o hv))⟩,fun g o hv=>?_,hsl⟩;rcases hv with hv|hv
   · exact .inl hv
   · exact .inr (.inl (hnew g hv.1).1)
 · refine⟨fun b g hb=>(hno b g hb).elim,hl.par,fun p T n es x g hp=>(hat p T n es hp).elim⟩
end Go.Av
