/- A term is put in the places of a variable, a proof in the places of a name: the program. -/
import Derived.Test.YtjfghnkmladbkaaGreatDoorAvK
import Derived.Test.YtjfghnkmladbkaaGreatDoorAvJ
namespace Go.Proofs
open Go.Av
set_option maxHeartbeats 16000000
set_option maxRecDepth 100000
/-! an array that is filled element by element, whatever the elements -/
structure Cel {α : Type} (f : α → List AVal) (z : List AVal) (N : Nat) : Prop where
 len : ∀ x, (f x).length = N
 zlen : z.length = N
 head : ∀ x, (f x).map stampH = f x
 zhead : z.map stampH = z
 znew : ∀ m, (z.map (stamp1 m)).map stampH = z
 nam : ∀ x, (f x).flatMap names1 = []
 znam : z.flatMap names1 = []
 str : ∀ x, (f x).map strip1 = f x
 pur : ∀ x, (f x).all pure1 = true
def cellsG {α : Type} (f : α → List AVal) (z : List AVal) (ys : List α) (n i : Nat) : List AVal := (ys.take i).flatMap f ++ repA (n - i) z
section
variable {α : Type} {f : α → List AVal} {z : List AVal} {N : Nat} (c : Cel f z N)
include c
theorem Cel.flatLen : ∀ l : List α, (l.flatMap f).length = l.length * N
 | [] => by simp
 | t :: l => by rw [List.flatMap_cons, List.length_append, Cel.flatLen l, c.len, List.length_cons, Nat.succ_mul]; omega
theorem Cel.cellsLen {ys : List α} {n i : Nat} (h : ys.length = n) (hi : i ≤ n) : (cellsG f z ys n i).length = n * N := by
 unfold cellsG
 rw [List.length_append, c.flatLen, repA_len, List.length_take, c.zlen, show min i ys.length = i by omega, ← Nat.add_mul]
 congr 1; omega
theorem Cel.flatHead : ∀ l : List α, (l.flatMap f).map stampH = l.flatMap f
 | [] => rfl
 | t :: l => by rw [List.flatMap_cons, List.map_append, c.head, Cel.flatHead l]
theorem Cel.cellsHead (ys : List α) (n i : Nat) : (cellsG f z ys n i).map stampH = cellsG f z ys n i := by
 unfold cellsG
 rw [List.map_append, c.flatHead, repA_map, c.zhead]
theorem Cel.cellsNew (ys : List α) (n m : Nat) : ((repA n z).map (stamp1 m)).map stampH = cellsG f z ys n 0 := by
 rw [repA_map, repA_map, c.znew]; unfold cellsG; simp
theorem Cel.flatNames : ∀ l : List α, (l.flatMap f).flatMap names1 = []
 | [] => rfl
 | t :: l => by rw [List.flatMap_cons, List.flatMap_append, Cel.flatNames l, c.nam]; rfl
theorem Cel.repNames : ∀ n, (repA n z).flatMap names1 = []
 | 0 => rfl
 | n + 1 => by rw [repA, List.flatMap_append, Cel.repNames n, c.znam]; rfl
theorem Cel.cellsNames (ys : List α) (n i : Nat) : (cellsG f z ys n i).flatMap names1 = [] := by
 unfold cellsG
 rw [List.flatMap_append, c.flatNames, c.repNames]; rfl
theorem Cel.cellsPut {ys : List α} {n i : Nat} (hl : ys.length = n) {y : α} (hy : ys[i]? = some y) :
 (cellsG f z ys n i).take (i * N) ++ (f y ++ (cellsG f z ys n i).drop (i * N + N)) = cellsG f z ys n (i + 1) := by
 have hi : i < n := by have := (List.getElem?_eq_some_iff.1 hy).1; omega
 unfold cellsG
 have h1 : ((ys.take i).flatMap f).length = i * N := by rw [c.flatLen, List.length_take]; congr 1; omega
 have h2 : n - i = (n - (i + 1)) + 1 := by omega
 rw [List.take_left' h1, take_snoc hy, List.flatMap_append, h2, repA, ← h1, List.drop_length_add_append, ← c.zlen, List.drop_left]
 simp only [List.flatMap_cons, List.flatMap_nil, List.append_nil, List.append_assoc]
theorem Cel.cellsEnd {ys : List α} {n : Nat} (hl : ys.length = n) : cellsG f z ys n n = ys.flatMap f := by
 have := c.zlen
 unfold cellsG
 rw [List.take_of_length_le (by omega), Nat.sub_self]; simp [repA]
theorem Cel.flatStrip : ∀ l : List α, (l.flatMap f).map strip1 = l.flatMap f
 | [] => rfl
 | t :: l => by rw [List.flatMap_cons, List.map_append, c.str, Cel.flatStrip l]
theorem Cel.flatPure : ∀ l : List α, (l.flatMap f).all pure1 = true
 | [] => rfl
 | t :: l => by rw [List.flatMap_cons, List.all_append, c.pur, Cel.flatPure l]; rfl
theorem Cel.flatChunks : ∀ (l : List α), chunks true N l.length (l.flatMap f) = l.map fun x => .agg (f x)
 | [] => rfl
 | t :: l => by
  rw [List.length_cons, chunks, List.flatMap_cons, List.map_cons]
  rw [List.take_left' (c.len t), List.drop_left' (c.len t), Cel.flatChunks l]; rfl
end
end Go.Proofs
namespace Go.Proofs
open Go.Av
set_option maxHeartbeats 32000000
set_option maxRecDepth 100000
/-! a term with other parts -/
def zTmW : List AVal := [.int .i64 0, .str [], .int .i64 0, .str [], .int .i64 0, .own 25 0 [], .int .i64 0, .str [], .int .i64 0, .int .i64 0, .str [], .int .i64 0, .own 25 0 [], .own 28 0 [], .own 32 0 [], .own 134 0 []]
def zTaW : List AVal := [.str [], .own 9 0 [], .own 9 0 [], .own 9 0 [], .int .i64 0, .str [], .int .i64 0, .str [], .int .i64 0, .own 25 0 [], .int .i64 0, .str [], .int .i64 0, .int .i64 0, .str [], .int .i64 0, .own 25 0 [], .own 28 0 [], .own 32 0 [], .own 134 0 []]
def taC (a : Ta) : List AVal := .str a.con :: .slice (a.types.map .str) :: .slice (a.cos.map .str) :: .slice (a.vars.map .str) :: tmC a.body
theorem taV_c (a : Ta) : taV a = .agg (taC a) := taV_eq a
theorem taC_eq (a : Ta) : taC a = [.str a.con, .slice (a.types.map .str), .slice (a.cos.map .str), .slice (a.vars.map .str), .int .i64 a.body.kind, .str a.body.name, .int .i64 a.body.ty.kind, .str a.body.ty.name, .int .i64 a.body.ty.n, .slice (tysV a.body.ty.args), .int .i64 a.body.co.kind, .str a.body.co.name, .int .i64 a.body.co.n, .int .i64 a.body.co.ty.kind, .str a.body.co.ty.name, .int .i64 a.body.co.ty.n, .slice (tysV a.body.co.ty.args), .slice (cxsV a.body.co.kids), .slice (tmsV a.body.kids), .slice (tasV a.body.alts)] := by unfold taC; rw [tmC_eq]
theorem tasV_agg (l : List Ta) : (l.map fun x => AVal.agg (taC x)) = tasV l := by
 rw [tasV_map]; exact List.map_congr_left fun a _ => (taV_c a).symm
theorem celTm : Cel tmC zTmW 16 := ⟨fun x => by rw [tmC_eq]; rfl, rfl, fun x => by rw [tmC_eq]; rfl, rfl, fun m => rfl, fun x => by rw [tmC_eq]; rfl, rfl, fun x => by rw [tmC_eq]; rfl, fun x => by rw [tmC_eq]; rfl⟩
theorem celTa : Cel taC zTaW 20 := ⟨fun x => by rw [taC_eq]; rfl, rfl, fun x => by rw [taC_eq]; rfl, rfl, fun m => rfl, fun x => by rw [taC_eq]; rfl, rfl, fun x => by rw [taC_eq]; rfl, fun x => by rw [taC_eq]; rfl⟩
def cellTm (ys : List Tm) (n i : Nat) : List AVal := cellsG tmC zTmW ys n i
theorem cellTm_Names (ys : List Tm) (n i : Nat) : (cellTm ys n i).flatMap names1 = [] := celTm.cellsNames ys n i
theorem cellTm_Head (ys : List Tm) (n i : Nat) : (cellTm ys n i).map stampH = cellTm ys n i := celTm.cellsHead ys n i
theorem cellTm_Len {ys : List Tm} {n i : Nat} (h : ys.length = n) (hi : i ≤ n) : (cellTm ys n i).length = n * 16 := celTm.cellsLen h hi
theorem cellTm_Put {ys : List Tm} {n i : Nat} (hl : ys.length = n) {y : Tm} (hy : ys[i]? = some y) : (cellTm ys n i).take (i * 16) ++ (tmC y ++ (cellTm ys n i).drop (i * 16 + 16)) = cellTm ys n (i + 1) := celTm.cellsPut hl hy
theorem cellTm_End {ys : List Tm} {n : Nat} (hl : ys.length = n) : cellTm ys n n = ys.flatMap tmC := celTm.cellsEnd hl
theorem cellTm_New (ys : List Tm) (n m : Nat) : ((repA n zTmW).map (stamp1 m)).map stampH = cellTm ys n 0 := celTm.cellsNew ys n m
def cellTa (ys : List Ta) (n i : Nat) : List AVal := cellsG taC zTaW ys n i
theorem cellTa_Names (ys : List Ta) (n i : Nat) : (cellTa ys n i).flatMap names1 = [] := celTa.cellsNames ys n i
theorem cellTa_Head (ys : List Ta) (n i : Nat) : (cellTa ys n i).map stampH = cellTa ys n i := celTa.cellsHead ys n i
theorem cellTa_Len {ys : List Ta} {n i : Nat} (h : ys.length = n) (hi : i ≤ n) : (cellTa ys n i).length = n * 20 := celTa.cellsLen h hi
theorem cellTa_Put {ys : List Ta} {n i : Nat} (hl : ys.length = n) {y : Ta} (hy : ys[i]? = some y) : (cellTa ys n i).take (i * 20) ++ (taC y ++ (cellTa ys n i).drop (i * 20 + 20)) = cellTa ys n (i + 1) := celTa.cellsPut hl hy
theorem cellTa_End {ys : List Ta} {n : Nat} (hl : ys.length = n) : cellTa ys n n = ys.flatMap taC := celTa.cellsEnd hl
theorem cellTa_New (ys : List Ta) (n m : Nat) : ((repA n zTaW).map (stamp1 m)).map stampH = cellTa ys n 0 := celTa.cellsNew ys n m
/-- a box without places in it: nothing becomes of it on its way to a callee and back -/
structure Quiet (B : List AVal) : Prop where
 inn : ∀ ns, List.map (cellIn ns) B = B
 out : ∀ ns n, List.map (cellOut ns n) B = B
 head : B.map stampH = B
 nam : B.flatMap names1 = []
theorem quiet_of {B : List AVal} (h : ∀ c ∈ B, pure1 c = true) : Quiet B := by
 have h1 : ∀ c : AVal, pure1 c = true → (∀ ns, cellIn ns c = c) ∧ (∀ ns n, cellOut ns n c = c) ∧ stampH c = c ∧ names1 c = [] := by
  intro c hc
  cases c <;> first | (cases hc; done) | exact ⟨fun _ => rfl, fun _ _ => rfl, rfl, rfl⟩
 refine ⟨fun ns => map_id_mem fun c hc => (h1 c (h c hc)).1 ns, fun ns n => map_id_mem fun c hc => (h1 c (h c hc)).2.1 ns n, map_id_mem fun c hc => (h1 c (h c hc)).2.2.1, List.flatMap_eq_nil_iff.2 fun c hc => (h1 c (h c hc)).2.2.2⟩
theorem quiet_tm (t : Tm) : Quiet (tmC t) := quiet_of fun c hc => List.all_eq_true.1 (celTm.pur t) c hc
theorem quiet_str (s : List UInt8) : Quiet [.str s] := quiet_of fun c hc => by simp at hc; subst hc; rfl
theorem withV_den (t : Tm) (ys : List Tm) (zs : List Ta) (B0 B1 B2 : List AVal) (q0 : Quiet B0) (q1 : Quiet B1) (q2 : Quiet B2) (hl : ys.length = t.kids.length) (hz : zs.length = t.alts.length) (hb : t.kids.length < 1000000) (hb2 : t.alts.length < 1000000)
 (hk : ∀ (i : Nat) (x y : Tm), t.kids[i]? = some x → ys[i]? = some y → den E 55 [.agg (tmC x), .int .i64 i, .ptr (.par 0) 0, .ptr (.par 1) 0, .ptr (.par 2) 0] [B0, B1, B2] = some (.agg (tmC y), [B0, B1, B2]))
 (ha : ∀ (i : Nat) (x y : Ta), t.alts[i]? = some x → zs[i]? = some y → den E 56 [taV x, .ptr (.par 0) 0, .ptr (.par 1) 0] [B1, B2] = some (taV y, [B1, B2])) :
 den E 54 [.agg (tmC t), .func 55 [] [.ptr (.par 0) 0, .ptr (.par 1) 0, .ptr (.par 2) 0], .func 56 [] [.ptr (.par 1) 0, .ptr (.par 2) 0]] [B0, B1, B2] = some (.agg (tmC (.mk t.kind t.name t.ty t.co ys zs)), [B0, B1, B2]) := by
 rw [den_eq prim_54, body_54]
 have rl := tmsV_len t.kids
 have ra := tasV_len t.alts
 obtain ⟨n, hn⟩ : ∃ n, n = t.kids.length := ⟨_, rfl⟩
 obtain ⟨m, hm⟩ : ∃ m, m = t.alts.length := ⟨_, rfl⟩
 rw [← hn] at hl rl
 rw [← hm] at hz ra
 have l1 : ((n : Int) ≤ 1073741824) = True := by simp; omega
 have l2 : ((m : Int) ≤ 1073741824) = True := by simp; omega
 have z1 : ∀ k, List.map stampH (List.map (stamp1 k) (repA n zTmW)) = cellTm ys n 0 := fun k => cellTm_New ys n k
 have z2 : ∀ k, List.map stampH (List.map (stamp1 k) (repA m zTaW)) = cellTa zs m 0 := fun k => cellTa_New zs m k
 unfold zTmW at z1
 unfold zTaW at z2
 obtain ⟨fin, hfin⟩ : ∃ fin, fin = (some (.agg (tmC (.mk t.kind t.name t.ty t.co ys zs)), [B0, B1, B2]) : Option (AVal × Heap)) := ⟨_, rfl⟩
 rw [← hfin]
 simp only [go_sem, Tryz.f54, tmC_eq t, rl, natge0, tonat, l1]
 refine run_for (fun i => ⟨[(1, .func 55 [] [.ptr (.par 0) 0, .ptr (.par 1) 0, .ptr (.par 2) 0]), (2, .func 56 [] [.ptr (.par 1) 0, .ptr (.par 2) 0]), (3, .ptr (.loc 3) 0), (6, .ptr (.loc 6) 0), (7, .ptr (.loc 16) (bsBase + n)), (18, .slice (tmsV t.kids)), (19, .int .i64 n), (20, .int .i64 i)], [B0, B1, B2], [(3, tmC t), (6, zTmW), (16, cellTm ys n i)], 1⟩) n ?_ ?_ ?_
 · simp only [go_sem, z1, cellTm_Names, tmC_eq t, zTmW, q0.head, q0.nam, q1.head, q1.nam, q2.head, q2.nam]
 · intro i hi h
   have hia : i < t.kids.length := by omega
   have hiy : i < ys.length := by omega
   obtain ⟨x, hx⟩ := getS hia
   obtain ⟨y, hy⟩ := getS hiy
   have d := hk i x y hx hy
   have w1 : IntKind.i64.wrap ((i : Int) + 1) = ((i + 1 : Nat) : Int) := wrapN (i + 1) (by omega)
   have i1 : ((i : Int) < (n : Int)) = True := by simp; omega
   have i2 : (i * 16 < bsBase) = True := by rw [bsBase_eq]; simp; omega
   have cl : (cellTm ys n i).length = n * 16 := cellTm_Len hl (by omega)
   have i3 : (i * 16 + 16 ≤ n * 16) = True := by simp; omega
   have hput := cellTm_Put hl hy
   rw [tmC_eq x, tmC_eq y] at d
   rw [tmC_eq y] at hput
   simp only [List.cons_append, List.nil_append] at hput
   simp only [go_sem, natge0, tonat, tmsV_get, hx, tmC_eq t, tmC_eq x, zTmW, ↓callF_func, d, i1, i2, cl, i3, q0.inn, q0.out, q0.nam, q1.inn, q1.out, q1.nam, q2.inn, q2.out, q2.nam]
   refine h _ ?_
   simp only [go_sem, w1, hput, cellTm_Head, cellTm_Names, tmC_eq t, zTmW, q0.head, q0.nam, q1.head, q1.nam, q2.head, q2.nam]
 · simp only [go_sem, natlt, Nat.lt_irrefl, tmC_eq t, zTmW, ra, natge0, tonat, l2]
   refine run_for (fun i => ⟨[(2, .func 56 [] [.ptr (.par 1) 0, .ptr (.par 2) 0]), (3, .ptr (.loc 3) 0), (6, .ptr (.loc 6) 0), (7, .ptr (.loc 16) (bsBase + n)), (10, .ptr (.loc 36) (bsBase + m)), (38, .slice (tasV t.alts)), (39, .int .i64 m), (40, .int .i64 i)], [B0, B1, B2], [(3, tmC t), (6, zTmW), (16, cellTm ys n n), (36, cellTa zs m i)], 1⟩) m ?_ ?_ ?_
   · simp only [go_sem, z2, cellTm_Names, cellTm_Head, cellTa_Names, tmC_eq t, zTmW, q0.head, q0.nam, q1.head, q1.nam, q2.head, q2.nam]
   · intro i hi h
     have hia : i < t.alts.length := by omega
     have hiy : i < zs.length := by omega
     obtain ⟨x, hx⟩ := getS hia
     obtain ⟨y, hy⟩ := getS hiy
     have d := ha i x y hx hy
     have w1 : IntKind.i64.wrap ((i : Int) + 1) = ((i + 1 : Nat) : Int) := wrapN (i + 1) (by omega)
     have i1 : ((i : Int) < (m : Int)) = True := by simp; omega
     have i2 : (i * 20 < bsBase) = True := by rw [bsBase_eq]; simp; omega
     have cl : (cellTa zs m i).length = m * 20 := cellTa_Len hz (by omega)
     have i3 : (i * 20 + 20 ≤ m * 20) = True := by simp; omega
     have hput := cellTa_Put hz hy
     rw [taV_c x, taV_c y, taC_eq x, taC_eq y] at d
     rw [taC_eq y] at hput
     simp only [List.cons_append, List.nil_append] at hput
     simp only [go_sem, natge0, tonat, tasV_get, hx, taV_c x, taC_eq x, tmC_eq t, zTmW, ↓callF_func, d, i1, i2, cl, i3, q1.inn, q1.out, q1.nam, q2.inn, q2.out, q2.nam]
     refine h _ ?_
     simp only [go_sem, w1, hput, cellTm_Head, cellTm_Names, cellTa_Head, cellTa_Names, tmC_eq t, zTmW, q0.head, q0.nam, q1.head, q1.nam, q2.head, q2.nam]
   · have c1 : (cellTm ys n n).length = n * 16 := cellTm_Len hl (Nat.le_refl _)
     have c2 : (cellTa zs m m).length = m * 20 := cellTa_Len hz (Nat.le_refl _)
     have e1 := cellTm_End hl
     have e2 := cellTa_End hz
     have k1 := celTm.flatChunks ys
     have k2 := celTa.flatChunks zs
     rw [hl] at k1
     rw [hz] at k2
     rw [e1] at c1
     rw [e2] at c2
     rw [← tmsV_map] at k1
     rw [tasV_agg] at k2
     simp only [go_sem, natlt, Nat.lt_irrefl, true_or, tmC_eq t, zTmW, e1, e2, c1, c2, celTm.flatStrip, celTm.flatPure, celTa.flatStrip, celTa.flatPure, celTa.flatNames, k1, k2, hfin, tmC_mk, q0.head, q0.nam, q1.head, q1.nam, q2.head, q2.nam]
end Go.Proofs
namespace Go.Proofs
open Go.Av
set_option maxHeartbeats 32000000
set_option maxRecDepth 100000
/-! a term in the place of a variable -/
mutual
def putV (n : List UInt8) (u : Tm) : Tm → Tm
 | .mk k s t c ks al => if k == 1 && s == n then u else if k == 3 && s == n then .mk k s t c ks al else .mk k s t c (putVk n u (k == 8 && s == n) 0 ks) (putVa n u al)
def putVk (n : List UInt8) (u : Tm) (b : Bool) : Nat → List Tm → List Tm
 | _, [] => []
 | i, x :: r => (if b && i == 1 then x else putV n u x) :: putVk n u b (i + 1) r
def putVa (n : List UInt8) (u : Tm) : List Ta → List Ta
 | [] => []
 | .mk c a b v e :: r => .mk c a b v (if v.contains n then e else putV n u e) :: putVa n u r
end
theorem putV_eq (n : List UInt8) (u : Tm) (t : Tm) : putV n u t = if t.kind == 1 && t.name == n then u else if t.kind == 3 && t.name == n then t else .mk t.kind t.name t.ty t.co (putVk n u (t.kind == 8 && t.name == n) 0 t.kids) (putVa n u t.alts) := by
 cases t; simp only [putV, Tm.kind, Tm.name, Tm.ty, Tm.co, Tm.kids, Tm.alts]; first | done | rfl | (split <;> first | rfl | (split <;> rfl))
theorem putVk_len (n : List UInt8) (u : Tm) (b : Bool) : ∀ (l : List Tm) (i : Nat), (putVk n u b i l).length = l.length
 | [], _ => by simp [putVk]
 | x :: r, i => by simp [putVk, putVk_len n u b r]
theorem putVk_get (n : List UInt8) (u : Tm) (b : Bool) : ∀ (l : List Tm) (j i : Nat), (putVk n u b j l)[i]? = (l[i]?).map fun x => if b && j + i == 1 then x else putV n u x
 | [], _, _ => by simp [putVk]
 | x :: r, j, 0 => by simp [putVk]
 | x :: r, j, i + 1 => by
  rw [putVk, List.getElem?_cons_succ, List.getElem?_cons_succ, putVk_get n u b r, show j + 1 + i = j + (i + 1) by omega]
def altV (n : List UInt8) (u : Tm) (a : Ta) : Ta := .mk a.con a.types a.cos a.vars (if a.vars.contains n then a.body else putV n u a.body)
theorem putVa_map (n : List UInt8) (u : Tm) : ∀ l : List Ta, putVa n u l = l.map (altV n u)
 | [] => by simp [putVa]
 | .mk c a b v e :: r => by rw [putVa, putVa_map n u r]; rfl
theorem nat_eq1 (i : Nat) : ((i : Int) == 1) = (i == 1) := by
 rw [Bool.eq_iff_iff]; simp only [beq_iff_eq]; omega
theorem pv1_den (t x u : Tm) (n : List UInt8) (i : Nat) (h : den E 15 [.agg (tmC x), .str n, .agg (tmC u)] [] = some (.agg (tmC (putV n u x)), [])) :
 den E 55 [.agg (tmC x), .int .i64 i, .ptr (.par 0) 0, .ptr (.par 1) 0, .ptr (.par 2) 0] [tmC t, [.str n], tmC u] = some (.agg (tmC (if (t.kind == 8 && t.name == n) && 0 + i == 1 then x else putV n u x)), [tmC t, [.str n], tmC u]) := by
 rw [den_eq prim_55, body_55, Nat.zero_add]
 rw [tmC_eq, tmC_eq, tmC_eq] at h
 rw [tmC_eq t, tmC_eq x, tmC_eq u]
 cases k : t.kind == 8 <;> cases a : t.name == n <;> cases b : i == 1 <;> simp only [go_sem, Tryz.f55, k, a, b, nat_eq1, h, tmC_eq]
theorem pv2_den (u : Tm) (x : Ta) (n : List UInt8) (hv : x.vars.length < 1000000) (h : den E 15 [.agg (tmC x.body), .str n, .agg (tmC u)] [] = some (.agg (tmC (putV n u x.body)), [])) :
 den E 56 [taV x, .ptr (.par 0) 0, .ptr (.par 1) 0] [[.str n], tmC u] = some (taV (altV n u x), [[.str n], tmC u]) := by
 rw [den_eq prim_56, body_56]
 obtain ⟨xc, xt, xo, xv, xb⟩ := x
 simp only [Ta.vars, Ta.body] at h hv
 have c := contains_den xv n hv
 rw [tmC_eq, tmC_eq, tmC_eq] at h
 rw [taV_c, taV_c, taC_eq, taC_eq, tmC_eq u]
 unfold altV
 simp only [Ta.con, Ta.types, Ta.cos, Ta.vars, Ta.body]
 rcases Bool.eq_false_or_eq_true (xv.contains n) with a | a <;> rw [a] at c <;> simp only [a]
 · simp only [go_sem, Tryz.f56, c]
 · simp only [go_sem, Tryz.f56, c, h]
theorem ta_vars_le (a : Ta) : a.vars.length + a.body.tot ≤ a.tot := by cases a; simp only [Ta.vars, Ta.body, Ta.tot]; omega
theorem tmT_mem {l : List Tm} {x : Tm} (h : x ∈ l) : x.tot ≤ Tm.tots l := by
 induction l with
 | nil => cases h
 | cons y r ih =>
  simp only [Tm.tots]
  rcases List.mem_cons.1 h with rfl | h
  · omega
  · have := ih h; omega
theorem ta_tots_mem {l : List Ta} {x : Ta} (h : x ∈ l) : x.tot ≤ Ta.tots l := by
 induction l with
 | nil => cases h
 | cons y r ih =>
  simp only [Ta.tots]
  rcases List.mem_cons.1 h with rfl | h
  · omega
  · have := ih h; omega
theorem tmT_len (l : List Tm) : l.length ≤ Tm.tots l := by
 induction l with
 | nil => simp [Tm.tots]
 | cons y r ih => simp only [Tm.tots, List.length_cons]; have := tm_tot_pos y; omega
theorem ta_tots_len (l : List Ta) : l.length ≤ Ta.tots l := by
 induction l with
 | nil => simp [Ta.tots]
 | cons y r ih => simp only [Ta.tots, List.length_cons]; have : 1 ≤ y.tot := by { cases y; simp only [Ta.tot]; omega }; omega
theorem tm_tot_of (t : Tm) : t.tot = t.ty.sz + t.co.tot + Tm.tots t.kids + Ta.tots t.alts := by cases t; simp only [Tm.tot, Tm.ty, Tm.co, Tm.kids, Tm.alts]
theorem ta_tot_of (a : Ta) : a.tot = a.body.tot + a.types.length + a.cos.length + a.vars.length + 1 := by cases a; simp only [Ta.tot, Ta.body, Ta.types, Ta.cos, Ta.vars]
theorem putvar_den (n : List UInt8) (u : Tm) : ∀ (m : Nat) (t : Tm), t.tot ≤ m → t.tot < 1000000 → den E 15 [.agg (tmC t), .str n, .agg (tmC u)] [] = some (.agg (tmC (putV n u t)), []) := by
 intro m
 induction m with
 | zero => intro t h; have := tm_tot_pos t; omega
 | succ m ih =>
  intro t hm hb
  have ht := tm_tot_of t
  have hs := sz_pos t.ty
  have hc := cx_tot_pos t.co
  have hkl := tmT_len t.kids
  have hal := ta_tots_len t.alts
  have d := withV_den t (putVk n u (t.kind == 8 && t.name == n) 0 t.kids) (putVa n u t.alts) (tmC t) [.str n] (tmC u) (quiet_tm t) (quiet_str n) (quiet_tm u) (putVk_len ..) (by rw [putVa_map, List.length_map]) (by omega) (by omega)
   (fun i x y hx hy => by
     rw [putVk_get, hx] at hy
     simp only [Option.map_some, Option.some.injEq] at hy
     have hm2 := tmT_mem (List.mem_of_getElem? hx)
     rw [← hy]; exact pv1_den t x u n i (ih x (by omega) (by omega)))
   (fun i x y hx hy => by
     rw [putVa_map, List.getElem?_map, hx] at hy
     simp only [Option.map_some, Option.some.injEq] at hy
     have hm2 := ta_tots_mem (List.mem_of_getElem? hx)
     have hm3 := ta_vars_le x
     have hp := tm_tot_pos x.body
     rw [← hy]; exact pv2_den u x n (by omega) (ih x.body (by omega) (by omega)))
  rw [putV_eq, den_eq prim_15, body_15]
  rw [tmC_eq t, tmC_eq u, tmC_mk] at d
  cases k1 : t.kind == 1 <;> cases k3 : t.kind == 3 <;> cases na : t.name == n <;>
   first
   | (rw [tmC_eq t, tmC_eq u]; simp only [go_sem, Tryz.f15, k1, k3, na, ↓callF_func, cellIn, cellOut, d, tmC_mk, tmC_eq t, tmC_eq u])
   | skip
end Go.Proofs
namespace Go.Proofs
open Go.Av
set_option maxHeartbeats 32000000
set_option maxRecDepth 100000
/-! a proof in the place of a name -/
def hV : AVal := .agg [.func 71 [] [], .func 72 [] [.ptr (.par 0) 0, .ptr (.par 1) 0], .func 73 [] []]
theorem cx_tot_of (c : Cx) : c.tot = c.ty.sz + Cx.tots c.kids := by cases c; simp only [Cx.tot, Cx.ty, Cx.kids]
end Go.Proofs
