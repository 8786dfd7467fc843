/- A proof in the places of a name: the document. -/
import Derived.Test.YtjfghnkmladbkaaGreatDoorAvQ
import Derived.Test.YtjfghnkmladbkaaGreatDoorAvK
namespace Go.Proofs
open Go.Av
set_option maxHeartbeats 32000000
set_option maxRecDepth 100000
/-! the document's own putting: the coercion's part -/
def zCxR : List AVal := [.int .i64 0, .str [], .int .i64 0, .int .i64 0, .str [], .int .i64 0, .own 38 0 [], .own 41 0 []]
def zTmR : List AVal := [.int .i64 0, .str [], .int .i64 0, .str [], .int .i64 0, .own 38 0 [], .int .i64 0, .str [], .int .i64 0, .int .i64 0, .str [], .int .i64 0, .own 38 0 [], .own 41 0 [], .own 45 0 [], .own 130 0 []]
/-- what is put: a term for a variable, a proof for a name; at first with lists that stand empty -/
def pV (n : List UInt8) (u : Tm) : List AVal := [.str [], .int .i64 0, .str [], .int .i64 0, .slice [], .str [], .int .i64 0, .str [], .int .i64 0, .int .i64 0, .str [], .int .i64 0, .slice [], .slice [], .str n, .int .i64 u.kind, .str u.name, .int .i64 u.ty.kind, .str u.ty.name, .int .i64 u.ty.n, .slice (tysV u.ty.args), .int .i64 u.co.kind, .str u.co.name, .int .i64 u.co.n, .int .i64 u.co.ty.kind, .str u.co.ty.name, .int .i64 u.co.ty.n, .slice (tysV u.co.ty.args), .slice (cxsV u.co.kids), .slice (tmsV u.kids), .slice (tasV u.alts)]
theorem incoV_den (n : List UInt8) (u : Tm) : ∀ (m : Nat) (e : Cx), e.tot ≤ m → e.tot < 1000000 → den E 63 [.agg (cxC e), .agg (pV n u)] [] = some (.agg (cxC e), []) := by
 intro m
 induction m with
 | zero => intro e h; have := cx_tot_pos e; omega
 | succ m ih =>
  intro e hm hb
  have ht := cx_tot_of e
  have hs := sz_pos e.ty
  have hkl := cx_tots_len e.kids
  have rl := cxsV_len e.kids
  rw [den_eq prim_63, body_63]
  cases k1 : e.kind == 1
  · obtain ⟨ys, hys⟩ : ∃ ys, ys = e.kids := ⟨_, rfl⟩
    have hyl : ys.length = e.kids.length := by rw [hys]
    have hyg : ∀ (i : Nat) (x : Cx), e.kids[i]? = some x → ys[i]? = some x := by
     intro i x hx
     rw [hys]; exact hx
    obtain ⟨fin, hfin⟩ : ∃ fin, fin = (some (.agg (cxC (.mk e.kind e.name e.n e.ty ys)), []) : Option (AVal × Heap)) := ⟨_, rfl⟩
    have hgoal : (some (.agg (cxC e), []) : Option (AVal × Heap)) = fin := by rw [hfin, hys]; cases e; rfl

    rw [hgoal]
    rw [cxC_mk] at hfin
    simp only [go_sem, Tryz.f63, pV, cxC_eq e, k1]
    refine run_for (fun i => ⟨[(2, .ptr (.loc 2) 0), (3, .ptr (.loc 3) 0), (4, .ptr (.loc 4) 0), (5, .ptr (.loc 5) 0), (6, .int .i64 i)], [], [(2, cxC e), (3, pV n u), (4, zCxR), (5, [.int .i64 e.kind, .str e.name, .int .i64 e.n, .int .i64 e.ty.kind, .str e.ty.name, .int .i64 e.ty.n, .slice (tysV e.ty.args), .own 41 0 (cxsV (ys.take i))])], 1⟩) e.kids.length ?_ ?_ ?_
    · simp only [go_sem, cxC_eq e, pV, zCxR, List.take_zero, cxsV_nil]
    · intro i hi h
      obtain ⟨x, hx⟩ := getS hi
      have hy := hyg i x hx
      have hm2 := cx_tots_mem (List.mem_of_getElem? hx)
      have d := ih x (by omega) (by omega)
      have w1 : IntKind.i64.wrap ((i : Int) + 1) = ((i + 1 : Nat) : Int) := wrapN (i + 1) (by omega)
      have hap : (cxsV (ys.take i)).length + 1 ≤ appMax := by rw [cxsV_len, List.length_take]; unfold appMax; omega
      rw [take_snoc hy] at h
      rw [cxC_eq x] at d
      unfold pV at d
      simp only [go_sem, natlt, decide_eq_true hi, rl, natge0, tonat, cxsV_get, hx, cxC_eq e, cxC_eq x, pV, d, hap]
      refine h _ ?_
      simp only [go_sem, w1, cxsV_append, cxsV_cons, cxsV_nil, cxC_eq e, cxC_eq x, pV, zCxR]
    · simp only [go_sem, natlt, Nat.lt_irrefl, rl, cxC_eq e, pV, zCxR, ← hyl, List.take_length, hfin]
  · rw [cxC_eq e]
    simp only [go_sem, Tryz.f63, pV, k1]
end Go.Proofs
namespace Go.Proofs
open Go.Av
set_option maxHeartbeats 32000000
set_option maxRecDepth 100000
/-! the document's own putting -/
theorem taV_mk (c : List UInt8) (a b v : List (List UInt8)) (e : Tm) : taV (.mk c a b v e) = .agg [.str c, .slice (a.map .str), .slice (b.map .str), .slice (v.map .str), .int .i64 e.kind, .str e.name, .int .i64 e.ty.kind, .str e.ty.name, .int .i64 e.ty.n, .slice (tysV e.ty.args), .int .i64 e.co.kind, .str e.co.name, .int .i64 e.co.n, .int .i64 e.co.ty.kind, .str e.co.ty.name, .int .i64 e.co.ty.n, .slice (tysV e.co.ty.args), .slice (cxsV e.co.kids), .slice (tmsV e.kids), .slice (tasV e.alts)] := by
 rw [taV_c, taC_eq]; rfl
theorem tmsV_append (a b : List Tm) : tmsV (a ++ b) = tmsV a ++ tmsV b := by simp [tmsV_map]
end Go.Proofs
