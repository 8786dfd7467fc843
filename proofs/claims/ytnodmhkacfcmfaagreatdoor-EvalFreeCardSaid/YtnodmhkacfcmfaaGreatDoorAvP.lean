/- What stands free in an expression, and what is bound. -/
import Derived.Test.YtnodmhkacfcmfaaGreatDoorAvK
import Derived.Test.YtnodmhkacfcmfaaGreatDoorAvI
import Derived.Test.YtnodmhkacfcmfaaGreatDoorAvJ
namespace Go.Proofs
open Go.Av
end Go.Proofs
namespace Go.Proofs
open Go.Av
set_option maxHeartbeats 16000000
set_option maxRecDepth 100000
/-! sets of names -/
def entsV (l : List (List UInt8)) : List AVal := l.map fun n => .tup [.str n, .bool true]
theorem isL_ents (l : List (List UInt8)) : isL (entsV l) = none := by
  cases l with
  | nil => rfl
  | cons a r => cases r <;> rfl
attribute [go_sem ↓] isL_ents
def addS (l : List (List UInt8)) (n : List UInt8) : List (List UInt8) := if l.contains n then l else l ++ [n]
def withS (b ns : List (List UInt8)) : List (List UInt8) := ns.foldl addS b
theorem find_ents (n : List UInt8) : ∀ l, findE (.str n) (entsV l) = some (if l.contains n then some (.bool true) else none)
  | [] => rfl
  | x :: r => by
    have ih := find_ents n r
    unfold entsV at ih ⊢
    rw [List.map_cons, List.contains_cons]
    simp only [findE, keyEq, Option.bind_some]
    cases h : n == x
    · simp only [Bool.false_eq_true, if_false, Bool.false_or]; exact ih
    · simp
theorem upd_ents (n : List UInt8) : ∀ l, updE (.str n) (.bool true) (entsV l) = some (entsV (addS l n))
  | [] => rfl
  | x :: r => by
    have ih := upd_ents n r
    unfold entsV addS at ih ⊢
    rw [List.contains_cons, List.map_cons]
    simp only [updE, keyEq, Option.bind_some]
    cases h : n == x
    · simp only [Bool.false_eq_true, if_false, Bool.false_or, ih, Option.map_some]
      cases r.contains n <;> simp
    · have hx : n = x := by simpa using h
      subst hx
      simp
theorem with_den (b ns : List (List UInt8)) (hl : ns.length < 1000000) : den E 40 [.pmap (entsV b), .slice (ns.map .str)] [] = some (.pmap (entsV (withS b ns)), []) := by
  rw [den_eq prim_40, body_40]
  have hc : den E 60 [.pmap (entsV b)] [] = some (.own mapT 0 (entsV b), []) := den_prim prim_60
  simp only [go_sem, ↓reduceIte, Nat.reduceEqDiff, Nat.reduceAdd, reduceCtorEq, Tryz.f40, List.length_map, hc]
  refine run_ind (fun i : Nat => i ≤ ns.length) (fun i => ⟨[(0, .own mapT 0 (entsV (withS b (ns.take i)))), (9, .slice (ns.map .str)), (10, .int .i64 ns.length), (11, .int .i64 i)], [], [], 1⟩) (fun _ => some (.pmap (entsV (withS b ns)), [])) (fun i => ns.length - i) 0 (Nat.zero_le _) ?_ ?_
  · simp only [go_sem, ↓reduceIte, Nat.reduceEqDiff, reduceCtorEq, Int.cast_ofNat_Int, withS, List.foldl_nil]
  · intro i hi h
    by_cases hlt : i < ns.length
    · obtain ⟨x, hx⟩ := getS hlt
      have w1 : IntKind.i64.wrap ((i : Int) + 1) = ((i + 1 : Nat) : Int) := wrapN (i + 1) (by omega)
      have hts : ns.take (i + 1) = ns.take i ++ [x] := by rw [List.take_add_one, hx]; rfl
      simp only [go_sem, ↓reduceIte, Nat.reduceEqDiff, Nat.reduceAdd, reduceCtorEq, natlt, decide_eq_true hlt, natge0, tonat, strsGet, hx, upd_ents]
      refine h (i + 1) _ (by omega) (by omega) ?_
      simp only [go_sem, ↓reduceIte, Nat.reduceEqDiff, reduceCtorEq, w1, hts, withS, List.foldl_append, List.foldl_cons, List.foldl_nil]
    · have hie : i = ns.length := by omega
      subst hie
      simp only [go_sem, ↓reduceIte, Nat.reduceEqDiff, Nat.reduceAdd, reduceCtorEq, natlt, Nat.lt_irrefl, List.take_length]
def metN (n : Nat) (l : List (List UInt8)) : AVal := if l = [] then .nilm else .own mapT n (entsV l)
theorem met_nil (n : Nat) : metN n [] = .nilm := rfl
theorem met_cons (n : Nat) (a : List UInt8) (r : List (List UInt8)) : metN n (a :: r) = .own mapT n (entsV (a :: r)) := rfl
theorem met_stamp (m n : Nat) (l : List (List UInt8)) : stamp1 m (metN n l) = metN m l := by
  unfold metN; split <;> rfl
theorem met_stampH (n : Nat) (l : List (List UInt8)) : stampH (metN n l) = metN 0 l := by
  unfold metN; split <;> rfl
theorem met_names (n : Nat) (l : List (List UInt8)) : names1 (metN n l) = [] := by
  unfold metN; split <;> rfl
theorem met_ren (ρ : BName → BName) (n : Nat) (l : List (List UInt8)) : ren1 ρ (metN n l) = metN n l := by
  unfold metN; split <;> rfl
theorem met_rs (ρ : BName → BName) (m n : Nat) (l : List (List UInt8)) : ren1 ρ (stamp1 m (metN n l)) = metN m l := by rw [met_stamp, met_ren]
def cellIn (ns : List BName) (c : AVal) : AVal := ren1 (toPar ns) (stamp1 0 c)
def cellOut (ns : List BName) (n : Nat) (c : AVal) : AVal := ren1 (ofPar ns) (stamp1 n c)
theorem callF_func {D : FuncId → List AVal → Heap → Option (AVal × Heap)} {s : St} {n : Nat} {dst : Option Nat} {args : List AVal} {f : FuncId} {first cap : List AVal} : callF D s n dst args (.func f first cap) = (match (first ++ (args ++ cap)).flatMap names with
    | [] => (D f (first ++ (args ++ cap)) []).bind fun r => match r.2 with
      | [] => some (s.putD dst (recvC n r.1))
      | _ :: _ => none
    | b :: bs => (reach s 100 (b :: bs) []).bind fun ns => (boxesAt s ns).bind fun H =>
      (D f ((first ++ (args ++ cap)).map (ren (toPar ns))) (H.map (List.map (cellIn ns)))).bind fun r =>
        (setBoxes s ns (r.2.map (List.map (cellOut ns n)))).map fun s' => s'.putD dst (recvC n (ren (ofPar ns) r.1))) := rfl
theorem met_in (ns : List BName) (n : Nat) (l : List (List UInt8)) : cellIn ns (metN n l) = metN 0 l := by unfold cellIn; rw [met_rs]
theorem met_out (ns : List BName) (m n : Nat) (l : List (List UInt8)) : cellOut ns m (metN n l) = metN m l := by unfold cellOut; rw [met_rs]
def setH (l : List (List UInt8)) : List AVal := [.own 9 0 (l.map .str), metN 0 l]
theorem add_den (l : List (List UInt8)) (n : List UInt8) (hl : l.length < 1000000) : den E 17 [.ptr (.par 0) 0, .str n] [setH l] = some (.tup [], [setH (addS l n)]) := by
  rw [den_eq prim_17, body_17]
  have ht : l.length + 1 ≤ appMax := by unfold appMax; omega
  cases l with
  | nil =>
    have hu := upd_ents n []
    have hf := find_ents n []
    have e : addS [] n = [n] := rfl
    rw [e] at hu ⊢
    unfold entsV at hu hf
    simp only [List.map_cons, List.map_nil] at hu hf
    have h1 : 1 ≤ appMax := by unfold appMax; omega
    simp only [go_sem, ↓reduceIte, Nat.reduceEqDiff, Nat.reduceAdd, Nat.reduceMul, Nat.reduceLeDiff, Nat.reduceLT, reduceCtorEq, Tryz.f17, setH, met_nil, met_cons, h1, entsV]
  | cons a r =>
    have hu := upd_ents n (a :: r)
    have hf := find_ents n (a :: r)
    cases hc : (a :: r).contains n
    · have e : addS (a :: r) n = (a :: r) ++ [n] := by unfold addS; rw [hc]; rfl
      rw [e] at hu ⊢
      rw [hc] at hf
      have hs : (setH ((a :: r) ++ [n])) = [.own 9 0 (((a :: r) ++ [n]).map .str), .own mapT 0 (entsV ((a :: r) ++ [n]))] := rfl
      have hs2 : (setH (a :: r)) = [.own 9 0 ((a :: r).map .str), .own mapT 0 (entsV (a :: r))] := rfl
      rw [hs, hs2]
      generalize (a :: r) = l at *
      simp only [go_sem, ↓reduceIte, Nat.reduceEqDiff, Nat.reduceAdd, Nat.reduceMul, Nat.reduceLeDiff, Nat.reduceLT, reduceCtorEq, Tryz.f17, hu, hf, List.length_map, ht, List.map_append]
    · have e : addS (a :: r) n = a :: r := by unfold addS; rw [hc]; rfl
      rw [e]
      rw [hc] at hf
      have hs2 : (setH (a :: r)) = [.own 9 0 ((a :: r).map .str), .own mapT 0 (entsV (a :: r))] := rfl
      rw [hs2]
      generalize (a :: r) = l at *
      simp only [go_sem, ↓reduceIte, Nat.reduceEqDiff, Nat.reduceAdd, Nat.reduceLT, reduceCtorEq, Tryz.f17, hf]
end Go.Proofs
namespace Go.Proofs
open Go.Av
set_option maxHeartbeats 16000000
set_option maxRecDepth 100000
/-! the first of names that is none of others -/
end Go.Proofs
namespace Go.Proofs
open Go.Av
set_option maxHeartbeats 16000000
set_option maxRecDepth 100000
/-! going through an expression -/
section
variable {α : Type} (ext : List (List UInt8) → List (List UInt8) → List (List UInt8)) (fa : Ex → List (List UInt8) → α → α) (fb : Al → α → α)
mutual
def walkE : Ex → List (List UInt8) → α → α
  | .mk k s tl t ks al, b, acc =>
    if k == 3 then walkKs ks (ext b [s]) (fa (.mk k s tl t ks al) b acc)
    else if k == 5 then walkLet ks b s (fa (.mk k s tl t ks al) b acc)
    else walkAs al b (walkKs ks b (fa (.mk k s tl t ks al) b acc))
def walkKs : List Ex → List (List UInt8) → α → α
  | [], _, acc => acc
  | e :: r, b, acc => walkKs r b (walkE e b acc)
def walkLet : List Ex → List (List UInt8) → List UInt8 → α → α
  | [], _, _, acc => acc
  | e :: r, b, s, acc => walkKs r (ext b [s]) (walkE e b acc)
def walkA : Al → List (List UInt8) → α → α
  | .mk c vs e, b, acc => walkE e (ext b vs) (fb (.mk c vs e) acc)
def walkAs : List Al → List (List UInt8) → α → α
  | [], _, acc => acc
  | a :: r, b, acc => walkAs r b (walkA a b acc)
end
end
section
variable {α : Type} {ext : List (List UInt8) → List (List UInt8) → List (List UInt8)} {fa : Ex → List (List UInt8) → α → α} {fb : Al → α → α}
theorem walkE_eq (e : Ex) (b : List (List UInt8)) (acc : α) : walkE ext fa fb e b acc = if e.kind == 3 then walkKs ext fa fb e.kids (ext b [e.name]) (fa e b acc)
    else if e.kind == 5 then walkLet ext fa fb e.kids b e.name (fa e b acc)
    else walkAs ext fa fb e.alts b (walkKs ext fa fb e.kids b (fa e b acc)) := by
  cases e; simp only [walkE, Ex.kind, Ex.name, Ex.kids, Ex.alts]; rfl
theorem walkA_eq (a : Al) (b : List (List UInt8)) (acc : α) : walkA ext fa fb a b acc = walkE ext fa fb a.body (ext b a.vars) (fb a acc) := by
  cases a; simp only [walkA, Al.body, Al.vars]
theorem walkKs_nil (b : List (List UInt8)) (acc : α) : walkKs ext fa fb [] b acc = acc := by simp only [walkKs]
theorem walkKs_cons (e : Ex) (r : List Ex) (b : List (List UInt8)) (acc : α) : walkKs ext fa fb (e :: r) b acc = walkKs ext fa fb r b (walkE ext fa fb e b acc) := by simp only [walkKs]
theorem walkAs_nil (b : List (List UInt8)) (acc : α) : walkAs ext fa fb [] b acc = acc := by simp only [walkAs]
theorem walkAs_cons (e : Al) (r : List Al) (b : List (List UInt8)) (acc : α) : walkAs ext fa fb (e :: r) b acc = walkAs ext fa fb r b (walkA ext fa fb e b acc) := by simp only [walkAs]
theorem walkLet_cons (e : Ex) (r : List Ex) (b : List (List UInt8)) (s : List UInt8) (acc : α) : walkLet ext fa fb (e :: r) b s acc = walkKs ext fa fb r (ext b [s]) (walkE ext fa fb e b acc) := by simp only [walkLet]
theorem walkLet_nil (b : List (List UInt8)) (s : List UInt8) (acc : α) : walkLet ext fa fb [] b s acc = acc := by simp only [walkLet]
theorem walkKs_snoc (l : List Ex) (x : Ex) (b : List (List UInt8)) (acc : α) : walkKs ext fa fb (l ++ [x]) b acc = walkE ext fa fb x b (walkKs ext fa fb l b acc) := by
  induction l generalizing acc with
  | nil => rw [List.nil_append, walkKs_cons, walkKs_nil, walkKs_nil]
  | cons e r ih => rw [List.cons_append, walkKs_cons, walkKs_cons, ih]
theorem walkAs_snoc (l : List Al) (x : Al) (b : List (List UInt8)) (acc : α) : walkAs ext fa fb (l ++ [x]) b acc = walkA ext fa fb x b (walkAs ext fa fb l b acc) := by
  induction l generalizing acc with
  | nil => rw [List.nil_append, walkAs_cons, walkAs_nil, walkAs_nil]
  | cons e r ih => rw [List.cons_append, walkAs_cons, walkAs_cons, ih]
theorem tots_cons (e : Ex) (r : List Ex) : Ex.tots (e :: r) = e.tot + Ex.tots r := by simp [Ex.tots]
theorem altots_cons (a : Al) (r : List Al) : Al.tots (a :: r) = a.tot + Al.tots r := by simp [Al.tots]
theorem altot_eq (a : Al) : a.tot = a.body.tot + a.vars.length + 1 := by cases a; simp [Al.tot, Al.body, Al.vars]
theorem ty_pos (e : Ex) : 1 ≤ e.ty.sz := by rw [sz_eq]; omega
/-- how much is gathered -/
theorem walk_le (m : α → Nat) (h1 : ∀ e b acc, m (fa e b acc) ≤ m acc + 1) (h2 : ∀ a acc, m (fb a acc) ≤ m acc + a.vars.length + 1) : ∀ (n : Nat) (e : Ex), e.tot ≤ n → ∀ b acc, m (walkE ext fa fb e b acc) ≤ m acc + e.tot := by
  intro n
  induction n with
  | zero => intro e he; have := tot_eq e; have := ty_pos e; omega
  | succ n ih =>
    have hks : ∀ (l : List Ex) b acc, Ex.tots l ≤ n → m (walkKs ext fa fb l b acc) ≤ m acc + Ex.tots l := by
      intro l
      induction l with
      | nil => intro b acc _; rw [walkKs_nil]; omega
      | cons e r ihr =>
        intro b acc hl
        rw [tots_cons] at hl ⊢
        rw [walkKs_cons]
        have := ih e (by omega) b acc
        have := ihr b (walkE ext fa fb e b acc) (by omega)
        omega
    have hal : ∀ (l : List Al) b acc, Al.tots l ≤ n → m (walkAs ext fa fb l b acc) ≤ m acc + Al.tots l := by
      intro l
      induction l with
      | nil => intro b acc _; rw [walkAs_nil]; omega
      | cons e r ihr =>
        intro b acc hl
        rw [altots_cons, altot_eq] at hl ⊢
        rw [walkAs_cons, walkA_eq]
        have := h2 e acc
        have := ih e.body (by omega) (ext b e.vars) (fb e acc)
        have := ihr b (walkE ext fa fb e.body (ext b e.vars) (fb e acc)) (by omega)
        omega
    intro e he b acc
    have ht := tot_eq e
    have hp := ty_pos e
    have h0 := h1 e b acc
    rw [walkE_eq]
    split
    · have := hks e.kids (ext b [e.name]) (fa e b acc) (by omega)
      omega
    · split
      · cases hk : e.kids with
        | nil => rw [walkLet_nil]; omega
        | cons x r =>
          rw [hk, tots_cons] at ht
          rw [walkLet_cons]
          have := ih x (by omega) b (fa e b acc)
          have := hks r (ext b [e.name]) (walkE ext fa fb x b (fa e b acc)) (by omega)
          omega
      · have := hks e.kids b (fa e b acc) (by omega)
        have := hal e.alts b (walkKs ext fa fb e.kids b (fa e b acc)) (by omega)
        omega
end
/-- names have no parts, lambdas have one, lets two -/
inductive SX : Ex → Prop
  | mk (e : Ex) : (e.kind = 1 → e.kids = [] ∧ e.alts = []) → (e.kind = 3 → (∃ x, e.kids = [x]) ∧ e.alts = []) → (e.kind = 5 → (∃ x y, e.kids = [x, y]) ∧ e.alts = []) → (∀ x ∈ e.kids, SX x) → (∀ a ∈ e.alts, SX a.body) → SX e
theorem SX.nam {e : Ex} (h : SX e) (hk : (e.kind == 1) = true) : e.kids = [] ∧ e.alts = [] := by cases h with | mk _ h _ _ _ _ => exact h (by simpa using hk)
theorem SX.lam {e : Ex} (h : SX e) (hk : (e.kind == 3) = true) : ∃ x, e.kids = [x] := by cases h with | mk _ _ h _ _ _ => exact (h (by simpa using hk)).1
theorem SX.lett {e : Ex} (h : SX e) (hk : (e.kind == 5) = true) : ∃ x y, e.kids = [x, y] := by cases h with | mk _ _ _ h _ _ => exact (h (by simpa using hk)).1
theorem SX.kid {e x : Ex} (h : SX e) (hx : x ∈ e.kids) : SX x := by cases h with | mk _ _ _ _ h _ => exact h x hx
theorem SX.alt {e : Ex} {a : Al} (h : SX e) (hx : a ∈ e.alts) : SX a.body := by cases h with | mk _ _ _ _ _ h => exact h a hx
theorem tots_get {l : List Ex} {i : Nat} {x : Ex} (h : l[i]? = some x) : Ex.tots (l.take i) + x.tot ≤ Ex.tots l := by
  induction l generalizing i with
  | nil => simp at h
  | cons e r ih =>
    cases i with
    | zero => simp at h; subst h; simp [Ex.tots]
    | succ i =>
      rw [List.take_succ_cons, tots_cons, tots_cons]
      have := ih (i := i) (by simpa using h); omega
theorem altots_get {l : List Al} {i : Nat} {x : Al} (h : l[i]? = some x) : Al.tots (l.take i) + x.tot ≤ Al.tots l := by
  induction l generalizing i with
  | nil => simp at h
  | cons e r ih =>
    cases i with
    | zero => simp at h; subst h; simp [Al.tots]
    | succ i =>
      rw [List.take_succ_cons, altots_cons, altots_cons]
      have := ih (i := i) (by simpa using h); omega
theorem take_next {α : Type} {l : List α} {i : Nat} {x : α} (h : l[i]? = some x) : l.take (i + 1) = l.take i ++ [x] := by rw [List.take_add_one, h]; rfl
theorem walkKs_le {α : Type} {ext : List (List UInt8) → List (List UInt8) → List (List UInt8)} {fa : Ex → List (List UInt8) → α → α} {fb : Al → α → α} (m : α → Nat) (h1 : ∀ e b acc, m (fa e b acc) ≤ m acc + 1) (h2 : ∀ a acc, m (fb a acc) ≤ m acc + a.vars.length + 1) :
    ∀ (l : List Ex) b acc, m (walkKs ext fa fb l b acc) ≤ m acc + Ex.tots l := by
  intro l
  induction l with
  | nil => intro b acc; rw [walkKs_nil]; omega
  | cons e r ih =>
    intro b acc
    rw [walkKs_cons, tots_cons]
    have := walk_le (ext := ext) m h1 h2 _ e (Nat.le_refl _) b acc
    have := ih b (walkE ext fa fb e b acc)
    omega
theorem walkAs_le {α : Type} {ext : List (List UInt8) → List (List UInt8) → List (List UInt8)} {fa : Ex → List (List UInt8) → α → α} {fb : Al → α → α} (m : α → Nat) (h1 : ∀ e b acc, m (fa e b acc) ≤ m acc + 1) (h2 : ∀ a acc, m (fb a acc) ≤ m acc + a.vars.length + 1) :
    ∀ (l : List Al) b acc, m (walkAs ext fa fb l b acc) ≤ m acc + Al.tots l := by
  intro l
  induction l with
  | nil => intro b acc; rw [walkAs_nil]; omega
  | cons e r ih =>
    intro b acc
    rw [walkAs_cons, altots_cons, altot_eq, walkA_eq]
    have := h2 e acc
    have := walk_le (ext := ext) m h1 h2 _ e.body (Nat.le_refl _) (ext b e.vars) (fb e acc)
    have := ih b (walkE ext fa fb e.body (ext b e.vars) (fb e acc))
    omega
end Go.Proofs
namespace Go.Proofs
open Go.Av
set_option maxHeartbeats 16000000
set_option maxRecDepth 100000
/-! what is done at each expression and each alternative -/
theorem kids_len (e : Ex) : e.kids.length + 1 ≤ e.tot := by have := tots_len e.kids; have := tot_eq e; have := ty_pos e; omega
theorem add_le (l : List (List UInt8)) (n : List UInt8) : (addS l n).length ≤ l.length + 1 := by
  unfold addS; split
  · omega
  · simp
theorem adds_le : ∀ (ns l : List (List UInt8)), (ns.foldl addS l).length ≤ l.length + ns.length
  | [], l => by simp
  | n :: r, l => by
    rw [List.foldl_cons, List.length_cons]
    have := adds_le r (addS l n)
    have := add_le l n
    omega
def faF (e : Ex) (b acc : List (List UInt8)) : List (List UInt8) := if e.kind == 1 && !b.contains e.name then addS acc e.name else acc
def fbF (_ : Al) (acc : List (List UInt8)) : List (List UInt8) := acc
def faB (e : Ex) (_ acc : List (List UInt8)) : List (List UInt8) := if e.kind == 3 || e.kind == 5 then addS acc e.name else acc
def fbB (a : Al) (acc : List (List UInt8)) : List (List UInt8) := a.vars.foldl addS acc
theorem faF_le (e : Ex) (b acc : List (List UInt8)) : (faF e b acc).length ≤ acc.length + 1 := by
  unfold faF; split
  · exact add_le _ _
  · omega
theorem fbF_le (a : Al) (acc : List (List UInt8)) : (fbF a acc).length ≤ acc.length + a.vars.length + 1 := by unfold fbF; omega
theorem faB_le (e : Ex) (b acc : List (List UInt8)) : (faB e b acc).length ≤ acc.length + 1 := by
  unfold faB; split
  · exact add_le _ _
  · omega
theorem fbB_le (a : Al) (acc : List (List UInt8)) : (fbB a acc).length ≤ acc.length + a.vars.length + 1 := by unfold fbB; have := adds_le a.vars acc; omega
theorem faF_den (e : Ex) (b acc : List (List UInt8)) (h : acc.length < 1000000) : den E 16 [.agg (exC e), .pmap (entsV b), .ptr (.par 0) 0] [[.own 9 0 (acc.map .str), metN 0 acc]] = some (.tup [], [[.own 9 0 ((faF e b acc).map .str), metN 0 (faF e b acc)]]) := by
  rw [den_eq prim_16, body_16, exC_eq]
  have d := add_den acc e.name h
  have hf := find_ents e.name b
  unfold setH at d
  unfold faF
  cases h1 : e.kind == 1
  · simp only [go_sem, ↓reduceIte, Nat.reduceEqDiff, Nat.reduceAdd, Nat.reduceLT, reduceCtorEq, Tryz.f16, h1, ↓met_stampH, ↓met_names]
  · cases h2 : b.contains e.name
    · rw [h2] at hf
      simp only [go_sem, ↓reduceIte, Nat.reduceEqDiff, Nat.reduceAdd, Nat.reduceLT, reduceCtorEq, Tryz.f16, h1, hf, d, ↓callF_func, ↓met_in, ↓met_out, cellIn, cellOut, ↓met_stampH, ↓met_names]
    · rw [h2] at hf
      simp only [go_sem, ↓reduceIte, Nat.reduceEqDiff, Nat.reduceAdd, Nat.reduceLT, reduceCtorEq, Tryz.f16, h1, hf, ↓met_stampH, ↓met_names]
theorem fbF_den (a : Al) (acc : List (List UInt8)) (_ : acc.length + a.vars.length < 1000000) : den E 18 [alV a] [] = some (.tup [], []) := by
  rw [den_eq prim_18, body_18, alV_eq, exC_eq]
  simp only [go_sem, ↓reduceIte, Nat.reduceAdd, Tryz.f18]
theorem faB_den (e : Ex) (b acc : List (List UInt8)) (h : acc.length < 1000000) : den E 19 [.agg (exC e), .pmap (entsV b), .ptr (.par 0) 0] [[.own 9 0 (acc.map .str), metN 0 acc]] = some (.tup [], [[.own 9 0 ((faB e b acc).map .str), metN 0 (faB e b acc)]]) := by
  rw [den_eq prim_19, body_19, exC_eq]
  have d := add_den acc e.name h
  unfold setH at d
  unfold faB
  cases h1 : e.kind == 3
  · cases h2 : e.kind == 5
    · simp only [go_sem, ↓reduceIte, Nat.reduceEqDiff, Nat.reduceAdd, Nat.reduceLT, reduceCtorEq, Tryz.f19, h1, h2, ↓met_stampH, ↓met_names]
    · simp only [go_sem, ↓reduceIte, Nat.reduceEqDiff, Nat.reduceAdd, Nat.reduceLT, reduceCtorEq, Tryz.f19, h1, h2, d, ↓callF_func, ↓met_in, ↓met_out, cellIn, cellOut, ↓met_stampH, ↓met_names]
  · simp only [go_sem, ↓reduceIte, Nat.reduceEqDiff, Nat.reduceAdd, Nat.reduceLT, reduceCtorEq, Tryz.f19, h1, d, ↓callF_func, ↓met_in, ↓met_out, cellIn, cellOut, ↓met_stampH, ↓met_names]
theorem fbB_den (a : Al) (acc : List (List UInt8)) (h : acc.length + a.vars.length < 1000000) : den E 20 [alV a, .ptr (.par 0) 0] [[.own 9 0 (acc.map .str), metN 0 acc]] = some (.tup [], [[.own 9 0 ((fbB a acc).map .str), metN 0 (fbB a acc)]]) := by
  rw [den_eq prim_20, body_20, alV_eq, exC_eq]
  unfold fbB
  simp only [go_sem, ↓reduceIte, Nat.reduceEqDiff, Nat.reduceAdd, Nat.reduceLT, reduceCtorEq, Tryz.f20, List.length_map]
  refine run_ind (fun i : Nat => i ≤ a.vars.length) (fun i => ⟨[(1, .ptr (.par 0) 0), (6, .slice (a.vars.map .str)), (7, .int .i64 a.vars.length), (8, .int .i64 i)], [[.own 9 0 (((a.vars.take i).foldl addS acc).map .str), metN 0 ((a.vars.take i).foldl addS acc)]], [], 1⟩)
    (fun _ => some (.tup [], [[.own 9 0 ((a.vars.foldl addS acc).map .str), metN 0 (a.vars.foldl addS acc)]])) (fun i => a.vars.length - i) 0 (Nat.zero_le _) ?_ ?_
  · simp only [go_sem, ↓reduceIte, Nat.reduceEqDiff, reduceCtorEq, Int.cast_ofNat_Int, List.take_zero, List.foldl_nil, ↓met_stampH, ↓met_names]
  · intro i hi hr
    by_cases hlt : i < a.vars.length
    · obtain ⟨x, hx⟩ := getS hlt
      have w1 : IntKind.i64.wrap ((i : Int) + 1) = ((i + 1 : Nat) : Int) := wrapN (i + 1) (by omega)
      have hle := adds_le (a.vars.take i) acc
      rw [List.length_take] at hle
      have d := add_den ((a.vars.take i).foldl addS acc) x (by omega)
      have e2 : addS ((a.vars.take i).foldl addS acc) x = (a.vars.take (i + 1)).foldl addS acc := by rw [take_next hx, List.foldl_append]; rfl
      rw [e2] at d
      unfold setH at d
      generalize (a.vars.take i).foldl addS acc = a1 at *
      simp only [go_sem, ↓reduceIte, Nat.reduceEqDiff, Nat.reduceAdd, natlt, decide_eq_true hlt, natge0, tonat, strsGet, hx, d, ↓callF_func, ↓met_in, ↓met_out, cellIn, cellOut, ↓met_names]
      refine hr (i + 1) _ (by omega) (by omega) ?_
      simp only [go_sem, ↓reduceIte, Nat.reduceEqDiff, w1, ↓met_stampH, ↓met_names]
    · have hie : i = a.vars.length := by omega
      subst hie
      rw [List.take_length]
      simp only [go_sem, ↓reduceIte, Nat.reduceEqDiff, Nat.reduceAdd, natlt, Nat.lt_irrefl, ↓met_stampH, ↓met_names]
end Go.Proofs
namespace Go.Proofs
open Go.Av
set_option maxHeartbeats 16000000
set_option maxRecDepth 100000
theorem walkF_den : ∀ (n : Nat) (e : Ex), e.tot ≤ n → SX e → ∀ (b : List (List UInt8)) (acc : List (List UInt8)), (acc).length + e.tot < 1000000 → den E 15 [.agg (exC e), .pmap (entsV b), .func 16 [] [.ptr (.par 0) 0], .func 18 [] []] [[.own 9 0 ((acc).map .str), metN 0 (acc)]] = some (.tup [], [[.own 9 0 ((walkE withS faF fbF e b acc).map .str), metN 0 (walkE withS faF fbF e b acc)]]) := by
  intro n
  induction n with
  | zero => intro e he; exfalso; have := tot_eq e; have := ty_pos e; omega
  | succ n ih =>
  intro e he hs b acc hm
  have ht := tot_eq e
  have hp := ty_pos e
  have d0 := faF_den e b acc (by omega)
  obtain ⟨a0, ha0⟩ : ∃ a0, a0 = faF e b acc := ⟨_, rfl⟩
  have m0 : (a0).length ≤ (acc).length + 1 := ha0 ▸ faF_le e b acc
  rw [exC_eq] at d0
  rw [den_eq prim_15, body_15, exC_eq, walkE_eq, ← ha0]
  rw [← ha0] at d0
  cases h3 : e.kind == 3
  · cases h5 : e.kind == 5
    · simp only [Bool.false_eq_true, if_false]
      simp only [go_sem, ↓reduceIte, Nat.reduceEqDiff, Nat.reduceAdd, Nat.reduceLeDiff, Nat.reduceLT, reduceCtorEq, Tryz.f15, d0, h3, h5, ↓callF_func, ↓met_in, ↓met_out, cellIn, cellOut, ↓met_names, exsV_len]
      refine run_ind (fun i : Nat => i ≤ e.kids.length) (fun i => ⟨[(1, .pmap (entsV b)), (2, .func 16 [] [.ptr (.par 0) 0]), (3, .func 18 [] []), (4, .ptr (.loc 4) 0), (55, .slice (exsV e.kids)), (56, .int .i64 e.kids.length), (57, .int .i64 i)], [[.own 9 0 ((walkKs withS faF fbF (e.kids.take i) b a0).map .str), metN 0 (walkKs withS faF fbF (e.kids.take i) b a0)]], [(4, [.int .i64 e.kind, .str e.name, .bool e.told, .int .i64 e.ty.kind, .str e.ty.name, .int .i64 e.ty.n, .slice (tysV e.ty.args), .slice (exsV e.kids), .slice (alsV e.alts)])], 1⟩)
        (fun _ => some (.tup [], [[.own 9 0 ((walkAs withS faF fbF e.alts b (walkKs withS faF fbF e.kids b a0)).map .str), metN 0 (walkAs withS faF fbF e.alts b (walkKs withS faF fbF e.kids b a0))]])) (fun i => e.kids.length - i) 0 (Nat.zero_le _) ?_ ?_
      · simp only [go_sem, ↓reduceIte, Nat.reduceEqDiff, reduceCtorEq, Int.cast_ofNat_Int, List.take_zero, walkKs_nil, ↓met_stampH, ↓met_names]
      · intro i hi h
        by_cases hlt : i < e.kids.length
        · obtain ⟨x, hx⟩ := getS hlt
          have w1 : IntKind.i64.wrap ((i : Int) + 1) = ((i + 1 : Nat) : Int) := wrapN (i + 1) (by have := kids_len e; omega)
          have hts := take_next hx
          have hg := tots_get hx
          have hle : (walkKs withS faF fbF (e.kids.take i) b a0).length ≤ (a0).length + Ex.tots (e.kids.take i) := walkKs_le (ext := withS) (fa := faF) (fb := fbF) List.length faF_le fbF_le (e.kids.take i) b a0
          have d := ih x (by have := kids_tot (List.mem_of_getElem? hx); omega) (hs.kid (List.mem_of_getElem? hx)) b (walkKs withS faF fbF (e.kids.take i) b a0) (by omega)
          rw [← walkKs_snoc, ← hts] at d
          rw [exC_eq] at d
          generalize walkKs withS faF fbF (e.kids.take i) b a0 = a1 at *
          simp only [go_sem, ↓reduceIte, Nat.reduceEqDiff, Nat.reduceAdd, Nat.reduceLeDiff, Nat.reduceLT, natlt, decide_eq_true hlt, natge0, tonat, exsV_get, hx, exC_eq, d, ↓callF_func, ↓met_in, ↓met_out, cellIn, cellOut, ↓met_names]
          refine h (i + 1) _ (by omega) (by omega) ?_
          simp only [go_sem, ↓reduceIte, Nat.reduceEqDiff, w1, ↓met_stampH, ↓met_names]
        · have hie : i = e.kids.length := by omega
          subst hie
          rw [List.take_length]
          have hle : (walkKs withS faF fbF e.kids b a0).length ≤ (a0).length + Ex.tots e.kids := walkKs_le (ext := withS) (fa := faF) (fb := fbF) List.length faF_le fbF_le e.kids b a0
          generalize walkKs withS faF fbF e.kids b a0 = a1 at *
          clear h d0
          simp only [go_sem, ↓reduceIte, Nat.reduceEqDiff, Nat.reduceAdd, Nat.reduceLT, natlt, Nat.lt_irrefl, alsV_len]
          refine run_ind (fun i : Nat => i ≤ e.alts.length) (fun i => ⟨[(1, .pmap (entsV b)), (2, .func 16 [] [.ptr (.par 0) 0]), (3, .func 18 [] []), (68, .slice (alsV e.alts)), (69, .int .i64 e.alts.length), (70, .int .i64 i)], [[.own 9 0 ((walkAs withS faF fbF (e.alts.take i) b a1).map .str), metN 0 (walkAs withS faF fbF (e.alts.take i) b a1)]], [], 1⟩)
            (fun _ => some (.tup [], [[.own 9 0 ((walkAs withS faF fbF e.alts b a1).map .str), metN 0 (walkAs withS faF fbF e.alts b a1)]])) (fun i => e.alts.length - i) 0 (Nat.zero_le _) ?_ ?_
          · simp only [go_sem, ↓reduceIte, Nat.reduceEqDiff, Int.cast_ofNat_Int, List.take_zero, walkAs_nil, ↓met_stampH, ↓met_names]
          · intro i hi h
            by_cases hlt : i < e.alts.length
            · obtain ⟨x, hx⟩ := getS hlt
              have w1 : IntKind.i64.wrap ((i : Int) + 1) = ((i + 1 : Nat) : Int) := wrapN (i + 1) (by have := altsLen e; omega)
              have hts := take_next hx
              have hg := altots_get hx
              rw [altot_eq] at hg
              have hle2 : (walkAs withS faF fbF (e.alts.take i) b a1).length ≤ (a1).length + Al.tots (e.alts.take i) := walkAs_le (ext := withS) (fa := faF) (fb := fbF) List.length faF_le fbF_le (e.alts.take i) b a1
              have hb : (fbF x (walkAs withS faF fbF (e.alts.take i) b a1)).length ≤ (walkAs withS faF fbF (e.alts.take i) b a1).length + x.vars.length + 1 := fbF_le x (walkAs withS faF fbF (e.alts.take i) b a1)
              have db := fbF_den x (walkAs withS faF fbF (e.alts.take i) b a1) (by omega)
              have dw := with_den b x.vars (by omega)
              have d := ih x.body (by have := alts_tot (List.mem_of_getElem? hx); omega) (hs.alt (List.mem_of_getElem? hx)) (withS b x.vars) (fbF x (walkAs withS faF fbF (e.alts.take i) b a1)) (by omega)
              have e2 := walkAs_snoc (ext := withS) (fa := faF) (fb := fbF) (e.alts.take i) x b a1
              rw [walkA_eq, ← hts] at e2
              rw [← e2] at d
              clear e2
              rw [exC_eq] at d
              rw [alV_eq, exC_eq] at db
              skip
              rw [show fbF x (walkAs withS faF fbF (e.alts.take i) b a1) = walkAs withS faF fbF (e.alts.take i) b a1 from rfl] at d
              generalize walkAs withS faF fbF (e.alts.take i) b a1 = a2 at *
              simp only [go_sem, ↓reduceIte, Nat.reduceEqDiff, Nat.reduceAdd, Nat.reduceLeDiff, Nat.reduceLT, reduceCtorEq, natlt, decide_eq_true hlt, natge0, tonat, alsV_get, hx, alV_eq, exC_eq, db, dw, d, ↓callF_func, ↓met_in, ↓met_out, cellIn, cellOut, ↓met_names]
              refine h (i + 1) _ (by omega) (by omega) ?_
              simp only [go_sem, ↓reduceIte, Nat.reduceEqDiff, w1, ↓met_stampH, ↓met_names]
            · have hie : i = e.alts.length := by omega
              subst hie
              rw [List.take_length]
              simp only [go_sem, ↓reduceIte, Nat.reduceEqDiff, Nat.reduceAdd, natlt, Nat.lt_irrefl, ↓met_stampH, ↓met_names]
    · obtain ⟨x, y, hk⟩ := hs.lett h5
      have hx := kids_tot (e := e) (x := x) (by rw [hk]; simp)
      have hy := kids_tot (e := e) (x := y) (by rw [hk]; simp)
      have hxy : x.tot + y.tot + 1 ≤ e.tot := by rw [ht, hk, tots_cons, tots_cons]; omega
      have hl : (walkE withS faF fbF x b a0).length ≤ (a0).length + x.tot := walk_le (ext := withS) (fa := faF) (fb := fbF) List.length faF_le fbF_le _ x (Nat.le_refl _) b a0
      have d1 := ih x (by omega) (hs.kid (by rw [hk]; simp)) b a0 (by omega)
      have d2 := ih y (by omega) (hs.kid (by rw [hk]; simp)) (withS b [e.name]) (walkE withS faF fbF x b a0) (by omega)
      have dw := with_den b [e.name] (by simp)
      simp only [List.map_cons, List.map_nil] at dw
      rw [exC_eq] at d1 d2
      rw [hk, exsV_cons, exsV_cons, exsV_nil, exC_eq, exC_eq] at d0
      simp only [Bool.false_eq_true, if_false, if_true]
      rw [hk, walkLet_cons, walkKs_cons, walkKs_nil]
      generalize walkE withS faF fbF x b a0 = a1 at *
      simp only [go_sem, ↓reduceIte, Nat.reduceEqDiff, Nat.reduceAdd, Nat.reduceMul, Nat.reduceLeDiff, Nat.reduceLT, reduceCtorEq, Tryz.f15, d0, h3, h5, d1, d2, dw, exsV_cons, exsV_nil, exC_eq, Int.le_refl, Int.toNat_zero, Int.toNat_one, Int.zero_le_ofNat, ↓callF_func, ↓met_in, ↓met_out, cellIn, cellOut, ↓met_stampH, ↓met_names]
  · obtain ⟨x, hk⟩ := hs.lam h3
    have hx := kids_tot (e := e) (x := x) (by rw [hk]; simp)
    have d := ih x (by omega) (hs.kid (by rw [hk]; simp)) (withS b [e.name]) a0 (by omega)
    have dw := with_den b [e.name] (by simp)
    simp only [List.map_cons, List.map_nil] at dw
    rw [exC_eq] at d
    rw [hk, exsV_cons, exsV_nil, exC_eq] at d0
    simp only [if_true]
    rw [hk, walkKs_cons, walkKs_nil]
    simp only [go_sem, ↓reduceIte, Nat.reduceEqDiff, Nat.reduceAdd, Nat.reduceMul, Nat.reduceLeDiff, Nat.reduceLT, reduceCtorEq, Tryz.f15, d0, h3, d, dw, exsV_cons, exsV_nil, exC_eq, Int.le_refl, Int.toNat_zero, ↓callF_func, ↓met_in, ↓met_out, cellIn, cellOut, ↓met_stampH, ↓met_names]
end Go.Proofs
namespace Go.Proofs
open Go.Av
set_option maxHeartbeats 16000000
set_option maxRecDepth 100000
end Go.Proofs
namespace Go.Proofs
open Go.Av
set_option maxHeartbeats 16000000
set_option maxRecDepth 100000
theorem walkB_den : ∀ (n : Nat) (e : Ex), e.tot ≤ n → SX e → ∀ (b : List (List UInt8)) (acc : List (List UInt8)), (acc).length + e.tot < 1000000 → den E 15 [.agg (exC e), .pmap (entsV b), .func 19 [] [.ptr (.par 0) 0], .func 20 [] [.ptr (.par 0) 0]] [[.own 9 0 ((acc).map .str), metN 0 (acc)]] = some (.tup [], [[.own 9 0 ((walkE withS faB fbB e b acc).map .str), metN 0 (walkE withS faB fbB e b acc)]]) := by
  intro n
  induction n with
  | zero => intro e he; exfalso; have := tot_eq e; have := ty_pos e; omega
  | succ n ih =>
  intro e he hs b acc hm
  have ht := tot_eq e
  have hp := ty_pos e
  have d0 := faB_den e b acc (by omega)
  obtain ⟨a0, ha0⟩ : ∃ a0, a0 = faB e b acc := ⟨_, rfl⟩
  have m0 : (a0).length ≤ (acc).length + 1 := ha0 ▸ faB_le e b acc
  rw [exC_eq] at d0
  rw [den_eq prim_15, body_15, exC_eq, walkE_eq, ← ha0]
  rw [← ha0] at d0
  cases h3 : e.kind == 3
  · cases h5 : e.kind == 5
    · simp only [Bool.false_eq_true, if_false]
      simp only [go_sem, ↓reduceIte, Nat.reduceEqDiff, Nat.reduceAdd, Nat.reduceLeDiff, Nat.reduceLT, reduceCtorEq, Tryz.f15, d0, h3, h5, ↓callF_func, ↓met_in, ↓met_out, cellIn, cellOut, ↓met_names, exsV_len]
      refine run_ind (fun i : Nat => i ≤ e.kids.length) (fun i => ⟨[(1, .pmap (entsV b)), (2, .func 19 [] [.ptr (.par 0) 0]), (3, .func 20 [] [.ptr (.par 0) 0]), (4, .ptr (.loc 4) 0), (55, .slice (exsV e.kids)), (56, .int .i64 e.kids.length), (57, .int .i64 i)], [[.own 9 0 ((walkKs withS faB fbB (e.kids.take i) b a0).map .str), metN 0 (walkKs withS faB fbB (e.kids.take i) b a0)]], [(4, [.int .i64 e.kind, .str e.name, .bool e.told, .int .i64 e.ty.kind, .str e.ty.name, .int .i64 e.ty.n, .slice (tysV e.ty.args), .slice (exsV e.kids), .slice (alsV e.alts)])], 1⟩)
        (fun _ => some (.tup [], [[.own 9 0 ((walkAs withS faB fbB e.alts b (walkKs withS faB fbB e.kids b a0)).map .str), metN 0 (walkAs withS faB fbB e.alts b (walkKs withS faB fbB e.kids b a0))]])) (fun i => e.kids.length - i) 0 (Nat.zero_le _) ?_ ?_
      · simp only [go_sem, ↓reduceIte, Nat.reduceEqDiff, reduceCtorEq, Int.cast_ofNat_Int, List.take_zero, walkKs_nil, ↓met_stampH, ↓met_names]
      · intro i hi h
        by_cases hlt : i < e.kids.length
        · obtain ⟨x, hx⟩ := getS hlt
          have w1 : IntKind.i64.wrap ((i : Int) + 1) = ((i + 1 : Nat) : Int) := wrapN (i + 1) (by have := kids_len e; omega)
          have hts := take_next hx
          have hg := tots_get hx
          have hle : (walkKs withS faB fbB (e.kids.take i) b a0).length ≤ (a0).length + Ex.tots (e.kids.take i) := walkKs_le (ext := withS) (fa := faB) (fb := fbB) List.length faB_le fbB_le (e.kids.take i) b a0
          have d := ih x (by have := kids_tot (List.mem_of_getElem? hx); omega) (hs.kid (List.mem_of_getElem? hx)) b (walkKs withS faB fbB (e.kids.take i) b a0) (by omega)
          rw [← walkKs_snoc, ← hts] at d
          rw [exC_eq] at d
          generalize walkKs withS faB fbB (e.kids.take i) b a0 = a1 at *
          simp only [go_sem, ↓reduceIte, Nat.reduceEqDiff, Nat.reduceAdd, Nat.reduceLeDiff, Nat.reduceLT, natlt, decide_eq_true hlt, natge0, tonat, exsV_get, hx, exC_eq, d, ↓callF_func, ↓met_in, ↓met_out, cellIn, cellOut, ↓met_names]
          refine h (i + 1) _ (by omega) (by omega) ?_
          simp only [go_sem, ↓reduceIte, Nat.reduceEqDiff, w1, ↓met_stampH, ↓met_names]
        · have hie : i = e.kids.length := by omega
          subst hie
          rw [List.take_length]
          have hle : (walkKs withS faB fbB e.kids b a0).length ≤ (a0).length + Ex.tots e.kids := walkKs_le (ext := withS) (fa := faB) (fb := fbB) List.length faB_le fbB_le e.kids b a0
          generalize walkKs withS faB fbB e.kids b a0 = a1 at *
          clear h d0
          simp only [go_sem, ↓reduceIte, Nat.reduceEqDiff, Nat.reduceAdd, Nat.reduceLT, natlt, Nat.lt_irrefl, alsV_len]
          refine run_ind (fun i : Nat => i ≤ e.alts.length) (fun i => ⟨[(1, .pmap (entsV b)), (2, .func 19 [] [.ptr (.par 0) 0]), (3, .func 20 [] [.ptr (.par 0) 0]), (68, .slice (alsV e.alts)), (69, .int .i64 e.alts.length), (70, .int .i64 i)], [[.own 9 0 ((walkAs withS faB fbB (e.alts.take i) b a1).map .str), metN 0 (walkAs withS faB fbB (e.alts.take i) b a1)]], [], 1⟩)
            (fun _ => some (.tup [], [[.own 9 0 ((walkAs withS faB fbB e.alts b a1).map .str), metN 0 (walkAs withS faB fbB e.alts b a1)]])) (fun i => e.alts.length - i) 0 (Nat.zero_le _) ?_ ?_
          · simp only [go_sem, ↓reduceIte, Nat.reduceEqDiff, Int.cast_ofNat_Int, List.take_zero, walkAs_nil, ↓met_stampH, ↓met_names]
          · intro i hi h
            by_cases hlt : i < e.alts.length
            · obtain ⟨x, hx⟩ := getS hlt
              have w1 : IntKind.i64.wrap ((i : Int) + 1) = ((i + 1 : Nat) : Int) := wrapN (i + 1) (by have := altsLen e; omega)
              have hts := take_next hx
              have hg := altots_get hx
              rw [altot_eq] at hg
              have hle2 : (walkAs withS faB fbB (e.alts.take i) b a1).length ≤ (a1).length + Al.tots (e.alts.take i) := walkAs_le (ext := withS) (fa := faB) (fb := fbB) List.length faB_le fbB_le (e.alts.take i) b a1
              have hb : (fbB x (walkAs withS faB fbB (e.alts.take i) b a1)).length ≤ (walkAs withS faB fbB (e.alts.take i) b a1).length + x.vars.length + 1 := fbB_le x (walkAs withS faB fbB (e.alts.take i) b a1)
              have db := fbB_den x (walkAs withS faB fbB (e.alts.take i) b a1) (by omega)
              have dw := with_den b x.vars (by omega)
              have d := ih x.body (by have := alts_tot (List.mem_of_getElem? hx); omega) (hs.alt (List.mem_of_getElem? hx)) (withS b x.vars) (fbB x (walkAs withS faB fbB (e.alts.take i) b a1)) (by omega)
              have e2 := walkAs_snoc (ext := withS) (fa := faB) (fb := fbB) (e.alts.take i) x b a1
              rw [walkA_eq, ← hts] at e2
              rw [← e2] at d
              clear e2
              rw [exC_eq] at d
              rw [alV_eq, exC_eq] at db
              skip
              generalize fbB x (walkAs withS faB fbB (e.alts.take i) b a1) = a3 at *
              generalize walkAs withS faB fbB (e.alts.take i) b a1 = a2 at *
              simp only [go_sem, ↓reduceIte, Nat.reduceEqDiff, Nat.reduceAdd, Nat.reduceLeDiff, Nat.reduceLT, reduceCtorEq, natlt, decide_eq_true hlt, natge0, tonat, alsV_get, hx, alV_eq, exC_eq, db, dw, d, ↓callF_func, ↓met_in, ↓met_out, cellIn, cellOut, ↓met_names]
              refine h (i + 1) _ (by omega) (by omega) ?_
              simp only [go_sem, ↓reduceIte, Nat.reduceEqDiff, w1, ↓met_stampH, ↓met_names]
            · have hie : i = e.alts.length := by omega
              subst hie
              rw [List.take_length]
              simp only [go_sem, ↓reduceIte, Nat.reduceEqDiff, Nat.reduceAdd, natlt, Nat.lt_irrefl, ↓met_stampH, ↓met_names]
    · obtain ⟨x, y, hk⟩ := hs.lett h5
      have hx := kids_tot (e := e) (x := x) (by rw [hk]; simp)
      have hy := kids_tot (e := e) (x := y) (by rw [hk]; simp)
      have hxy : x.tot + y.tot + 1 ≤ e.tot := by rw [ht, hk, tots_cons, tots_cons]; omega
      have hl : (walkE withS faB fbB x b a0).length ≤ (a0).length + x.tot := walk_le (ext := withS) (fa := faB) (fb := fbB) List.length faB_le fbB_le _ x (Nat.le_refl _) b a0
      have d1 := ih x (by omega) (hs.kid (by rw [hk]; simp)) b a0 (by omega)
      have d2 := ih y (by omega) (hs.kid (by rw [hk]; simp)) (withS b [e.name]) (walkE withS faB fbB x b a0) (by omega)
      have dw := with_den b [e.name] (by simp)
      simp only [List.map_cons, List.map_nil] at dw
      rw [exC_eq] at d1 d2
      rw [hk, exsV_cons, exsV_cons, exsV_nil, exC_eq, exC_eq] at d0
      simp only [Bool.false_eq_true, if_false, if_true]
      rw [hk, walkLet_cons, walkKs_cons, walkKs_nil]
      generalize walkE withS faB fbB x b a0 = a1 at *
      simp only [go_sem, ↓reduceIte, Nat.reduceEqDiff, Nat.reduceAdd, Nat.reduceMul, Nat.reduceLeDiff, Nat.reduceLT, reduceCtorEq, Tryz.f15, d0, h3, h5, d1, d2, dw, exsV_cons, exsV_nil, exC_eq, Int.le_refl, Int.toNat_zero, Int.toNat_one, Int.zero_le_ofNat, ↓callF_func, ↓met_in, ↓met_out, cellIn, cellOut, ↓met_stampH, ↓met_names]
  · obtain ⟨x, hk⟩ := hs.lam h3
    have hx := kids_tot (e := e) (x := x) (by rw [hk]; simp)
    have d := ih x (by omega) (hs.kid (by rw [hk]; simp)) (withS b [e.name]) a0 (by omega)
    have dw := with_den b [e.name] (by simp)
    simp only [List.map_cons, List.map_nil] at dw
    rw [exC_eq] at d
    rw [hk, exsV_cons, exsV_nil, exC_eq] at d0
    simp only [if_true]
    rw [hk, walkKs_cons, walkKs_nil]
    simp only [go_sem, ↓reduceIte, Nat.reduceEqDiff, Nat.reduceAdd, Nat.reduceMul, Nat.reduceLeDiff, Nat.reduceLT, reduceCtorEq, Tryz.f15, d0, h3, d, dw, exsV_cons, exsV_nil, exC_eq, Int.le_refl, Int.toNat_zero, ↓callF_func, ↓met_in, ↓met_out, cellIn, cellOut, ↓met_stampH, ↓met_names]
end Go.Proofs
namespace Go.Proofs
open Go.Av
set_option maxHeartbeats 16000000
set_option maxRecDepth 100000
end Go.Proofs
namespace Go.Proofs
open Go.Av
set_option maxHeartbeats 16000000
set_option maxRecDepth 100000
/-! what stands free, the constructors, and what is bound -/
def freeS (e : Ex) : List (List UInt8) := walkE withS faF fbF e [] []
def boundS (e : Ex) : List (List UInt8) := walkE withS faB fbB e [] []
theorem free_le (e : Ex) : (freeS e).length ≤ e.tot := by
  have := walk_le (ext := withS) List.length faF_le fbF_le _ e (Nat.le_refl _) [] []
  unfold freeS; simpa using this
theorem bound_le (e : Ex) : (boundS e).length ≤ e.tot := by
  have := walk_le (ext := withS) List.length faB_le fbB_le _ e (Nat.le_refl _) [] []
  unfold boundS; simpa using this
theorem free_den (e : Ex) (hs : SX e) (ht : e.tot < 1000000) : den E 6 [.agg (exC e)] [] = some (.slice ((freeS e).map .str), []) := by
  have d := walkF_den _ e (Nat.le_refl _) hs [] [] (by simpa using ht)
  rw [den_eq prim_6, body_6]
  rw [exC_eq] at d ⊢
  rw [show entsV [] = [] from rfl] at d
  simp only [List.map_nil, met_nil] at d
  unfold freeS
  generalize walkE withS faF fbF e [] [] = r at *
  simp only [go_sem, ↓reduceIte, Nat.reduceEqDiff, Nat.reduceAdd, Nat.reduceLeDiff, Nat.reduceLT, reduceCtorEq, Tryz.f6, d, ↓callF_func, ↓met_out, cellIn, cellOut]
theorem bound_den (e : Ex) (hs : SX e) (ht : e.tot < 1000000) : den E 7 [.agg (exC e)] [] = some (.slice ((boundS e).map .str), []) := by
  have d := walkB_den _ e (Nat.le_refl _) hs [] [] (by simpa using ht)
  rw [den_eq prim_7, body_7]
  rw [exC_eq] at d ⊢
  rw [show entsV [] = [] from rfl] at d
  simp only [List.map_nil, met_nil] at d
  unfold boundS
  generalize walkE withS faB fbB e [] [] = r at *
  simp only [go_sem, ↓reduceIte, Nat.reduceEqDiff, Nat.reduceAdd, Nat.reduceLeDiff, Nat.reduceLT, reduceCtorEq, Tryz.f7, d, ↓callF_func, ↓met_out, cellIn, cellOut]
/-! what is declared -/
structure Tab where
  data : List (List UInt8)
  cons : List (List UInt8)
  sigs : List (List UInt8)
  binds : List (List UInt8)
def Tab.len (T : Tab) : Nat := T.data.length + T.cons.length + T.sigs.length + T.binds.length
end Go.Proofs
