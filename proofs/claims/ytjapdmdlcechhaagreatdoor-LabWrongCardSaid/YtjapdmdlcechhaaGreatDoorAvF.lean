/- The examples of the law come out true, and the lines that are none are read as none; what is known of the library's variables is a condition. -/
import Derived.Test.YtjapdmdlcechhaaGreatDoorAvE
import Derived.Test.YtjapdmdlcechhaaGreatDoorAvD
import Derived.Lib.SmallJoins
namespace Go.Proofs
open Go.Cx
theorem ty_ok : trAll (tyOK Tryz.prog) tyT 1 0 = true := by kernel_rfl
theorem fn_look : lookT Tryz.prog fnT 1 0 = someT fnT := by kernel_rfl
theorem fn_ok : trAll fnOK fnT 1 0 = true := by kernel_rfl
theorem e_ok : EOK E := eok_of ty_ok fn_look fn_ok (by kernel_rfl)
end Go.Proofs
namespace Go.Proofs
open Go.Cx
def aw0 : Memo := ⟨32, [(.str [100, 97, 116, 97, 32, 78, 32, 123, 90, 32, 58, 32, 78, 59, 32, 83, 32, 58, 32, 78, 32, 45, 62, 32, 78, 125, 10, 59, 116, 119, 111, 32, 61, 32, 83, 32, 40, 83, 32, 90, 41, 10]), (.agg [(.int .i64 4000), (.int .i64 50), (.int .i64 4000)])], (.agg [(.int .i64 1), (.str []), (.int .i64 0), (.sl false 1093 0 1), (.str [116, 119, 111, 32, 58, 32, 78, 32, 61, 32, 40, 83, 32, 40, 83, 32, 90, 41, 41])]), 1105, [(1093, (.cells 116 .ex [(.str [116, 119, 111]), (.str [78])]))]⟩
theorem aw0_ok : memoOK E 1000000 38 aw0 = true := by kernel_rfl
def aw1 : Memo := ⟨1111, [(.str [100, 97, 116, 97, 32, 78, 32, 123, 90, 32, 58, 32, 78, 59, 32, 83, 32, 58, 32, 78, 32, 45, 62, 32, 78, 125, 10, 59, 116, 119, 111, 32, 61, 32, 83, 32, 40, 83, 32, 90, 41, 10]), (.agg [(.int .i64 4000), (.int .i64 50), (.int .i64 4000)])], (.agg [(.int .i64 1), (.str []), (.int .i64 0), (.sl false 2172 0 1), (.str [116, 119, 111, 32, 58, 32, 78, 32, 61, 32, 40, 83, 32, 40, 83, 32, 90, 41, 41])]), 2184, [(2172, (.cells 116 .ex [(.str [116, 119, 111]), (.str [78])]))]⟩
theorem aw1_ok : memoOK E 1000000 38 aw1 = true := by kernel_rfl
def aw2 : Memo := ⟨2234, [(.str [100, 97, 116, 97, 32, 78, 32, 123, 90, 32, 58, 32, 78, 59, 32, 83, 32, 58, 32, 78, 32, 45, 62, 32, 78, 125, 10, 59, 116, 119, 111, 32, 61, 32, 83, 32, 40, 83, 32, 90, 41, 10, 59, 105, 116, 32, 61, 32, 99, 97, 115, 101, 32, 116, 119, 111, 32, 111, 102, 32, 123, 83, 32, 110, 32, 45, 62, 32, 110, 125]), (.agg [(.int .i64 4000), (.int .i64 50), (.int .i64 4000)])], (.agg [(.int .i64 1), (.str []), (.int .i64 0), (.sl false 4618 0 2), (.str [116, 119, 111, 32, 58, 32, 78, 32, 61, 32, 40, 83, 32, 40, 83, 32, 90, 41, 41, 59, 32, 105, 116, 32, 58, 32, 78, 32, 61, 32, 40, 99, 97, 115, 101, 32, 116, 119, 111, 32, 58, 32, 78, 32, 111, 102, 32, 123, 83, 32, 110, 32, 45, 62, 32, 110, 125, 41])]), 4646, [(4618, (.cells 116 .own [(.str [116, 119, 111]), (.str [78]), (.str [105, 116]), (.str [78])]))]⟩
theorem aw2_ok : memoOK E 1000000 38 aw2 = true := by kernel_rfl
def aw3 : Memo := ⟨4990, [(.str [102, 32, 61, 32, 103, 10]), (.agg [(.int .i64 4000), (.int .i64 50), (.int .i64 4000)])], (.agg [(.int .i64 3), (.str [103]), (.int .i64 91), .nils, (.str [])]), 5051, []⟩
theorem aw3_ok : memoOK E 1000000 38 aw3 = true := by kernel_rfl
def aw4 : Memo := ⟨5069, [(.str [102, 32, 61, 32, 103, 10, 59, 105, 116, 32, 61, 32, 102]), (.agg [(.int .i64 4000), (.int .i64 50), (.int .i64 4000)])], (.agg [(.int .i64 3), (.str [103]), (.int .i64 91), .nils, (.str [])]), 5162, []⟩
theorem aw4_ok : memoOK E 1000000 38 aw4 = true := by kernel_rfl
def aw5 : Memo := ⟨5177, [(.str [105, 116, 32, 61, 32, 92, 120, 32, 45, 62, 32, 120]), (.agg [(.int .i64 4000), (.int .i64 50), (.int .i64 4000)])], (.agg [(.int .i64 1), (.str []), (.int .i64 0), (.sl false 5931 0 1), (.str [105, 116, 32, 58, 32, 102, 111, 114, 97, 108, 108, 32, 120, 48, 46, 32, 120, 48, 32, 45, 62, 32, 120, 48, 32, 61, 32, 40, 33, 120, 48, 46, 32, 40, 92, 120, 32, 58, 32, 120, 48, 46, 32, 120, 41, 41])]), 5946, [(5931, (.cells 116 .ex [(.str [105, 116]), (.str [102, 111, 114, 97, 108, 108, 32, 120, 48, 46, 32, 120, 48, 32, 45, 62, 32, 120, 48])]))]⟩
theorem aw5_ok : memoOK E 1000000 38 aw5 = true := by kernel_rfl
def aw6 : Memo := ⟨6042, [(.str [102, 32, 61, 32, 102, 10]), (.agg [(.int .i64 1), (.int .i64 1), (.int .i64 1)])], (.agg [(.int .i64 5), (.str []), (.int .i64 200), .nils, (.str [])]), 6046, []⟩
theorem aw6_ok : memoOK E 1000000 38 aw6 = true := by kernel_rfl
def awL : List Memo := [aw0, aw1, aw2, aw3, aw4, aw5, aw6]
theorem awL_ok : ∀ m ∈ awL, memoOK E 1000000 38 m = true := by
  intro m hm
  simp only [awL, List.mem_cons, List.not_mem_nil, or_false] at hm
  rcases hm with rfl | rfl | rfl | rfl | rfl | rfl | rfl
  · exact aw0_ok
  · exact aw1_ok
  · exact aw2_ok
  · exact aw3_ok
  · exact aw4_ok
  · exact aw5_ok
  · exact aw6_ok
def awT : Tr Prim := (.nd none (.nd none (.nd none (.nd none .lf (.nd none .lf (.nd (some .itoa) .lf .lf))) (.nd none .lf (.nd none (.nd none .lf (.nd (some .join) (.nd none (.nd (some .indexByteStr) .lf .lf) .lf) .lf)) (.nd none .lf (.nd (some .mapsClone) .lf .lf))))) (.nd none (.nd none (.nd none .lf (.nd none .lf (.nd none .lf (.nd (some .countStr) .lf .lf)))) .lf) .lf)) (.nd none .lf (.nd none .lf (.nd none (.nd none (.nd (some (.memo awL)) .lf (.nd none .lf (.nd none (.nd (some .noEscape) .lf .lf) .lf))) .lf) .lf))))
noncomputable def awE : Env := { E with prim := awT }
end Go.Proofs
namespace Go.Proofs
open Go.Cx
def awM : Memo := ⟨1, [], .bool true, 6064, []⟩
theorem awake_run : memoOK awE 1000000 11 awM = true := by kernel_rfl
end Go.Proofs
namespace Go.Proofs
open Go.Cx
open Go.RowKit (Below)
set_option maxRecDepth 100000
/-- what is known of the world: the library's table of powers of ten, and that ErrSyntax is some value -/
def Fpow (w : World) : Prop := Lib.TabIs Tryz.prog w "internal/strconv.uint64pow10" .u64 Lib.pow10Tab ∧ ∃ u v, w.cell? ⟨4, 0, none⟩ = some (.iface u v)
theorem pow_global : Tryz.prog.globalNamed "internal/strconv.uint64pow10" = some 1 := by kernel_rfl
theorem fact_lt {W : World} (h : Fpow W) : 4 < W.heap.size := by
  obtain ⟨_, u, v, h⟩ := h
  by_cases hg : 4 < W.heap.size
  · exact hg
  · have : W.heap[4]? = none := Array.getElem?_eq_none (by omega)
    simp [World.cell?, this] at h
theorem fact_cong {w w' : World} (h : w'.heap[1]? = w.heap[1]?) (h4 : w'.heap[4]? = w.heap[4]?) (hF : Fpow w) : Fpow w' := by
  unfold Fpow Lib.TabIs World.var? World.cell? at hF ⊢
  rw [pow_global] at hF ⊢
  simp only [Option.bind_some] at hF ⊢
  rw [h, h4]
  exact hF
abbrev layW (W : World) : Lay := ⟨⟨fun g => if g = 1 ∨ g = 4 then W.heap[g]? else none⟩⟩
theorem below_grow (w : World) (k : Nat) (os : Array Obj) : Below w.heap.size w (Sort.grow (w.drewN k) os) :=
  ⟨rfl, rfl, rfl, by simp [Sort.grow], fun i hi => by
    show (w.heap ++ os)[i]? = _
    rw [Array.getElem?_append, if_pos hi]⟩
theorem enter_at {g : Nat} {fn : Func} (h : Tryz.prog.funcs[g]? = some fn) (hn : (fn.name == "runtime.NumGoroutine") = false) (hb : fn.body.isSome = true) (args : Array Value) (w : World) : (callFunc g args).run Tryz.prog w = .ok (.enter g args) w := by
  obtain ⟨c, hc⟩ := Option.isSome_iff_exists.1 hb
  have h1 : fn.name ≠ "runtime.NumGoroutine" := by simpa using hn
  simp [callFunc, h, h1, hc]
/-- which prim a number is -/
noncomputable def primIs (g : Nat) : Prim → Bool
  | .itoa => Nat.beq g 55
  | .join => Nat.beq g 107
  | .indexByteStr => Nat.beq g 299
  | .mapsClone => Nat.beq g 123
  | .countStr => Nat.beq g 241
  | .noEscape => Nat.beq g 358
  | .memo _ => false
  | .atoi _ => false
theorem pr_ok [Lay] : trAll primIs prT 1 0 = true := by kernel_rfl
theorem prim_ok [Lay] (hF : ∀ w : World, (∀ g o, Lay.S g = some o → w.heap[g]? = some o) → Fpow w) : PrimOK E := by
  intro g p hg
  have h := trAll_all pr_ok hg
  cases p with
  | itoa =>
    obtain rfl := nbeq_true h
    exact itoa_snd hF (enter_at Tryz.func55 (by kernel_rfl) (by kernel_rfl)) fun n w h0 h1 hp => (Tryz.strconv_Itoa n h0 h1 w hp.1).mono fun e w' ⟨h2, k, os, h3⟩ => ⟨h2, h3 ▸ below_grow w k os⟩
  | join =>
    obtain rfl := nbeq_true h
    exact join_snd (enter_at Tryz.func107 (by kernel_rfl) (by kernel_rfl)) (fun A c sep w => Tryz.strings_Join_none A c sep w) fun bk o c xs sep w h1 h2 h3 h4 h5 => Tryz.strings_Join bk o c xs sep w h1 h2 h3 h4 h5
  | indexByteStr =>
    obtain rfl := nbeq_true h
    exact indexByteStr_snd fun args w => run_callFunc_extern Tryz.func299 (by kernel_rfl) (by kernel_rfl) (by kernel_rfl) (by kernel_rfl) args w
  | mapsClone =>
    obtain rfl := nbeq_true h
    exact mapsClone_snd fun args w => run_callFunc_extern Tryz.func123 (by kernel_rfl) (by kernel_rfl) (by kernel_rfl) (by kernel_rfl) args w
  | countStr =>
    obtain rfl := nbeq_true h
    exact countStr_snd fun args w => run_callFunc_extern Tryz.func241 (by kernel_rfl) (by kernel_rfl) (by kernel_rfl) (by kernel_rfl) args w
  | noEscape =>
    obtain rfl := nbeq_true h
    exact noEscape_snd fun args w => run_callFunc_extern Tryz.func358 (by kernel_rfl) (by kernel_rfl) (by kernel_rfl) (by kernel_rfl) args w
  | memo l => cases h
  | atoi t => cases h
theorem awT_eq : awT = prT.set 38 (.memo awL) := by kernel_rfl
theorem awE_ok : EOK awE := eok_of (E := awE) ty_ok fn_look fn_ok (by kernel_rfl)
theorem prim_okA [Lay] (hF : ∀ w : World, (∀ g o, Lay.S g = some o → w.heap[g]? = some o) → Fpow w) : PrimOK awE := by
  intro g p hg
  have hg : awT.get g = some p := hg
  rw [awT_eq, Tr.get_set] at hg
  split at hg
  · rename_i e; subst e
    injection hg with hg; subst hg
    have hp := prim_ok hF
    exact memo_snd (E := awE) (E0 := E) rfl (body_snd e_ok (run_snd e_ok (draw_ok e_ok (by kernel_rfl)) hp 1000000)) awL_ok
  · exact prim_ok hF g p hg

theorem layF {W : World} (hF : Fpow W) : letI := layW W; ∀ w : World, (∀ g o, Lay.S g = some o → w.heap[g]? = some o) → Fpow w := by
  intro w h
  have h4 := fact_lt hF
  have one : ∀ g, g = 1 ∨ g = 4 → w.heap[g]? = W.heap[g]? := fun g hg => by
    have hlt : g < W.heap.size := by omega
    obtain ⟨o, ho⟩ : ∃ o, W.heap[g]? = some o := ⟨_, Array.getElem?_eq_getElem hlt⟩
    refine (h g o ?_).trans ho.symm
    show (if g = 1 ∨ g = 4 then W.heap[g]? else none) = some o
    rw [if_pos hg, ho]
  exact fact_cong (one 1 (.inl rfl)) (one 4 (.inr rfl)) hF
theorem lay_mr (W : World) (n : Nat) : letI := layW W; MR Tryz.prog (fun _ => none) ⟨n, .lf⟩ W := by
  letI : Lay := layW W
  refine empty_mr (fun k y hk => by cases hk) fun g o hg => ?_
  replace hg : (if g = 1 ∨ g = 4 then W.heap[g]? else none) = some o := hg
  split at hg
  · exact ⟨hg, fun k h hk => by cases hk⟩
  · cases hg
/-- the chapter's examples come out true -/
theorem awake_calls (W : World) (hF : Fpow W) : Calls Tryz.prog 11 #[] W fun e w' => e = .returned (.bool true) ∧ Below W.heap.size W w' := by
  letI : Lay := layW W
  obtain ⟨_, M1, k1, k2, k3⟩ := memoOK_ok awake_run
  have hB : SndB awE (runC awE 1000000) := body_snd awE_ok (run_snd awE_ok (draw_ok awE_ok (by kernel_rfl)) (prim_okA (layF hF)) 1000000)
  obtain ⟨_, r2⟩ := hB 11 _ _ _ _ k1 (fun _ => none) W #[] (lay_mr W 1) ⟨fun _ _ => rfl, fun _ _ => rfl⟩ rfl
  refine r2.calls.mono fun e w' ⟨v, h1, μ', h2, h3⟩ => ?_
  replace h2 : v = .bool true := h2
  subst h2
  exact ⟨h1, h3.os, h3.tape, h3.output, h3.size, fun i hi => h3.keep i hi fun k h hk => by cases hk⟩

/-! lab.read -/
noncomputable def rdT : Tr Prim := prT.set 153 (.atoi 438)
noncomputable def rdE : Env := { E with prim := rdT }
theorem rdE_ok : EOK rdE := eok_of (E := rdE) ty_ok fn_look fn_ok (by kernel_rfl)
theorem prim_okR [Lay] (hF : ∀ w : World, (∀ g o, Lay.S g = some o → w.heap[g]? = some o) → Fpow w) : PrimOK rdE := by
  intro g p hg
  have hg : rdT.get g = some p := hg
  unfold rdT at hg
  rw [Tr.get_set] at hg
  split at hg
  · rename_i e; subst e
    injection hg with hg; subst hg
    exact atoi_snd hF (enter_at Tryz.func153 (by kernel_rfl) (by kernel_rfl))
      (fun s n w hl h => (Tryz.strconv_Atoi s n hl h w).mono fun e w' ⟨h2, t, h3⟩ => ⟨h2, h3 ▸ Go.Joins.below_bytesWorld _ w 5 t (Nat.le_refl _)⟩)
      fun s w hl h hp => by
        obtain ⟨u, v, hv⟩ := hp.2
        exact (Tryz.strconv_Atoi_err s hl h _ w hv (.inr ⟨_, _, rfl⟩)).mono fun e w' ⟨N, h1, h2, h3, h4⟩ => ⟨N, h1, h2, (Array.getElem?_eq_some_iff.1 h3).1, h4⟩
  · exact prim_ok hF g p hg
/-- the lines that are none -/
def wrongL : List (List Nat) := [[110, 111, 116, 104, 105, 110, 103], [114, 117, 110, 32, 49], [110, 101, 119, 32], [116, 121, 112, 101, 115, 32, 120], [108, 105, 109, 105, 116, 115], [108, 105, 109, 105, 116, 115, 32, 49, 32, 50], [108, 105, 109, 105, 116, 115, 32, 49, 32, 50, 32, 51, 32], [108, 105, 109, 105, 116, 115, 32, 49, 32, 50, 32, 48, 51], [108, 105, 109, 105, 116, 115, 32, 49, 32, 50, 32, 45, 51], [108, 105, 109, 105, 116, 115, 32, 32, 49, 32, 50, 32, 51], [101, 118, 97, 108], [101, 118, 97, 108, 32, 120], [101, 118, 97, 108, 32, 49], [101, 118, 97, 108, 32, 45, 49, 32, 120], [101, 118, 97, 108, 32, 49, 50, 51, 52, 53, 54, 55, 56, 57, 48, 32, 120], [32, 114, 117, 110], [62, 120], [82, 117, 110]]
def isRow : C → Bool
  | .nils => true
  | .sl _ _ _ _ => true
  | _ => false
noncomputable def isWrong (s : List Nat) : Bool := match callB rdE (runC rdE 100000) 35 [.str s] ⟨0, .lf⟩ with
  | some (.tup [.agg [.str _, c, .str _], .bool false], _) => isRow c
  | _ => false
theorem wrong_all : wrongL.all isWrong = true := by kernel_rfl
/-- what reading such a line hands back -/
def NoLine (W : World) (e : Ending) (w' : World) : Prop := ∃ (x y : ByteArray) (A : Option Addr) (n cp : Nat), e = .returned (.tuple #[.agg #[.string x, .slice A n cp, .string y], .bool false]) ∧ Below W.heap.size W w'
theorem read_calls {s : List UInt8} (hs : s.map UInt8.toNat ∈ wrongL) (W : World) (hF : Fpow W) : Calls Tryz.prog 35 #[.string ⟨s.toArray⟩] W (NoLine W) := by
  letI : Lay := layW W
  have hw := List.all_eq_true.1 wrong_all _ hs
  unfold isWrong at hw
  split at hw
  · rename_i x c y M1 hc
    have hB : SndB rdE (runC rdE 100000) := body_snd rdE_ok (run_snd rdE_ok (draw_ok rdE_ok (by kernel_rfl)) (prim_okR (layF hF)) 100000)
    obtain ⟨_, r2⟩ := hB 35 _ _ _ _ hc (fun _ => none) W #[.string ⟨s.toArray⟩] (lay_mr W 0) ⟨fun _ _ => rfl, fun _ _ => rfl⟩ (VL.cons.2 ⟨⟨s, rfl, rfl⟩, rfl⟩)
    refine r2.calls.mono fun e w' ⟨v, h1, μ', h2, h3⟩ => ?_
    obtain ⟨z, rfl, u, l, h5, ⟨g, rfl, u1, l1, h10, ⟨b1, rfl, _⟩, u2, l2, h11, h12, u3, l3, h13, ⟨b3, rfl, _⟩, h14⟩, v, l', h7, h8, h9⟩ := h2
    rw [VL.nil] at h9 h14; subst h9; subst h14; subst h13; subst h11; subst h7
    replace h8 : v = .bool false := h8
    subst h8
    have e1 : z = #[.agg g, .bool false] := by rw [← Array.toList_inj, h5]
    have e2 : g = #[.string ⟨b1.toArray⟩, u2, .string ⟨b3.toArray⟩] := by rw [← Array.toList_inj, h10]
    subst e1; subst e2
    obtain ⟨A, n, cp, rfl⟩ : ∃ A n cp, u2 = .slice A n cp := by
      cases c <;> first | cases hw | skip
      · exact ⟨none, 0, 0, h12⟩
      · obtain ⟨q, off, cap, _, h, _⟩ := h12
        exact ⟨_, _, _, h⟩
    exact ⟨_, _, A, n, cp, h1, h3.os, h3.tape, h3.output, h3.size, fun i hi => h3.keep i hi fun k h hk => by cases hk⟩
  · cases hw
end Go.Proofs
