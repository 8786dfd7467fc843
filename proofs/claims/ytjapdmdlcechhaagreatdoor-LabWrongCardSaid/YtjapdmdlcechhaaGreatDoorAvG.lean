/- The script with a wrong line comes to its number; what is known of the library's variables is a condition. -/
import Derived.Test.YtjapdmdlcechhaaGreatDoorAvF
import Derived.WalkKit
import Derived.WalkSpells
import Derived.OwnWalk
import Derived.Lib.Hide
import Derived.Lib.SplitLaws
namespace Go.Proofs
open Go.RowKit
theorem bcell {W w1 : World} (hb : Below W.heap.size W w1) : (∀ b o, b < W.heap.size → w1.cell? ⟨b, o, none⟩ = W.cell? ⟨b, o, none⟩) ∧ (∀ b o, b < W.heap.size → w1.frozen? ⟨b, o, none⟩ = W.frozen? ⟨b, o, none⟩) :=
  ⟨fun b o h => hb.cell (p := ⟨b, o, none⟩) h, fun b o h => hb.frozen (p := ⟨b, o, none⟩) h⟩
/-- what a script with a wrong line comes to -/
def RunEnd (W : World) (many : Nat) (e : Ending) (w' : World) : Prop := (e = .returned (.tuple #[.string ⟨#[]⟩, .int .i64 0, .int .i64 2]) ∨ e = .returned (.tuple #[.string ⟨#[]⟩, .int .i64 (many + 1 : Nat), .int .i64 210])) ∧ Below W.heap.size W w'
def nl : ByteArray := ⟨#[10]⟩
theorem read_callsB {x : ByteArray} (hs : x.data.toList.map UInt8.toNat ∈ wrongL) (W : World) (hF : Fpow W) : Calls Tryz.prog 35 #[.string x] W (NoLine W) := by
  have := read_calls hs W hF
  simpa using this
/-- each of the lines begins, and with no remark -/
theorem wrong_begins {x : ByteArray} (hs : x.data.toList.map UInt8.toNat ∈ wrongL) : x.toList.isEmpty = false ∧ x.toList ≠ [] ∧ ∃ h : 0 < x.size, ((x[0].toNat : Int) == 35) = false := by
  have key : ∀ l ∈ wrongL, ∃ a m, l = a :: m ∧ a ≠ 35 := by
    intro l hl
    have : (wrongL.all fun l => match l with | a :: _ => a != 35 | [] => false) = true := by decide
    have := List.all_eq_true.1 this l hl
    cases l with
    | nil => cases this
    | cons a m => exact ⟨a, m, rfl, by simpa using this⟩
  obtain ⟨a, m, h1, h2⟩ := key _ hs
  obtain ⟨⟨l⟩⟩ := x
  cases l with
  | nil => simp at h1
  | cons b l =>
    simp at h1
    refine ⟨by simp, by simp, by simp [ByteArray.size], ?_⟩
    have : (ByteArray.mk (b :: l).toArray)[0]'(by simp [ByteArray.size]) = b := rfl
    rw [this]
    refine beq_eq_false_iff_ne.2 ?_
    omega
theorem split_cell (W : World) (L : List ByteArray) (k : Nat) (y : ByteArray) (h : L[k]? = some y) : (W.alloc (.cells (L.map Value.string).toArray 9)).cell? ⟨W.heap.size, k, none⟩ = some (.string y) := by
  have hh : (W.alloc (.cells (L.map Value.string).toArray 9)).heap[W.heap.size]? = some (.cells (L.map Value.string).toArray 9 (0, 0)) := (MapKept.heap_alloc W _).1
  rw [cell_of_row _ _ _ _ _ _ hh]
  simp [h]
set_option maxRecDepth 100000 in
set_option maxHeartbeats 1600000 in
theorem run_calls (s t : ByteArray) (many : Nat) (L : List ByteArray) (x : ByteArray) (mx : Int) (W : World) (hF : Fpow W) (hm : W.cell? ⟨0, 0, none⟩ = some (.int .i64 mx)) (hs : s.size < 4294967281) (h0 : s.toList.isEmpty = false)
    (ht : (⟨(Lib.trimSuffix s.data.toList [10]).toArray⟩ : ByteArray) = t) (hts : t.size < 4294967281)
    (hL : Lib.splitB ⟨#[10]⟩ 0 (Lib.countB t ⟨#[10]⟩) t = L) (hn : Lib.countB t ⟨#[10]⟩ + 1 = L.length)
    (h1 : ∀ i, i < many → L[i]? = some ⟨#[35, 32, 120]⟩) (h2 : L[many]? = some x) (hx : x.data.toList.map UInt8.toNat ∈ Go.Proofs.wrongL) (hmany : many ≤ 100) :
    Calls Tryz.prog 12 #[.string s] W (RunEnd W many) := by
  have HF := Lib.hid hF
  have HL := Lib.hid hL
  have HN := Lib.hid hn
  have H1 := Lib.hid h1
  have H2 := Lib.hid h2
  have HX := Lib.hid hx
  have HM := Lib.hid hm
  have HT := Lib.hid ht
  clear hF hL hn h1 h2 hx hm ht
  go_enter Tryz.func12, Tryz.ntmps12
  go_wp2_with fail
  refine (Tryz.strings_TrimSuffix s ⟨#[10]⟩ W (by omega)).mono ?_
  rintro e w' ⟨rfl, hw⟩
  rw [hw, show (⟨(Lib.trimSuffix s.data.toList [10]).toArray⟩ : ByteArray) = t from HT.out]
  clear hw w'
  go_wp2_with fail
  refine (Tryz.strings_Split t ⟨#[10]⟩ mx W hts HM.out (by decide)).mono ?_
  rintro e w' ⟨rfl, hw⟩
  rw [hw, HL.out, HN.out]
  clear hw w'
  by_cases h6 : s.size ≤ 6000
  · by_cases h15 : L.length ≤ 150
    · go_wp2_with fail
      go_loop [29] (fun i => ∃ k : Nat, k ≤ many ∧ i = .int .i64 k) (fun i => many - (intOf i).toNat)
      case atStart => exact ⟨0, Nat.zero_le _, rfl⟩
      case round =>
        obtain ⟨k, hk, rfl⟩ := hrel
        by_cases hlt : k < many
        · have hc := split_cell W L k _ (H1.out k hlt)
          have hl : k < L.length := (List.getElem?_eq_some_iff.1 (H1.out k hlt)).1
          go_wp2_with fail
          exact ⟨⟨k + 1, by omega, by go_num⟩, by simp [intOf]; omega⟩
        · obtain rfl : k = many := by omega
          have hc := split_cell W L k _ H2.out
          have hl : k < L.length := (List.getElem?_eq_some_iff.1 H2.out).1
          obtain ⟨hx1, hx2, hx3, hx4⟩ := wrong_begins HX.out
          go_wp2_with fail
          have hF1 : Fpow (W.alloc (.cells (L.map Value.string).toArray 9)) := by
            have h4 := fact_lt HF.out
            exact fact_cong (Below.heap_alloc W _ 1 (by omega)) (Below.heap_alloc W _ 4 h4) HF.out
          refine (read_callsB HX.out _ hF1).mono ?_
          clear hF1
          rintro e w2 ⟨x1, y1, A1, n1, c1, rfl, hb⟩
          have HB := Lib.hid hb
          clear hb hc hx1 hx2 hx4
          go_wp2_with fail
          go_ret3
          have hb := HB.out
          have hz := hb.size
          refine ⟨.inr rfl, ?_⟩
          exact (((Below.refl _ _).alloc (Nat.le_refl _) _).trans (hb.mono (by simp))).alloc (by simp at hz; omega) _
    · go_wp2_with fail
      go_ret3
      exact ⟨.inl rfl, (Below.refl _ _).alloc (Nat.le_refl _) _⟩
  · go_wp2_with fail
    go_ret3
    exact ⟨.inl rfl, (Below.refl _ _).alloc (Nat.le_refl _) _⟩
end Go.Proofs
namespace Go.Proofs
open Go.Lib (index count splitK)
/-- so many remarks -/
def hs : Nat → List UInt8
  | 0 => []
  | n + 1 => 35 :: 32 :: 120 :: 10 :: hs n
theorem hs_snoc : ∀ n, hs (n + 1) = hs n ++ [35, 32, 120, 10]
  | 0 => rfl
  | n + 1 => by
    have ih := hs_snoc n
    show 35 :: 32 :: 120 :: 10 :: hs (n + 1) = (35 :: 32 :: 120 :: 10 :: hs n) ++ [35, 32, 120, 10]
    rw [ih]; rfl
theorem hs_length : ∀ n, (hs n).length = 4 * n
  | 0 => rfl
  | n + 1 => by simp only [hs, List.length_cons, hs_length n]; omega
theorem index_hit : ∀ {a : List UInt8} {r : List UInt8}, (10 : UInt8) ∉ a → index (a ++ 10 :: r) [10] = (a.length : Int)
  | [], r, _ => by rw [List.nil_append, index, if_pos (by simp [List.isPrefixOf])]; rfl
  | b :: a, r, h => by
    have h1 : b ≠ 10 := fun e => h (by rw [e]; simp)
    have ih := index_hit (a := a) (r := r) fun e => h (List.mem_cons_of_mem _ e)
    have h2 : (index (a ++ 10 :: r) [10] == -1) = false := by rw [ih]; exact beq_eq_false_iff_ne.2 (by omega)
    rw [List.cons_append, index, if_neg (by simp [List.isPrefixOf, Ne.symm h1]), h2, if_neg (by simp), ih, List.length_cons]
    omega
theorem split_hit {a r : List UInt8} (h : (10 : UInt8) ∉ a) (k : Nat) : splitK [10] 0 (k + 1) (a ++ 10 :: r) = a :: splitK [10] 0 k r := by
  have h1 := index_hit (r := r) h
  have h2 : ¬ ((index (a ++ 10 :: r) [10] == -1) = true) := by rw [h1]; intro e; have := beq_iff_eq.1 e; omega
  rw [splitK, if_neg h2, h1]
  have e1 : (a ++ 10 :: r).take ((a.length : Int).toNat + 0) = a := by simp
  have e2 : (a ++ 10 :: r).drop ((a.length : Int).toNat + [(10 : UInt8)].length) = r := by
    simp only [Int.toNat_natCast, List.length_cons, List.length_nil, Nat.zero_add]
    rw [← List.drop_drop, List.drop_left]; rfl
  rw [e1, e2]
theorem split_law {x rest : List UInt8} (hx : (10 : UInt8) ∉ x) (hr : rest = [] ∨ ∃ r, rest = 10 :: r) : ∀ n : Nat, (∀ i, i < n → (splitK [10] 0 ((hs n ++ (x ++ rest)).count 10) (hs n ++ (x ++ rest)))[i]? = some [35, 32, 120]) ∧ (splitK [10] 0 ((hs n ++ (x ++ rest)).count 10) (hs n ++ (x ++ rest)))[n]? = some x
  | 0 => by
    refine ⟨fun i hi => by omega, ?_⟩
    have hc : x.count 10 = 0 := List.count_eq_zero.2 hx
    rcases hr with rfl | ⟨r, rfl⟩
    · simp only [hs, List.nil_append, List.append_nil, hc]
      rfl
    · have : (x ++ 10 :: r).count 10 = r.count 10 + 1 := by rw [List.count_append, hc, List.count_cons_self]; omega
      simp only [hs, List.nil_append, this, split_hit hx]
      rfl
  | n + 1 => by
    obtain ⟨h1, h2⟩ := split_law hx hr n
    have e : hs (n + 1) ++ (x ++ rest) = [35, 32, 120] ++ 10 :: (hs n ++ (x ++ rest)) := rfl
    have hc : ([35, 32, 120] ++ 10 :: (hs n ++ (x ++ rest))).count 10 = (hs n ++ (x ++ rest)).count 10 + 1 := by
      rw [List.count_append, List.count_cons_self]; simp
    rw [e, hc, split_hit (by decide)]
    refine ⟨fun i hi => ?_, by simpa using h2⟩
    cases i with
    | zero => rfl
    | succ i => simpa using h1 i (by omega)
/-- a line's end is taken away -/
theorem trim_law (a b : List UInt8) : ∃ rest, Lib.trimSuffix (a ++ 10 :: b) [10] = a ++ rest ∧ (rest = [] ∨ ∃ r, rest = 10 :: r) := by
  unfold Lib.trimSuffix
  split
  · rename_i h
    cases b with
    | nil => exact ⟨[], by simp, .inl rfl⟩
    | cons c l =>
      refine ⟨10 :: (c :: l).take l.length, ?_, .inr ⟨_, rfl⟩⟩
      have : (a ++ 10 :: c :: l).length - [(10 : UInt8)].length = a.length + (l.length + 1) := by simp
      rw [this, List.take_append, List.take_of_length_le (show a.length ≤ a.length + (l.length + 1) by omega)]
      simp
  · exact ⟨10 :: b, rfl, .inr ⟨_, rfl⟩⟩
theorem wrong_no {x : ByteArray} (hx : x.data.toList.map UInt8.toNat ∈ wrongL) : (10 : UInt8) ∉ x.data.toList ∧ x.size ≤ 17 := by
  have h1 : (wrongL.all fun l => l.all (fun a => a != 10) && Nat.ble l.length 17) = true := by decide
  have h2 := List.all_eq_true.1 h1 _ hx
  simp only [Bool.and_eq_true, List.all_eq_true, List.mem_map] at h2
  refine ⟨fun hm => ?_, ?_⟩
  · have := h2.1 10 ⟨10, hm, rfl⟩
    simp at this
  · have := Nat.le_of_ble_eq_true h2.2
    rw [Lib.size_eq]
    simpa using this
theorem script_law (n : Nat) (hn : n ≤ 100) (x b s : ByteArray) (hx : x.data.toList.map UInt8.toNat ∈ wrongL) (hb : b.size ≤ 3000) (he : s.data.toList = hs n ++ (x.data.toList ++ 10 :: b.data.toList)) :
    ∃ (t : ByteArray) (L : List ByteArray), (⟨(Lib.trimSuffix s.data.toList [10]).toArray⟩ : ByteArray) = t ∧ t.size < 4294967281 ∧ Lib.splitB ⟨#[10]⟩ 0 (Lib.countB t ⟨#[10]⟩) t = L ∧ Lib.countB t ⟨#[10]⟩ + 1 = L.length ∧
      (∀ i, i < n → L[i]? = some ⟨#[35, 32, 120]⟩) ∧ L[n]? = some x ∧ s.size < 4294967281 ∧ s.toList.isEmpty = false := by
  obtain ⟨h1, h2⟩ := wrong_no hx
  have h17 : x.data.toList.length ≤ 17 := by rw [← Lib.size_eq]; exact h2
  have h3000 : b.data.toList.length ≤ 3000 := by rw [← Lib.size_eq]; exact hb
  have hlen := hs_length n
  obtain ⟨rest, h3, h4⟩ := trim_law (hs n ++ x.data.toList) b.data.toList
  have he' : s.data.toList = (hs n ++ x.data.toList) ++ 10 :: b.data.toList := by rw [he]; simp
  rw [← he'] at h3
  have hd : ∀ l : List UInt8, (⟨l.toArray⟩ : ByteArray).data.toList = l := fun l => by simp
  have hsz : s.size = s.data.toList.length := Lib.size_eq s
  have htl : (Lib.trimSuffix s.data.toList [10]).length ≤ s.data.toList.length := by
    unfold Lib.trimSuffix
    split
    · exact List.length_take_le' ..
    · exact Nat.le_refl _
  have hsl : s.data.toList.length ≤ 4000 := by rw [he]; simp; omega
  have hts : (⟨(Lib.trimSuffix s.data.toList [10]).toArray⟩ : ByteArray).size < 4294967281 := by rw [Lib.size_eq, hd]; omega
  have hcount : Lib.countB ⟨(Lib.trimSuffix s.data.toList [10]).toArray⟩ ⟨#[10]⟩ = (hs n ++ (x.data.toList ++ rest)).count 10 := by
    show Lib.count _ [10] = _
    rw [hd, h3, Lib.count_one, List.append_assoc]
  have hmap := Lib.splitB_data ⟨#[10]⟩ 0 (Lib.countB ⟨(Lib.trimSuffix s.data.toList [10]).toArray⟩ ⟨#[10]⟩) ⟨(Lib.trimSuffix s.data.toList [10]).toArray⟩
  obtain ⟨q1, q2⟩ := split_law h1 h4 n
  have hK : (Lib.splitB ⟨#[10]⟩ 0 (Lib.countB ⟨(Lib.trimSuffix s.data.toList [10]).toArray⟩ ⟨#[10]⟩) ⟨(Lib.trimSuffix s.data.toList [10]).toArray⟩).map (·.data.toList) = splitK [10] 0 ((hs n ++ (x.data.toList ++ rest)).count 10) (hs n ++ (x.data.toList ++ rest)) := by
    rw [hmap, hcount, hd, h3, List.append_assoc]
  have back : ∀ (L : List ByteArray) (i : Nat) (l : List UInt8), (L.map (·.data.toList))[i]? = some l → L[i]? = some ⟨l.toArray⟩ := fun L i l h => by
    rw [List.getElem?_map] at h
    cases hL : L[i]? with
    | none => rw [hL] at h; cases h
    | some y =>
      rw [hL] at h
      injection h with h
      subst h
      simp
  refine ⟨_, _, rfl, hts, rfl, (Lib.splitB_all ⟨#[10]⟩ (by decide) 0 _ _ rfl).symm, fun i hi => ?_, ?_, by omega, ?_⟩
  · exact back _ i _ (by rw [hK]; exact q1 i hi)
  · have := back _ n _ (by rw [hK]; exact q2)
    simpa using this
  · obtain ⟨⟨l⟩⟩ := s
    have hl : l = hs n ++ (x.data.toList ++ 10 :: b.data.toList) := he
    have hne : l ≠ [] := by rw [hl]; simp
    cases l with
    | nil => exact absurd rfl hne
    | cons a l => simp
end Go.Proofs
namespace Go.Proofs
open Go.RowKit
def wl : List ByteArray := [⟨#[110, 111, 116, 104, 105, 110, 103]⟩, ⟨#[114, 117, 110, 32, 49]⟩, ⟨#[110, 101, 119, 32]⟩, ⟨#[116, 121, 112, 101, 115, 32, 120]⟩, ⟨#[108, 105, 109, 105, 116, 115]⟩, ⟨#[108, 105, 109, 105, 116, 115, 32, 49, 32, 50]⟩, ⟨#[108, 105, 109, 105, 116, 115, 32, 49, 32, 50, 32, 51, 32]⟩, ⟨#[108, 105, 109, 105, 116, 115, 32, 49, 32, 50, 32, 48, 51]⟩, ⟨#[108, 105, 109, 105, 116, 115, 32, 49, 32, 50, 32, 45, 51]⟩, ⟨#[108, 105, 109, 105, 116, 115, 32, 32, 49, 32, 50, 32, 51]⟩, ⟨#[101, 118, 97, 108]⟩, ⟨#[101, 118, 97, 108, 32, 120]⟩, ⟨#[101, 118, 97, 108, 32, 49]⟩, ⟨#[101, 118, 97, 108, 32, 45, 49, 32, 120]⟩, ⟨#[101, 118, 97, 108, 32, 49, 50, 51, 52, 53, 54, 55, 56, 57, 48, 32, 120]⟩, ⟨#[32, 114, 117, 110]⟩, ⟨#[62, 120]⟩, ⟨#[82, 117, 110]⟩]
theorem wl_wrong : ∀ (j : Nat) (x : ByteArray), wl[j]? = some x → x.data.toList.map UInt8.toNat ∈ wrongL := by
  intro j x h
  have h1 : (wl.all fun (x : ByteArray) => wrongL.contains (x.data.toList.map UInt8.toNat)) = true := by decide
  have := List.all_eq_true.1 h1 x (List.mem_of_getElem? h)
  simpa using this
theorem wl_cell (w1 : World) (j : Nat) (x : ByteArray) (h : wl[j]? = some x) : (w1.alloc (.cells (wl.map Value.string).toArray 9)).cell? ⟨w1.heap.size, j, none⟩ = some (.string x) := split_cell w1 wl j x h
/-- so many remarks -/
def hsB (n : Nat) : ByteArray := ⟨(hs n).toArray⟩
theorem hsB_snoc (n : Nat) : hsB (n + 1) = hsB n ++ ⟨#[35, 32, 120, 10]⟩ := by
  unfold hsB
  rw [hs_snoc]
  apply ByteArray.ext
  simp
theorem hsB_size (n : Nat) : (hsB n).size = 4 * n := by rw [Lib.size_eq]; simp [hsB, hs_length]
def True1 (W : World) (e : Ending) (w' : World) : Prop := e = .returned (.bool true) ∧ Below W.heap.size W w'
theorem script_data (k : Nat) (x b : ByteArray) : (hsB k ++ x ++ ⟨#[10]⟩ ++ b).data.toList = hs k ++ (x.data.toList ++ 10 :: b.data.toList) := by
  simp [hsB]
/-- the script of a wrong line -/
theorem script_calls (k q : Nat) (x b : ByteArray) (mx : Int) (W w1 w2 : World) (hF : Fpow W) (hm : W.cell? ⟨0, 0, none⟩ = some (.int .i64 mx)) (h0 : 0 < W.heap.size) (hb1 : Below W.heap.size W w1) (hw : w1.alloc (.cells (wl.map Value.string).toArray 9) = w2) (hk : k ≤ 100) (hb : b.size ≤ 3000) (hx : wl[q]? = some x) :
    Calls Tryz.prog 12 #[.string (hsB k ++ x ++ ⟨#[10]⟩ ++ b)] w2 (RunEnd w2 k) := by
  have hb2 : Below W.heap.size W w2 := hw ▸ hb1.alloc hb1.size _
  have h4 := fact_lt hF
  have hF2 : Fpow w2 := fact_cong (hb2.block 1 (by omega)) (hb2.block 4 h4) hF
  have hm2 : w2.cell? ⟨0, 0, none⟩ = some (.int .i64 mx) := (hb2.cell (p := ⟨0, 0, none⟩) h0).trans hm
  obtain ⟨t, L, h1, h2, h3, h5, h6, h7, h8, h9⟩ := script_law k hk x b _ (wl_wrong _ _ hx) hb (script_data k x b)
  exact run_calls _ t k L x mx w2 hF2 hm2 h8 h9 h1 h2 h3 h5 h6 h7 (wl_wrong _ _ hx) hk
set_option maxRecDepth 100000 in
set_option maxHeartbeats 3200000 in
theorem labWrong_calls (n q : Nat) (b : ByteArray) (mx : Int) (W : World) (hF : Fpow W) (hm : W.cell? ⟨0, 0, none⟩ = some (.int .i64 mx)) (h0 : 0 < W.heap.size) (hn : n ≤ 100) (hq : q ≤ 9223372036854775807) (hb : b.size ≤ 3000) :
    Calls Tryz.prog 4 #[.int .i64 n, .int .i64 q, .string b] W (True1 W) := by
  have HF := Lib.hid hF
  have HM := Lib.hid hm
  clear hF hm
  go_enter Tryz.func4, Tryz.ntmps4
  go_wp2_with fail
  refine (awake_calls W HF.out).mono ?_
  rintro e w1 ⟨rfl, hb1⟩
  have HB := Lib.hid hb1
  clear hb1
  go_wp2_with fail
  generalize hw : w1.alloc _ = w2
  have hw' : w1.alloc (.cells (wl.map Value.string).toArray 9) = w2 := hw
  have HW := Lib.hid hw'
  clear hw hw'
  go_loop [9, 10] (fun t i => ∃ k : Nat, k ≤ n ∧ i = .int .i64 k ∧ t = .string (hsB k)) (fun _ i => n - (intOf i).toNat)
  case atStart => exact ⟨0, Nat.zero_le _, rfl, rfl⟩
  case round =>
    obtain ⟨k, hk, rfl, rfl⟩ := hrel
    have hz : (hsB k).size + 4 ≤ 9223372036854775807 := by rw [hsB_size]; omega
    by_cases hlt : k < n
    · go_wp2_with fail
      exact ⟨⟨k + 1, by omega, by go_num, by rw [hsB_snoc]⟩, by simp [intOf]; omega⟩
    · obtain rfl : k = n := by omega
      clear hz
      obtain ⟨x, hx⟩ : ∃ x, wl[q % 18]? = some x := ⟨_, List.getElem?_eq_getElem (show q % 18 < wl.length from Nat.mod_lt _ (by decide))⟩
      have hc : w2.cell? ⟨w1.heap.size, q % 18, none⟩ = some (.string x) := HW.out ▸ wl_cell w1 _ x hx
      have hz1 : (hsB k).size ≤ 400 := by rw [hsB_size]; omega
      have hz2 : x.size ≤ 17 := (wrong_no (wl_wrong _ _ hx)).2
      have HX := Lib.hid hx
      clear hx
      go_wp2_with fail
      refine (script_calls k (q % 18) x b mx W w1 w2 HF.out HM.out h0 HB.out HW.out hn hb HX.out).mono ?_
      clear hc hz1 hz2
      rintro e w3 ⟨he, hb3⟩
      have HB3 := Lib.hid hb3
      clear hb3
      have hfin : Below W.heap.size W w3 := by
        have h1 := HB.out
        have h2 : Below W.heap.size W w2 := HW.out ▸ h1.alloc h1.size _
        exact h2.trans (HB3.out.mono h2.size)
      have HE := Lib.hid hfin
      clear hfin
      rcases he with rfl | rfl
      · go_wp2_with fail
        go_ret
        exact ⟨rfl, HE.out⟩
      · go_wp2_with fail
        go_ret
        exact ⟨rfl, HE.out⟩
set_option maxRecDepth 100000 in
set_option maxHeartbeats 3200000 in
/-- what is not asked -/
theorem labWrong_out (n q : Int) (b : ByteArray) (W : World) (hF : Fpow W) (h : n < 0 ∨ 100 < n ∨ q < 0 ∨ 3000 < b.size) :
    Calls Tryz.prog 4 #[.int .i64 n, .int .i64 q, .string b] W (True1 W) := by
  have HF := Lib.hid hF
  have hd : (decide (n < 0) || decide (100 < n) || decide (q < 0) || decide (3000 < (b.size : Int))) = true := by
    simp only [Bool.or_eq_true, decide_eq_true_eq]; omega
  clear hF
  go_enter Tryz.func4, Tryz.ntmps4
  go_wp2_with fail
  refine (awake_calls W HF.out).mono ?_
  rintro e w1 ⟨rfl, hb1⟩
  have HB := Lib.hid hb1
  clear hb1
  go_wp2_with fail
  all_goals
    go_ret
    have h1 := HB.out
    exact ⟨rfl, h1.alloc h1.size _⟩
theorem labWrong_all (n q : Int) (b : ByteArray) (mx : Int) (W : World) (hF : Fpow W) (hm : W.cell? ⟨0, 0, none⟩ = some (.int .i64 mx)) (hq : q ≤ 9223372036854775807) : Calls Tryz.prog 4 #[.int .i64 n, .int .i64 q, .string b] W (True1 W) := by
  by_cases h : n < 0 ∨ 100 < n ∨ q < 0 ∨ 3000 < b.size
  · exact labWrong_out n q b W hF h
  · obtain ⟨n, rfl⟩ := Int.eq_ofNat_of_zero_le (show 0 ≤ n by omega)
    obtain ⟨q, rfl⟩ := Int.eq_ofNat_of_zero_le (show 0 ≤ q by omega)
    have := fact_lt hF
    exact labWrong_calls n q b mx W hF hm (by omega) (by omega) (by omega) (by omega)
end Go.Proofs
