/- The scanners of the program and of the document give the same tokens for any text. -/
import Derived.Test.YtjfghnkmladbkaaGreatDoorAvE
import Derived.IntWalk
namespace Go.Proofs
open Go.Av
set_option maxHeartbeats 4000000
set_option maxRecDepth 100000
def lowerB (c : UInt8) : Bool := decide ((c.toNat : Int) ≥ 97) && decide ((c.toNat : Int) ≤ 122)
def upperB (c : UInt8) : Bool := decide ((c.toNat : Int) ≥ 65) && decide ((c.toNat : Int) ≤ 90)
def digitB (c : UInt8) : Bool := decide ((c.toNat : Int) ≥ 48) && decide ((c.toNat : Int) ≤ 57)
def wordB (c : UInt8) : Bool := lowerB c || (upperB c || (digitB c || ((c.toNat : Int) == 95)))
theorem lower_den (c : UInt8) : den E 162 [.int .u8 c.toNat] [] = some (.bool (lowerB c),[]) := by
 rw [den_eq prim_162,body_162]; unfold lowerB
 cases h : decide ((c.toNat : Int) ≥ 97) <;> simp only [go_sem,Tryz.f162,h]
theorem upper_den (c : UInt8) : den E 163 [.int .u8 c.toNat] [] = some (.bool (upperB c),[]) := by
 rw [den_eq prim_163,body_163]; unfold upperB
 cases h : decide ((c.toNat : Int) ≥ 65) <;> simp only [go_sem,Tryz.f163,h]
theorem digit_den (c : UInt8) : den E 167 [.int .u8 c.toNat] [] = some (.bool (digitB c),[]) := by
 rw [den_eq prim_167,body_167]; unfold digitB
 cases h : decide ((c.toNat : Int) ≥ 48) <;> simp only [go_sem,Tryz.f167,h]
theorem inner_den (c : UInt8) : den E 165 [.int .u8 c.toNat] [] = some (.bool (wordB c),[]) := by
 rw [den_eq prim_165,body_165]; unfold wordB
 cases h : lowerB c
 · cases h2 : upperB c
   · cases h3 : digitB c <;> simp only [go_sem,Tryz.f165,lower_den,upper_den,digit_den,h,h2,h3]
   · simp only [go_sem,Tryz.f165,lower_den,upper_den,h,h2]
 · simp only [go_sem,Tryz.f165,lower_den,h]
theorem letter_den (c : UInt8) : den E 173 [.int .u8 c.toNat] [] = some (.bool (lowerB c || upperB c),[]) := by
 rw [den_eq prim_173,body_173]; unfold lowerB upperB
 cases h : decide ((c.toNat : Int) ≥ 97) <;> cases h2 : decide ((c.toNat : Int) ≤ 122) <;> cases h3 : decide ((c.toNat : Int) ≥ 65) <;> simp only [go_sem,Tryz.f173,h,h2,h3]
theorem digit1_den (c : UInt8) : den E 174 [.int .u8 c.toNat] [] = some (.bool (digitB c),[]) := by
 rw [den_eq prim_174,body_174]; unfold digitB
 cases h : decide ((c.toNat : Int) ≥ 48) <;> simp only [go_sem,Tryz.f174,h]
theorem wrapN (n : Nat) (h : n < 9223372036854775808) : IntKind.i64.wrap (n : Int) = n := IntWalk.i64_in _ (by omega)
theorem natlt (a b : Nat) : decide ((a : Int) < b) = decide (a < b) := by simp
theorem natge0 (a : Nat) : ((0 : Int) ≤ a) = True := by simp
theorem tonat (a : Nat) : ((a : Int)).toNat = a := by simp
def spanN (p : UInt8 → Bool) : List UInt8 → Nat
 | [] => 0
 | c :: r => if p c then spanN p r + 1 else 0
theorem spanN_le (p : UInt8 → Bool) : ∀ s,spanN p s ≤ s.length
 | [] => Nat.le_refl 0
 | c :: r => by
  simp only [spanN]; split
  · have := spanN_le p r; simp; omega
  · omega
theorem spanN_lt (p : UInt8 → Bool) : ∀ {s : List UInt8} {i : Nat},i < spanN p s → ∃ c,s[i]? = some c ∧ p c = true
 | [],i,h => by simp [spanN] at h
 | c :: r,i,h => by
  simp only [spanN] at h
  split at h
  · rename_i hp
    cases i with
    | zero => exact ⟨c,rfl,hp⟩
    | succ i => exact spanN_lt p (s := r) (by omega)
  · omega
theorem spanN_at (p : UInt8 → Bool) : ∀ {s : List UInt8},spanN p s < s.length → ∃ c,s[spanN p s]? = some c ∧ p c = false
 | [],h => by simp at h
 | c :: r,h => by
  simp only [spanN] at h ⊢
  split
  · rename_i hp
    rw [if_pos hp] at h
    exact spanN_at p (s := r) (by simpa using h)
  · rename_i hp
    exact ⟨c,rfl,by simpa using hp⟩
theorem span_den (f : Nat) (p : UInt8 → Bool) (hf : ∀ c : UInt8,den E f [.int .u8 c.toNat] [] = some (.bool (p c),[])) (s : List UInt8) (hs : s.length < 1000000) :
 den E 164 [.str s,.func f [] []] [] = some (.int .i64 (spanN p s),[]) := by
 rw [den_eq prim_164,body_164]
 simp only [go_sem,Tryz.f164]
 refine run_for (fun i => ⟨[(0,.str s),(1,.func f [] []),(5,.int .i64 i)],[],[],1⟩) (spanN p s) ?_ ?_ ?_
 · simp only [go_sem]
 · intro i hi h
   have hle := spanN_le p s
   have hlt : decide (i < s.length) = true := by simp; omega
   obtain ⟨c,hc,hp⟩ := spanN_lt p hi
   have hw : IntKind.i64.wrap ((i : Int) + 1) = ((i + 1 : Nat) : Int) := wrapN (i + 1) (by omega)
   simp only [go_sem,natlt,hlt,natge0,tonat,hc,hf,hp]
   refine h _ ?_
   simp only [go_sem,hw]
 · by_cases hlt : spanN p s < s.length
   · obtain ⟨c,hc,hp⟩ := spanN_at p hlt
     simp only [go_sem,natlt,hlt,natge0,tonat,hc,hf,hp]
   · simp only [go_sem,natlt,hlt]
def isKw (w : List UInt8) : Bool := w == [100,97,116,97] || (w == [108,101,116] || (w == [105,110] || (w == [99,97,115,101] || (w == [111,102] || w == [102,111,114,97,108,108]))))
def kindS (w : List UInt8) : Int := if isKw w then 3 else if upperB (w.headD 0) then 2 else 1
theorem kindOf_den (w : List UInt8) (c : UInt8) (hc : w[0]? = some c) : den E 166 [.str w] [] = some (.int .i64 (kindS w),[]) := by
 rw [den_eq prim_166,body_166]; unfold kindS isKw
 have hh : w.headD 0 = c := by cases w <;> simp_all
 cases h1 : w == [100,97,116,97]
 · cases h2 : w == [108,101,116]
   · cases h3 : w == [105,110]
     · cases h4 : w == [99,97,115,101]
       · cases h5 : w == [111,102]
         · cases h6 : w == [102,111,114,97,108,108]
           · cases h7 : upperB c <;> simp only [go_sem,Tryz.f166,hc,hh,h1,h2,h3,h4,h5,h6,h7,upper_den,Int.le_refl,Int.toNat_zero]
           · simp only [go_sem,Tryz.f166,h1,h2,h3,h4,h5,h6]
         · simp only [go_sem,Tryz.f166,h1,h2,h3,h4,h5]
       · simp only [go_sem,Tryz.f166,h1,h2,h3,h4]
     · simp only [go_sem,Tryz.f166,h1,h2,h3]
   · simp only [go_sem,Tryz.f166,h1,h2]
 · simp only [go_sem,Tryz.f166,h1]
theorem nat_eq0 (n : Nat) : ((n : Int) == 0) = decide (n = 0) := by
 by_cases h : n = 0
 · simp [h]
 · rw [decide_eq_false h,beq_eq_false_iff_ne]; omega
def numberS (s : List UInt8) : Nat := if spanN digitB s > 6 || (decide (spanN digitB s > 1) && s.head? == some 48) then 0 else spanN digitB s
theorem u8_eq (c : UInt8) (n : Nat) (h : n < 256) : ((c.toNat : Int) == (n : Int)) = (c == UInt8.ofNat n) := by
 have : c = UInt8.ofNat n ↔ c.toNat = n := by
  constructor
  · intro e; subst e; simp; omega
  · intro e; subst e; simp
 by_cases e : c.toNat = n
 · rw [beq_iff_eq.2 (this.2 e),beq_iff_eq.2 (by omega)]
 · have h2 : ¬ c = UInt8.ofNat n := fun h => e (this.1 h)
   have h3 : ¬ ((c.toNat : Int) = (n : Int)) := by omega
   rw [beq_eq_false_iff_ne.2 h3,beq_eq_false_iff_ne.2 h2]
theorem span_digit (s : List UInt8) (hs : s.length < 1000000) : den E 164 [.str s,.func 167 [] []] [] = some (.int .i64 (spanN digitB s),[]) := span_den 167 digitB digit_den s hs
theorem span_word (s : List UInt8) (hs : s.length < 1000000) : den E 164 [.str s,.func 165 [] []] [] = some (.int .i64 (spanN wordB s),[]) := span_den 165 wordB inner_den s hs
theorem number_den (s : List UInt8) (hs : s.length < 1000000) : den E 168 [.str s] [] = some (.int .i64 (numberS s),[]) := by
 rw [den_eq prim_168,body_168]; unfold numberS
 have h0 := span_digit s hs
 have e1 : decide ((spanN digitB s : Int) > 6) = decide (spanN digitB s > 6) := by simp; omega
 have e2 : decide ((spanN digitB s : Int) > 1) = decide (spanN digitB s > 1) := by simp; omega
 cases h1 : decide (spanN digitB s > 6)
 · cases h2 : decide (spanN digitB s > 1)
   · simp only [go_sem,Tryz.f168,h0,e1,e2,h1,h2]
   · have : ∃ c r,s = c :: r := by
      cases s with
      | nil => simp [spanN] at h2
      | cons c r => exact ⟨c,r,rfl⟩
     obtain ⟨c,r,rfl⟩ := this
     have e3 := u8_eq c 48 (by omega)
     cases h3 : (c == 48) <;>
     · rw [show ((48 : Nat) : Int) = 48 from rfl,show UInt8.ofNat 48 = 48 from rfl,h3] at e3
       simp only [go_sem,Tryz.f168,h0,e1,e2,h1,h2,Int.le_refl,Int.toNat_zero,e3]
       simp [h3]
 · simp only [go_sem,Tryz.f168,h0,e1,h1]
theorem prefix_den (s p : List UInt8) : den E 222 [.str s,.str p] [] = some (.bool (decide (p.length ≤ s.length) && (s.take p.length == p)),[]) := by
 rw [den_eq prim_222,body_222]
 have e1 : decide ((s.length : Int) ≥ p.length) = decide (p.length ≤ s.length) := by simp
 cases h1 : decide (p.length ≤ s.length)
 · simp only [go_sem,Tryz.f222,e1,h1]
 · have h2 : p.length ≤ s.length := of_decide_eq_true h1
   simp only [go_sem,Tryz.f222,e1,natge0,tonat,h2,Nat.zero_le,List.drop_zero]
theorem hasPrefix_den (s p : List UInt8) : den E 169 [.str s,.str p] [] = some (.bool (decide (p.length ≤ s.length) && (s.take p.length == p)),[]) := by
 rw [den_eq prim_169,body_169]
 simp only [go_sem,Tryz.f169,prefix_den]
def signs : List UInt8 := [92,58,61,59,123,125,40,41,46,126,64,60,62,44,91,93,33]
def tokS (s : List UInt8) : Option (Int × Nat) :=
 let c := s.headD 0
 if lowerB c || upperB c then (if spanN wordB s > 16 then none else some (kindS (s.take (spanN wordB s)),spanN wordB s))
 else if digitB c then (if numberS s = 0 then none else some (4,numberS s))
 else if c == 63 then (if numberS (s.drop 1) = 0 then none else some (5,numberS (s.drop 1) + 1))
 else if s.take 2 == [45,62] || s.take 2 == [124,62] then some (6,2)
 else if signs.contains c then some (6,1)
 else none
def tokP (s : List UInt8) : Int × Nat :=
 match tokS s with
 | some r => r
 | none => if !(lowerB (s.headD 0) || upperB (s.headD 0)) && digitB (s.headD 0) then (4,0) else (0,0)
theorem index_signs (c : UInt8) : decide (Lib.indexByte signs c ≥ 0) = signs.contains c := by
 have : ∀ n : Fin 256,decide (Lib.indexByte signs (UInt8.ofNat n.val) ≥ 0) = signs.contains (UInt8.ofNat n.val) := by decide
 have h := this ⟨c.toNat,c.toNat_lt⟩
 simpa using h
theorem token_den (s : List UInt8) (c : UInt8) (hc : s[0]? = some c) (hs : s.length < 1000000) : den E 109 [.str s] [] = some (.tup [.int .i64 (tokP s).1,.int .i64 (tokP s).2],[]) := by
 rw [den_eq prim_109,body_109]
 have hh : s.headD 0 = c := by cases s <;> simp_all
 have hw := span_word s hs
 have hn := number_den s hs
 have hn1 := number_den (s.drop 1) (by simp; omega)
 have hle := spanN_le wordB s
 have e1 : decide ((spanN wordB s : Int) > 16) = decide (spanN wordB s > 16) := by simp; omega
 have hlen : 1 ≤ s.length := by cases s <;> simp_all
 have hk : ∀ n,(s.take n)[0]? = if 0 < n then some c else none := fun n => by rw [List.getElem?_take,hc]
 have e63 := u8_eq c 63 (by omega)
 have e63' : ((c.toNat : Int) == 63) = (c == 63) := e63
 have n0 := nat_eq0 (numberS (s.drop 1))
 unfold tokP tokS
 rw [hh]
 cases h1 : lowerB c || upperB c
 · have h1a : lowerB c = false := by cases h : lowerB c <;> simp_all
   have h1b : upperB c = false := by cases h : upperB c <;> simp_all
   cases h2 : digitB c
   · cases h3 : c == 63
     · have pa : (decide (2 ≤ s.length) && (s.take 2 == [45,62])) = (s.take 2 == [45,62]) := by
        by_cases h : 2 ≤ s.length
        · simp [h]
        · have : s.take 2 ≠ [45,62] := fun e => by have := congrArg List.length e; simp at this; omega
          simp [this]
       have pb : (decide (2 ≤ s.length) && (s.take 2 == [124,62])) = (s.take 2 == [124,62]) := by
        by_cases h : 2 ≤ s.length
        · simp [h]
        · have : s.take 2 ≠ [124,62] := fun e => by have := congrArg List.length e; simp at this; omega
          simp [this]
       have hpa := hasPrefix_den s [45,62]
       have hpb := hasPrefix_den s [124,62]
       simp only [List.length_cons,List.length_nil,Nat.reduceAdd,pa] at hpa
       simp only [List.length_cons,List.length_nil,Nat.reduceAdd,pb] at hpb
       cases h4 : (s.take 2 == [45,62])
       · cases h5 : (s.take 2 == [124,62])
         · have hi := index_signs c
           have hp : den E 170 [.str [92,58,61,59,123,125,40,41,46,126,64,60,62,44,91,93,33],.int .u8 c.toNat] [] = some (.int .i64 (Lib.indexByte signs c),[]) := by
            rw [den_prim prim_170]; simp [indexByteP,signs]
           cases h6 : signs.contains c <;>
           · rw [h6] at hi
             rw [h4] at hpa; rw [h5] at hpb
             simp only [go_sem,Tryz.f109,hc,h1a,h1b,h2,h3,Int.le_refl,Int.toNat_zero,lower_den,upper_den,digit_den,e63',hpa,hpb,hp,hi,h6]
         · rw [h4] at hpa; rw [h5] at hpb
           simp only [go_sem,Tryz.f109,hc,h1a,h1b,h2,h3,Int.le_refl,Int.toNat_zero,lower_den,upper_den,digit_den,e63',hpa,hpb]
       · rw [h4] at hpa
         simp only [go_sem,Tryz.f109,hc,h1a,h1b,h2,h3,Int.le_refl,Int.toNat_zero,lower_den,upper_den,digit_den,e63',hpa]
     · have hd : (s.take s.length).drop 1 = s.drop 1 := by simp
       have hw2 : numberS (s.drop 1) < 1000000 := by
        have := spanN_le digitB (s.drop 1)
        unfold numberS; split <;> simp at this ⊢ <;> omega
       have hwr : IntKind.i64.wrap ((numberS (s.drop 1) : Int) + 1) = ((numberS (s.drop 1) + 1 : Nat) : Int) := wrapN (numberS (s.drop 1) + 1) (by omega)
       cases h4 : decide (numberS (s.drop 1) = 0)
       · have h4' := of_decide_eq_false h4
         simp only [go_sem,Tryz.f109,hc,h1a,h1b,h2,h3,Int.le_refl,Int.toNat_zero,lower_den,upper_den,digit_den,e63',hn1,n0,h4',hlen,Nat.le_refl,List.take_length,hwr,Int.zero_le_ofNat,Int.toNat_one]
       · have h4' := of_decide_eq_true h4
         simp only [go_sem,Tryz.f109,hc,h1a,h1b,h2,h3,Int.le_refl,Int.toNat_zero,lower_den,upper_den,digit_den,e63',hn1,h4',hlen,Nat.le_refl,List.take_length,Int.zero_le_ofNat,Int.toNat_one]
   · cases h4 : decide (numberS s = 0)
     · have h4' := of_decide_eq_false h4
       simp only [go_sem,Tryz.f109,hc,h1a,h1b,h2,h4',Int.le_refl,Int.toNat_zero,lower_den,upper_den,digit_den,hn]
     · have h4' := of_decide_eq_true h4
       simp only [go_sem,Tryz.f109,hc,h1a,h1b,h2,h4',Int.le_refl,Int.toNat_zero,lower_den,upper_den,digit_den,hn]
 · have hpos : 0 < spanN wordB s := by
    cases s with
    | nil => cases hc
    | cons x r =>
     simp at hc; subst hc
     have : wordB x = true := by unfold wordB; cases h : lowerB x <;> simp_all
     simp [spanN,this]
   have hkk := kindOf_den (s.take (spanN wordB s)) c (by rw [hk,if_pos hpos])
   cases h2 : decide (spanN wordB s > 16)
   · have h2' := of_decide_eq_false h2
     cases h3 : lowerB c
     · have h4 : upperB c = true := by simpa [h3] using h1
       simp only [go_sem,Tryz.f109,hc,h3,h4,h2',Int.le_refl,Int.toNat_zero,lower_den,upper_den,hw,e1,natge0,tonat,hle,Nat.zero_le,List.drop_zero,hkk]
     · simp only [go_sem,Tryz.f109,hc,h3,h2',Int.le_refl,Int.toNat_zero,lower_den,hw,e1,natge0,tonat,hle,Nat.zero_le,List.drop_zero,hkk]
   · have h2' := of_decide_eq_true h2
     cases h3 : lowerB c
     · have h4 : upperB c = true := by simpa [h3] using h1
       simp only [go_sem,Tryz.f109,hc,h3,h4,h2',Int.le_refl,Int.toNat_zero,lower_den,upper_den,hw,e1]
     · simp only [go_sem,Tryz.f109,hc,h3,h2',Int.le_refl,Int.toNat_zero,lower_den,hw,e1]
def gapN : Bool → List UInt8 → Nat
 | _,[] => 0
 | rm,c :: r => if c == 35 then gapN true r + 1 else if c == 10 then gapN false r + 1 else if !rm && (!(c == 32) && !(c == 9)) then 0 else gapN rm r + 1
theorem gapN_le : ∀ (s : List UInt8) (rm : Bool),gapN rm s ≤ s.length
 | [],_ => Nat.le_refl 0
 | c :: r,rm => by
  simp only [gapN,List.length_cons]
  have h1 := gapN_le r true; have h2 := gapN_le r false; have h3 := gapN_le r rm
  split
  · omega
  · split
    · omega
    · split <;> omega
theorem bne_i (a b : Int) : (a != b) = !(a == b) := rfl
theorem drop_get {s : List UInt8} {n : Nat} (h : n < s.length) : ∃ c,s[n]? = some c ∧ s.drop n = c :: s.drop (n + 1) :=
 ⟨s[n],List.getElem?_eq_getElem h,by rw [List.drop_eq_getElem_cons h]⟩
theorem between_den (s : List UInt8) (hs : s.length < 1000000) : den E 110 [.str s] [] = some (.int .i64 (gapN false s),[]) := by
 rw [den_eq prim_110,body_110]
 simp only [go_sem,Tryz.f110]
 refine (run_ind (fun x : Nat × Bool => x.1 ≤ s.length) (fun x => ⟨[(0,.str s),(3,.int .i64 x.1),(4,.bool x.2)],[],[],1⟩) (fun x => some (.int .i64 ((x.1 + gapN x.2 (s.drop x.1) : Nat) : Int),[])) (fun x => s.length - x.1) (0,false) (Nat.zero_le _) ?_ ?_).trans ?_
 · simp only [go_sem]
 · rintro ⟨n,rm⟩ hle h
   simp only at hle h ⊢
   by_cases hlt : n < s.length
   · obtain ⟨c,hc,hd⟩ := drop_get hlt
     have hlt' : decide (n < s.length) = true := by simpa using hlt
     have hw : IntKind.i64.wrap ((n : Int) + 1) = ((n + 1 : Nat) : Int) := wrapN (n + 1) (by omega)
     have a1 : ((c.toNat : Int) == 35) = (c == 35) := u8_eq c 35 (by omega)
     have a2 : ((c.toNat : Int) == 10) = (c == 10) := u8_eq c 10 (by omega)
     have a3 : ((c.toNat : Int) == 32) = (c == 32) := u8_eq c 32 (by omega)
     have a4 : ((c.toNat : Int) == 9) = (c == 9) := u8_eq c 9 (by omega)
     rw [hd]
     have go : ∀ rm',(c == 35) = true → rm' = true ∨ True → True := fun _ _ _ => trivial
     cases h1 : c == 35
     · cases h2 : c == 10
       · cases rm
         · cases h3 : c == 32
           · cases h4 : c == 9
             · simp only [go_sem,natlt,hlt',natge0,tonat,hc,a1,a2,a3,a4,h1,h2,h3,h4,bne_i,gapN,Nat.add_zero]
             · simp only [go_sem,natlt,hlt',natge0,tonat,hc,a1,a2,a3,a4,h1,h2,h3,h4,bne_i,gapN]
               rw [h (n + 1,false) _ (by simp only; omega) (by simp only; omega) (by simp only [go_sem,hw])]
               simp only; rw [show n + 1 + gapN false (List.drop (n + 1) s) = n + (gapN false (List.drop (n + 1) s) + 1) by omega]
           · simp only [go_sem,natlt,hlt',natge0,tonat,hc,a1,a2,a3,h1,h2,h3,bne_i,gapN]
             rw [h (n + 1,false) _ (by simp only; omega) (by simp only; omega) (by simp only [go_sem,hw])]
             simp only; rw [show n + 1 + gapN false (List.drop (n + 1) s) = n + (gapN false (List.drop (n + 1) s) + 1) by omega]
         · simp only [go_sem,natlt,hlt',natge0,tonat,hc,a1,a2,h1,h2,gapN]
           rw [h (n + 1,true) _ (by simp only; omega) (by simp only; omega) (by simp only [go_sem,hw])]
           simp only; rw [show n + 1 + gapN true (List.drop (n + 1) s) = n + (gapN true (List.drop (n + 1) s) + 1) by omega]
       · simp only [go_sem,natlt,hlt',natge0,tonat,hc,a1,a2,h1,h2,gapN]
         rw [h (n + 1,false) _ (by simp only; omega) (by simp only; omega) (by simp only [go_sem,hw])]
         simp only; rw [show n + 1 + gapN false (List.drop (n + 1) s) = n + (gapN false (List.drop (n + 1) s) + 1) by omega]
     · simp only [go_sem,natlt,hlt',natge0,tonat,hc,a1,h1,gapN]
       rw [h (n + 1,true) _ (by simp only; omega) (by simp only; omega) (by simp only [go_sem,hw])]
       simp only; rw [show n + 1 + gapN true (List.drop (n + 1) s) = n + (gapN true (List.drop (n + 1) s) + 1) by omega]
   · have hlt' : decide (n < s.length) = false := by simpa using hlt
     have hd : s.drop n = [] := List.drop_eq_nil_of_le (by omega)
     rw [hd]
     simp only [go_sem,natlt,hlt',gapN,Nat.add_zero]
 · simp
theorem next_den (s : List UInt8) (n : Nat) (hn : n < s.length) (hs : s.length < 1000000) : den E 108 [.ptr (.par 0) 0,.ptr (.par 1) 0] [[.str s],[.int .i64 n]] = some (.tup [.int .i64 (tokP (s.drop n)).1,.int .i64 (tokP (s.drop n)).2],[[.str s],[.int .i64 n]]) := by
 rw [den_eq prim_108,body_108]
 obtain ⟨c,hc,hd⟩ := drop_get hn
 have ht := token_den (s.drop n) c (by rw [hd]; rfl) (by simp; omega)
 have hle : n ≤ s.length := by omega
 simp only [go_sem,Tryz.f108,natge0,tonat,ht,hle,Nat.le_refl,List.take_length]
structure Tok where
 kind : Int
 text : List UInt8
 pos : Nat
def tokV (t : Tok) : AVal := .agg [.int .i64 t.kind,.str t.text,.int .i64 t.pos]
def toksV (l : List Tok) : List AVal := l.map tokV
def scanS : Nat → Nat → List UInt8 → Except Nat (List Tok)
 | 0,pos,_ => .error pos
 | f + 1,pos,s => match s with
  | [] => .ok []
  | _ :: _ => match tokS s with
   | none => .error pos
   | some (k,n) => match scanS f (pos + n + gapN false (s.drop n)) ((s.drop n).drop (gapN false (s.drop n))) with
    | .ok l => .ok (⟨k,s.take n,pos⟩ :: l)
    | .error p => .error p
def scanR (acc : List Tok) : Except Nat (List Tok) → AVal
 | .ok l => .tup [.slice (toksV (acc ++ l)),.int .i64 0,.int .i64 0]
 | .error p => .tup [.slice [],.int .i64 p,.int .i64 10]
def scanT (s : List UInt8) : AVal :=
 if s.length > 4000 then .tup [.slice [],.int .i64 0,.int .i64 2] else scanR [] (scanS (s.length + 1) (gapN false s) (s.drop (gapN false s)))
theorem tokS_le {s : List UInt8} {k : Int} {n : Nat} (h : tokS s = some (k,n)) : 0 < n ∧ n ≤ s.length := by
 unfold tokS at h
 simp only at h
 have hw := spanN_le wordB s
 have hnum : ∀ s,numberS s ≤ s.length := fun s => by
  have := spanN_le digitB s
  unfold numberS; split <;> omega
 split at h
 · rename_i h1
   split at h
   · cases h
   · injection h with h; injection h with _ h; subst h
     refine ⟨?_,hw⟩
     cases s with
     | nil => simp [lowerB,upperB] at h1
     | cons x r =>
      have : wordB x = true := by
       simp only [List.headD_cons] at h1
       unfold wordB; cases h : lowerB x <;> simp_all
      simp [spanN,this]
 · split at h
   · split at h
     · cases h
     · injection h with h; injection h with _ h; subst h
       exact ⟨by omega,hnum s⟩
   · split at h
     · rename_i h3
       split at h
       · cases h
       · injection h with h; injection h with _ h; subst h
         have := hnum (s.drop 1)
         refine ⟨by omega,?_⟩
         cases s with
         | nil => simp at h3
         | cons x r => simp at this ⊢; omega
     · split at h
       · rename_i h4
         injection h with h; injection h with _ h; subst h
         refine ⟨by omega,?_⟩
         have : 2 = (s.take 2).length := by
          simp only [Bool.or_eq_true,beq_iff_eq] at h4
          rcases h4 with h4 | h4 <;> rw [h4] <;> rfl
         simp at this; omega
       · split at h
         · rename_i h5
           injection h with h; injection h with _ h; subst h
           refine ⟨by omega,?_⟩
           cases s with
           | nil => revert h5; decide
           | cons x r => simp
         · cases h
theorem scanS_some {f pos : Nat} {s : List UInt8} {k : Int} {n : Nat} (ht : tokS s = some (k,n)) : scanS (f + 1) pos s = (match scanS f (pos + n + gapN false (s.drop n)) ((s.drop n).drop (gapN false (s.drop n))) with
 | .ok l => .ok (⟨k,s.take n,pos⟩ :: l)
 | .error p => .error p) := by
 cases s with
 | nil => have := tokS_le ht; simp at this; omega
 | cons x r => simp only [scanS,ht]
theorem scanS_fuel : ∀ (f f' : Nat) (pos : Nat) (s : List UInt8),s.length < f → s.length < f' → scanS f pos s = scanS f' pos s
 | f + 1,f' + 1,pos,s,h,h' => by
  cases s with
  | nil => rfl
  | cons x r =>
   simp only [scanS]
   cases ht : tokS (x :: r) with
   | none => rfl
   | some kn =>
    obtain ⟨k,n⟩ := kn
    obtain ⟨h1,h2⟩ := tokS_le ht
    simp only
    rw [scanS_fuel f f' _ _ (by simp at h h2 ⊢; omega) (by simp at h' h2 ⊢; omega)]
theorem scan_den (s : List UInt8) (hs : s.length < 1000000) : den E 45 [.str s] [] = some (scanT s,[]) := by
 rw [den_eq prim_45,body_45]
 have e1 : decide ((s.length : Int) > 4000) = decide (s.length > 4000) := by simp; omega
 unfold scanT
 cases h1 : decide (s.length > 4000)
 · have h1' := of_decide_eq_false h1
   have hb := between_den s hs
   rw [if_neg h1']
   simp only [go_sem,Tryz.f45,e1,h1,hb]
   refine (run_ind (fun x : Nat × List Tok => x.1 ≤ s.length ∧ x.2.length ≤ x.1) (fun x => ⟨[(1,.ptr (.loc 1) 0),(2,.own 206 0 (toksV x.2)),(3,.ptr (.loc 3) 0),(5,.func 108 [] [.ptr (.loc 1) 0,.ptr (.loc 3) 0])],[],[(1,[.str s]),(3,[.int .i64 x.1])],1⟩)
    (fun x => some (scanR x.2 (scanS (s.length - x.1 + 1) x.1 (s.drop x.1)),[])) (fun x => s.length - x.1) (gapN false s,[]) ⟨gapN_le s false,Nat.zero_le _⟩ ?_ ?_).trans ?_
   · simp only [go_sem,toksV,List.map_nil]
   · rintro ⟨pos,acc⟩ ⟨hle,hac⟩ h
     simp only at hle hac h ⊢
     by_cases hlt : pos < s.length
     · have hlt' : decide (pos < s.length) = true := by simpa using hlt
       obtain ⟨c,hc,hd⟩ := drop_get hlt
       have hn := next_den s pos hlt hs
       cases ht : tokS (s.drop pos) with
       | none =>
        have hp : (tokP (s.drop pos)).2 = 0 := by unfold tokP; rw [ht]; simp only; split <;> rfl
        have hsc : scanS (s.length - pos + 1) pos (s.drop pos) = .error pos := by
         rw [hd] at ht ⊢; simp only [scanS,ht]
        simp only [go_sem,natlt,hlt',hn,hp,hsc,scanR]
       | some kn =>
        obtain ⟨k,n⟩ := kn
        obtain ⟨k1,k2⟩ := tokS_le ht
        have k2' : n ≤ s.length - pos := by simpa using k2
        have hp : tokP (s.drop pos) = (k,n) := by unfold tokP; rw [ht]
        have hn0 : decide (n = 0) = false := by simp; omega
        have hne : ((n : Int) == 0) = false := by rw [nat_eq0,hn0]
        have hle2 : pos + n ≤ s.length := by omega
        have w1 : IntKind.i64.wrap ((pos : Int) + n) = ((pos + n : Nat) : Int) := wrapN (pos + n) (by omega)
        have hb2 := between_den (s.drop (pos + n)) (by simp; omega)
        have hg := gapN_le (s.drop (pos + n)) false
        simp only [List.length_drop] at hg
        have w2 : IntKind.i64.wrap (((pos + n : Nat) : Int) + (gapN false (s.drop (pos + n)) : Nat)) = ((pos + n + gapN false (s.drop (pos + n)) : Nat) : Int) := wrapN (pos + n + gapN false (s.drop (pos + n))) (by omega)
        have hsl : (s.take (pos + n)).drop pos = (s.drop pos).take n := by rw [List.drop_take]; congr 1; omega
        have hsc : scanR acc (scanS (s.length - pos + 1) pos (s.drop pos)) = scanR (acc ++ [⟨k,(s.drop pos).take n,pos⟩]) (scanS (s.length - (pos + n + gapN false (s.drop (pos + n))) + 1) (pos + n + gapN false (s.drop (pos + n))) (s.drop (pos + n + gapN false (s.drop (pos + n))))) := by
         rw [scanS_some ht]
         simp only [List.drop_drop]
         rw [scanS_fuel (s.length - pos) (s.length - (pos + n + gapN false (s.drop (pos + n))) + 1) _ _ (by simp; omega) (by simp)]
         generalize scanS _ _ _ = z
         cases z <;> simp [scanR]
        rw [hsc]
        have htv : toksV acc ++ [.agg [.int .i64 k,.str ((s.drop pos).take n),.int .i64 pos]] = toksV (acc ++ [⟨k,(s.drop pos).take n,pos⟩]) := by simp [toksV,tokV]
        have hap : (toksV acc).length + 1 ≤ appMax := by simp only [toksV,List.length_map]; unfold appMax; omega
        simp only [go_sem,natlt,hlt',hn,hp,hne,hap,hsl,htv,natge0,tonat,w1,hle2,hb2,w2,Nat.le_refl,List.take_length,Nat.le_add_right]
        refine h (pos + n + gapN false (s.drop (pos + n)),acc ++ [⟨k,(s.drop pos).take n,pos⟩]) _ ?_ ?_ ?_
        · simp only [List.length_append,List.length_singleton]; omega
        · simp only; omega
        · simp only [go_sem]
          trace_state
     · have hlt' : decide (pos < s.length) = false := by simpa using hlt
       have hd : s.drop pos = [] := List.drop_eq_nil_of_le (by omega)
       rw [hd]
       simp only [go_sem,natlt,hlt',scanS,scanR,List.append_nil]
   · simp only
     rw [scanS_fuel (s.length - gapN false s + 1) (s.length + 1) _ _ (by simp) (by simp; omega)]
 · have h1' := of_decide_eq_true h1
   rw [if_pos h1']
   simp only [go_sem,Tryz.f45,e1,h1]
theorem get_drop (s : List UInt8) (i j : Nat) : s[i + j]? = (s.drop i)[j]? := by rw [List.getElem?_drop]
theorem number1_den (s : List UInt8) (i : Nat) (hi : i ≤ s.length) (hs : s.length < 1000000) : den E 175 [.str s,.int .i64 i] [] = some (.int .i64 ((i + numberS (s.drop i) : Nat) : Int),[]) := by
 rw [den_eq prim_175,body_175]
 have hle := spanN_le digitB (s.drop i)
 simp only [List.length_drop] at hle
 simp only [go_sem,Tryz.f175]
 refine run_for (fun j => ⟨[(0,.str s),(1,.int .i64 i),(5,.int .i64 ((i + j : Nat) : Int))],[],[],1⟩) (spanN digitB (s.drop i)) ?_ ?_ ?_
 · simp only [go_sem,Nat.add_zero]
 · intro j hj h
   have hlt : decide (i + j < s.length) = true := by simp; omega
   obtain ⟨c,hc,hp⟩ := spanN_lt digitB hj
   rw [← get_drop] at hc
   have hw : IntKind.i64.wrap (((i + j : Nat) : Int) + 1) = ((i + (j + 1) : Nat) : Int) := wrapN (i + (j + 1)) (by omega)
   simp only [go_sem,natlt,hlt,natge0,tonat,hc,digit1_den,hp]
   refine h _ ?_
   simp only [go_sem,hw]
 · have w0 : IntKind.i64.wrap (((i + spanN digitB (s.drop i) : Nat) : Int) - i) = ((spanN digitB (s.drop i) : Nat) : Int) := by
    rw [show (((i + spanN digitB (s.drop i) : Nat) : Int) - i) = ((spanN digitB (s.drop i) : Nat) : Int) by omega]; exact wrapN _ (by omega)
   have e1 : decide ((spanN digitB (s.drop i) : Int) > 6) = decide (spanN digitB (s.drop i) > 6) := by simp; omega
   have e2 : decide ((spanN digitB (s.drop i) : Int) > 1) = decide (spanN digitB (s.drop i) > 1) := by simp; omega
   unfold numberS
   cases h1 : decide (spanN digitB (s.drop i) > 6)
   · cases h2 : decide (spanN digitB (s.drop i) > 1)
     · by_cases hlt : i + spanN digitB (s.drop i) < s.length
       · obtain ⟨c,hc,hp⟩ := spanN_at digitB (s := s.drop i) (by simp; omega)
         rw [← get_drop] at hc
         simp only [go_sem,natlt,decide_eq_true hlt,natge0,tonat,hc,digit1_den,hp,w0,e1,e2,h1,h2]
       · simp only [go_sem,natlt,decide_eq_false hlt,w0,e1,e2,h1,h2]
     · have h2' := of_decide_eq_true h2
       obtain ⟨c0,hc0,hd0⟩ := drop_get (s := s) (n := i) (by omega)
       have e3 : ((c0.toNat : Int) == 48) = (c0 == 48) := u8_eq c0 48 (by omega)
       have e4 : ((s.drop i).head? == some 48) = (c0 == 48) := by rw [hd0]; simp
       cases h3 : c0 == 48 <;>
       · rw [h3] at e3 e4
         by_cases hlt : i + spanN digitB (s.drop i) < s.length
         · obtain ⟨c,hc,hp⟩ := spanN_at digitB (s := s.drop i) (by simp; omega)
           rw [← get_drop] at hc
           simp only [go_sem,natlt,decide_eq_true hlt,natge0,tonat,hc,digit1_den,hp,w0,e1,e2,h1,h2,hc0,e3,e4,Nat.add_zero]
         · simp only [go_sem,natlt,decide_eq_false hlt,natge0,tonat,w0,e1,e2,h1,h2,hc0,e3,e4,Nat.add_zero]
   · by_cases hlt : i + spanN digitB (s.drop i) < s.length
     · obtain ⟨c,hc,hp⟩ := spanN_at digitB (s := s.drop i) (by simp; omega)
       rw [← get_drop] at hc
       simp only [go_sem,natlt,decide_eq_true hlt,natge0,tonat,hc,digit1_den,hp,w0,e1,h1,Nat.add_zero]
     · simp only [go_sem,natlt,decide_eq_false hlt,w0,e1,h1,Nat.add_zero]
theorem letter_word (c : UInt8) : wordB c = ((lowerB c || upperB c) || (digitB c || ((c.toNat : Int) == 95))) := by unfold wordB; cases lowerB c <;> cases upperB c <;> rfl
theorem isKw_eq (w : List UInt8) : isKw w = (w == [100,97,116,97] || (w == [108,101,116] || (w == [105,110] || (w == [99,97,115,101] || (w == [111,102] || w == [102,111,114,97,108,108]))))) := rfl
theorem upper_le (c : UInt8) (h : (lowerB c || upperB c) = true) : decide ((c.toNat : Int) ≤ 90) = upperB c := by
 unfold lowerB upperB at *
 simp only [Bool.or_eq_true,Bool.and_eq_true,decide_eq_true_eq] at h
 by_cases h1 : (c.toNat : Int) ≤ 90
 · have h2 : (c.toNat : Int) ≥ 65 := by omega
   simp [h1,h2]
 · simp [h1]
theorem nat_eq (a b : Nat) : ((a : Int) == b) = decide (a = b) := by
 by_cases h : a = b
 · subst h; simp
 · rw [decide_eq_false h,beq_eq_false_iff_ne]; omega
theorem u8_eq2 (x c : UInt8) : ((x.toNat : Int) == c.toNat) = (x == c) := by
 rw [nat_eq]
 by_cases h : x = c
 · subst h; simp
 · have : x.toNat ≠ c.toNat := fun e => h (UInt8.toNat_inj.1 e)
   rw [decide_eq_false this,beq_eq_false_iff_ne.2 h]
theorem signs_def : ([92,58,61,59,123,125,40,41,46,126,64,60,62,44,91,93,33] : List UInt8) = signs := rfl
theorem one_den (s : List UInt8) (i : Nat) (hi : i < s.length) (hs : s.length < 1000000) : den E 113 [.str s,.int .i64 i] [] =
 some (match tokS (s.drop i) with
  | some (k,n) => .tup [.int .i64 k,.int .i64 ((i + n : Nat) : Int)]
  | none => .tup [.int .i64 0,.int .i64 i],[]) := by
 rw [den_eq prim_113,body_113]
 obtain ⟨c,hc,hd⟩ := drop_get hi
 have hh : (s.drop i).headD 0 = c := by rw [hd]; rfl
 have hle := spanN_le wordB (s.drop i)
 simp only [List.length_drop] at hle
 have wi1 : IntKind.i64.wrap ((i : Int) + 1) = ((i + 1 : Nat) : Int) := wrapN (i + 1) (by omega)
 have wi2 : IntKind.i64.wrap ((i : Int) + 2) = ((i + 2 : Nat) : Int) := wrapN (i + 2) (by omega)
 cases h1 : lowerB c || upperB c
 · cases h2 : digitB c
   · cases h3 : c == 63
     · have e63 : ((c.toNat : Int) == 63) = false := (u8_eq c 63 (by omega)).trans h3
       -- the signs,one behind the other
       have e45 : ((c.toNat : Int) == 45) = (c == 45) := u8_eq c 45 (by omega)
       have e124 : ((c.toNat : Int) == 124) = (c == 124) := u8_eq c 124 (by omega)
       have nt : ((s.drop i).take 2 == [45,62] || (s.drop i).take 2 == [124,62]) = false → tokS (s.drop i) = if signs.contains c then some (6,1) else none := fun h => by
        unfold tokS; simp only [hh,h1,h2,h3,Bool.false_eq_true,if_false,h]
       by_cases hlt : i + 1 < s.length
       · obtain ⟨d,hdc,hdd⟩ := drop_get hlt
         have htk : (s.drop i).take 2 = [c,d] := by rw [hd,List.take_succ_cons,hdd]; rfl
         have e62 : ((d.toNat : Int) == 62) = (d == 62) := u8_eq d 62 (by omega)
         have h4 : ((s.drop i).take 2 == [45,62] || (s.drop i).take 2 == [124,62]) = (d == 62 && (c == 45 || c == 124)) := by
          rw [htk]
          have : ∀ a b : UInt8,(([c,d] : List UInt8) == [a,b]) = (c == a && d == b) := fun a b => by
           show (c == a && (d == b && true)) = _
           rw [Bool.and_true]
          rw [this,this]
          cases d == 62 <;> cases c == 45 <;> cases c == 124 <;> rfl
         have two : (d == 62 && (c == 45 || c == 124)) = true → tokS (s.drop i) = some (6,2) := fun h => by
          unfold tokS; simp only [hh,h1,h2,h3,Bool.false_eq_true,if_false,h4,h,if_true]
         cases k1 : d == 62
         · rw [nt (by rw [h4,k1]; rfl)]
           simp only [go_sem,Tryz.f113,hc,natge0,tonat,letter_den,digit1_den,h1,h2,e63,wi1,natlt,decide_eq_true hlt,hdc,e62,k1,signs_def]
           refine (run_ind (fun j : Nat => j ≤ 17 ∧ ∀ m,m < j → signs[m]? ≠ some c) (fun j => ⟨[(0,.str s),(1,.int .i64 i),(11,.str signs),(12,.int .i64 j)],[],[],1⟩)
            (fun _ => some (match (if signs.contains c = true then some ((6 : Int),1) else none) with
              | some (k,n) => .tup [.int .i64 k,.int .i64 ((i + n : Nat) : Int)]
              | none => .tup [.int .i64 0,.int .i64 i],[])) (fun j => 17 - j) 0 ⟨by omega,fun m hm => by omega⟩ ?_ ?_)
           · simp only [go_sem]
           · rintro j ⟨hj,hne⟩ h
             by_cases hj2 : j < signs.length
             · obtain ⟨x,hx,_⟩ := drop_get hj2
               have wj : IntKind.i64.wrap ((j : Int) + 1) = ((j + 1 : Nat) : Int) := wrapN (j + 1) (by omega)
               cases hxc : x == c
               · simp only [go_sem,natlt,decide_eq_true hj2,natge0,tonat,hx,hc,u8_eq2,hxc]
                 refine h (j + 1) _ ⟨?_,fun m hm => ?_⟩ ?_ ?_
                 · have : signs.length = 17 := rfl
                   omega
                 · by_cases e : m = j
                   · subst e; rw [hx]; intro e; injection e with e; subst e; simp at hxc
                   · exact hne m (by omega)
                 · have : signs.length = 17 := rfl
                   omega
                 · simp only [go_sem,wj]
               · have hcon : signs.contains c = true := by
                  have := List.mem_of_getElem? hx
                  rw [beq_iff_eq.1 hxc] at this
                  simpa using this
                 simp only [go_sem,natlt,decide_eq_true hj2,natge0,tonat,hx,hc,u8_eq2,hxc,hcon,wi1]
             · have hcon : signs.contains c = false := by
                rw [← Bool.not_eq_true]
                intro hc2
                have : c ∈ signs := by simpa using hc2
                obtain ⟨m,hm⟩ := List.getElem?_of_mem this
                exact hne m (by have := (List.getElem?_eq_some_iff.1 hm).1; omega) hm
               simp only [go_sem,natlt,decide_eq_false hj2,hcon]
         · cases k2 : c == 45
           · cases k3 : c == 124
             · rw [nt (by rw [h4,k1,k2,k3]; rfl)]
               simp only [go_sem,Tryz.f113,hc,natge0,tonat,letter_den,digit1_den,h1,h2,e63,wi1,natlt,decide_eq_true hlt,hdc,e62,k1,e45,k2,e124,k3,signs_def]
               refine (run_ind (fun j : Nat => j ≤ 17 ∧ ∀ m,m < j → signs[m]? ≠ some c) (fun j => ⟨[(0,.str s),(1,.int .i64 i),(11,.str signs),(12,.int .i64 j)],[],[],1⟩)
                (fun _ => some (match (if signs.contains c = true then some ((6 : Int),1) else none) with
                  | some (k,n) => .tup [.int .i64 k,.int .i64 ((i + n : Nat) : Int)]
                  | none => .tup [.int .i64 0,.int .i64 i],[])) (fun j => 17 - j) 0 ⟨by omega,fun m hm => by omega⟩ ?_ ?_)
               · simp only [go_sem]
               · rintro j ⟨hj,hne⟩ h
                 by_cases hj2 : j < signs.length
                 · obtain ⟨x,hx,_⟩ := drop_get hj2
                   have wj : IntKind.i64.wrap ((j : Int) + 1) = ((j + 1 : Nat) : Int) := wrapN (j + 1) (by omega)
                   cases hxc : x == c
                   · simp only [go_sem,natlt,decide_eq_true hj2,natge0,tonat,hx,hc,u8_eq2,hxc]
                     refine h (j + 1) _ ⟨?_,fun m hm => ?_⟩ ?_ ?_
                     · have : signs.length = 17 := rfl
                       omega
                     · by_cases e : m = j
                       · subst e; rw [hx]; intro e; injection e with e; subst e; simp at hxc
                       · exact hne m (by omega)
                     · have : signs.length = 17 := rfl
                       omega
                     · simp only [go_sem,wj]
                   · have hcon : signs.contains c = true := by
                      have := List.mem_of_getElem? hx
                      rw [beq_iff_eq.1 hxc] at this
                      simpa using this
                     simp only [go_sem,natlt,decide_eq_true hj2,natge0,tonat,hx,hc,u8_eq2,hxc,hcon,wi1]
                 · have hcon : signs.contains c = false := by
                    rw [← Bool.not_eq_true]
                    intro hc2
                    have : c ∈ signs := by simpa using hc2
                    obtain ⟨m,hm⟩ := List.getElem?_of_mem this
                    exact hne m (by have := (List.getElem?_eq_some_iff.1 hm).1; omega) hm
                   simp only [go_sem,natlt,decide_eq_false hj2,hcon]
             · rw [two (by rw [k1,k2,k3]; rfl)]
               simp only [go_sem,Tryz.f113,hc,natge0,tonat,letter_den,digit1_den,h1,h2,e63,wi1,wi2,natlt,decide_eq_true hlt,hdc,e62,k1,e45,k2,e124,k3]
           · rw [two (by rw [k1,k2]; rfl)]
             simp only [go_sem,Tryz.f113,hc,natge0,tonat,letter_den,digit1_den,h1,h2,e63,wi1,wi2,natlt,decide_eq_true hlt,hdc,e62,k1,e45,k2]
       · have htk : (s.drop i).take 2 = [c] := by rw [hd,List.take_succ_cons,List.drop_eq_nil_of_le (by omega)]; rfl
         rw [nt (by rw [htk]; simp)]
         simp only [go_sem,Tryz.f113,hc,natge0,tonat,letter_den,digit1_den,h1,h2,e63,wi1,natlt,decide_eq_false hlt,signs_def]
         refine (run_ind (fun j : Nat => j ≤ 17 ∧ ∀ m,m < j → signs[m]? ≠ some c) (fun j => ⟨[(0,.str s),(1,.int .i64 i),(11,.str signs),(12,.int .i64 j)],[],[],1⟩)
          (fun _ => some (match (if signs.contains c = true then some ((6 : Int),1) else none) with
            | some (k,n) => .tup [.int .i64 k,.int .i64 ((i + n : Nat) : Int)]
            | none => .tup [.int .i64 0,.int .i64 i],[])) (fun j => 17 - j) 0 ⟨by omega,fun m hm => by omega⟩ ?_ ?_)
         · simp only [go_sem]
         · rintro j ⟨hj,hne⟩ h
           by_cases hj2 : j < signs.length
           · obtain ⟨x,hx,_⟩ := drop_get hj2
             have wj : IntKind.i64.wrap ((j : Int) + 1) = ((j + 1 : Nat) : Int) := wrapN (j + 1) (by omega)
             cases hxc : x == c
             · simp only [go_sem,natlt,decide_eq_true hj2,natge0,tonat,hx,hc,u8_eq2,hxc]
               refine h (j + 1) _ ⟨?_,fun m hm => ?_⟩ ?_ ?_
               · have : signs.length = 17 := rfl
                 omega
               · by_cases e : m = j
                 · subst e; rw [hx]; intro e; injection e with e; subst e; simp at hxc
                 · exact hne m (by omega)
               · have : signs.length = 17 := rfl
                 omega
               · simp only [go_sem,wj]
             · have hcon : signs.contains c = true := by
                have := List.mem_of_getElem? hx
                rw [beq_iff_eq.1 hxc] at this
                simpa using this
               simp only [go_sem,natlt,decide_eq_true hj2,natge0,tonat,hx,hc,u8_eq2,hxc,hcon,wi1]
           · have hcon : signs.contains c = false := by
              rw [← Bool.not_eq_true]
              intro hc2
              have : c ∈ signs := by simpa using hc2
              obtain ⟨m,hm⟩ := List.getElem?_of_mem this
              exact hne m (by have := (List.getElem?_eq_some_iff.1 hm).1; omega) hm
             simp only [go_sem,natlt,decide_eq_false hj2,hcon]
     · have e63 : ((c.toNat : Int) == 63) = true := (u8_eq c 63 (by omega)).trans h3
       have hn := number1_den s (i + 1) (by omega) hs
       have e : s.drop (i + 1) = (s.drop i).drop 1 := by rw [List.drop_drop]
       have htok : tokS (s.drop i) = if numberS (s.drop (i + 1)) = 0 then none else some (5,numberS (s.drop (i + 1)) + 1) := by
        unfold tokS; simp only [hh,h1,h2,h3,Bool.false_eq_true,if_false,if_true,e]
       by_cases h4 : numberS (s.drop (i + 1)) = 0
       · rw [htok,if_pos h4]
         have q : decide (i + 1 + numberS (s.drop (i + 1)) = i + 1) = true := by rw [h4]; simp
         simp only [go_sem,Tryz.f113,hc,natge0,tonat,letter_den,digit1_den,h1,h2,e63,wi1,hn,nat_eq,q]
       · rw [htok,if_neg h4]
         have q : decide (i + 1 + numberS (s.drop (i + 1)) = i + 1) = false := by simp; omega
         simp only [go_sem,Tryz.f113,hc,natge0,tonat,letter_den,digit1_den,h1,h2,e63,wi1,hn,nat_eq,q]
         rw [show i + 1 + numberS (s.drop (i + 1)) = i + (numberS (s.drop (i + 1)) + 1) by omega]
   · have hn := number1_den s i (by omega) hs
     have htok : tokS (s.drop i) = if numberS (s.drop i) = 0 then none else some (4,numberS (s.drop i)) := by
      unfold tokS; simp only [hh,h1,h2,Bool.false_eq_true,if_false,if_true]
     by_cases h4 : numberS (s.drop i) = 0
     · rw [htok,if_pos h4]
       have q : decide (i + numberS (s.drop i) = i) = true := by rw [h4]; simp
       simp only [go_sem,Tryz.f113,hc,natge0,tonat,letter_den,digit1_den,h1,h2,hn,nat_eq,q]
     · rw [htok,if_neg h4]
       have q : decide (i + numberS (s.drop i) = i) = false := by simp; omega
       simp only [go_sem,Tryz.f113,hc,natge0,tonat,letter_den,digit1_den,h1,h2,hn,nat_eq,q]
 · have hwc : wordB c = true := by rw [letter_word,h1]; rfl
   have hpos : 0 < spanN wordB (s.drop i) := by rw [hd]; simp [spanN,hwc]
   simp only [go_sem,Tryz.f113,hc,natge0,tonat,letter_den,h1]
   refine run_for (fun j => ⟨[(0,.str s),(1,.int .i64 i),(7,.int .i64 ((i + j : Nat) : Int))],[],[],1⟩) (spanN wordB (s.drop i)) ?_ ?_ ?_
   · simp only [go_sem,Nat.add_zero]
   · intro j hj h
     have hlt : decide (i + j < s.length) = true := by simp; omega
     obtain ⟨x,hx,hp⟩ := spanN_lt wordB hj
     rw [← get_drop] at hx
     rw [letter_word] at hp
     have hw : IntKind.i64.wrap (((i + j : Nat) : Int) + 1) = ((i + (j + 1) : Nat) : Int) := wrapN (i + (j + 1)) (by omega)
     cases q1 : lowerB x || upperB x
     · cases q2 : digitB x
       · have q3 : ((x.toNat : Int) == 95) = true := by simpa [q1,q2] using hp
         simp only [go_sem,natlt,hlt,natge0,tonat,hx,letter_den,digit1_den,q1,q2,q3]
         refine h _ ?_
         simp only [go_sem,hw]
       · simp only [go_sem,natlt,hlt,natge0,tonat,hx,letter_den,digit1_den,q1,q2]
         refine h _ ?_
         simp only [go_sem,hw]
     · simp only [go_sem,natlt,hlt,natge0,tonat,hx,letter_den,q1]
       refine h _ ?_
       simp only [go_sem,hw]
   · generalize hn : spanN wordB (s.drop i) = n at *
     have w0 : IntKind.i64.wrap (((i + n : Nat) : Int) - i) = ((n : Nat) : Int) := by
      rw [show (((i + n : Nat) : Int) - i) = (n : Int) by omega]; exact wrapN _ (by omega)
     have e1 : decide ((n : Int) > 16) = decide (n > 16) := by simp; omega
     have hle2 : i + n ≤ s.length := by omega
     have hsl : (s.take (i + n)).drop i = (s.drop i).take n := by rw [List.drop_take]; congr 1; omega
     have hhd : ((s.drop i).take n).headD 0 = c := by rw [hd]; cases n <;> simp at hpos ⊢
     have hu := upper_le c h1
     have htok : tokS (s.drop i) = if n > 16 then none else some (kindS ((s.drop i).take n),n) := by
      unfold tokS; simp only [hh,h1,if_true,hn]
     rw [htok]
     unfold kindS
     rw [hhd,isKw_eq]
     generalize hwd : (s.drop i).take n = wd at *
     have stop : i + n < s.length → ∃ x,s[i + n]? = some x ∧ wordB x = false := fun hlt => by
      obtain ⟨x,hx,hp⟩ := spanN_at wordB (s := s.drop i) (by simp; omega)
      rw [hn,← get_drop] at hx
      exact ⟨x,hx,hp⟩
     by_cases hlt : i + n < s.length
     · obtain ⟨x,hx,hp⟩ := stop hlt
       rw [letter_word] at hp
       have p1 : (lowerB x || upperB x) = false := by cases h : (lowerB x || upperB x) <;> simp_all
       have p2 : digitB x = false := by cases h : digitB x <;> simp_all
       have p3 : ((x.toNat : Int) == 95) = false := by cases h : ((x.toNat : Int) == 95) <;> simp_all
       cases h2 : decide (n > 16)
       · have h2' := of_decide_eq_false h2
         cases k1 : wd == [100,97,116,97]
         · cases k2 : wd == [108,101,116]
           · cases k3 : wd == [105,110]
             · cases k4 : wd == [99,97,115,101]
               · cases k5 : wd == [111,102]
                 · cases k6 : wd == [102,111,114,97,108,108]
                   · cases k7 : upperB c <;> simp only [go_sem,natlt,decide_eq_true hlt,natge0,tonat,hx,letter_den,digit1_den,p1,p2,p3,w0,e1,h2',hle2,Nat.le_add_right,hsl,k1,k2,k3,k4,k5,k6,hc,hu,k7]
                   · simp only [go_sem,natlt,decide_eq_true hlt,natge0,tonat,hx,letter_den,digit1_den,p1,p2,p3,w0,e1,h2',hle2,Nat.le_add_right,hsl,k1,k2,k3,k4,k5,k6]
                 · simp only [go_sem,natlt,decide_eq_true hlt,natge0,tonat,hx,letter_den,digit1_den,p1,p2,p3,w0,e1,h2',hle2,Nat.le_add_right,hsl,k1,k2,k3,k4,k5]
               · simp only [go_sem,natlt,decide_eq_true hlt,natge0,tonat,hx,letter_den,digit1_den,p1,p2,p3,w0,e1,h2',hle2,Nat.le_add_right,hsl,k1,k2,k3,k4]
             · simp only [go_sem,natlt,decide_eq_true hlt,natge0,tonat,hx,letter_den,digit1_den,p1,p2,p3,w0,e1,h2',hle2,Nat.le_add_right,hsl,k1,k2,k3]
           · simp only [go_sem,natlt,decide_eq_true hlt,natge0,tonat,hx,letter_den,digit1_den,p1,p2,p3,w0,e1,h2',hle2,Nat.le_add_right,hsl,k1,k2]
         · simp only [go_sem,natlt,decide_eq_true hlt,natge0,tonat,hx,letter_den,digit1_den,p1,p2,p3,w0,e1,h2',hle2,Nat.le_add_right,hsl,k1]
       · have h2' := of_decide_eq_true h2
         simp only [go_sem,natlt,decide_eq_true hlt,natge0,tonat,hx,letter_den,digit1_den,p1,p2,p3,w0,e1,h2']
     · cases h2 : decide (n > 16)
       · have h2' := of_decide_eq_false h2
         cases k1 : wd == [100,97,116,97]
         · cases k2 : wd == [108,101,116]
           · cases k3 : wd == [105,110]
             · cases k4 : wd == [99,97,115,101]
               · cases k5 : wd == [111,102]
                 · cases k6 : wd == [102,111,114,97,108,108]
                   · cases k7 : upperB c <;> simp only [go_sem,natlt,decide_eq_false hlt,natge0,tonat,w0,e1,h2',hle2,Nat.le_add_right,hsl,k1,k2,k3,k4,k5,k6,hc,hu,k7]
                   · simp only [go_sem,natlt,decide_eq_false hlt,natge0,tonat,w0,e1,h2',hle2,Nat.le_add_right,hsl,k1,k2,k3,k4,k5,k6]
                 · simp only [go_sem,natlt,decide_eq_false hlt,natge0,tonat,w0,e1,h2',hle2,Nat.le_add_right,hsl,k1,k2,k3,k4,k5]
               · simp only [go_sem,natlt,decide_eq_false hlt,natge0,tonat,w0,e1,h2',hle2,Nat.le_add_right,hsl,k1,k2,k3,k4]
             · simp only [go_sem,natlt,decide_eq_false hlt,natge0,tonat,w0,e1,h2',hle2,Nat.le_add_right,hsl,k1,k2,k3]
           · simp only [go_sem,natlt,decide_eq_false hlt,natge0,tonat,w0,e1,h2',hle2,Nat.le_add_right,hsl,k1,k2]
         · simp only [go_sem,natlt,decide_eq_false hlt,natge0,tonat,w0,e1,h2',hle2,Nat.le_add_right,hsl,k1]
       · have h2' := of_decide_eq_true h2
         simp only [go_sem,natlt,decide_eq_false hlt,w0,e1,h2']
theorem gap_step {s : List UInt8} {i : Nat} {c : UInt8} (hd : s.drop i = c :: s.drop (i + 1)) (rm : Bool) : gapN rm (s.drop i) = if c == 35 then gapN true (s.drop (i + 1)) + 1 else if c == 10 then gapN false (s.drop (i + 1)) + 1 else if !rm && (!(c == 32) && !(c == 9)) then 0 else gapN rm (s.drop (i + 1)) + 1 := by
 rw [hd]; rfl
theorem tokS_kind {s : List UInt8} {k : Int} {n : Nat} (h : tokS s = some (k,n)) : (k == 0) = false := by
 have hk : ∀ w,(kindS w == 0) = false := fun w => by unfold kindS; split <;> (try split) <;> rfl
 unfold tokS at h
 simp only at h
 split at h
 · split at h
   · cases h
   · injection h with h; injection h with h _; subst h; exact hk _
 · split at h
   · split at h
     · cases h
     · injection h with h; injection h with h _; subst h; rfl
   · split at h
     · split at h
       · cases h
       · injection h with h; injection h with h _; subst h; rfl
     · split at h
       · injection h with h; injection h with h _; subst h; rfl
       · split at h
         · injection h with h; injection h with h _; subst h; rfl
         · cases h
def scanK (rm : Bool) (s : List UInt8) (i : Nat) : Except Nat (List Tok) := scanS (s.length + 1) (i + gapN rm (s.drop i)) (s.drop (i + gapN rm (s.drop i)))
theorem scan1_den (s : List UInt8) (hs : s.length < 1000000) : den E 48 [.str s] [] = some (scanT s,[]) := by
 rw [den_eq prim_48,body_48]
 have e1 : decide ((s.length : Int) > 4000) = decide (s.length > 4000) := by simp; omega
 unfold scanT
 cases h1 : decide (s.length > 4000)
 · have h1' := of_decide_eq_false h1
   rw [if_neg h1']
   simp only [go_sem,Tryz.f48,e1,h1]
   refine (run_ind (fun x : Nat × List Tok => x.1 ≤ s.length ∧ x.2.length ≤ x.1) (fun x => ⟨[(0,.str s),(5,.own 206 0 (toksV x.2)),(6,.int .i64 x.1)],[],[],1⟩)
    (fun x => some (scanR x.2 (scanK false s x.1),[])) (fun x => s.length - x.1) (0,[]) ⟨Nat.zero_le _,Nat.zero_le _⟩ ?_ ?_).trans ?_
   · simp only [go_sem,toksV,List.map_nil]
   · rintro ⟨i,acc⟩ ⟨hle,hac⟩ h
     simp only at hle hac h ⊢
     by_cases hlt : i < s.length
     · have hlt' : decide (i < s.length) = true := by simpa using hlt
       obtain ⟨c,hc,hd⟩ := drop_get hlt
       have w1 : IntKind.i64.wrap ((i : Int) + 1) = ((i + 1 : Nat) : Int) := wrapN (i + 1) (by omega)
       have a1 : ((c.toNat : Int) == 35) = (c == 35) := u8_eq c 35 (by omega)
       have a2 : ((c.toNat : Int) == 10) = (c == 10) := u8_eq c 10 (by omega)
       have a3 : ((c.toNat : Int) == 32) = (c == 32) := u8_eq c 32 (by omega)
       have a4 : ((c.toNat : Int) == 9) = (c == 9) := u8_eq c 9 (by omega)
       have ho := one_den s i hlt hs
       have skip : gapN false (s.drop i) = gapN false (s.drop (i + 1)) + 1 → scanK false s i = scanK false s (i + 1) := fun e => by
        unfold scanK; rw [e,show i + (gapN false (s.drop (i + 1)) + 1) = i + 1 + gapN false (s.drop (i + 1)) by omega]
       have hg := gap_step hd false
       cases b1 : c == 32
       · cases b2 : c == 9
         · cases b3 : c == 10
           · cases b4 : c == 35
             · -- a token,or none
               have hg0 : gapN false (s.drop i) = 0 := by rw [hg,b4,b3,b1,b2]; rfl
               have hk : scanK false s i = scanS (s.length - i + 1) i (s.drop i) := by
                unfold scanK; rw [hg0,Nat.add_zero]; exact scanS_fuel _ _ _ _ (by simp; omega) (by simp)
               cases ht : tokS (s.drop i) with
               | none =>
                rw [ht] at ho
                have hsc : scanS (s.length - i + 1) i (s.drop i) = .error i := by rw [hd] at ht ⊢; simp only [scanS,ht]
                rw [hk,hsc]
                simp only [go_sem,natlt,hlt',natge0,tonat,hc,a1,a2,a3,a4,b1,b2,b3,b4,ho,scanR]
               | some kn =>
                obtain ⟨k,n⟩ := kn
                rw [ht] at ho
                obtain ⟨k1,k2⟩ := tokS_le ht
                have k2' : n ≤ s.length - i := by simpa using k2
                have hk0 : (k == 0) = false := tokS_kind ht
                have hsl : (s.take (i + n)).drop i = (s.drop i).take n := by rw [List.drop_take]; congr 1; omega
                have hap : (toksV acc).length + 1 ≤ appMax := by simp only [toksV,List.length_map]; unfold appMax; omega
                have htv : toksV acc ++ [.agg [.int .i64 k,.str ((s.drop i).take n),.int .i64 i]] = toksV (acc ++ [⟨k,(s.drop i).take n,i⟩]) := by simp [toksV,tokV]
                have hle2 : i + n ≤ s.length := by omega
                have hsc : scanR acc (scanK false s i) = scanR (acc ++ [⟨k,(s.drop i).take n,i⟩]) (scanK false s (i + n)) := by
                 rw [hk,scanS_some ht]
                 unfold scanK
                 simp only [List.drop_drop]
                 have hgl := gapN_le (s.drop (i + n)) false
                 simp only [List.length_drop] at hgl
                 rw [scanS_fuel (s.length - i) (s.length + 1) _ _ (by simp; omega) (by simp; omega)]
                 generalize scanS _ _ _ = z
                 cases z <;> simp [scanR]
                rw [hsc]
                simp only [go_sem,natlt,hlt',natge0,tonat,hc,a1,a2,a3,a4,b1,b2,b3,b4,ho,hk0,hap,hsl,htv,hle2,Nat.le_add_right]
                refine h (i + n,acc ++ [⟨k,(s.drop i).take n,i⟩]) _ ⟨?_,?_⟩ ?_ ?_
                · simp only; omega
                · simp only [List.length_append,List.length_singleton]; omega
                · simp only; omega
                · simp only [go_sem]
             · have hks : scanK false s i = scanK true s i := by
                have : gapN false (s.drop i) = gapN true (s.drop i) := by rw [hg,gap_step hd true,b4]; rfl
                unfold scanK; rw [this]
               rw [hks]
               simp only [go_sem,natlt,hlt',natge0,tonat,hc,a1,a2,a3,a4,b1,b2,b3,b4]
               refine run_ind (fun j : Nat => i ≤ j ∧ j ≤ s.length ∧ (j = i → (c == 10) = false)) (fun j => ⟨[(0,.str s),(5,.own 206 0 (toksV acc)),(6,.int .i64 j)],[],[],1⟩)
                (fun j => some (scanR acc (scanK true s j),[])) (fun j => s.length - j) i ⟨Nat.le_refl _,hle,fun _ => b3⟩ ?_ ?_
               · simp only [go_sem]
               · rintro j ⟨hij,hjl,hji⟩ h2
                 by_cases hlj : j < s.length
                 · obtain ⟨x,hx,hdx⟩ := drop_get hlj
                   have wj : IntKind.i64.wrap ((j : Int) + 1) = ((j + 1 : Nat) : Int) := wrapN (j + 1) (by omega)
                   have ax : ((x.toNat : Int) == 10) = (x == 10) := u8_eq x 10 (by omega)
                   cases bx : x == 10
                   · have e : scanK true s j = scanK true s (j + 1) := by
                      have : gapN true (s.drop j) = gapN true (s.drop (j + 1)) + 1 := by
                       rw [gap_step hdx true,bx]
                       by_cases hx35 : (x == 35) = true
                       · rw [hx35]; rfl
                       · rw [Bool.not_eq_true] at hx35; rw [hx35]; rfl
                      unfold scanK; rw [this,show j + (gapN true (s.drop (j + 1)) + 1) = j + 1 + gapN true (s.drop (j + 1)) by omega]
                     rw [e]
                     simp only [go_sem,natlt,decide_eq_true hlj,natge0,tonat,hx,ax,bx,bne_i]
                     exact h2 (j + 1) _ ⟨by omega,by omega,fun e => by omega⟩ (by omega) (by simp only [go_sem,wj])
                   · have e : scanK true s j = scanK false s j := by
                      have : gapN true (s.drop j) = gapN false (s.drop j) := by
                       have h35 : (x == 35) = false := by rw [beq_iff_eq.1 bx]; rfl
                       rw [gap_step hdx true,gap_step hdx false,bx,h35]; rfl
                      unfold scanK; rw [this]
                     have hij2 : i < j := by
                      rcases Nat.lt_or_ge i j with hh | hh
                      · exact hh
                      · have : j = i := by omega
                        subst this
                        rw [hx] at hc; injection hc with hc; subst hc
                        rw [bx] at b3; cases b3
                     rw [e]
                     simp only [go_sem,natlt,decide_eq_true hlj,natge0,tonat,hx,ax,bx,bne_i]
                     exact h (j,acc) _ ⟨by simp only; omega,by simp only; omega⟩ (by simp only; omega) (by simp only [go_sem])
                 · have e : scanK true s j = scanK false s j := by
                    unfold scanK; rw [List.drop_eq_nil_of_le (show s.length ≤ j by omega)]; rfl
                   rw [e]
                   simp only [go_sem,natlt,decide_eq_false hlj]
                   exact h (j,acc) _ ⟨by simp only; omega,by simp only; omega⟩ (by simp only; omega) (by simp only [go_sem])
           · have e : gapN false (s.drop i) = gapN false (s.drop (i + 1)) + 1 := by
              have : (c == 35) = false := by rw [beq_iff_eq.1 b3]; rfl
              rw [hg,b3,this]; rfl
             rw [skip e]
             simp only [go_sem,natlt,hlt',natge0,tonat,hc,a2,a3,a4,b1,b2,b3]
             exact h (i + 1,acc) _ ⟨by simp only; omega,by simp only; omega⟩ (by simp only; omega) (by simp only [go_sem,w1])
         · have e : gapN false (s.drop i) = gapN false (s.drop (i + 1)) + 1 := by
            have h35 : (c == 35) = false := by rw [beq_iff_eq.1 b2]; rfl
            have h10 : (c == 10) = false := by rw [beq_iff_eq.1 b2]; rfl
            rw [hg,h35,h10,b2,b1]; rfl
           rw [skip e]
           simp only [go_sem,natlt,hlt',natge0,tonat,hc,a3,a4,b1,b2]
           exact h (i + 1,acc) _ ⟨by simp only; omega,by simp only; omega⟩ (by simp only; omega) (by simp only [go_sem,w1])
       · have e : gapN false (s.drop i) = gapN false (s.drop (i + 1)) + 1 := by
          have h35 : (c == 35) = false := by rw [beq_iff_eq.1 b1]; rfl
          have h10 : (c == 10) = false := by rw [beq_iff_eq.1 b1]; rfl
          rw [hg,h35,h10,b1]; rfl
         rw [skip e]
         simp only [go_sem,natlt,hlt',natge0,tonat,hc,a3,b1]
         exact h (i + 1,acc) _ ⟨by simp only; omega,by simp only; omega⟩ (by simp only; omega) (by simp only [go_sem,w1])
     · have hlt' : decide (i < s.length) = false := by simpa using hlt
       have hk : scanK false s i = .ok [] := by
        unfold scanK; rw [List.drop_eq_nil_of_le (show s.length ≤ i by omega)]; simp only [gapN,Nat.add_zero]
        rw [List.drop_eq_nil_of_le (by omega)]; rfl
       rw [hk]
       simp only [go_sem,natlt,hlt',scanR,List.append_nil]
   · simp only [scanK,List.drop_zero,Nat.zero_add]
 · have h1' := of_decide_eq_true h1
   rw [if_pos h1']
   simp only [go_sem,Tryz.f48,e1,h1]
end Go.Proofs
