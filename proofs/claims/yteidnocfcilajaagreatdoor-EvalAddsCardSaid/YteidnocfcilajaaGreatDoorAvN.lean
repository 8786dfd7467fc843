/- The library functions that the program calls, by their contracts. -/
import Derived.Shelf.Strings.Builder1
import Derived.Shelf.Strings.Builder2
import Derived.Shelf.Strings.OnBuilder
import Derived.Shelf.Small.Strs
import Derived.Shelf.Strconv.Atoi
import Derived.Shelf.Strconv.Itoa0
import Derived.Shelf.Strconv.Itoa1
import Derived.Shelf.LaysM
import Derived.Shelf.Strconv.Itoa2
import Derived.Shelf.Strconv.Itoa3
import Derived.Shelf.Strings.Search1
import Derived.Shelf.SlMaps.Clone
import Derived.Test.YteidnocfcilajaaGreatDoorProg
namespace Go.Proofs
open Go.Shelf
def Tryz.lays156_ren : Go.Shelf.Ren := ⟨fun | 156 => 63 | 165 => 123 | 166 => 124 | 169 => 125 | 240 => 160 | 241 => 161 | 276 => 175 | 277 => 176 | n => n, fun | 31 => 54 | 9 => 9 | 3 => 3 | 4 => 4 | 0 => 0 | 20 => 20 | 72 => 176 | 76 => 180 | 70 => 174 | 37 => 71 | 75 => 179 | 127 => 207 | 164 => 216 | 5 => 5 | 80 => 51 | n => n, fun | n => n⟩
theorem Tryz.lays156 : Go.Proofs.Lays.n156 Tryz.prog Tryz.lays156_ren := {
  mixed := by kernel_rfl
  f156 := Tryz.func63.trans (congrArg some (by kernel_rfl))
  f165 := Tryz.func123.trans (congrArg some (by kernel_rfl))
  f166 := Tryz.func124.trans (congrArg some (by kernel_rfl))
  f169 := Tryz.func125.trans (congrArg some (by kernel_rfl))
  f240 := Tryz.func160.trans (congrArg some (by kernel_rfl))
  f241 := Tryz.func161.trans (congrArg some (by kernel_rfl))
  f276 := Tryz.func175.trans (congrArg some (by kernel_rfl))
  f277 := Tryz.func176.trans (congrArg some (by kernel_rfl))
  t0 := Tryz.underlying0
  a0 := Tryz.isAgg0
  z0 := Tryz.sizeOf0
  v0 := Tryz.zeroValue0
  t3 := Tryz.underlying3
  a3 := Tryz.isAgg3
  z3 := Tryz.sizeOf3
  v3 := Tryz.zeroValue3
  t4 := Tryz.underlying4
  a4 := Tryz.isAgg4
  z4 := Tryz.sizeOf4
  v4 := Tryz.zeroValue4
  t9 := Tryz.underlying9
  a9 := Tryz.isAgg9
  z9 := Tryz.sizeOf9
  v9 := Tryz.zeroValue9
  t20 := Tryz.underlying20
  a20 := Tryz.isAgg20
  z20 := Tryz.sizeOf20
  v20 := Tryz.zeroValue20
  t31 := Tryz.underlying54
  a31 := Tryz.isAgg54
  z31 := Tryz.sizeOf54
  v31 := Tryz.zeroValue54
  t37 := Tryz.underlying71
  a37 := Tryz.isAgg71
  z37 := Tryz.sizeOf71
  v37 := Tryz.zeroValue71
  t70 := Tryz.underlying174
  a70 := Tryz.isAgg174
  z70 := Tryz.sizeOf174
  v70 := Tryz.zeroValue174
  t72 := Tryz.underlying176
  a72 := Tryz.isAgg176
  z72 := Tryz.sizeOf176
  v72 := Tryz.zeroValue176
  t75 := Tryz.underlying179
  a75 := Tryz.isAgg179
  z75 := Tryz.sizeOf179
  v75 := Tryz.zeroValue179
  t76 := Tryz.underlying180
  a76 := Tryz.isAgg180
  z76 := Tryz.sizeOf180
  v76 := Tryz.zeroValue180
  t127 := Tryz.underlying207
  a127 := Tryz.isAgg207
  z127 := Tryz.sizeOf207
  v127 := Tryz.zeroValue207
  t164 := Tryz.underlying216
  a164 := Tryz.isAgg216
  z164 := Tryz.sizeOf216
  v164 := Tryz.zeroValue216 }
theorem Tryz.Builder_Extra_156 : Builder.Extra Tryz.prog Tryz.lays156_ren := {
  sizeBuilder := by kernel_rfl
  liesBuilder := by kernel_rfl
  t5 := Tryz.underlying5
  a5 := Tryz.isAgg5
  z5 := Tryz.sizeOf5
  v5 := Tryz.zeroValue5
  infoByte := by kernel_rfl
  cellsByte := by kernel_rfl
  sizeByte := by kernel_rfl
  neB5 := by decide }
open Go.RowKit in
theorem Tryz.strings_Join_none (a : Option Addr) (c : Nat) (sep : ByteArray) (w : World) :
    Calls Tryz.prog 63 #[.slice a 0 c, .string sep] w fun e w' => e = .returned (.string ⟨#[]⟩) ∧ w' = w := Any.strings_Join_none Tryz.lays156 Tryz.Builder_Extra_156 a c sep w
open Go.RowKit in
theorem Tryz.strings_Join (bk o c : Nat) (xs : List ByteArray) (sep : ByteArray) (w : World) (hcells : ∀ (j : Nat) x, xs[j]? = some x → w.cell? ⟨bk, o + j, none⟩ = some (.string x)) (hbk : bk < w.heap.size) (hN : xs.length ≤ 140737488355328) (hcap : xs.length ≤ c) (hlen : (Lib.join (xs.map (·.data.toList)) sep.data.toList).length ≤ 140737488355328) :
    Calls Tryz.prog 63 #[.slice (some ⟨bk, o, none⟩) xs.length c, .string sep] w fun e w' => e = .returned (.string ⟨(Lib.join (xs.map (·.data.toList)) sep.data.toList).toArray⟩) ∧ Below w.heap.size w w' := Any.strings_Join Tryz.lays156 Tryz.Builder_Extra_156 bk o c xs sep w hcells hbk hN hcap hlen
def Tryz.lays137_ren : Go.Shelf.Ren := ⟨fun | 137 => 155 | 217 => 173 | 266 => 186 | n => n, fun | 9 => 9 | 5 => 5 | 3 => 3 | n => n, fun | n => n⟩
theorem Tryz.lays137 : Go.Proofs.Lays.n137 Tryz.prog Tryz.lays137_ren := {
  mixed := by kernel_rfl
  f137 := Tryz.func155.trans (congrArg some (by kernel_rfl))
  f217 := Tryz.func173.trans (congrArg some (by kernel_rfl))
  f266 := Tryz.func186.trans (congrArg some (by kernel_rfl))
  t3 := Tryz.underlying3
  a3 := Tryz.isAgg3
  z3 := Tryz.sizeOf3
  v3 := Tryz.zeroValue3
  t5 := Tryz.underlying5
  a5 := Tryz.isAgg5
  z5 := Tryz.sizeOf5
  v5 := Tryz.zeroValue5
  t9 := Tryz.underlying9
  a9 := Tryz.isAgg9
  z9 := Tryz.sizeOf9
  v9 := Tryz.zeroValue9 }
open Go.RowKit in
theorem Tryz.strings_IndexByte (s : ByteArray) (c : Int) (w : World) :
    Calls Tryz.prog 155 #[.string s, .int .u8 c] w fun e w' => e = .returned (.int .i64 (Lib.indexByte s.data.toList c.toNat.toUInt8)) ∧ w' = w := Any.strings_IndexByte Tryz.lays137 s c w
def Tryz.lays172_ren : Go.Shelf.Ren := ⟨fun | 172 => 188 | 244 => 195 | 245 => 196 | 247 => 199 | 279 => 200 | 280 => 201 | 281 => 202 | 282 => 203 | 287 => 204 | 316 => 205 | 171 => 93 | 205 => 206 | 321 => 207 | 322 => 208 | 243 => 142 | 246 => 171 | 283 => 182 | 284 => 183 | 285 => 184 | 286 => 185 | 129 => 190 | 317 => 189 | 318 => 191 | 319 => 192 | 320 => 193 | 337 => 197 | 338 => 198 | n => n, fun | 9 => 9 | 3 => 3 | 75 => 179 | 76 => 180 | 4 => 4 | 5 => 5 | 167 => 237 | 37 => 71 | 0 => 0 | 85 => 238 | 2 => 2 | 168 => 240 | 53 => 222 | 175 => 245 | 46 => 233 | 210 => 248 | 127 => 207 | 145 => 253 | 143 => 251 | 21 => 21 | 171 => 221 | 173 => 225 | 212 => 229 | 51 => 230 | 20 => 20 | 213 => 231 | 232 => 243 | 233 => 244 | 80 => 51 | n => n, fun | 15 => 4 | 16 => 5 | 17 => 1 | 18 => 2 | 19 => 3 | n => n⟩
theorem Tryz.lays172 : Go.Proofs.Lays.n172 Tryz.prog Tryz.lays172_ren := {
  mixed := by kernel_rfl
  f129 := Tryz.func190.trans (congrArg some (by kernel_rfl))
  f171 := Tryz.func93.trans (congrArg some (by kernel_rfl))
  f172 := Tryz.func188.trans (congrArg some (by kernel_rfl))
  f205 := Tryz.func206.trans (congrArg some (by kernel_rfl))
  f243 := Tryz.func142.trans (congrArg some (by kernel_rfl))
  f244 := Tryz.func195.trans (congrArg some (by kernel_rfl))
  f245 := Tryz.func196.trans (congrArg some (by kernel_rfl))
  f246 := Tryz.func171.trans (congrArg some (by kernel_rfl))
  f247 := Tryz.func199.trans (congrArg some (by kernel_rfl))
  f279 := Tryz.func200.trans (congrArg some (by kernel_rfl))
  f280 := Tryz.func201.trans (congrArg some (by kernel_rfl))
  f281 := Tryz.func202.trans (congrArg some (by kernel_rfl))
  f282 := Tryz.func203.trans (congrArg some (by kernel_rfl))
  f283 := Tryz.func182.trans (congrArg some (by kernel_rfl))
  f284 := Tryz.func183.trans (congrArg some (by kernel_rfl))
  f285 := Tryz.func184.trans (congrArg some (by kernel_rfl))
  f286 := Tryz.func185.trans (congrArg some (by kernel_rfl))
  f287 := Tryz.func204.trans (congrArg some (by kernel_rfl))
  f316 := Tryz.func205.trans (congrArg some (by kernel_rfl))
  f317 := Tryz.func189.trans (congrArg some (by kernel_rfl))
  f318 := Tryz.func191.trans (congrArg some (by kernel_rfl))
  f319 := Tryz.func192.trans (congrArg some (by kernel_rfl))
  f320 := Tryz.func193.trans (congrArg some (by kernel_rfl))
  f321 := Tryz.func207.trans (congrArg some (by kernel_rfl))
  f322 := Tryz.func208.trans (congrArg some (by kernel_rfl))
  f337 := Tryz.func197.trans (congrArg some (by kernel_rfl))
  f338 := Tryz.func198.trans (congrArg some (by kernel_rfl))
  t0 := Tryz.underlying0
  a0 := Tryz.isAgg0
  z0 := Tryz.sizeOf0
  v0 := Tryz.zeroValue0
  t2 := Tryz.underlying2
  a2 := Tryz.isAgg2
  z2 := Tryz.sizeOf2
  v2 := Tryz.zeroValue2
  t3 := Tryz.underlying3
  a3 := Tryz.isAgg3
  z3 := Tryz.sizeOf3
  v3 := Tryz.zeroValue3
  t4 := Tryz.underlying4
  a4 := Tryz.isAgg4
  z4 := Tryz.sizeOf4
  v4 := Tryz.zeroValue4
  t5 := Tryz.underlying5
  a5 := Tryz.isAgg5
  z5 := Tryz.sizeOf5
  v5 := Tryz.zeroValue5
  t9 := Tryz.underlying9
  a9 := Tryz.isAgg9
  z9 := Tryz.sizeOf9
  v9 := Tryz.zeroValue9
  t20 := Tryz.underlying20
  a20 := Tryz.isAgg20
  z20 := Tryz.sizeOf20
  v20 := Tryz.zeroValue20
  t21 := Tryz.underlying21
  a21 := Tryz.isAgg21
  z21 := Tryz.sizeOf21
  v21 := Tryz.zeroValue21
  t37 := Tryz.underlying71
  a37 := Tryz.isAgg71
  z37 := Tryz.sizeOf71
  v37 := Tryz.zeroValue71
  t46 := Tryz.underlying233
  a46 := Tryz.isAgg233
  z46 := Tryz.sizeOf233
  v46 := Tryz.zeroValue233
  t51 := Tryz.underlying230
  a51 := Tryz.isAgg230
  z51 := Tryz.sizeOf230
  v51 := Tryz.zeroValue230
  t53 := Tryz.underlying222
  a53 := Tryz.isAgg222
  z53 := Tryz.sizeOf222
  v53 := Tryz.zeroValue222
  t75 := Tryz.underlying179
  a75 := Tryz.isAgg179
  z75 := Tryz.sizeOf179
  v75 := Tryz.zeroValue179
  t76 := Tryz.underlying180
  a76 := Tryz.isAgg180
  z76 := Tryz.sizeOf180
  v76 := Tryz.zeroValue180
  t85 := Tryz.underlying238
  a85 := Tryz.isAgg238
  z85 := Tryz.sizeOf238
  v85 := Tryz.zeroValue238
  t127 := Tryz.underlying207
  a127 := Tryz.isAgg207
  z127 := Tryz.sizeOf207
  v127 := Tryz.zeroValue207
  t143 := Tryz.underlying251
  a143 := Tryz.isAgg251
  z143 := Tryz.sizeOf251
  v143 := Tryz.zeroValue251
  t145 := Tryz.underlying253
  a145 := Tryz.isAgg253
  z145 := Tryz.sizeOf253
  v145 := Tryz.zeroValue253
  t167 := Tryz.underlying237
  a167 := Tryz.isAgg237
  z167 := Tryz.sizeOf237
  v167 := Tryz.zeroValue237
  t168 := Tryz.underlying240
  a168 := Tryz.isAgg240
  z168 := Tryz.sizeOf240
  v168 := Tryz.zeroValue240
  t171 := Tryz.underlying221
  a171 := Tryz.isAgg221
  z171 := Tryz.sizeOf221
  v171 := Tryz.zeroValue221
  t173 := Tryz.underlying225
  a173 := Tryz.isAgg225
  z173 := Tryz.sizeOf225
  v173 := Tryz.zeroValue225
  t175 := Tryz.underlying245
  a175 := Tryz.isAgg245
  z175 := Tryz.sizeOf245
  v175 := Tryz.zeroValue245
  t210 := Tryz.underlying248
  a210 := Tryz.isAgg248
  z210 := Tryz.sizeOf248
  v210 := Tryz.zeroValue248
  t212 := Tryz.underlying229
  a212 := Tryz.isAgg229
  z212 := Tryz.sizeOf229
  v212 := Tryz.zeroValue229
  t213 := Tryz.underlying231
  a213 := Tryz.isAgg231
  z213 := Tryz.sizeOf231
  t232 := Tryz.underlying243
  a232 := Tryz.isAgg243
  z232 := Tryz.sizeOf243
  v232 := Tryz.zeroValue243
  t233 := Tryz.underlying244
  a233 := Tryz.isAgg244
  z233 := Tryz.sizeOf244
  v233 := Tryz.zeroValue244
  g15 := by kernel_rfl
  g16 := by kernel_rfl
  g17 := by kernel_rfl
  g18 := by kernel_rfl
  g19 := by kernel_rfl }
open Go.RowKit in
theorem Tryz.strconv_Atoi (s : ByteArray) (n : Int) (hl : s.size ≤ 18) (h : Lib.atoi s.data.toList = some n) (w : World) :
    Calls Tryz.prog 188 #[.string s] w fun e w' => e = .returned (.tuple #[.int .i64 n, .nilIface]) ∧ ∃ t, w' = Lib.bytesWorld w 5 t := Any.strconv_Atoi Tryz.lays172 s n hl h w
def Tryz.laysM171_ren : Go.Shelf.Ren := ⟨fun | 171 => 93 | 243 => 142 | 246 => 171 | 283 => 182 | 284 => 183 | 285 => 184 | 286 => 185 | 129 => 190 | 317 => 189 | 318 => 191 | 319 => 192 | 320 => 193 | 337 => 197 | 338 => 198 | n => n, fun | 3 => 3 | 9 => 9 | 2 => 2 | 4 => 4 | 171 => 221 | 0 => 0 | 53 => 222 | 37 => 71 | 5 => 5 | 173 => 225 | 212 => 229 | 51 => 230 | 20 => 20 | 213 => 231 | 46 => 233 | 232 => 243 | 233 => 244 | n => n, fun | 17 => 1 | 18 => 2 | 19 => 3 | n => n⟩
theorem Tryz.laysM171 : Go.Proofs.LaysM.n171 Tryz.prog Tryz.laysM171_ren := {
  mixed := by kernel_rfl
  f129 := Tryz.func190.trans (congrArg some (by kernel_rfl))
  f171 := Tryz.func93.trans (congrArg some (by kernel_rfl))
  f243 := Tryz.func142.trans (congrArg some (by kernel_rfl))
  f246 := Tryz.func171.trans (congrArg some (by kernel_rfl))
  f283 := Tryz.func182.trans (congrArg some (by kernel_rfl))
  f284 := Tryz.func183.trans (congrArg some (by kernel_rfl))
  f285 := Tryz.func184.trans (congrArg some (by kernel_rfl))
  f286 := Tryz.func185.trans (congrArg some (by kernel_rfl))
  f317 := Tryz.func189.trans (congrArg some (by kernel_rfl))
  f318 := Tryz.func191.trans (congrArg some (by kernel_rfl))
  f319 := Tryz.func192.trans (congrArg some (by kernel_rfl))
  f320 := Tryz.func193.trans (congrArg some (by kernel_rfl))
  f337 := Tryz.func197.trans (congrArg some (by kernel_rfl))
  f338 := Tryz.func198.trans (congrArg some (by kernel_rfl))
  t0 := Tryz.underlying0
  a0 := Tryz.isAgg0
  z0 := Tryz.sizeOf0
  v0 := Tryz.zeroValue0
  t2 := Tryz.underlying2
  a2 := Tryz.isAgg2
  z2 := Tryz.sizeOf2
  v2 := Tryz.zeroValue2
  t3 := Tryz.underlying3
  a3 := Tryz.isAgg3
  z3 := Tryz.sizeOf3
  v3 := Tryz.zeroValue3
  t4 := Tryz.underlying4
  a4 := Tryz.isAgg4
  z4 := Tryz.sizeOf4
  v4 := Tryz.zeroValue4
  t5 := Tryz.underlying5
  a5 := Tryz.isAgg5
  z5 := Tryz.sizeOf5
  v5 := Tryz.zeroValue5
  t9 := Tryz.underlying9
  a9 := Tryz.isAgg9
  z9 := Tryz.sizeOf9
  v9 := Tryz.zeroValue9
  t20 := Tryz.underlying20
  a20 := Tryz.isAgg20
  z20 := Tryz.sizeOf20
  v20 := Tryz.zeroValue20
  t37 := Tryz.underlying71
  a37 := Tryz.isAgg71
  z37 := Tryz.sizeOf71
  v37 := Tryz.zeroValue71
  t46 := Tryz.underlying233
  a46 := Tryz.isAgg233
  z46 := Tryz.sizeOf233
  v46 := Tryz.zeroValue233
  t51 := Tryz.underlying230
  a51 := Tryz.isAgg230
  z51 := Tryz.sizeOf230
  v51 := Tryz.zeroValue230
  t53 := Tryz.underlying222
  a53 := Tryz.isAgg222
  z53 := Tryz.sizeOf222
  v53 := Tryz.zeroValue222
  t171 := Tryz.underlying221
  a171 := Tryz.isAgg221
  z171 := Tryz.sizeOf221
  v171 := Tryz.zeroValue221
  t173 := Tryz.underlying225
  a173 := Tryz.isAgg225
  z173 := Tryz.sizeOf225
  v173 := Tryz.zeroValue225
  t212 := Tryz.underlying229
  a212 := Tryz.isAgg229
  z212 := Tryz.sizeOf229
  v212 := Tryz.zeroValue229
  t213 := Tryz.underlying231
  a213 := Tryz.isAgg231
  z213 := Tryz.sizeOf231
  t232 := Tryz.underlying243
  a232 := Tryz.isAgg243
  z232 := Tryz.sizeOf243
  v232 := Tryz.zeroValue243
  t233 := Tryz.underlying244
  a233 := Tryz.isAgg244
  z233 := Tryz.sizeOf244
  v233 := Tryz.zeroValue244
  g17 := by kernel_rfl
  g18 := by kernel_rfl
  g19 := by kernel_rfl
  i0 := by kernel_rfl
  i2 := by kernel_rfl
  i3 := by kernel_rfl
  i4 := by kernel_rfl
  i5 := by kernel_rfl
  i9 := by kernel_rfl
  i20 := by kernel_rfl
  i37 := by kernel_rfl
  i46 := by kernel_rfl
  i51 := by kernel_rfl
  i53 := by kernel_rfl
  i171 := by kernel_rfl
  i173 := by kernel_rfl
  i212 := by kernel_rfl
  i232 := by kernel_rfl
  i233 := by kernel_rfl
  m17 := by kernel_rfl
  m18 := by kernel_rfl
  m19 := by kernel_rfl }
open Go.RowKit Go.Sort Go.Lib in
theorem Tryz.strconv_Itoa (n : Int) (h0 : -9223372036854775808 ≤ n) (h1 : n ≤ 9223372036854775807) (w : World) (htab : Lib.TabIs Tryz.prog w "internal/strconv.uint64pow10" .u64 Lib.pow10Tab) :
    Calls Tryz.prog 93 #[.int .i64 n] w fun e w' => e = .returned (.string ⟨(Lib.itoa n).toArray⟩) ∧ ∃ k os, w' = grow (w.drewN k) os := Any.strconv_Itoa Tryz.laysM171 n h0 h1 w htab
def Tryz.laysW5_ren : Go.Shelf.Ren := ⟨fun | 5 => 162 | 7 => 177 | n => n, fun | 4 => 4 | 20 => 20 | 23 => 118 | 25 => 9 | 3 => 4 | n => n, fun | n => n⟩
theorem Tryz.laysW5 : Go.Proofs.SlLaysW.n5 Tryz.prog Tryz.laysW5_ren := {
  mixed := by kernel_rfl
  f5 := ⟨ "maps.Clone[map[string]bool,string,bool]", by kernel_rfl, Tryz.func162.trans (congrArg some (by kernel_rfl))⟩
  f7 := Tryz.func177.trans (congrArg some (by kernel_rfl))
  t4 := Tryz.underlying4
  a4 := Tryz.isAgg4
  z4 := Tryz.sizeOf4
  v4 := Tryz.zeroValue4
  t20 := Tryz.underlying20
  a20 := Tryz.isAgg20
  z20 := Tryz.sizeOf20
  v20 := Tryz.zeroValue20
  t23 := Tryz.underlying118
  a23 := Tryz.isAgg118
  z23 := Tryz.sizeOf118
  v23 := Tryz.zeroValue118
}
theorem Tryz.maps_Clone (b : Nat) (es : Array MapEntry) (clock : Nat) (w : World) (hb : w.heap[b]? = some (.map es clock)) :
    Calls Tryz.prog 162 #[.map (some b)] w fun e w' => e = .returned (.map (some w.heap.size)) ∧ w' = w.alloc (.map es clock) := AnyW.maps_Clone Tryz.laysW5 b es clock w hb
theorem Tryz.maps_Clone_nil (w : World) : Calls Tryz.prog 162 #[.map none] w fun e w' => e = .returned (.map none) ∧ w' = w := AnyW.maps_Clone_nil Tryz.laysW5 w
end Go.Proofs
