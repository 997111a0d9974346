/-
  DERIVED: THE SHELF's CONTRACTS AT THIS DUMP, IN PLAIN WORDS (tools/lay-plain.mjs out of 'TryzShelf.lean', which tools/lay-shelf.mjs wrote): THE SAME DECLARATIONS UNDER THE SAME NAMES: 'import', 'namespace', 'open', 'def', 'theorem' AND NOTHING ELSE: no command of the shelf's: FOR A HAND-IN. Each laying: the table of numbers ('.._ren') and one theorem, a field a fact of the dump's own or the kernel's comparison; each contract: ONE APPLICATION.
-/
import Derived.Shelf.Small.Bits
import Derived.Shelf.Strconv.Atoi
import Derived.Shelf.Strconv.Itoa0
import Derived.Shelf.Strconv.Itoa1
import Derived.Shelf.LaysM
import Derived.Shelf.Strconv.Itoa2
import Derived.Shelf.Strconv.Itoa3
import Derived.Shelf.Strconv.AtoiErrFast
import Derived.Shelf.Strconv.ParseIntEmpty
import Derived.Shelf.Strconv.AtoiFail
import Derived.Shelf.Strconv.Clone
import Derived.Shelf.Strconv.SyntaxError
import Derived.Shelf.LaysC
import Derived.Shelf.Strconv.ToError
import Derived.Shelf.Strconv.AtoiErr
import Derived.Shelf.Strconv.ErrVar
import Derived.Shelf.Strconv.Lower
import Derived.Shelf.Strconv.ParseUint10
import Derived.Shelf.Strconv.ParseUint10Empty
import Derived.Shelf.Strconv.ParseUint10Any
import Derived.Shelf.Strconv.ParseInt10
import Derived.Shelf.Strconv.AtoiLong
import Derived.Shelf.Strconv.AtoiInnerAll
import Derived.Shelf.Strconv.RangeError
import Derived.Shelf.Strconv.ToErrorRange
import Derived.Shelf.Strconv.AtoiAll
import Derived.Shelf.Strconv.ErrVarAll
import Derived.Shelf.Sort.Plain
import Derived.Shelf.Slices.Turned
import Derived.Shelf.Slices.CompactS
import Derived.Shelf.Slices.Cells
import Derived.Shelf.Slices.In.SortNone
import Derived.Shelf.SlIter.Nil
import Derived.Shelf.SortM.Plain
import Derived.Shelf.SortM.SortNone
import Derived.Shelf.SlMaps.Clone
import Derived.Shelf.SlMaps.Copy
import Derived.Ground.GgzProg
import Derived.Ground.SlgmProg
import Derived.Ground.SlmcProg
import Derived.Ground.SlmpProg
import Derived.Test.YtkhemhiifhggmaaGreatDoorProg
import Derived.Test.YtkhemhiifhggmaaGreatDoorHPr2
import Derived.Laws.BitsLemmas
set_option maxRecDepth 100000
set_option maxHeartbeats 40000000
namespace Go.Proofs
open Go.Shelf
def Tryz.lays129_ren : Go.Shelf.Ren := ⟨fun | 129 => 100 | n => n, fun | 53 => 89 | 3 => 3 | 4 => 4 | 46 => 108 | 5 => 5 | 9 => 9 | n => n, fun | n => n⟩
theorem Tryz.lays129 : Go.Proofs.Lays.n129 Tryz.prog Tryz.lays129_ren := {
 mixed := by kernel_rfl
 f129 := Tryz.func100.trans (congrArg some (by kernel_rfl))
 t3 := Tryz.underlying3
 a3 := Tryz.isAgg3
 z3 := Tryz.sizeOf3
 v3 := Tryz.zeroValue3
 t4 := Tryz.underlying4
 a4 := Tryz.isAgg4
 z4 := Tryz.sizeOf4
 v4 := Tryz.zeroValue4
 t5 := Tryz.underlying5
 a5 := Tryz.isAgg5
 z5 := Tryz.sizeOf5
 v5 := Tryz.zeroValue5
 t9 := Tryz.underlying9
 a9 := Tryz.isAgg9
 z9 := Tryz.sizeOf9
 v9 := Tryz.zeroValue9
 t46 := Tryz.underlying108
 a46 := Tryz.isAgg108
 z46 := Tryz.sizeOf108
 v46 := Tryz.zeroValue108
 t53 := Tryz.underlying89
 a53 := Tryz.isAgg89
 z53 := Tryz.sizeOf89
 v53 := Tryz.zeroValue89 }
theorem Tryz.bits_Len64 (x : Int) (w : World) (h0 : 0 ≤ x) (h1 : x ≤ 18446744073709551615) :
  Calls Tryz.prog 100 #[.int .u64 x] w fun e w' => e = .returned (.int .i64 (Lib.bitLen x.toNat)) ∧ w' = w := Any.bits_Len64 Tryz.lays129 x w h0 h1
def Tryz.laysM171_ren : Go.Shelf.Ren := ⟨fun | 171 => 37 | 243 => 73 | 246 => 89 | 283 => 109 | 284 => 110 | 285 => 111 | 286 => 112 | 129 => 100 | 317 => 122 | 318 => 123 | 319 => 124 | 320 => 125 | 337 => 129 | 338 => 130 | n => n, fun | 3 => 3 | 9 => 9 | 2 => 2 | 4 => 4 | 171 => 145 | 0 => 0 | 53 => 89 | 37 => 66 | 5 => 5 | 173 => 147 | 212 => 161 | 51 => 106 | 20 => 20 | 213 => 162 | 46 => 108 | 232 => 172 | 233 => 173 | n => n, fun | 17 => 2 | 18 => 3 | 19 => 4 | n => n⟩
theorem Tryz.laysM171 : Go.Proofs.LaysM.n171 Tryz.prog Tryz.laysM171_ren := {
 mixed := by kernel_rfl
 f129 := Tryz.func100.trans (congrArg some (by kernel_rfl))
 f171 := Tryz.func37.trans (congrArg some (by kernel_rfl))
 f243 := Tryz.func73.trans (congrArg some (by kernel_rfl))
 f246 := Tryz.func89.trans (congrArg some (by kernel_rfl))
 f283 := Tryz.func109.trans (congrArg some (by kernel_rfl))
 f284 := Tryz.func110.trans (congrArg some (by kernel_rfl))
 f285 := Tryz.func111.trans (congrArg some (by kernel_rfl))
 f286 := Tryz.func112.trans (congrArg some (by kernel_rfl))
 f317 := Tryz.func122.trans (congrArg some (by kernel_rfl))
 f318 := Tryz.func123.trans (congrArg some (by kernel_rfl))
 f319 := Tryz.func124.trans (congrArg some (by kernel_rfl))
 f320 := Tryz.func125.trans (congrArg some (by kernel_rfl))
 f337 := Tryz.func129.trans (congrArg some (by kernel_rfl))
 f338 := Tryz.func130.trans (congrArg some (by kernel_rfl))
 t0 := Tryz.underlying0
 a0 := Tryz.isAgg0
 z0 := Tryz.sizeOf0
 v0 := Tryz.zeroValue0
 t2 := Tryz.underlying2
 a2 := Tryz.isAgg2
 z2 := Tryz.sizeOf2
 v2 := Tryz.zeroValue2
 t3 := Tryz.underlying3
 a3 := Tryz.isAgg3
 z3 := Tryz.sizeOf3
 v3 := Tryz.zeroValue3
 t4 := Tryz.underlying4
 a4 := Tryz.isAgg4
 z4 := Tryz.sizeOf4
 v4 := Tryz.zeroValue4
 t5 := Tryz.underlying5
 a5 := Tryz.isAgg5
 z5 := Tryz.sizeOf5
 v5 := Tryz.zeroValue5
 t9 := Tryz.underlying9
 a9 := Tryz.isAgg9
 z9 := Tryz.sizeOf9
 v9 := Tryz.zeroValue9
 t20 := Tryz.underlying20
 a20 := Tryz.isAgg20
 z20 := Tryz.sizeOf20
 v20 := Tryz.zeroValue20
 t37 := Tryz.underlying66
 a37 := Tryz.isAgg66
 z37 := Tryz.sizeOf66
 v37 := Tryz.zeroValue66
 t46 := Tryz.underlying108
 a46 := Tryz.isAgg108
 z46 := Tryz.sizeOf108
 v46 := Tryz.zeroValue108
 t51 := Tryz.underlying106
 a51 := Tryz.isAgg106
 z51 := Tryz.sizeOf106
 v51 := Tryz.zeroValue106
 t53 := Tryz.underlying89
 a53 := Tryz.isAgg89
 z53 := Tryz.sizeOf89
 v53 := Tryz.zeroValue89
 t171 := Tryz.underlying145
 a171 := Tryz.isAgg145
 z171 := Tryz.sizeOf145
 v171 := Tryz.zeroValue145
 t173 := Tryz.underlying147
 a173 := Tryz.isAgg147
 z173 := Tryz.sizeOf147
 v173 := Tryz.zeroValue147
 t212 := Tryz.underlying161
 a212 := Tryz.isAgg161
 z212 := Tryz.sizeOf161
 v212 := Tryz.zeroValue161
 t213 := Tryz.underlying162
 a213 := Tryz.isAgg162
 z213 := Tryz.sizeOf162
 t232 := Tryz.underlying172
 a232 := Tryz.isAgg172
 z232 := Tryz.sizeOf172
 v232 := Tryz.zeroValue172
 t233 := Tryz.underlying173
 a233 := Tryz.isAgg173
 z233 := Tryz.sizeOf173
 v233 := Tryz.zeroValue173
 g17 := by kernel_rfl
 g18 := by kernel_rfl
 g19 := by kernel_rfl
 i0 := by kernel_rfl
 i2 := by kernel_rfl
 i3 := by kernel_rfl
 i4 := by kernel_rfl
 i5 := by kernel_rfl
 i9 := by kernel_rfl
 i20 := by kernel_rfl
 i37 := by kernel_rfl
 i46 := by kernel_rfl
 i51 := by kernel_rfl
 i53 := by kernel_rfl
 i171 := by kernel_rfl
 i173 := by kernel_rfl
 i212 := by kernel_rfl
 i232 := by kernel_rfl
 i233 := by kernel_rfl
 m17 := by kernel_rfl
 m18 := by kernel_rfl
 m19 := by kernel_rfl }
open Go.RowKit Go.Sort Go.Lib in
theorem Tryz.strconv_Itoa (n : Int) (h0 : -9223372036854775808 ≤ n) (h1 : n ≤ 9223372036854775807) (w : World) (htab : Lib.TabIs Tryz.prog w "internal/strconv.uint64pow10" .u64 Lib.pow10Tab) :
  Calls Tryz.prog 37 #[.int .i64 n] w fun e w' => e = .returned (.string ⟨(Lib.itoa n).toArray⟩) ∧ ∃ k os, w' = grow (w.drewN k) os := Any.strconv_Itoa Tryz.laysM171 n h0 h1 w htab
def Tryz.laysC172_ren : Go.Shelf.Ren := ⟨fun | 172 => 53 | 244 => 80 | 245 => 81 | 247 => 103 | 279 => 104 | 280 => 105 | 281 => 106 | 282 => 107 | 287 => 119 | 316 => 120 | 171 => 37 | 205 => 121 | 321 => 127 | 322 => 128 | 243 => 73 | 246 => 89 | 283 => 109 | 284 => 110 | 285 => 111 | 286 => 112 | 129 => 100 | 317 => 122 | 318 => 123 | 319 => 124 | 320 => 125 | 337 => 129 | 338 => 130 | n => n, fun | 9 => 9 | 3 => 3 | 75 => 84 | 76 => 85 | 4 => 4 | 5 => 5 | 167 => 138 | 37 => 66 | 0 => 0 | 85 => 139 | 2 => 2 | 168 => 141 | 53 => 89 | 175 => 154 | 46 => 108 | 210 => 157 | 127 => 168 | 145 => 171 | 143 => 169 | 21 => 21 | 171 => 145 | 173 => 147 | 212 => 161 | 51 => 106 | 20 => 20 | 213 => 162 | 232 => 172 | 233 => 173 | 80 => 74 | n => n, fun | 15 => 0 | 16 => 1 | 17 => 2 | 18 => 3 | 19 => 4 | n => n⟩
theorem Tryz.laysC172 : Go.Proofs.LaysC.n172 Tryz.prog Tryz.laysC172_ren := {
 mixed := by kernel_rfl
 f129 := Tryz.func100.trans (congrArg some (by kernel_rfl))
 f171 := Tryz.func37.trans (congrArg some (by kernel_rfl))
 f172 := Tryz.func53.trans (congrArg some (by kernel_rfl))
 f205 := Tryz.func121.trans (congrArg some (by kernel_rfl))
 f243 := Tryz.func73.trans (congrArg some (by kernel_rfl))
 f244 := Tryz.func80.trans (congrArg some (by kernel_rfl))
 f245 := Tryz.func81.trans (congrArg some (by kernel_rfl))
 f246 := Tryz.func89.trans (congrArg some (by kernel_rfl))
 f247 := Tryz.func103.trans (congrArg some (by kernel_rfl))
 f279 := Tryz.func104.trans (congrArg some (by kernel_rfl))
 f280 := Tryz.func105.trans (congrArg some (by kernel_rfl))
 f281 := Tryz.func106.trans (congrArg some (by kernel_rfl))
 f282 := Tryz.func107.trans (congrArg some (by kernel_rfl))
 f283 := Tryz.func109.trans (congrArg some (by kernel_rfl))
 f284 := Tryz.func110.trans (congrArg some (by kernel_rfl))
 f285 := Tryz.func111.trans (congrArg some (by kernel_rfl))
 f286 := Tryz.func112.trans (congrArg some (by kernel_rfl))
 f287 := Tryz.func119.trans (congrArg some (by kernel_rfl))
 f316 := Tryz.func120.trans (congrArg some (by kernel_rfl))
 f317 := Tryz.func122.trans (congrArg some (by kernel_rfl))
 f318 := Tryz.func123.trans (congrArg some (by kernel_rfl))
 f319 := Tryz.func124.trans (congrArg some (by kernel_rfl))
 f320 := Tryz.func125.trans (congrArg some (by kernel_rfl))
 f321 := Tryz.func127.trans (congrArg some (by kernel_rfl))
 f322 := Tryz.func128.trans (congrArg some (by kernel_rfl))
 f337 := Tryz.func129.trans (congrArg some (by kernel_rfl))
 f338 := Tryz.func130.trans (congrArg some (by kernel_rfl))
 t0 := Tryz.underlying0
 a0 := Tryz.isAgg0
 z0 := Tryz.sizeOf0
 v0 := Tryz.zeroValue0
 t2 := Tryz.underlying2
 a2 := Tryz.isAgg2
 z2 := Tryz.sizeOf2
 v2 := Tryz.zeroValue2
 t3 := Tryz.underlying3
 a3 := Tryz.isAgg3
 z3 := Tryz.sizeOf3
 v3 := Tryz.zeroValue3
 t4 := Tryz.underlying4
 a4 := Tryz.isAgg4
 z4 := Tryz.sizeOf4
 v4 := Tryz.zeroValue4
 t5 := Tryz.underlying5
 a5 := Tryz.isAgg5
 z5 := Tryz.sizeOf5
 v5 := Tryz.zeroValue5
 t9 := Tryz.underlying9
 a9 := Tryz.isAgg9
 z9 := Tryz.sizeOf9
 v9 := Tryz.zeroValue9
 t20 := Tryz.underlying20
 a20 := Tryz.isAgg20
 z20 := Tryz.sizeOf20
 v20 := Tryz.zeroValue20
 t21 := Tryz.underlying21
 a21 := Tryz.isAgg21
 z21 := Tryz.sizeOf21
 v21 := Tryz.zeroValue21
 t37 := Tryz.underlying66
 a37 := Tryz.isAgg66
 z37 := Tryz.sizeOf66
 v37 := Tryz.zeroValue66
 t46 := Tryz.underlying108
 a46 := Tryz.isAgg108
 z46 := Tryz.sizeOf108
 v46 := Tryz.zeroValue108
 t51 := Tryz.underlying106
 a51 := Tryz.isAgg106
 z51 := Tryz.sizeOf106
 v51 := Tryz.zeroValue106
 t53 := Tryz.underlying89
 a53 := Tryz.isAgg89
 z53 := Tryz.sizeOf89
 v53 := Tryz.zeroValue89
 t75 := Tryz.underlying84
 a75 := Tryz.isAgg84
 z75 := Tryz.sizeOf84
 v75 := Tryz.zeroValue84
 t76 := Tryz.underlying85
 a76 := Tryz.isAgg85
 z76 := Tryz.sizeOf85
 v76 := Tryz.zeroValue85
 t85 := Tryz.underlying139
 a85 := Tryz.isAgg139
 z85 := Tryz.sizeOf139
 v85 := Tryz.zeroValue139
 t127 := Tryz.underlying168
 a127 := Tryz.isAgg168
 z127 := Tryz.sizeOf168
 v127 := Tryz.zeroValue168
 t143 := Tryz.underlying169
 a143 := Tryz.isAgg169
 z143 := Tryz.sizeOf169
 v143 := Tryz.zeroValue169
 t145 := Tryz.underlying171
 a145 := Tryz.isAgg171
 z145 := Tryz.sizeOf171
 v145 := Tryz.zeroValue171
 t167 := Tryz.underlying138
 a167 := Tryz.isAgg138
 z167 := Tryz.sizeOf138
 v167 := Tryz.zeroValue138
 t168 := Tryz.underlying141
 a168 := Tryz.isAgg141
 z168 := Tryz.sizeOf141
 v168 := Tryz.zeroValue141
 t171 := Tryz.underlying145
 a171 := Tryz.isAgg145
 z171 := Tryz.sizeOf145
 v171 := Tryz.zeroValue145
 t173 := Tryz.underlying147
 a173 := Tryz.isAgg147
 z173 := Tryz.sizeOf147
 v173 := Tryz.zeroValue147
 t175 := Tryz.underlying154
 a175 := Tryz.isAgg154
 z175 := Tryz.sizeOf154
 v175 := Tryz.zeroValue154
 t210 := Tryz.underlying157
 a210 := Tryz.isAgg157
 z210 := Tryz.sizeOf157
 v210 := Tryz.zeroValue157
 t212 := Tryz.underlying161
 a212 := Tryz.isAgg161
 z212 := Tryz.sizeOf161
 v212 := Tryz.zeroValue161
 t213 := Tryz.underlying162
 a213 := Tryz.isAgg162
 z213 := Tryz.sizeOf162
 t232 := Tryz.underlying172
 a232 := Tryz.isAgg172
 z232 := Tryz.sizeOf172
 v232 := Tryz.zeroValue172
 t233 := Tryz.underlying173
 a233 := Tryz.isAgg173
 z233 := Tryz.sizeOf173
 v233 := Tryz.zeroValue173
 g15 := by kernel_rfl
 g16 := by kernel_rfl
 g17 := by kernel_rfl
 g18 := by kernel_rfl
 g19 := by kernel_rfl
 t80 := Tryz.underlying74
 a80 := Tryz.isAgg74
 z80 := Tryz.sizeOf74
 v80 := Tryz.zeroValue74
 i0 := by kernel_rfl
 i2 := by kernel_rfl
 i3 := by kernel_rfl
 i4 := by kernel_rfl
 i5 := by kernel_rfl
 i9 := by kernel_rfl
 i20 := by kernel_rfl
 i21 := by kernel_rfl
 i37 := by kernel_rfl
 i46 := by kernel_rfl
 i51 := by kernel_rfl
 i53 := by kernel_rfl
 i75 := by kernel_rfl
 i76 := by kernel_rfl
 i80 := by kernel_rfl
 i85 := by kernel_rfl
 i127 := by kernel_rfl
 i143 := by kernel_rfl
 i145 := by kernel_rfl
 i167 := by kernel_rfl
 i168 := by kernel_rfl
 i171 := by kernel_rfl
 i173 := by kernel_rfl
 i175 := by kernel_rfl
 i210 := by kernel_rfl
 i212 := by kernel_rfl
 i232 := by kernel_rfl
 i233 := by kernel_rfl
 m15 := by kernel_rfl
 m16 := by kernel_rfl
 m17 := by kernel_rfl
 m18 := by kernel_rfl
 m19 := by kernel_rfl
 c0 := by kernel_rfl
 c2 := by kernel_rfl
 c3 := by kernel_rfl
 c4 := by kernel_rfl
 c5 := by kernel_rfl
 c9 := by kernel_rfl
 c20 := by kernel_rfl
 c21 := by kernel_rfl
 c37 := by kernel_rfl
 c46 := by kernel_rfl
 c51 := by kernel_rfl
 c53 := by kernel_rfl
 c75 := by kernel_rfl
 c76 := by kernel_rfl
 c80 := by kernel_rfl
 c85 := by kernel_rfl
 c127 := by kernel_rfl
 c143 := by kernel_rfl
 c145 := by kernel_rfl
 c167 := by kernel_rfl
 c168 := by kernel_rfl
 c171 := by kernel_rfl
 c173 := by kernel_rfl
 c175 := by kernel_rfl
 c210 := by kernel_rfl
 c212 := by kernel_rfl
 c213 := by kernel_rfl
 c232 := by kernel_rfl
 c233 := by kernel_rfl }
open Go.RowKit in
theorem Tryz.strconv_Atoi_ok (s : ByteArray) (hmax : s.size ≤ 9223372036854775806) (v : Int) (h : Lib.atoiAll s.data.toList = .ok v) (w : World) :
  Calls Tryz.prog 53 #[.string s] w fun e w' => e = .returned (.tuple #[.int .i64 v, .nilIface]) ∧ (w' = w ∨ ∃ t, w' = Lib.bytesWorld w 5 t) := Any.strconv_Atoi_ok Tryz.laysC172 s hmax v h w
open Go.RowKit in
open Go.RowKit in
def Tryz.lays190_ren : Go.Shelf.Ren := ⟨fun | 190 => 38 | 125 => 75 | 258 => 74 | 128 => 99 | 129 => 100 | 302 => 90 | 303 => 91 | 304 => 92 | 305 => 93 | 306 => 94 | 307 => 95 | 308 => 96 | 309 => 97 | 310 => 98 | 333 => 113 | 329 => 114 | 330 => 115 | 334 => 116 | 335 => 117 | 336 => 118 | 344 => 126 | n => n, fun | 31 => 35 | 9 => 9 | 3 => 3 | 46 => 108 | 0 => 0 | 51 => 106 | 53 => 89 | 4 => 4 | 183 => 128 | 182 => 127 | 131 => 96 | 5 => 5 | 218 => 149 | 222 => 152 | 228 => 164 | 229 => 165 | n => n, fun | n => n⟩
theorem Tryz.lays190 : Go.Proofs.Lays.n190 Tryz.prog Tryz.lays190_ren := {
 mixed := by kernel_rfl
 f125 := Tryz.func75.trans (congrArg some (by kernel_rfl))
 f128 := Tryz.func99.trans (congrArg some (by kernel_rfl))
 f129 := Tryz.func100.trans (congrArg some (by kernel_rfl))
 f190 := Tryz.func38.trans (congrArg some (by kernel_rfl))
 f258 := Tryz.func74.trans (congrArg some (by kernel_rfl))
 f302 := Tryz.func90.trans (congrArg some (by kernel_rfl))
 f303 := Tryz.func91.trans (congrArg some (by kernel_rfl))
 f304 := Tryz.func92.trans (congrArg some (by kernel_rfl))
 f305 := Tryz.func93.trans (congrArg some (by kernel_rfl))
 f306 := Tryz.func94.trans (congrArg some (by kernel_rfl))
 f307 := Tryz.func95.trans (congrArg some (by kernel_rfl))
 f308 := Tryz.func96.trans (congrArg some (by kernel_rfl))
 f309 := Tryz.func97.trans (congrArg some (by kernel_rfl))
 f310 := Tryz.func98.trans (congrArg some (by kernel_rfl))
 f329 := Tryz.func114.trans (congrArg some (by kernel_rfl))
 f330 := Tryz.func115.trans (congrArg some (by kernel_rfl))
 f333 := Tryz.func113.trans (congrArg some (by kernel_rfl))
 f334 := Tryz.func116.trans (congrArg some (by kernel_rfl))
 f335 := Tryz.func117.trans (congrArg some (by kernel_rfl))
 f336 := Tryz.func118.trans (congrArg some (by kernel_rfl))
 f344 := Tryz.func126.trans (congrArg some (by kernel_rfl))
 t0 := Tryz.underlying0
 a0 := Tryz.isAgg0
 z0 := Tryz.sizeOf0
 v0 := Tryz.zeroValue0
 t3 := Tryz.underlying3
 a3 := Tryz.isAgg3
 z3 := Tryz.sizeOf3
 v3 := Tryz.zeroValue3
 t4 := Tryz.underlying4
 a4 := Tryz.isAgg4
 z4 := Tryz.sizeOf4
 v4 := Tryz.zeroValue4
 t5 := Tryz.underlying5
 a5 := Tryz.isAgg5
 z5 := Tryz.sizeOf5
 v5 := Tryz.zeroValue5
 t9 := Tryz.underlying9
 a9 := Tryz.isAgg9
 z9 := Tryz.sizeOf9
 v9 := Tryz.zeroValue9
 t31 := Tryz.underlying35
 a31 := Tryz.isAgg35
 z31 := Tryz.sizeOf35
 v31 := Tryz.zeroValue35
 t46 := Tryz.underlying108
 a46 := Tryz.isAgg108
 z46 := Tryz.sizeOf108
 v46 := Tryz.zeroValue108
 t51 := Tryz.underlying106
 a51 := Tryz.isAgg106
 z51 := Tryz.sizeOf106
 v51 := Tryz.zeroValue106
 t53 := Tryz.underlying89
 a53 := Tryz.isAgg89
 z53 := Tryz.sizeOf89
 v53 := Tryz.zeroValue89
 t131 := Tryz.underlying96
 a131 := Tryz.isAgg96
 z131 := Tryz.sizeOf96
 v131 := Tryz.zeroValue96
 t182 := Tryz.underlying127
 a182 := Tryz.isAgg127
 z182 := Tryz.sizeOf127
 v182 := Tryz.zeroValue127
 t183 := Tryz.underlying128
 a183 := Tryz.isAgg128
 z183 := Tryz.sizeOf128
 v183 := Tryz.zeroValue128
 t218 := Tryz.underlying149
 a218 := Tryz.isAgg149
 z218 := Tryz.sizeOf149
 v218 := Tryz.zeroValue149
 t222 := Tryz.underlying152
 a222 := Tryz.isAgg152
 z222 := Tryz.sizeOf152
 v222 := Tryz.zeroValue152
 t228 := Tryz.underlying164
 a228 := Tryz.isAgg164
 z228 := Tryz.sizeOf164
 v228 := Tryz.zeroValue164
 t229 := Tryz.underlying165
 a229 := Tryz.isAgg165
 z229 := Tryz.sizeOf165
 v229 := Tryz.zeroValue165 }
open Go.Sort Go.RowKit in
theorem Tryz.slices_Sort_string (blk off cap : Nat) (ss : List (List UInt8)) (w : World) (hH : Holds encStr w blk off ss.toArray) (hblk : blk < w.heap.size) (hsz : ss.length < 4611686018427387904) :
  Calls Tryz.prog 38 #[.slice (some ⟨blk, off, none⟩) ss.length cap] w fun e w' =>
   e = .returned (.tuple #[]) ∧ ∃ n os, w' = grow (putRow encStr (Sort.ahead w n) blk off (ss.mergeSort fun x y => decide (x ≤ y)).toArray) os := Any.slices_Sort_string Tryz.lays190 blk off cap ss w hH hblk hsz
def Tryz.lays194_ren : Go.Shelf.Ren := ⟨fun | 194 => 39 | n => n, fun | 31 => 35 | 9 => 9 | 3 => 3 | 4 => 4 | 0 => 0 | n => n, fun | n => n⟩
theorem Tryz.lays194 : Go.Proofs.Lays.n194 Tryz.prog Tryz.lays194_ren := {
 mixed := by kernel_rfl
 f194 := Tryz.func39.trans (congrArg some (by kernel_rfl))
 t0 := Tryz.underlying0
 a0 := Tryz.isAgg0
 z0 := Tryz.sizeOf0
 v0 := Tryz.zeroValue0
 t3 := Tryz.underlying3
 a3 := Tryz.isAgg3
 z3 := Tryz.sizeOf3
 v3 := Tryz.zeroValue3
 t4 := Tryz.underlying4
 a4 := Tryz.isAgg4
 z4 := Tryz.sizeOf4
 v4 := Tryz.zeroValue4
 t9 := Tryz.underlying9
 a9 := Tryz.isAgg9
 z9 := Tryz.sizeOf9
 v9 := Tryz.zeroValue9
 t31 := Tryz.underlying35
 a31 := Tryz.isAgg35
 z31 := Tryz.sizeOf35
 v31 := Tryz.zeroValue35 }
open Go.RowKit Go.Lib Go.Sort in
theorem Tryz.slices_Compact_string (blk off cap : Nat) (zs : List (List UInt8)) (w : World) (hH : Holds encStr w blk off zs.toArray) (hsz : zs.length ≤ 9223372036854775807) (hcap : zs.length ≤ cap) :
  Calls Tryz.prog 39 #[.slice (some ⟨blk, off, none⟩) zs.length cap] w fun e w' => e = .returned (.slice (some ⟨blk, off, none⟩) (Lib.compact zs).length cap) ∧ ∃ q, w' = putRow encStr (Sort.ahead w q) blk off (Lib.compact zs ++ List.replicate (zs.length - (Lib.compact zs).length) []).toArray := Any.slices_Compact_string Tryz.lays194 blk off cap zs w hH hsz hcap
open Go.RowKit Go.Sort in
theorem Tryz.slices_Sort_string_none (p : Option Addr) (cap : Nat) (w : World) :
  Calls Tryz.prog 38 #[.slice p 0 cap] w fun e w' => e = .returned (.tuple #[]) ∧ w' = w := Any.slices_Sort_string_none Tryz.lays190 p cap w
def Tryz.keys59_ren : Go.Shelf.Ren := ⟨fun | 7 => 59 | 10 => 84 | n => n, fun | 23 => 79 | 26 => 9 | 3 => 3 | 28 => 94 | 0 => 0 | 27 => 93 | 33 => 119 | 4 => 4 | n => n, fun | n => n⟩
theorem Tryz.keys59 : Go.Proofs.SlLaysZ.n7 Tryz.prog Tryz.keys59_ren := {
 mixed := by kernel_rfl
 f7 := ⟨Tryz.f59.name, by decide, Tryz.func59.trans (congrArg some (by kernel_rfl))⟩
 f10 := ⟨Tryz.f84.name, by decide, Tryz.func84.trans (congrArg some (by kernel_rfl))⟩
 t0 := Tryz.underlying0
 a0 := Tryz.isAgg0
 z0 := Tryz.sizeOf0
 v0 := Tryz.zeroValue0
 t4 := Tryz.underlying4
 a4 := Tryz.isAgg4
 z4 := Tryz.sizeOf4
 v4 := Tryz.zeroValue4
 t23 := Tryz.underlying79
 a23 := Tryz.isAgg79
 z23 := Tryz.sizeOf79
 v23 := Tryz.zeroValue79
 t26 := Tryz.underlying9
 a26 := Tryz.isAgg9
 z26 := Tryz.sizeOf9
 v26 := Tryz.zeroValue9
 t27 := Tryz.underlying93
 a27 := Tryz.isAgg93
 z27 := Tryz.sizeOf93
 v27 := Tryz.zeroValue93
 t28 := Tryz.underlying94
 a28 := Tryz.isAgg94
 z28 := Tryz.sizeOf94
 v28 := Tryz.zeroValue94
 t33 := Tryz.underlying119
 a33 := Tryz.isAgg119
 z33 := Tryz.sizeOf119
 v33 := Tryz.zeroValue119 }
def Tryz.sorted58_ren : Go.Shelf.Ren := ⟨fun | 6 => 58 | 8 => 83 | 9 => 38 | 11 => 108 | 13 => 75 | 12 => 74 | 23 => 99 | 24 => 100 | 14 => 90 | 15 => 91 | 16 => 92 | 17 => 93 | 18 => 94 | 19 => 95 | 20 => 96 | 21 => 97 | 22 => 98 | 25 => 113 | 26 => 114 | 27 => 115 | 28 => 116 | 29 => 117 | 30 => 118 | 31 => 126 | n => n, fun | 26 => 9 | 28 => 94 | 24 => 35 | 0 => 0 | 3 => 3 | 37 => 108 | 48 => 106 | 50 => 89 | 4 => 4 | 40 => 128 | 39 => 127 | 45 => 96 | 5 => 5 | 9 => 9 | 51 => 149 | 55 => 152 | 57 => 164 | 58 => 165 | 33 => 119 | n => n, fun | n => n⟩
theorem Tryz.sorted58 : Go.Proofs.SlLaysZ.n6 Tryz.prog Tryz.sorted58_ren := {
 mixed := by kernel_rfl
 f6 := ⟨Tryz.f58.name, by decide, Tryz.func58.trans (congrArg some (by kernel_rfl))⟩
 f8 := ⟨Tryz.f83.name, by decide, Tryz.func83.trans (congrArg some (by kernel_rfl))⟩
 f11 := ⟨Tryz.f108.name, by decide, Tryz.func108.trans (congrArg some (by kernel_rfl))⟩
 t0 := Tryz.underlying0
 a0 := Tryz.isAgg0
 z0 := Tryz.sizeOf0
 v0 := Tryz.zeroValue0
 t24 := Tryz.underlying35
 a24 := Tryz.isAgg35
 z24 := Tryz.sizeOf35
 v24 := Tryz.zeroValue35
 t26 := Tryz.underlying9
 a26 := Tryz.isAgg9
 z26 := Tryz.sizeOf9
 v26 := Tryz.zeroValue9
 t28 := Tryz.underlying94
 a28 := Tryz.isAgg94
 z28 := Tryz.sizeOf94
 v28 := Tryz.zeroValue94
 i26 := by kernel_rfl }
def Tryz.sort38_ren : Go.Shelf.Ren := ⟨fun | 6 => 38 | 8 => 75 | 9 => 74 | 19 => 99 | 20 => 100 | 21 => 90 | 22 => 91 | 23 => 92 | 24 => 93 | 25 => 94 | 26 => 95 | 27 => 96 | 28 => 97 | 29 => 98 | 36 => 113 | 31 => 114 | 32 => 115 | 37 => 116 | 38 => 117 | 39 => 118 | 41 => 126 | n => n, fun | 27 => 35 | 29 => 9 | 3 => 3 | 32 => 108 | 26 => 35 | 0 => 0 | 44 => 106 | 46 => 89 | 4 => 4 | 36 => 128 | 35 => 127 | 41 => 96 | 5 => 5 | 9 => 9 | 53 => 149 | 57 => 152 | 63 => 164 | 64 => 165 | n => n, fun | n => n⟩
theorem Tryz.sort38 : Go.Proofs.SlLaysM.n6 Tryz.prog Tryz.sort38_ren := {
 mixed := by kernel_rfl
 f6 := ⟨Tryz.f38.name, by decide, Tryz.func38.trans (congrArg some (by kernel_rfl))⟩
 f8 := Tryz.func75.trans (congrArg some (by kernel_rfl))
 f9 := ⟨Tryz.f74.name, by decide, Tryz.func74.trans (congrArg some (by kernel_rfl))⟩
 f19 := Tryz.func99.trans (congrArg some (by kernel_rfl))
 f20 := Tryz.func100.trans (congrArg some (by kernel_rfl))
 f21 := ⟨Tryz.f90.name, by decide, Tryz.func90.trans (congrArg some (by kernel_rfl))⟩
 f22 := ⟨Tryz.f91.name, by decide, Tryz.func91.trans (congrArg some (by kernel_rfl))⟩
 f23 := ⟨Tryz.f92.name, by decide, Tryz.func92.trans (congrArg some (by kernel_rfl))⟩
 f24 := ⟨Tryz.f93.name, by decide, Tryz.func93.trans (congrArg some (by kernel_rfl))⟩
 f25 := ⟨Tryz.f94.name, by decide, Tryz.func94.trans (congrArg some (by kernel_rfl))⟩
 f26 := ⟨Tryz.f95.name, by decide, Tryz.func95.trans (congrArg some (by kernel_rfl))⟩
 f27 := ⟨Tryz.f96.name, by decide, Tryz.func96.trans (congrArg some (by kernel_rfl))⟩
 f28 := ⟨Tryz.f97.name, by decide, Tryz.func97.trans (congrArg some (by kernel_rfl))⟩
 f29 := ⟨Tryz.f98.name, by decide, Tryz.func98.trans (congrArg some (by kernel_rfl))⟩
 f31 := Tryz.func114.trans (congrArg some (by kernel_rfl))
 f32 := Tryz.func115.trans (congrArg some (by kernel_rfl))
 f36 := ⟨Tryz.f113.name, by decide, Tryz.func113.trans (congrArg some (by kernel_rfl))⟩
 f37 := ⟨Tryz.f116.name, by decide, Tryz.func116.trans (congrArg some (by kernel_rfl))⟩
 f38 := ⟨Tryz.f117.name, by decide, Tryz.func117.trans (congrArg some (by kernel_rfl))⟩
 f39 := ⟨Tryz.f118.name, by decide, Tryz.func118.trans (congrArg some (by kernel_rfl))⟩
 f41 := ⟨Tryz.f126.name, by decide, Tryz.func126.trans (congrArg some (by kernel_rfl))⟩
 t0 := Tryz.underlying0
 a0 := Tryz.isAgg0
 z0 := Tryz.sizeOf0
 v0 := Tryz.zeroValue0
 t3 := Tryz.underlying3
 a3 := Tryz.isAgg3
 z3 := Tryz.sizeOf3
 v3 := Tryz.zeroValue3
 t4 := Tryz.underlying4
 a4 := Tryz.isAgg4
 z4 := Tryz.sizeOf4
 v4 := Tryz.zeroValue4
 t5 := Tryz.underlying5
 a5 := Tryz.isAgg5
 z5 := Tryz.sizeOf5
 v5 := Tryz.zeroValue5
 t9 := Tryz.underlying9
 a9 := Tryz.isAgg9
 z9 := Tryz.sizeOf9
 v9 := Tryz.zeroValue9
 t26 := Tryz.underlying35
 a26 := Tryz.isAgg35
 z26 := Tryz.sizeOf35
 v26 := Tryz.zeroValue35
 t27 := Tryz.underlying35
 a27 := Tryz.isAgg35
 z27 := Tryz.sizeOf35
 v27 := Tryz.zeroValue35
 t29 := Tryz.underlying9
 a29 := Tryz.isAgg9
 z29 := Tryz.sizeOf9
 v29 := Tryz.zeroValue9
 t32 := Tryz.underlying108
 a32 := Tryz.isAgg108
 z32 := Tryz.sizeOf108
 v32 := Tryz.zeroValue108
 t35 := Tryz.underlying127
 a35 := Tryz.isAgg127
 z35 := Tryz.sizeOf127
 v35 := Tryz.zeroValue127
 t36 := Tryz.underlying128
 a36 := Tryz.isAgg128
 z36 := Tryz.sizeOf128
 v36 := Tryz.zeroValue128
 t41 := Tryz.underlying96
 a41 := Tryz.isAgg96
 z41 := Tryz.sizeOf96
 v41 := Tryz.zeroValue96
 t44 := Tryz.underlying106
 a44 := Tryz.isAgg106
 z44 := Tryz.sizeOf106
 v44 := Tryz.zeroValue106
 t46 := Tryz.underlying89
 a46 := Tryz.isAgg89
 z46 := Tryz.sizeOf89
 v46 := Tryz.zeroValue89
 t53 := Tryz.underlying149
 a53 := Tryz.isAgg149
 z53 := Tryz.sizeOf149
 v53 := Tryz.zeroValue149
 t57 := Tryz.underlying152
 a57 := Tryz.isAgg152
 z57 := Tryz.sizeOf152
 v57 := Tryz.zeroValue152
 t63 := Tryz.underlying164
 a63 := Tryz.isAgg164
 z63 := Tryz.sizeOf164
 v63 := Tryz.zeroValue164
 t64 := Tryz.underlying165
 a64 := Tryz.isAgg165
 z64 := Tryz.sizeOf165
 v64 := Tryz.zeroValue165 }
def Tryz.clone54_ren : Go.Shelf.Ren := ⟨fun | 5 => 54 | 7 => 82 | n => n, fun | 23 => 79 | 25 => 9 | 3 => 3 | 4 => 4 | 20 => 20 | n => n, fun | n => n⟩
theorem Tryz.clone54 : Go.Proofs.SlLaysW.n5 Tryz.prog Tryz.clone54_ren := {
 mixed := by kernel_rfl
 f5 := ⟨Tryz.f54.name, by decide, Tryz.func54.trans (congrArg some (by kernel_rfl))⟩
 f7 := Tryz.func82.trans (congrArg some (by kernel_rfl))
 t4 := Tryz.underlying4
 a4 := Tryz.isAgg4
 z4 := Tryz.sizeOf4
 v4 := Tryz.zeroValue4
 t20 := Tryz.underlying20
 a20 := Tryz.isAgg20
 z20 := Tryz.sizeOf20
 v20 := Tryz.zeroValue20
 t23 := Tryz.underlying79
 a23 := Tryz.isAgg79
 z23 := Tryz.sizeOf79
 v23 := Tryz.zeroValue79 }
end Go.Proofs
namespace Go.Proofs.YtkhemhiifhggmaaGreatDoor
open Go.RowKit Go.Maps
theorem clone_any {H : Type} (w : World) (b n : Nat) (D : DataW H) (h : w.ownsMap Tryz.prog 9 (plainElem Tryz.prog 3) b n D) : Calls Tryz.prog 54 #[.map (some b)] w fun e w' => e = .returned (.map (some w.heap.size)) ∧ w'.ownsMap Tryz.prog 9 (plainElem Tryz.prog 3) w.heap.size n D ∧ Below w.heap.size w w' :=
 (AnyW.maps_Clone_owns Tryz.clone54 9 (plainElem Tryz.prog 3) b n D w h).mono fun e w' hh => by
  obtain ⟨h1, h2, _, h4⟩ := hh
  exact ⟨h1, h2, h4⟩
def NewFoot {H : Type} (w : World) (F : Foot) (D : DS H) (w' : World) : Prop := ∃ F' : Foot, F'.p = F.p ∧ (F'.fb = F.fb ∨ w.heap.size ≤ F'.fb) ∧ (F'.nb = F.nb ∨ w.heap.size ≤ F'.nb) ∧ (F'.kb = F.kb ∨ w.heap.size ≤ F'.kb) ∧ DiskAt w' F' D
theorem NewFoot.same {H : Type} {w w' : World} {F : Foot} {D : DS H} (h : DiskAt w' F D) : NewFoot w F D w' := ⟨F, rfl, .inl rfl, .inl rfl, .inl rfl, h⟩
def DS.syncDir {H : Type} (D : DS H) : DS H × Int :=
 if D.down = true then (D, 15) else if D.step.2 ≠ 0 then D.step else ({ D.step.1 with kept := D.names }, 0)
theorem syncDir_any {H : Type} (w : World) (F : Foot) (D : DS H) (h : DiskAt w F D) (hf : D.fits) :
  Calls Tryz.prog 28 #[.pointer (some ⟨F.p, 0, none⟩)] w fun e w' => e = .returned (.int .i64 D.syncDir.2) ∧ NewFoot w F D.syncDir.1 w' ∧ Fr F w w' := by
 obtain ⟨a0, a1, s0, s1, l0, l1, cp⟩ := hf
 have HM := Lib.hid (may_any w F D none 0 0 0 [] h Sl.empty (Nat.zero_le _) (by omega))
 have HST := Lib.hid (fun (w' : World) (h' : DiskAt w' F D) => step_any w' F D h' ⟨a0, a1⟩ ⟨s0, by omega⟩)
 have HD := Lib.hid h
 cases hd : D.down with
 |
  true =>
  have e1 : mayE [] D.down = 15 := by rw [hd]; rfl
  rw [e1] at HM
  have hcr : Hid (D.syncDir = (D, 15)) := by
   show _ = _
   unfold DS.syncDir
   rw [if_pos hd]
  clear e1 hd h
  go_enter Tryz.func28, Tryz.ntmps28
  go_wp2_with fail
  refine HM.out.mono ?_
  rintro e w1 ⟨rfl, hb1⟩
  go_wp2_with fail
  go_ret
  exact ⟨by rw [hcr.out]; rfl, by rw [hcr.out]; exact NewFoot.same (HD.out.below hb1), Fr.of_below hb1⟩
 |
  false =>
  have e1 : mayE [] D.down = 0 := by rw [hd]; rfl
  rw [e1] at HM
  by_cases ht : D.step.2 = 0
  ·have hcr : Hid (D.syncDir = ({ D.step.1 with kept := D.names }, 0)) := by
    show _ = _
    unfold DS.syncDir
    rw [if_neg (by rw [hd]; simp), if_neg (by rw [ht]; simp)]
   have hd1 : D.step.1.names = D.names := by
    unfold DS.step
    split <;> rfl
   obtain ⟨D1, hD1⟩ : ∃ D1, D.step.1 = D1 := ⟨_, rfl⟩
   rw [hD1] at hd1 hcr
   rw [ht, hD1] at HST
   have HE := Lib.hid hd1
   clear e1 hd h ht hD1 hd1
   go_enter Tryz.func28, Tryz.ntmps28
   go_wp2_with fail
   refine HM.out.mono ?_
   rintro e w1 ⟨rfl, hb1⟩
   have HB1 := Lib.hid hb1
   clear hb1
   go_wp2_with fail
   refine (HST.out _ (HD.out.below HB1.out)).mono ?_
   rintro e w2 ⟨rfl, hd2, hf2⟩
   obtain ⟨_, c1, _⟩ := hd2.cells
   obtain ⟨n2, ln2, f2⟩ := hd2.nam
   have HC := Lib.hid (clone_any w2 F.nb n2 D1.names f2)
   have HD2 := Lib.hid hd2
   have HR2 := Lib.hid hf2
   have HL2 := Lib.hid ln2
   clear hd2 f2 hf2 ln2
   go_wp2_with fail
   refine HC.out.mono ?_
   rintro e w3 ⟨rfl, ho3, hb3⟩
   have hd3 := HD2.out.below hb3
   have r2 := hd3.free 2
   obtain ⟨_, _, c2, _⟩ := hd3.cells
   have HO3 := Lib.hid ho3
   have HB3 := Lib.hid hb3
   have HD3 := Lib.hid hd3
   clear ho3 hb3 hd3 c1
   go_wp2_with fail
   go_ret
   have hz1 := HB1.out.size
   have hz2 := HR2.out.size
   refine ⟨by rw [hcr.out]; rfl, ?_, (((Fr.of_below HB1.out).trans HR2.out).trans (Fr.of_below HB3.out)).set 2 _⟩
   rw [hcr.out]
   refine ⟨{ F with kb := w2.heap.size }, rfl, .inl rfl, .inl rfl, .inr (by show w.heap.size ≤ w2.heap.size; omega), ?_⟩
   obtain ⟨blk, ⟨m1, k1, g1⟩, ⟨m2, k2, g2⟩, _, ap1, _, _⟩ := HD3.out
   have l1 := (Array.getElem?_eq_some_iff.1 HD2.out.blk).1
   have lf : F.fb < w2.heap.size := by
    obtain ⟨_, ⟨_, _, es, clock, hh, _⟩, _⟩ := HD2.out
    exact (Array.getElem?_eq_some_iff.1 hh).1
   have ln : F.nb < w2.heap.size := by
    obtain ⟨_, _, ⟨_, _, es, clock, hh, _⟩, _⟩ := HD2.out
    exact (Array.getElem?_eq_some_iff.1 hh).1
   refine ⟨by rw [blk_set blk]; rfl, ⟨m1, k1, g1.setCell (map_ne_cells g1 blk) _⟩, ⟨m2, k2, g2.setCell (map_ne_cells g2 blk) _⟩, ⟨n2, HL2.out, ?_⟩, ap1, ?_, ?_⟩
   ·show World.ownsMap _ _ _ _ w2.heap.size n2 D.names
    rw [← HE.out]
    exact HO3.out.setCell (map_ne_cells HO3.out blk) _
   ·show F.fb ≠ w2.heap.size; omega
   ·show F.nb ≠ w2.heap.size; omega
  ·have hcr : Hid (D.syncDir = D.step) := by
    show _ = _
    unfold DS.syncDir
    rw [if_neg (by rw [hd]; simp), if_pos ht]
   obtain ⟨t, htt⟩ : ∃ t, D.step.2 = t := ⟨_, rfl⟩
   rw [htt] at ht HST
   have q1 : (t == 0) = false := by simpa using ht
   have q2 : (t != 0) = true := by simpa using ht
   have HT := Lib.hid htt
   clear e1 hd h ht htt
   go_enter Tryz.func28, Tryz.ntmps28
   go_wp2_with fail
   refine HM.out.mono ?_
   rintro e w1 ⟨rfl, hb1⟩
   have HB1 := Lib.hid hb1
   clear hb1
   go_wp2_with fail
   refine (HST.out _ (HD.out.below HB1.out)).mono ?_
   rintro e w2 ⟨rfl, hd2, hf2⟩
   have HD2 := Lib.hid hd2
   clear hd2
   go_wp2_with fail
   go_ret
   exact ⟨by rw [hcr.out, HT.out]; rfl, by rw [hcr.out]; exact NewFoot.same HD2.out, (Fr.of_below HB1.out).trans hf2⟩
end Go.Proofs.YtkhemhiifhggmaaGreatDoor
namespace Go.Proofs
open Go.RowKit Go.Maps Go.Sort Go.Shelf
theorem Tryz.sortsOf (m : Nat) : AnyZ.SortsIn Tryz.prog Tryz.sorted58_ren Fence.wide m :=
 ⟨fun blk off cap ss W hH hblk hsz => callsIn_wide.2 (AnyM.slices_Sort_string Tryz.sort38 blk off cap ss W hH hblk hsz),
  fun p cap W => callsIn_wide.2 (AnyM.slices_Sort_string_none Tryz.sort38 p cap W)⟩
theorem Tryz.maps_Keys_of (mb : Option Nat) (W : World) : CallsIn Fence.wide 5 Tryz.prog 59 #[.map mb] W fun e w' => e = .returned (.func (.func 84) #[] #[.pointer (some ⟨W.heap.size, 0, none⟩)]) ∧ w' = W.alloc (.cells #[.map mb] 79) :=
 AnyZ.keys_in Tryz.keys59 Fence.wide 5 trivial rfl mb W
theorem Tryz.slices_Sorted_keys_of {H : Type} (b nn : Nat) (D0 : DataW H) (R : Value → Option (DataW H × List MemPlace)) (w : World) (hown : w.ownsMap Tryz.prog 9 R b nn D0) (hmax : Maps.size D0 ≤ maxLen) (hbytes : Maps.size D0 * 16 ≤ 140737488355328) :
  CallsIn Fence.wide 5 Tryz.prog 58 #[.func (.func 84) #[] #[.pointer (some ⟨w.heap.size, 0, none⟩)]] (w.alloc (.cells #[.map (some b)] 79)) fun e w' => ∃ (v : Value) (ss : List (List UInt8)), e = .returned v ∧ ss.Perm (strKeys D0) ∧
   w'.ownsRow (w.alloc (.cells #[.map (some b)] 79)).heap.size 9 1 v ss.length ((ss.mergeSort (fun x y => decide (x ≤ y))).map encStr) ∧ (v = .slice none 0 0 ↔ ss = []) ∧ Below (w.alloc (.cells #[.map (some b)] 79)).heap.size (w.alloc (.cells #[.map (some b)] 79)) w' := by
 have hbl := hown.lt
 have hseq : SeqGives Fence.wide 2 Tryz.prog 84 #[.pointer (some ⟨w.heap.size, 0, none⟩)] encStr (fun ss => ss.Perm (strKeys D0)) (Maps.size D0) (w.alloc (.cells #[.map (some b)] 79)) :=
  AnyZ.keys_gives (ρ := Tryz.keys59_ren) { Tryz.keys59 with } Fence.wide _ trivial rfl (by omega) w.heap.size b nn D0 _ (by simp) (by simp) (by
   obtain ⟨es, clock, hb, Ft, hs, hD⟩ := hown
   exact ⟨es, clock, (Below.heap_alloc _ _ b hbl).trans hb, Ft, hs, hD⟩)
 exact AnyZ.sorted_in Tryz.sorted58 Fence.wide 5 trivial trivial trivial trivial rfl (by omega) (Tryz.sortsOf _) (enters_of Tryz.func38 (by kernel_rfl) rfl) 84 #[.pointer (some ⟨w.heap.size, 0, none⟩)] trivial (enters_of Tryz.func84 (by kernel_rfl) rfl) _ _ hmax hbytes _ hseq
end Go.Proofs
namespace Go.Proofs.YtkhemhiifhggmaaGreatDoor
open Go.RowKit Go.Maps Go.Sort Go.Shelf
theorem keys_any (mb : Option Nat) (W : World) : Calls Tryz.prog 59 #[.map mb] W fun e w' => e = .returned (.func (.func 84) #[] #[.pointer (some ⟨W.heap.size, 0, none⟩)]) ∧ w' = W.alloc (.cells #[.map mb] 79) :=
 callsIn_wide.1 (Tryz.maps_Keys_of mb W)
def ListOf {H : Type} (w : World) (N : DataW H) (e : Ending) (w' : World) : Prop := ∃ (v : Value) (ss : List (List UInt8)), e = .returned v ∧ ss.Perm (strKeys N) ∧ w'.ownsRow w.heap.size 9 1 v ss.length ((ss.mergeSort (fun x y => decide (x ≤ y))).map encStr) ∧ Below w.heap.size w w'
theorem sorted_any {H : Type} (b nn : Nat) (D0 : DataW H) (R : Value → Option (DataW H × List MemPlace)) (w : World) (hown : w.ownsMap Tryz.prog 9 R b nn D0) (hn : nn ≤ 4398046511104) :
  Calls Tryz.prog 58 #[.func (.func 84) #[] #[.pointer (some ⟨w.heap.size, 0, none⟩)]] (w.alloc (.cells #[.map (some b)] 79)) (ListOf w D0) := by
 have hs := hown.size_le
 refine (callsIn_wide.1 (Tryz.slices_Sorted_keys_of b nn D0 R w hown (by unfold maxLen; omega) (by omega))).mono ?_
 rintro e w' ⟨v, ss, rfl, h1, h2, _, h4⟩
 exact ⟨v, ss, rfl, h1, h2.mono (by simp), (bnew (brefl w) _).trans (h4.mono (by simp))⟩
theorem list_any {H : Type} (w : World) (F : Foot) (D : DS H) (h : DiskAt w F D) (hf : D.fits) (hd : D.down = false) : Calls Tryz.prog 29 #[.pointer (some ⟨F.p, 0, none⟩)] w (ListOf w D.names) := by
 obtain ⟨_, c1, _, _, _, _, _, c7⟩ := h.cells
 rw [hd] at c7
 obtain ⟨n, ln, f⟩ := h.nam
 have HS := Lib.hid (sorted_any F.nb n D.names _ w f (by have := hf.c1; omega))
 clear h f hf hd
 go_enter Tryz.func29, Tryz.ntmps29
 go_wp2_with fail
 refine (keys_any _ _).mono ?_
 rintro e w1 ⟨rfl, rfl⟩
 go_wp2_with fail
 refine HS.out.mono ?_
 rintro e w2 ⟨v, ss, rfl, h1, h2, h3⟩
 go_wp2_with fail
 go_ret
 exact ⟨v, ss, rfl, h1, h2, h3⟩
end Go.Proofs.YtkhemhiifhggmaaGreatDoor
namespace Go.Proofs.YtkhemhiifhggmaaGreatDoor
open Go.RowKit Go.Maps
def mixA (loss n : Int) : Int := IntKind.u64.wrap (loss + IntKind.u64.wrap (n * 11400714819323198485))
def mixB (x : Int) : Int := IntKind.u64.wrap (bits BinOp.xor IntKind.u64 x (x / 1073741824) * 13787848793156543929)
def mixC (x : Int) : Int := IntKind.u64.wrap (bits BinOp.xor IntKind.u64 x (x / 134217728) * 10723151780598845931)
def mixD (x : Int) : Int := bits BinOp.xor IntKind.u64 x (x / 2147483648)
def mixU (loss n : Int) : Int := mixD (mixC (mixB (mixA loss n)))
def mixV (loss n : Int) : Int := mixU (IntKind.u64.wrap loss) n
end Go.Proofs.YtkhemhiifhggmaaGreatDoor
namespace Go.Proofs.YtkhemhiifhggmaaGreatDoor
open Go.RowKit Go.Maps
theorem tolist_inj {s t : ByteArray} : s.toList = t.toList ↔ s = t := by
 constructor
 ·intro h
  have h' : s.data.toList = t.data.toList := by rw [← ByteArray.toList_eq s, ← ByteArray.toList_eq t]; exact h
  have : s.data = t.data := Array.ext' h'
  cases s; cases t; simp_all
 ·rintro rfl; rfl
theorem take_all_eq {α : Type} {xs ys : List α} (hl : xs.length = ys.length) {k : Nat} (hk : k = xs.length) (h : xs.take k = ys.take k) : xs = ys := by
 subst hk
 rwa [List.take_length, hl, List.take_length] at h
theorem same_any (w : World) (B : Nat) (A A' : Option Addr) (n n' c c' : Nat) (xs ys : List ByteArray) (hx : Sl w B 1 A n (xs.map .string)) (hy : Sl w B 1 A' n' (ys.map .string)) (hB : B ≤ w.heap.size) (hn : n ≤ maxLen) (hn' : n' ≤ maxLen) :
  Calls Tryz.prog 14 #[.slice A n c, .slice A' n' c'] w fun e w' => e = .returned (.bool (decide (xs = ys))) ∧ Below w.heap.size w w' := by
 have hlx : xs.length = n := by have := hx.1; simpa using this
 have hly : ys.length = n' := by have := hy.1; simpa using this
 unfold maxLen at hn hn'
 by_cases hnn : n = n'
 ·subst hnn
  have HX := Lib.hid hx
  have HY := Lib.hid hy
  have HLX := Lib.hid hlx
  have HLY := Lib.hid hly
  clear hx hy hlx hly hn'
  go_enter Tryz.func14, Tryz.ntmps14
  go_wp2_with fail
  go_loopw [5] (fun i wr => ∃ k : Nat, k ≤ n ∧ i = .int .i64 k ∧ Below w.heap.size w wr ∧ Hid (xs.take k = ys.take k)) (fun i _ => n - (intOf i).toNat)
  case atStart => exact ⟨0, Nat.zero_le _, rfl, brefl w, rfl⟩
  case round =>
   obtain ⟨k, hk, rfl, hb, hall⟩ := hrel
   have HB := Lib.hid hb
   by_cases hlt : k < n
   ·obtain ⟨b, off, rfl, hbB, hcell⟩ := HX.out.at_ hlt
    obtain ⟨b', off', rfl, hbB', hcell'⟩ := HY.out.at_ hlt
    obtain ⟨s, hks⟩ : ∃ s, xs[k]? = some s := ⟨xs[k]'(by rw [HLX.out]; exact hlt), List.getElem?_eq_getElem _⟩
    obtain ⟨t, hkt⟩ : ∃ t, ys[k]? = some t := ⟨ys[k]'(by rw [HLY.out]; exact hlt), List.getElem?_eq_getElem _⟩
    have hc : wr.cell? ⟨b, off + k, none⟩ = some (.string s) := (hb.cell (p := ⟨b, off + k, none⟩) (by show b < _; omega)).trans (hcell k _ (by simp [hks]))
    have hc' : wr.cell? ⟨b', off' + k, none⟩ = some (.string t) := (hb.cell (p := ⟨b', off' + k, none⟩) (by show b' < _; omega)).trans (hcell' k _ (by simp [hkt]))
    have HK := Lib.hid hks
    have HT := Lib.hid hkt
    have HBd : Hid (Below w.heap.size w wr.drew) := ⟨hb.os, hb.tape, hb.output, hb.size, hb.block⟩
    clear hcell hcell' hb hks hkt
    by_cases hst : s = t
    ·subst hst
     have hne : (s.toList == s.toList) = true := by simp
     go_wp2_with fail
     try go_region
     all_goals
      go_wp2_with fail
      go_roundw
      case rel => exact ⟨k + 1, by omega, by go_num, HBd.out, by
       show _ = _
       rw [List.take_add_one, List.take_add_one, hall.out, HK.out, HT.out]⟩
      case measure => simp [intOf]; omega
    ·have hne : (s.toList == t.toList) = false := by
      rw [beq_eq_false_iff_ne]; exact fun h => hst (tolist_inj.1 h)
     have hr : Hid (decide (xs = ys) = false) := by
      show _ = _
      rw [decide_eq_false_iff_not]
      rintro rfl
      have := HK.out.symm.trans HT.out
      exact hst (Option.some.inj this)
     clear hst
     go_wp2_with fail
     try go_region
     all_goals
      go_wp2_with fail
      go_ret
      exact ⟨ret_bool hr.out.symm, HBd.out⟩
   ·obtain rfl : k = n := by omega
    have hr : Hid (decide (xs = ys) = true) := by
     show _ = _
     rw [decide_eq_true_iff]
     exact take_all_eq (by rw [HLX.out, HLY.out]) HLX.out.symm hall.out
    clear hb
    go_wp2_with fail
    go_ret
    exact ⟨ret_bool hr.out.symm, HB.out⟩
 ·have hr : Hid (decide (xs = ys) = false) := by
   show _ = _
   rw [decide_eq_false_iff_not]
   rintro rfl
   exact hnn (by omega)
  have q : (((n : Nat) : Int) != ((n' : Nat) : Int)) = true := by simp; omega
  clear hx hy hlx hly hnn
  go_enter Tryz.func14, Tryz.ntmps14
  go_wp2_with fail
  go_ret
  exact ⟨ret_bool hr.out.symm, brefl w⟩
end Go.Proofs.YtkhemhiifhggmaaGreatDoor
namespace Go.Proofs.YtkhemhiifhggmaaGreatDoor
open Go.RowKit Go.Maps
theorem Fr.under {F : Foot} {a w w' : World} {B : Nat} (h : Fr F w w') (hb : Below B a w) (hB : B ≤ w.heap.size) (h1 : B ≤ F.p) (h2 : B ≤ F.fb) (h3 : B ≤ F.nb) (h4 : B ≤ F.kb) : Below B a w' :=
 hb.trans ⟨h.os, h.tape, h.output, h.size, fun k hk => h.block k (by omega) (by omega) (by omega) (by omega) (by omega)⟩
end Go.Proofs.YtkhemhiifhggmaaGreatDoor
namespace Go.Proofs.YtkhemhiifhggmaaGreatDoor
open Go.RowKit Go.Maps Go.Sort
def keysOf {H : Type} (N : DataW H) : List ByteArray := ((strKeys N).mergeSort leB).map bs
theorem strKeys_length {H : Type} (N : DataW H) : (strKeys N).length = Maps.size N := by
 cases N <;> simp [strKeys, Maps.size]
def r1 {H : Type} (K N : DataW H) (loss : Int) (st : Int × DataW H) (s : ByteArray) : Int × DataW H :=
 if numOf K s = numOf N s ∧ Maps.has K (keyS s) = Maps.has N (keyS s) then (st.1, if Maps.has K (keyS s) then st.2.put (keyS s) (.lit (.int .i64 (numOf K s))) else st.2)
 else if mixV loss (st.1 + 1) % 2 = 1 then (st.1 + 1, if Maps.has N (keyS s) then st.2.put (keyS s) (.lit (.int .i64 (numOf N s))) else st.2)
 else (st.1 + 1, if Maps.has K (keyS s) then st.2.put (keyS s) (.lit (.int .i64 (numOf K s))) else st.2)
def r2 {H : Type} (N F : DataW H) (loss : Int) (st : Int × DataW H) (s : ByteArray) : Int × DataW H :=
 if Maps.has st.2 (.int .i64 (numOf N s)) then st
 else if 0 < ((fileOf F (numOf N s)).1.length : Int) - (fileOf F (numOf N s)).2 then
  (st.1 + 1, st.2.put (.int .i64 (numOf N s)) (.agg [.lit (.string ((fileOf F (numOf N s)).1.take ((fileOf F (numOf N s)).2 + mixV loss (st.1 + 1) % (((fileOf F (numOf N s)).1.length : Int) - (fileOf F (numOf N s)).2 + 1)).toNat)), .lit (.int .i64 ((fileOf F (numOf N s)).2 + mixV loss (st.1 + 1) % (((fileOf F (numOf N s)).1.length : Int) - (fileOf F (numOf N s)).2 + 1)))]))
 else (st.1, st.2.put (.int .i64 (numOf N s)) (.agg [.lit (.string (fileOf F (numOf N s)).1), .lit (.int .i64 (fileOf F (numOf N s)).1.length)]))
def DS.all {H : Type} (D : DS H) : DataW H := Lib.mergeD D.kept D.names
theorem Fr.look {G : Foot} {w w' : World} (h : Fr G w w') {b : Nat} (o : Nat) (hb : b < w.heap.size) (h1 : b ≠ G.p) (h2 : b ≠ G.fb) (h3 : b ≠ G.nb) (h4 : b ≠ G.kb) : w'.cell? ⟨b, o, none⟩ = w.cell? ⟨b, o, none⟩ := by
 unfold World.cell?
 rw [h.block b hb h1 h2 h3 h4]
def Row (w : World) (A : Option Addr) (xs : List ByteArray) (p q : Nat) : Prop := 0 < xs.length → ∃ b off, A = some ⟨b, off, none⟩ ∧ b ≠ p ∧ b ≠ q ∧ b < w.heap.size ∧ ∀ j s, xs[j]? = some s → w.cell? ⟨b, off + j, none⟩ = some (.string s)
theorem Row.keep {w w' : World} {A : Option Addr} {xs : List ByteArray} {p q : Nat} (h : Row w A xs p q) (hf : Fr ⟨p, q, q, q⟩ w w') : Row w' A xs p q := fun hn => by
 obtain ⟨b, off, e, h1, h2, h3, h4⟩ := h hn
 exact ⟨b, off, e, h1, h2, Nat.lt_of_lt_of_le h3 hf.size, fun j s hj => (hf.look _ h3 h1 h2 h2 h2).trans (h4 j s hj)⟩
theorem bs_size (l : List UInt8) : (bs l).size = l.length := by
 show l.toArray.size = _
 rw [List.size_toArray]
structure Mid {H : Type} (w W : World) (ib nb : Nat) (kt : TypeId) (R : Value → Option (DataW H × List MemPlace)) (wr : World) (i : Int) (N : DataW H) (m : Nat) : Prop where
 below : Below w.heap.size w wr
 fr : Fr ⟨ib, nb, nb, nb⟩ W wr
 cnt : wr.heap[ib]? = some (.cells #[.int .i64 i] 3 (0, 0))
 own : wr.ownsMap Tryz.prog kt R nb m N
 hi : w.heap.size < ib
 hn : w.heap.size < nb
section
variable {H : Type} {w W wr w' : World} {ib nb : Nat} {kt : TypeId} {R : Value → Option (DataW H × List MemPlace)} {i : Int} {N N' : DataW H} {m m' : Nat}
theorem Mid.ne (h : Mid w W ib nb kt R wr i N m) : nb ≠ ib := map_ne_cells h.own h.cnt
theorem Mid.cell (h : Mid w W ib nb kt R wr i N m) : wr.cell? ⟨ib, 0, none⟩ = some (.int .i64 i) := cell_of_row _ ib 0 _ _ (0, 0) h.cnt
theorem Mid.free (h : Mid w W ib nb kt R wr i N m) : wr.frozen? ⟨ib, 0, none⟩ = false := by
 unfold World.frozen?
 rw [h.cnt]
 simp
theorem Mid.next (h : Mid w W ib nb kt R wr i N m) (j : Int) : Mid w W ib nb kt R (wr.setCell ⟨ib, 0, none⟩ (.int .i64 j)) j N m :=
 ⟨h.below.trans ⟨rfl, rfl, rfl, by simp [World.setCell], fun k hk => Below.heap_setCell _ _ _ _ (by have := h.hi; show k ≠ ib; omega)⟩, h.fr.set 0 _, by rw [blk_set h.cnt]; rfl, h.own.setCell h.ne _, h.hi, h.hn⟩
theorem Mid.put (h : Mid w W ib nb kt R wr i N m) (ho : w'.ownsMap Tryz.prog kt R nb m' N') (hg : wr.grownBy w' (some nb)) : Mid w W ib nb kt R w' i N' m' :=
 ⟨h.below.trans ⟨hg.os, hg.tape, hg.output, hg.size, fun k hk => hg.block k (by have := h.below.size; omega) (by have := h.hn; simp; omega)⟩, h.fr.grown hg (.inl rfl), by
  rw [hg.block ib (Array.getElem?_eq_some_iff.1 h.cnt).1 (by have := h.ne; simp; omega)]
  exact h.cnt, ho, h.hi, h.hn⟩
theorem Mid.drew (h : Mid w W ib nb kt R wr i N m) : Mid w W ib nb kt R wr.drew i N m :=
 ⟨⟨h.below.os, h.below.tape, h.below.output, h.below.size, h.below.block⟩, ⟨h.fr.os, h.fr.tape, h.fr.output, h.fr.size, h.fr.block⟩, h.cnt, h.own.drew, h.hi, h.hn⟩
theorem Mid.on (h : Mid w W ib nb kt R wr i N m) (hb : Below wr.heap.size wr w') : Mid w W ib nb kt R w' i N m :=
 ⟨bcall h.below hb, h.fr.trans (Fr.of_below hb), (hb.block ib (Array.getElem?_eq_some_iff.1 h.cnt).1).trans h.cnt, map_below h.own hb, h.hi, h.hn⟩
end
end Go.Proofs.YtkhemhiifhggmaaGreatDoor
