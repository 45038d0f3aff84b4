/- The library's contracts at this program: what the kit's lay-plain wrote, cut to those that are used. -/
import Derived.Shelf.Strings.Builder1
import Derived.Shelf.Strings.Builder2
import Derived.Shelf.Strings.OnBuilder
import Derived.Shelf.Utf8.RuneCount
import Derived.Shelf.Strconv.Atoi
import Derived.Shelf.Strconv.Itoa0
import Derived.Shelf.Strconv.Itoa1
import Derived.Shelf.LaysM
import Derived.Shelf.Strconv.Itoa2
import Derived.Shelf.Strconv.Itoa3
import Derived.Shelf.Strconv.AtoiErrFast
import Derived.Shelf.Strconv.ParseIntEmpty
import Derived.Shelf.Strconv.AtoiFail
import Derived.Shelf.Strconv.Clone
import Derived.Shelf.Strconv.SyntaxError
import Derived.Shelf.LaysC
import Derived.Shelf.Strconv.ToError
import Derived.Shelf.Strconv.Lower
import Derived.Shelf.Strconv.ParseUint10
import Derived.Shelf.Strconv.ParseUint10Empty
import Derived.Shelf.Strconv.ParseUint10Any
import Derived.Shelf.Strconv.ParseInt10
import Derived.Shelf.Strconv.AtoiLong
import Derived.Shelf.Strconv.AtoiInnerAll
import Derived.Shelf.Strconv.RangeError
import Derived.Shelf.Strconv.ToErrorRange
import Derived.Shelf.Strconv.AtoiAll
import Derived.Shelf.Strconv.ErrVarAll
import Derived.Shelf.Strings.Search1
import Derived.Shelf.Strings.Search2
import Derived.Shelf.Strings.Search3
import Derived.Shelf.Strings.Cut
import Derived.Shelf.Strings.Count
import Derived.Shelf.Strings.Shaped
import Derived.Shelf.Strings.Split
import Derived.Shelf.Strings.SplitShaped
import Derived.Shelf.Unicode.Decode
import Derived.Shelf.Strings.RuneCount
import Derived.Shelf.Strings.Explode
import Derived.Shelf.Unicode.DecodeSlow
import Derived.Shelf.Unicode.DecodeAny
import Derived.Test.YtoaogfehdalmdaaGreatDoorProg
import Derived.Test.YtoaogfehdalmdaaGreatDoorK2
import Derived.KernelRfl
import Derived.WalkKit
import Derived.ProofKit
import Derived.OpenShut
import Derived.JoinedCond
namespace Go.Proofs
open Go.Shelf
def Tryz.lays156_ren : Go.Shelf.Ren := ⟨fun | 156 => 51 | 165 => 74 | 166 => 75 | 169 => 76 | 240 => 95 | 241 => 96 | 276 => 115 | 277 => 116 | n => n, fun | 31 => 66 | 9 => 9 | 3 => 3 | 4 => 4 | 0 => 0 | 20 => 20 | 72 => 100 | 76 => 74 | 70 => 98 | 37 => 97 | 75 => 73 | 127 => 117 | 164 => 139 | 5 => 5 | 80 => 86 | n => n, fun | n => n⟩
theorem Tryz.lays156 : Go.Proofs.Lays.n156 Tryz.prog Tryz.lays156_ren := {
  mixed := by kernel_rfl
  f156 := Tryz.func51.trans (congrArg some (by kernel_rfl))
  f165 := Tryz.func74.trans (congrArg some (by kernel_rfl))
  f166 := Tryz.func75.trans (congrArg some (by kernel_rfl))
  f169 := Tryz.func76.trans (congrArg some (by kernel_rfl))
  f240 := Tryz.func95.trans (congrArg some (by kernel_rfl))
  f241 := Tryz.func96.trans (congrArg some (by kernel_rfl))
  f276 := Tryz.func115.trans (congrArg some (by kernel_rfl))
  f277 := Tryz.func116.trans (congrArg some (by kernel_rfl))
  t0 := Tryz.underlying0
  a0 := Tryz.isAgg0
  z0 := Tryz.sizeOf0
  v0 := Tryz.zeroValue0
  t3 := Tryz.underlying3
  a3 := Tryz.isAgg3
  z3 := Tryz.sizeOf3
  v3 := Tryz.zeroValue3
  t4 := Tryz.underlying4
  a4 := Tryz.isAgg4
  z4 := Tryz.sizeOf4
  v4 := Tryz.zeroValue4
  t9 := Tryz.underlying9
  a9 := Tryz.isAgg9
  z9 := Tryz.sizeOf9
  v9 := Tryz.zeroValue9
  t20 := Tryz.underlying20
  a20 := Tryz.isAgg20
  z20 := Tryz.sizeOf20
  v20 := Tryz.zeroValue20
  t31 := Tryz.underlying66
  a31 := Tryz.isAgg66
  z31 := Tryz.sizeOf66
  v31 := Tryz.zeroValue66
  t37 := Tryz.underlying97
  a37 := Tryz.isAgg97
  z37 := Tryz.sizeOf97
  v37 := Tryz.zeroValue97
  t70 := Tryz.underlying98
  a70 := Tryz.isAgg98
  z70 := Tryz.sizeOf98
  v70 := Tryz.zeroValue98
  t72 := Tryz.underlying100
  a72 := Tryz.isAgg100
  z72 := Tryz.sizeOf100
  v72 := Tryz.zeroValue100
  t75 := Tryz.underlying73
  a75 := Tryz.isAgg73
  z75 := Tryz.sizeOf73
  v75 := Tryz.zeroValue73
  t76 := Tryz.underlying74
  a76 := Tryz.isAgg74
  z76 := Tryz.sizeOf74
  v76 := Tryz.zeroValue74
  t127 := Tryz.underlying117
  a127 := Tryz.isAgg117
  z127 := Tryz.sizeOf117
  v127 := Tryz.zeroValue117
  t164 := Tryz.underlying139
  a164 := Tryz.isAgg139
  z164 := Tryz.sizeOf139
  v164 := Tryz.zeroValue139 }
theorem Tryz.Builder_Extra_156 : Builder.Extra Tryz.prog Tryz.lays156_ren := {
  sizeBuilder := by kernel_rfl
  liesBuilder := by kernel_rfl
  t5 := Tryz.underlying5
  a5 := Tryz.isAgg5
  z5 := Tryz.sizeOf5
  v5 := Tryz.zeroValue5
  infoByte := by kernel_rfl
  cellsByte := by kernel_rfl
  sizeByte := by kernel_rfl
  neB5 := by decide }
open Go.RowKit in
/-- No element: the empty string; the world is as it was. (Whatever the slice's address and capacity: a nil slice too.) (LAID: no walk: one application.) -/
theorem Tryz.strings_Join_none (a : Option Addr) (c : Nat) (sep : ByteArray) (w : World) :
    Calls Tryz.prog 51 #[.slice a 0 c, .string sep] w fun e w' => e = .returned (.string ⟨#[]⟩) ∧ w' = w := Any.strings_Join_none Tryz.lays156 Tryz.Builder_Extra_156 a c sep w
open Go.RowKit in
/-- strings.Join: "Join concatenates the elements of its first argument to create a single string. The separator string sep is placed between elements in the resulting string.": HOWEVER MANY ELEMENTS. Below the heap's end the world is as it was. (LAID: no walk: one application.) -/
theorem Tryz.strings_Join (bk o c : Nat) (xs : List ByteArray) (sep : ByteArray) (w : World) (hcells : ∀ (j : Nat) x, xs[j]? = some x → w.cell? ⟨bk, o + j, none⟩ = some (.string x)) (hbk : bk < w.heap.size) (hN : xs.length ≤ 140737488355328) (hcap : xs.length ≤ c) (hlen : (Lib.join (xs.map (·.data.toList)) sep.data.toList).length ≤ 140737488355328) :
    Calls Tryz.prog 51 #[.slice (some ⟨bk, o, none⟩) xs.length c, .string sep] w fun e w' => e = .returned (.string ⟨(Lib.join (xs.map (·.data.toList)) sep.data.toList).toArray⟩) ∧ Below w.heap.size w w' := Any.strings_Join Tryz.lays156 Tryz.Builder_Extra_156 bk o c xs sep w hcells hbk hN hcap hlen
def Tryz.laysM171_ren : Go.Shelf.Ren := ⟨fun | 171 => 50 | 243 => 73 | 246 => 94 | 283 => 111 | 284 => 112 | 285 => 113 | 286 => 114 | 129 => 123 | 317 => 122 | 318 => 124 | 319 => 125 | 320 => 126 | 337 => 127 | 338 => 128 | n => n, fun | 3 => 3 | 9 => 9 | 2 => 2 | 4 => 4 | 171 => 134 | 0 => 0 | 53 => 127 | 37 => 97 | 5 => 5 | 173 => 137 | 212 => 151 | 51 => 142 | 20 => 20 | 213 => 152 | 46 => 126 | 232 => 160 | 233 => 161 | n => n, fun | 17 => 3 | 18 => 6 | 19 => 7 | n => n⟩
theorem Tryz.laysM171 : Go.Proofs.LaysM.n171 Tryz.prog Tryz.laysM171_ren := {
  mixed := by kernel_rfl
  f129 := Tryz.func123.trans (congrArg some (by kernel_rfl))
  f171 := Tryz.func50.trans (congrArg some (by kernel_rfl))
  f243 := Tryz.func73.trans (congrArg some (by kernel_rfl))
  f246 := Tryz.func94.trans (congrArg some (by kernel_rfl))
  f283 := Tryz.func111.trans (congrArg some (by kernel_rfl))
  f284 := Tryz.func112.trans (congrArg some (by kernel_rfl))
  f285 := Tryz.func113.trans (congrArg some (by kernel_rfl))
  f286 := Tryz.func114.trans (congrArg some (by kernel_rfl))
  f317 := Tryz.func122.trans (congrArg some (by kernel_rfl))
  f318 := Tryz.func124.trans (congrArg some (by kernel_rfl))
  f319 := Tryz.func125.trans (congrArg some (by kernel_rfl))
  f320 := Tryz.func126.trans (congrArg some (by kernel_rfl))
  f337 := Tryz.func127.trans (congrArg some (by kernel_rfl))
  f338 := Tryz.func128.trans (congrArg some (by kernel_rfl))
  t0 := Tryz.underlying0
  a0 := Tryz.isAgg0
  z0 := Tryz.sizeOf0
  v0 := Tryz.zeroValue0
  t2 := Tryz.underlying2
  a2 := Tryz.isAgg2
  z2 := Tryz.sizeOf2
  v2 := Tryz.zeroValue2
  t3 := Tryz.underlying3
  a3 := Tryz.isAgg3
  z3 := Tryz.sizeOf3
  v3 := Tryz.zeroValue3
  t4 := Tryz.underlying4
  a4 := Tryz.isAgg4
  z4 := Tryz.sizeOf4
  v4 := Tryz.zeroValue4
  t5 := Tryz.underlying5
  a5 := Tryz.isAgg5
  z5 := Tryz.sizeOf5
  v5 := Tryz.zeroValue5
  t9 := Tryz.underlying9
  a9 := Tryz.isAgg9
  z9 := Tryz.sizeOf9
  v9 := Tryz.zeroValue9
  t20 := Tryz.underlying20
  a20 := Tryz.isAgg20
  z20 := Tryz.sizeOf20
  v20 := Tryz.zeroValue20
  t37 := Tryz.underlying97
  a37 := Tryz.isAgg97
  z37 := Tryz.sizeOf97
  v37 := Tryz.zeroValue97
  t46 := Tryz.underlying126
  a46 := Tryz.isAgg126
  z46 := Tryz.sizeOf126
  v46 := Tryz.zeroValue126
  t51 := Tryz.underlying142
  a51 := Tryz.isAgg142
  z51 := Tryz.sizeOf142
  v51 := Tryz.zeroValue142
  t53 := Tryz.underlying127
  a53 := Tryz.isAgg127
  z53 := Tryz.sizeOf127
  v53 := Tryz.zeroValue127
  t171 := Tryz.underlying134
  a171 := Tryz.isAgg134
  z171 := Tryz.sizeOf134
  v171 := Tryz.zeroValue134
  t173 := Tryz.underlying137
  a173 := Tryz.isAgg137
  z173 := Tryz.sizeOf137
  v173 := Tryz.zeroValue137
  t212 := Tryz.underlying151
  a212 := Tryz.isAgg151
  z212 := Tryz.sizeOf151
  v212 := Tryz.zeroValue151
  t213 := Tryz.underlying152
  a213 := Tryz.isAgg152
  z213 := Tryz.sizeOf152
  t232 := Tryz.underlying160
  a232 := Tryz.isAgg160
  z232 := Tryz.sizeOf160
  v232 := Tryz.zeroValue160
  t233 := Tryz.underlying161
  a233 := Tryz.isAgg161
  z233 := Tryz.sizeOf161
  v233 := Tryz.zeroValue161
  g17 := by kernel_rfl
  g18 := by kernel_rfl
  g19 := by kernel_rfl
  i0 := by kernel_rfl
  i2 := by kernel_rfl
  i3 := by kernel_rfl
  i4 := by kernel_rfl
  i5 := by kernel_rfl
  i9 := by kernel_rfl
  i20 := by kernel_rfl
  i37 := by kernel_rfl
  i46 := by kernel_rfl
  i51 := by kernel_rfl
  i53 := by kernel_rfl
  i171 := by kernel_rfl
  i173 := by kernel_rfl
  i212 := by kernel_rfl
  i232 := by kernel_rfl
  i233 := by kernel_rfl
  m17 := by kernel_rfl
  m18 := by kernel_rfl
  m19 := by kernel_rfl }
open Go.RowKit Go.Sort Go.Lib in
/-- strconv.Itoa: "Itoa is equivalent to FormatInt(int64(i), 10).": i's DECIMAL NUMERAL ('Lib.itoa': a '-' where i is negative, then the digits), FOR EVERY int. The world behind the call: the world before it, new blocks behind the heap (the library's 'var a [24]byte'), draws. (LAID: no walk: one application.) -/
theorem Tryz.strconv_Itoa (n : Int) (h0 : -9223372036854775808 ≤ n) (h1 : n ≤ 9223372036854775807) (w : World) (htab : Lib.TabIs Tryz.prog w "internal/strconv.uint64pow10" .u64 Lib.pow10Tab) :
    Calls Tryz.prog 50 #[.int .i64 n] w fun e w' => e = .returned (.string ⟨(Lib.itoa n).toArray⟩) ∧ ∃ k os, w' = grow (w.drewN k) os := Any.strconv_Itoa Tryz.laysM171 n h0 h1 w htab
def Tryz.laysC172_ren : Go.Shelf.Ren := ⟨fun | 172 => 41 | 244 => 68 | 245 => 69 | 247 => 89 | 279 => 90 | 280 => 91 | 281 => 92 | 282 => 93 | 287 => 108 | 316 => 109 | 171 => 50 | 205 => 110 | 321 => 120 | 322 => 121 | 243 => 73 | 246 => 94 | 283 => 111 | 284 => 112 | 285 => 113 | 286 => 114 | 129 => 123 | 317 => 122 | 318 => 124 | 319 => 125 | 320 => 126 | 337 => 127 | 338 => 128 | n => n, fun | 9 => 9 | 3 => 3 | 75 => 73 | 76 => 74 | 4 => 4 | 5 => 5 | 167 => 110 | 37 => 97 | 0 => 0 | 85 => 111 | 2 => 2 | 168 => 113 | 53 => 127 | 175 => 128 | 46 => 126 | 210 => 132 | 127 => 117 | 145 => 149 | 143 => 147 | 21 => 21 | 171 => 134 | 173 => 137 | 212 => 151 | 51 => 142 | 20 => 20 | 213 => 152 | 232 => 160 | 233 => 161 | 80 => 86 | n => n, fun | 15 => 1 | 16 => 2 | 17 => 3 | 18 => 6 | 19 => 7 | n => n⟩
theorem Tryz.laysC172 : Go.Proofs.LaysC.n172 Tryz.prog Tryz.laysC172_ren := {
  mixed := by kernel_rfl
  f129 := Tryz.func123.trans (congrArg some (by kernel_rfl))
  f171 := Tryz.func50.trans (congrArg some (by kernel_rfl))
  f172 := Tryz.func41.trans (congrArg some (by kernel_rfl))
  f205 := Tryz.func110.trans (congrArg some (by kernel_rfl))
  f243 := Tryz.func73.trans (congrArg some (by kernel_rfl))
  f244 := Tryz.func68.trans (congrArg some (by kernel_rfl))
  f245 := Tryz.func69.trans (congrArg some (by kernel_rfl))
  f246 := Tryz.func94.trans (congrArg some (by kernel_rfl))
  f247 := Tryz.func89.trans (congrArg some (by kernel_rfl))
  f279 := Tryz.func90.trans (congrArg some (by kernel_rfl))
  f280 := Tryz.func91.trans (congrArg some (by kernel_rfl))
  f281 := Tryz.func92.trans (congrArg some (by kernel_rfl))
  f282 := Tryz.func93.trans (congrArg some (by kernel_rfl))
  f283 := Tryz.func111.trans (congrArg some (by kernel_rfl))
  f284 := Tryz.func112.trans (congrArg some (by kernel_rfl))
  f285 := Tryz.func113.trans (congrArg some (by kernel_rfl))
  f286 := Tryz.func114.trans (congrArg some (by kernel_rfl))
  f287 := Tryz.func108.trans (congrArg some (by kernel_rfl))
  f316 := Tryz.func109.trans (congrArg some (by kernel_rfl))
  f317 := Tryz.func122.trans (congrArg some (by kernel_rfl))
  f318 := Tryz.func124.trans (congrArg some (by kernel_rfl))
  f319 := Tryz.func125.trans (congrArg some (by kernel_rfl))
  f320 := Tryz.func126.trans (congrArg some (by kernel_rfl))
  f321 := Tryz.func120.trans (congrArg some (by kernel_rfl))
  f322 := Tryz.func121.trans (congrArg some (by kernel_rfl))
  f337 := Tryz.func127.trans (congrArg some (by kernel_rfl))
  f338 := Tryz.func128.trans (congrArg some (by kernel_rfl))
  t0 := Tryz.underlying0
  a0 := Tryz.isAgg0
  z0 := Tryz.sizeOf0
  v0 := Tryz.zeroValue0
  t2 := Tryz.underlying2
  a2 := Tryz.isAgg2
  z2 := Tryz.sizeOf2
  v2 := Tryz.zeroValue2
  t3 := Tryz.underlying3
  a3 := Tryz.isAgg3
  z3 := Tryz.sizeOf3
  v3 := Tryz.zeroValue3
  t4 := Tryz.underlying4
  a4 := Tryz.isAgg4
  z4 := Tryz.sizeOf4
  v4 := Tryz.zeroValue4
  t5 := Tryz.underlying5
  a5 := Tryz.isAgg5
  z5 := Tryz.sizeOf5
  v5 := Tryz.zeroValue5
  t9 := Tryz.underlying9
  a9 := Tryz.isAgg9
  z9 := Tryz.sizeOf9
  v9 := Tryz.zeroValue9
  t20 := Tryz.underlying20
  a20 := Tryz.isAgg20
  z20 := Tryz.sizeOf20
  v20 := Tryz.zeroValue20
  t21 := Tryz.underlying21
  a21 := Tryz.isAgg21
  z21 := Tryz.sizeOf21
  v21 := Tryz.zeroValue21
  t37 := Tryz.underlying97
  a37 := Tryz.isAgg97
  z37 := Tryz.sizeOf97
  v37 := Tryz.zeroValue97
  t46 := Tryz.underlying126
  a46 := Tryz.isAgg126
  z46 := Tryz.sizeOf126
  v46 := Tryz.zeroValue126
  t51 := Tryz.underlying142
  a51 := Tryz.isAgg142
  z51 := Tryz.sizeOf142
  v51 := Tryz.zeroValue142
  t53 := Tryz.underlying127
  a53 := Tryz.isAgg127
  z53 := Tryz.sizeOf127
  v53 := Tryz.zeroValue127
  t75 := Tryz.underlying73
  a75 := Tryz.isAgg73
  z75 := Tryz.sizeOf73
  v75 := Tryz.zeroValue73
  t76 := Tryz.underlying74
  a76 := Tryz.isAgg74
  z76 := Tryz.sizeOf74
  v76 := Tryz.zeroValue74
  t85 := Tryz.underlying111
  a85 := Tryz.isAgg111
  z85 := Tryz.sizeOf111
  v85 := Tryz.zeroValue111
  t127 := Tryz.underlying117
  a127 := Tryz.isAgg117
  z127 := Tryz.sizeOf117
  v127 := Tryz.zeroValue117
  t143 := Tryz.underlying147
  a143 := Tryz.isAgg147
  z143 := Tryz.sizeOf147
  v143 := Tryz.zeroValue147
  t145 := Tryz.underlying149
  a145 := Tryz.isAgg149
  z145 := Tryz.sizeOf149
  v145 := Tryz.zeroValue149
  t167 := Tryz.underlying110
  a167 := Tryz.isAgg110
  z167 := Tryz.sizeOf110
  v167 := Tryz.zeroValue110
  t168 := Tryz.underlying113
  a168 := Tryz.isAgg113
  z168 := Tryz.sizeOf113
  v168 := Tryz.zeroValue113
  t171 := Tryz.underlying134
  a171 := Tryz.isAgg134
  z171 := Tryz.sizeOf134
  v171 := Tryz.zeroValue134
  t173 := Tryz.underlying137
  a173 := Tryz.isAgg137
  z173 := Tryz.sizeOf137
  v173 := Tryz.zeroValue137
  t175 := Tryz.underlying128
  a175 := Tryz.isAgg128
  z175 := Tryz.sizeOf128
  v175 := Tryz.zeroValue128
  t210 := Tryz.underlying132
  a210 := Tryz.isAgg132
  z210 := Tryz.sizeOf132
  v210 := Tryz.zeroValue132
  t212 := Tryz.underlying151
  a212 := Tryz.isAgg151
  z212 := Tryz.sizeOf151
  v212 := Tryz.zeroValue151
  t213 := Tryz.underlying152
  a213 := Tryz.isAgg152
  z213 := Tryz.sizeOf152
  t232 := Tryz.underlying160
  a232 := Tryz.isAgg160
  z232 := Tryz.sizeOf160
  v232 := Tryz.zeroValue160
  t233 := Tryz.underlying161
  a233 := Tryz.isAgg161
  z233 := Tryz.sizeOf161
  v233 := Tryz.zeroValue161
  g15 := by kernel_rfl
  g16 := by kernel_rfl
  g17 := by kernel_rfl
  g18 := by kernel_rfl
  g19 := by kernel_rfl
  t80 := Tryz.underlying86
  a80 := Tryz.isAgg86
  z80 := Tryz.sizeOf86
  v80 := Tryz.zeroValue86
  i0 := by kernel_rfl
  i2 := by kernel_rfl
  i3 := by kernel_rfl
  i4 := by kernel_rfl
  i5 := by kernel_rfl
  i9 := by kernel_rfl
  i20 := by kernel_rfl
  i21 := by kernel_rfl
  i37 := by kernel_rfl
  i46 := by kernel_rfl
  i51 := by kernel_rfl
  i53 := by kernel_rfl
  i75 := by kernel_rfl
  i76 := by kernel_rfl
  i80 := by kernel_rfl
  i85 := by kernel_rfl
  i127 := by kernel_rfl
  i143 := by kernel_rfl
  i145 := by kernel_rfl
  i167 := by kernel_rfl
  i168 := by kernel_rfl
  i171 := by kernel_rfl
  i173 := by kernel_rfl
  i175 := by kernel_rfl
  i210 := by kernel_rfl
  i212 := by kernel_rfl
  i232 := by kernel_rfl
  i233 := by kernel_rfl
  m15 := by kernel_rfl
  m16 := by kernel_rfl
  m17 := by kernel_rfl
  m18 := by kernel_rfl
  m19 := by kernel_rfl
  c0 := by kernel_rfl
  c2 := by kernel_rfl
  c3 := by kernel_rfl
  c4 := by kernel_rfl
  c5 := by kernel_rfl
  c9 := by kernel_rfl
  c20 := by kernel_rfl
  c21 := by kernel_rfl
  c37 := by kernel_rfl
  c46 := by kernel_rfl
  c51 := by kernel_rfl
  c53 := by kernel_rfl
  c75 := by kernel_rfl
  c76 := by kernel_rfl
  c80 := by kernel_rfl
  c85 := by kernel_rfl
  c127 := by kernel_rfl
  c143 := by kernel_rfl
  c145 := by kernel_rfl
  c167 := by kernel_rfl
  c168 := by kernel_rfl
  c171 := by kernel_rfl
  c173 := by kernel_rfl
  c175 := by kernel_rfl
  c210 := by kernel_rfl
  c212 := by kernel_rfl
  c213 := by kernel_rfl
  c232 := by kernel_rfl
  c233 := by kernel_rfl }
open Go.RowKit in
/-- strconv.Atoi, AT EVERY STRING THAT SPELLS AN int ('Lib.atoiAll .. = .ok v'; of whatever length: leading zeros count): v, AND NO ERROR. The world: as it was, or with the one new row that '[]byte(..)' lays. (LAID: no walk: one application.) -/
theorem Tryz.strconv_Atoi_ok (s : ByteArray) (hmax : s.size ≤ 9223372036854775806) (v : Int) (h : Lib.atoiAll s.data.toList = .ok v) (w : World) :
    Calls Tryz.prog 41 #[.string s] w fun e w' => e = .returned (.tuple #[.int .i64 v, .nilIface]) ∧ (w' = w ∨ ∃ t, w' = Lib.bytesWorld w 5 t) := Any.strconv_Atoi_ok Tryz.laysC172 s hmax v h w
open Go.RowKit in
/-- strconv.Atoi, AT EVERY STRING THAT IS NO DECIMAL NUMERAL ('.syntax'): 0, AND AN ERROR THAT IS NOT nil: a *NumError in a new block N: {Func: "Atoi", Num: s's bytes, Err: what the variable ErrSyntax holds}. Of what was there nothing has turned. (LAID: no walk: one application.) -/
theorem Tryz.strconv_Atoi_syntax (s : ByteArray) (hlim : s.size ≤ 281474976710656) (h : Lib.atoiAll s.data.toList = Lib.atoiAll []) (ev : Value) (w : World) (hv : w.cell? ⟨1, 0, none⟩ = some ev) (hev : ev = .nilIface ∨ ∃ te pe, ev = .iface te pe) :
    Calls Tryz.prog 41 #[.string s] w fun e w' => ∃ N, e = .returned (.tuple #[.int .i64 (0), .iface 113 (.pointer (some ⟨N, 0, none⟩))]) ∧ w.heap.size ≤ N ∧ w'.heap[N]? = some (.cells #[.string ⟨#[65, 116, 111, 105]⟩, .string s, ev] 132 (0, 0)) ∧ Below w.heap.size w w' := Any.strconv_Atoi_syntax Tryz.laysC172 s hlim h ev w hv hev
open Go.RowKit in
/-- strconv.Atoi, AT EVERY NUMERAL THAT NO int HOLDS ('.range'): THE GREATEST OR THE LEAST int, BY THE SIGN ('Lib.atoiSat'), AND AN ERROR THAT IS NOT nil: a *NumError in a new block N: {Func: "Atoi", Num: s's bytes, Err: what the variable ErrRange holds}. Of what was there nothing has turned. (LAID: no walk: one application.) -/
theorem Tryz.strconv_Atoi_range (s : ByteArray) (hlim : s.size ≤ 281474976710656) (h : Lib.atoiAll s.data.toList = .range) (ev : Value) (w : World) (hv : w.cell? ⟨2, 0, none⟩ = some ev) (hev : ev = .nilIface ∨ ∃ te pe, ev = .iface te pe) :
    Calls Tryz.prog 41 #[.string s] w fun e w' => ∃ N, e = .returned (.tuple #[.int .i64 (Lib.atoiSat s.data.toList), .iface 113 (.pointer (some ⟨N, 0, none⟩))]) ∧ w.heap.size ≤ N ∧ w'.heap[N]? = some (.cells #[.string ⟨#[65, 116, 111, 105]⟩, .string s, ev] 132 (0, 0)) ∧ Below w.heap.size w w' := Any.strconv_Atoi_range Tryz.laysC172 s hlim h ev w hv hev
def Tryz.lays145_ren : Go.Shelf.Ren := ⟨fun | 145 => 38 | 220 => 67 | 219 => 88 | 217 => 104 | 225 => 105 | 224 => 106 | 267 => 107 | 266 => 118 | 314 => 119 | n => n, fun | 9 => 9 | 4 => 4 | 59 => 68 | 3 => 3 | 5 => 5 | 46 => 126 | 146 => 143 | 51 => 142 | n => n, fun | 1 => 0 | n => n⟩
theorem Tryz.lays145 : Go.Proofs.Lays.n145 Tryz.prog Tryz.lays145_ren := {
  mixed := by kernel_rfl
  f145 := Tryz.func38.trans (congrArg some (by kernel_rfl))
  f217 := Tryz.func104.trans (congrArg some (by kernel_rfl))
  f219 := Tryz.func88.trans (congrArg some (by kernel_rfl))
  f220 := Tryz.func67.trans (congrArg some (by kernel_rfl))
  f224 := Tryz.func106.trans (congrArg some (by kernel_rfl))
  f225 := Tryz.func105.trans (congrArg some (by kernel_rfl))
  f266 := Tryz.func118.trans (congrArg some (by kernel_rfl))
  f267 := Tryz.func107.trans (congrArg some (by kernel_rfl))
  f314 := Tryz.func119.trans (congrArg some (by kernel_rfl))
  t3 := Tryz.underlying3
  a3 := Tryz.isAgg3
  z3 := Tryz.sizeOf3
  v3 := Tryz.zeroValue3
  t4 := Tryz.underlying4
  a4 := Tryz.isAgg4
  z4 := Tryz.sizeOf4
  v4 := Tryz.zeroValue4
  t5 := Tryz.underlying5
  a5 := Tryz.isAgg5
  z5 := Tryz.sizeOf5
  v5 := Tryz.zeroValue5
  t9 := Tryz.underlying9
  a9 := Tryz.isAgg9
  z9 := Tryz.sizeOf9
  v9 := Tryz.zeroValue9
  t46 := Tryz.underlying126
  a46 := Tryz.isAgg126
  z46 := Tryz.sizeOf126
  v46 := Tryz.zeroValue126
  t51 := Tryz.underlying142
  a51 := Tryz.isAgg142
  z51 := Tryz.sizeOf142
  v51 := Tryz.zeroValue142
  t59 := Tryz.underlying68
  a59 := Tryz.isAgg68
  z59 := Tryz.sizeOf68
  v59 := Tryz.zeroValue68
  t146 := Tryz.underlying143
  a146 := Tryz.isAgg143
  z146 := Tryz.sizeOf143
  v146 := Tryz.zeroValue143
  g1 := by kernel_rfl }
open Go.RowKit Go.Lib in
/-- strings.Cut: "Cut slices s around the first instance of sep, returning the text before and after sep. The found result reports whether sep appears in s. If sep does not appear in s, cut returns s, "", false.": IT RETURNS 'Lib.cut s sep'; the world is as it was but for the count of draws. (LAID: no walk: one application.) -/
theorem Tryz.strings_Cut (s sep : ByteArray) (m : Int) (w : World) (hs : s.size < 4294967281) (hm : w.cell? ⟨0, 0, none⟩ = some (.int .i64 m)) :
    Calls Tryz.prog 38 #[.string s, .string sep] w fun e w' => e = .returned (.tuple #[.string ⟨(Lib.cut s.data.toList sep.data.toList).1.toArray⟩, .string ⟨(Lib.cut s.data.toList sep.data.toList).2.1.toArray⟩, .bool (Lib.cut s.data.toList sep.data.toList).2.2]) ∧ ∃ n, w' = w.drewN n := Any.strings_Cut Tryz.lays145 s sep m w hs hm
def Tryz.lays146_ren : Go.Shelf.Ren := ⟨fun | 146 => 37 | 221 => 66 | 268 => 85 | 138 => 86 | 143 => 87 | 195 => 101 | 197 => 102 | 218 => 103 | 219 => 88 | 260 => 117 | 217 => 104 | 225 => 105 | 224 => 106 | 267 => 107 | 266 => 118 | 314 => 119 | n => n, fun | 9 => 9 | 31 => 66 | 3 => 3 | 4 => 4 | 0 => 0 | 105 => 123 | 21 => 21 | 5 => 5 | 46 => 126 | 119 => 155 | 139 => 158 | 138 => 157 | 146 => 143 | 51 => 142 | n => n, fun | 1 => 0 | 3 => 4 | 4 => 5 | n => n⟩
theorem Tryz.lays146 : Go.Proofs.Lays.n146 Tryz.prog Tryz.lays146_ren := {
  mixed := by kernel_rfl
  f138 := Tryz.func86.trans (congrArg some (by kernel_rfl))
  f143 := Tryz.func87.trans (congrArg some (by kernel_rfl))
  f146 := Tryz.func37.trans (congrArg some (by kernel_rfl))
  f195 := Tryz.func101.trans (congrArg some (by kernel_rfl))
  f197 := Tryz.func102.trans (congrArg some (by kernel_rfl))
  f217 := Tryz.func104.trans (congrArg some (by kernel_rfl))
  f218 := Tryz.func103.trans (congrArg some (by kernel_rfl))
  f219 := Tryz.func88.trans (congrArg some (by kernel_rfl))
  f221 := Tryz.func66.trans (congrArg some (by kernel_rfl))
  f224 := Tryz.func106.trans (congrArg some (by kernel_rfl))
  f225 := Tryz.func105.trans (congrArg some (by kernel_rfl))
  f260 := Tryz.func117.trans (congrArg some (by kernel_rfl))
  f266 := Tryz.func118.trans (congrArg some (by kernel_rfl))
  f267 := Tryz.func107.trans (congrArg some (by kernel_rfl))
  f268 := Tryz.func85.trans (congrArg some (by kernel_rfl))
  f314 := Tryz.func119.trans (congrArg some (by kernel_rfl))
  t0 := Tryz.underlying0
  a0 := Tryz.isAgg0
  z0 := Tryz.sizeOf0
  v0 := Tryz.zeroValue0
  t3 := Tryz.underlying3
  a3 := Tryz.isAgg3
  z3 := Tryz.sizeOf3
  v3 := Tryz.zeroValue3
  t4 := Tryz.underlying4
  a4 := Tryz.isAgg4
  z4 := Tryz.sizeOf4
  v4 := Tryz.zeroValue4
  t5 := Tryz.underlying5
  a5 := Tryz.isAgg5
  z5 := Tryz.sizeOf5
  v5 := Tryz.zeroValue5
  t9 := Tryz.underlying9
  a9 := Tryz.isAgg9
  z9 := Tryz.sizeOf9
  v9 := Tryz.zeroValue9
  t21 := Tryz.underlying21
  a21 := Tryz.isAgg21
  z21 := Tryz.sizeOf21
  v21 := Tryz.zeroValue21
  t31 := Tryz.underlying66
  a31 := Tryz.isAgg66
  z31 := Tryz.sizeOf66
  v31 := Tryz.zeroValue66
  t46 := Tryz.underlying126
  a46 := Tryz.isAgg126
  z46 := Tryz.sizeOf126
  v46 := Tryz.zeroValue126
  t51 := Tryz.underlying142
  a51 := Tryz.isAgg142
  z51 := Tryz.sizeOf142
  v51 := Tryz.zeroValue142
  t105 := Tryz.underlying123
  a105 := Tryz.isAgg123
  z105 := Tryz.sizeOf123
  v105 := Tryz.zeroValue123
  t119 := Tryz.underlying155
  a119 := Tryz.isAgg155
  z119 := Tryz.sizeOf155
  t138 := Tryz.underlying157
  a138 := Tryz.isAgg157
  z138 := Tryz.sizeOf157
  v138 := Tryz.zeroValue157
  t139 := Tryz.underlying158
  a139 := Tryz.isAgg158
  z139 := Tryz.sizeOf158
  v139 := Tryz.zeroValue158
  t146 := Tryz.underlying143
  a146 := Tryz.isAgg143
  z146 := Tryz.sizeOf143
  v146 := Tryz.zeroValue143
  g1 := by kernel_rfl
  g3 := by kernel_rfl
  g4 := by kernel_rfl }
open Go.RowKit Go.Lib in
/-- strings.Split. (LAID: no walk: one application.) -/
theorem Tryz.strings_Split (s sep : ByteArray) (m : Int) (w : World) (hs : s.size < 4294967281) (hm : w.cell? ⟨0, 0, none⟩ = some (.int .i64 m)) (h1 : 1 ≤ sep.size) :
    Calls Tryz.prog 37 #[.string s, .string sep] w fun e w' =>
      e = .returned (.slice (some ⟨w.heap.size, 0, none⟩) (Lib.countB s sep + 1) (Lib.countB s sep + 1)) ∧ w' = w.alloc (.cells ((Lib.splitB sep 0 (Lib.countB s sep) s).map Value.string).toArray 9) := Any.strings_Split Tryz.lays146 (by kernel_rfl) s sep m w hs hm h1
end Go.Proofs
/- The small side conditions of steps, found by a default. No program is named here. -/
set_option linter.unusedSimpArgs false
set_option linter.unusedVariables false
namespace Tdoc
open Go

theorem sd {C : Prop} (h : C := by first | exact True.intro | exact (fun hh => hh) | omega | assumption | (intro hh; rw [hh]; rfl) | (intro hh; simp [gval, hh]; done) | (simp; omega)) : C := h
theorem sg {ex : Bool} {A C : Prop} (hg : ex = true) (h1 : A := by first | exact True.intro | exact ⟨hg, True.intro⟩ | exact ⟨hg, hg, True.intro⟩ | (refine ⟨?_, True.intro⟩; simp at hg; simp [hg]; done) | (refine ⟨?_, ?_, True.intro⟩ <;> (simp at hg; simp [hg]; done))) (h2 : C := by first | exact True.intro | (intro hh; rw [hg, hh]; rfl) | (intro hh; simp [gval, hh, hg]; done) | (intro hh; simp only [gval, hh, hg, Bool.not_false, Bool.not_true, Bool.and_true, Bool.true_and]; done) | (intro hh; simp only [gval] at hg; simp only [gval, hh, hg, Bool.not_false, Bool.and_true, Bool.true_and]; done) | (simp [gval] at hg; first | omega | (simp; done) | (simp; omega))) : A ∧ C := ⟨h1, h2⟩
theorem sm {C : Prop} (h : C := by first | (simp; done) | exact List.mem_cons_self | exact List.mem_cons_of_mem _ List.mem_cons_self) : C := h

section
variable {P : Program} {E : Env} {N : Nat} {T : Tr} {ops : List Oper} {rest : List Oper} {op : Op} {ty : TypeId} {pos : String} {after : Array Edge} {l : List (Nat × AV)} {h h' : List AObj} {v : AV} {C : Prop}

/-! steps with their side conditions found by themselves -/
theorem wd (hT : TOk P T) {n : Nat} {Q : (Nat → AV) → List AObj → Prop} {i d : Nat} (hs : astep T op (ev (look l)) h = some (v, h, C)) (hd : Nat.blt d N = true) (hn : h.length = n) (hk : AWd P E N ops (fun _ => List.range n) (fun _ => []) Q rest (i + 1) (look ((d, v) :: l)) h)
    (hC : C := by first | exact True.intro | omega | exact sd) : AWd P E N ops (fun _ => List.range n) (fun _ => []) Q (⟨some d, op, ty, pos, after, none⟩ :: rest) i (look l) h := AWd_step hT hs hd hn hC hk
theorem wk (hT : TOk P T) {Q : (Nat → AV) → List AObj → Prop} {d : Nat} (hs : astep T op (ev (look l)) h = some (v, h', C)) (hd : Nat.blt d N = true) (hk : AWk P E N ops Q rest (look ((d, v) :: l)) h')
    (hC : C := by first | exact True.intro | omega | exact sd) : AWk P E N ops Q (⟨some d, op, ty, pos, after, none⟩ :: rest) (look l) h := AWk_step hT hs hd hC hk
theorem wz (hT : TOk P T) {Q : (Nat → AV) → List AObj → Prop} (hs : astep T op (ev (look l)) h = some (v, h', C)) (hk : AWk P E N ops Q rest (look l) h')
    (hC : C := by first | exact True.intro | omega | exact sd) : AWk P E N ops Q (⟨none, op, ty, pos, after, none⟩ :: rest) (look l) h := AWk_step0 hT hs hC hk
theorem wg (hT : TOk P T) {n : Nat} {Q : (Nat → AV) → List AObj → Prop} {i d j gd : Nat} {want ex : Bool} (hg : gslot ops l j want = some (gd, ex)) (hs : astep T op (evG (look l) op) h = some (v, h, C)) (hd : Nat.blt d N = true) (hgd : Nat.blt gd N = true) (hn : h.length = n)
    (hk : AWd P E N ops (fun _ => List.range n) (fun _ => []) Q rest (i + 1) (look ((d, .gd ex v) :: l)) h) (hC : ex = true → gAll (look l) (gOps op) ∧ C := by intro hg; first | exact ⟨True.intro, True.intro⟩ | exact sg hg) :
    AWd P E N ops (fun _ => List.range n) (fun _ => []) Q (⟨some d, op, ty, pos, after, some (j, want)⟩ :: rest) i (look l) h := AWd_gstep hT hg hs hd hgd hn hC hk
theorem wh (hT : TOk P T) {Q : (Nat → AV) → List AObj → Prop} {d j gd : Nat} {want ex : Bool} (hg : gslot ops l j want = some (gd, ex)) (hs : astep T op (evG (look l) op) h = some (v, h, C)) (hd : Nat.blt d N = true) (hgd : Nat.blt gd N = true)
    (hk : AWk P E N ops Q rest (look ((d, .gd ex v) :: l)) h) (hC : ex = true → gAll (look l) (gOps op) ∧ C := by intro hg; first | exact ⟨True.intro, True.intro⟩ | exact sg hg) :
    AWk P E N ops Q (⟨some d, op, ty, pos, after, some (j, want)⟩ :: rest) (look l) h := AWk_gstep hT hg hs hd hgd hC hk
theorem wx {id : Nat} {Q : Exit → (Nat → AV) → List AObj → Prop} {τ : Nat → AV} (hm : P.follows .mixedOrders = true) (H : AWd P E N ops (fun _ => List.range h.length) (fun _ => []) (Q .normal) ops 0 τ h)
    (hB : lexD ops.toArray (fun _ => List.range h.length) (fun _ => []) ops.length 0 (Array.replicate ops.length false) = true := by kernel_rfl) : AW P E N (.region id ops.toArray true) Q τ h := AW_draw hm hB H

/-! ends -/
variable {rs : List ResultVar} {k : Nat} {Q : AV → List AObj → Prop} {τ : Nat → AV} {r : AV}
theorem rx (h7 : Q v h') (h1 : resA T τ h rs = some v := by exact rfl) (h3 : h' = h.take k := by exact rfl) (h4 : h'.length = k := by exact rfl) (h5 : low k v = true := by exact rfl) (h6 : lowH k h' = true := by exact rfl) : retP T rs k Q .ret τ h := ⟨v, v, h', h1, fun _ _ h => h, h3, h4, h5, h6, h7⟩
theorem rxN (h7 : Q v h') (h1 : resA T τ h rs = some v := by exact rfl) (h3 : h' = h.take k := by exact rfl) (h4 : h'.length = k := by exact rfl) (h5 : low k v = true := by exact rfl) (h6 : lowH k h' = true := by exact rfl) : retP T rs k Q .normal τ h := ⟨v, v, h', h1, fun _ _ h => h, h3, h4, h5, h6, h7⟩
theorem rq (h7 : Q r h') (h1 : resA T τ h rs = some v) (h2 : AV.le v r) (h3 : h' = h.take k := by exact rfl) (h4 : h'.length = k := by exact rfl) (h5 : low k r = true := by exact rfl) (h6 : lowH k h' = true := by exact rfl) : retP T rs k Q .ret τ h := ⟨v, r, h', h1, h2, h3, h4, h5, h6, h7⟩
theorem rqN (h7 : Q r h') (h1 : resA T τ h rs = some v) (h2 : AV.le v r) (h3 : h' = h.take k := by exact rfl) (h4 : h'.length = k := by exact rfl) (h5 : low k r = true := by exact rfl) (h6 : lowH k h' = true := by exact rfl) : retP T rs k Q .normal τ h := ⟨v, r, h', h1, h2, h3, h4, h5, h6, h7⟩
end

theorem li {k : IntKind} {a b : Int} (h : a = b := by first | assumption | omega | (rw [wrap_id (by omega)]; omega) | (simp only [wrap_id (by omega)]; omega)) : AV.le (.d (.int k a)) (.d (.int k b)) := .eq (congrArg (fun z => AV.d (.int k z)) h)
theorem lb {a b : Bool} (h : a = b := by first | assumption | (simp; done) | (simp; omega)) : AV.le (.d (.bool a)) (.d (.bool b)) := .eq (congrArg (fun z => AV.d (.bool z)) h)
theorem ls {sz : Nat} {a b : List (List Dat)} (h : a = b := by first | assumption | (simp; done)) : AV.le (.d (.sl sz a)) (.d (.sl sz b)) := .eq (congrArg (fun z => AV.d (.sl sz z)) h)
theorem lk {sz : Nat} {a b : List (List Dat)} {t : Tok} (h : a = b := by first | assumption | (simp; done)) : AV.le (.sl sz a t) (.sl sz b t) := .eq (congrArg (fun z => AV.sl sz z t) h)
theorem ld {sz : Nat} {a b : List (List Dat)} {t : Tok} (h : a = b := by first | assumption | (simp; done)) : AV.le (.sl sz a t) (.d (.sl sz b)) := .trans .dat (.eq (congrArg (fun z => AV.d (.sl sz z)) h))
theorem lz {a b : List UInt8} (h : a = b := by first | assumption | (simp; done)) : AV.le (.d (.str a)) (.d (.str b)) := .eq (congrArg (fun z => AV.d (.str z)) h)
end Tdoc
/- The table of this seat's types, printed by program, and that it fits the program. -/
namespace Tdoc
open Go Go.Proofs

def T : Tr := (.nd (.nd (.nd (.nd (.nd (.nd (.nd (.nd .lf 1 ⟨.fn, 1, 8, [.nilf]⟩ .lf) 2 ⟨.int .i64, 1, 8, [.d (.int .i64 0)]⟩ .lf) 3 ⟨.int .i64, 1, 8, [.d (.int .i64 0)]⟩ (.nd .lf 4 ⟨.bool, 1, 1, [.d (.bool false)]⟩ .lf)) 5 ⟨.int .u8, 1, 1, [.d (.int .u8 0)]⟩ (.nd (.nd .lf 7 ⟨.struct [(0, 1, false), (1, 1, false), (2, 1, false), (3, 1, false)], 4, 24, [.d (.int .i64 0), .d (.int .i64 0), .d (.bool false), .d (.int .u8 0)]⟩ .lf) 9 ⟨.str, 1, 16, [.d (.str [])]⟩ (.nd .lf 12 ⟨.int .u64, 1, 8, [.d (.int .u64 0)]⟩ .lf))) 13 ⟨.struct [(0, 1, false), (1, 1, false)], 2, 24, [.d (.str []), .d (.int .u64 0)]⟩ (.nd (.nd (.nd (.nd .lf 18 ⟨.struct [(0, 1, false)], 1, 8, [.nilp]⟩ .lf) 21 ⟨.int .i32, 1, 4, [.d (.int .i32 0)]⟩ .lf) 22 ⟨.slice 3, 1, 24, [.sl 1 [] .full]⟩ (.nd .lf 23 ⟨.fn, 1, 8, [.nilf]⟩ .lf)) 24 ⟨.fn, 1, 8, [.nilf]⟩ (.nd (.nd .lf 25 ⟨.slice 55, 1, 24, [.sl 6 [] .full]⟩ .lf) 26 ⟨.struct [(0, 1, false)], 1, 24, [.sl 6 [] .full]⟩ (.nd .lf 27 ⟨.struct [(0, 1, false)], 1, 24, [.sl 6 [] .full]⟩ .lf)))) 28 ⟨.fn, 1, 8, [.nilf]⟩ (.nd (.nd (.nd (.nd (.nd .lf 29 ⟨.slice 40, 1, 24, [.sl 2 [] .full]⟩ .lf) 30 ⟨.fn, 1, 8, [.nilf]⟩ .lf) 31 ⟨.struct [(0, 1, false), (1, 1, false), (2, 1, false)], 3, 40, [.d (.int .i64 0), .d (.int .i64 0), .sl 2 [] .full]⟩ (.nd .lf 32 ⟨.struct [(0, 1, false), (1, 1, false), (2, 1, false)], 3, 40, [.d (.int .i64 0), .d (.int .i64 0), .sl 2 [] .full]⟩ .lf)) 33 ⟨.int .i64, 1, 8, [.d (.int .i64 0)]⟩ (.nd (.nd .lf 35 ⟨.fn, 1, 8, [.nilf]⟩ .lf) 36 ⟨.fn, 1, 8, [.nilf]⟩ (.nd .lf 37 ⟨.fn, 1, 8, [.nilf]⟩ .lf))) 38 ⟨.fn, 1, 8, [.nilf]⟩ (.nd (.nd (.nd (.nd .lf 39 ⟨.struct [(0, 1, false), (1, 1, false)], 2, 16, [.d (.int .i64 0), .d (.int .i64 0)]⟩ .lf) 40 ⟨.struct [(0, 1, false), (1, 1, false)], 2, 16, [.d (.int .i64 0), .d (.int .i64 0)]⟩ .lf) 41 ⟨.fn, 1, 8, [.nilf]⟩ (.nd .lf 42 ⟨.fn, 1, 8, [.nilf]⟩ .lf)) 43 ⟨.fn, 1, 8, [.nilf]⟩ (.nd (.nd .lf 44 ⟨.fn, 1, 8, [.nilf]⟩ .lf) 45 ⟨.fn, 1, 8, [.nilf]⟩ (.nd .lf 47 ⟨.fn, 1, 8, [.nilf]⟩ .lf))))) 48 ⟨.ptr, 1, 8, [.nilp]⟩ (.nd (.nd (.nd (.nd (.nd (.nd .lf 49 ⟨.fn, 1, 8, [.nilf]⟩ .lf) 50 ⟨.fn, 1, 8, [.nilf]⟩ .lf) 51 ⟨.slice 53, 1, 24, [.sl 4 [] .full]⟩ (.nd .lf 52 ⟨.struct [(0, 1, false), (1, 1, false), (2, 1, false), (3, 1, false)], 4, 48, [.d (.int .i64 0), .d (.int .i64 0), .d (.int .i64 0), .sl 4 [] .full]⟩ .lf)) 53 ⟨.struct [(0, 1, false), (1, 1, false), (2, 1, false), (3, 1, false)], 4, 48, [.d (.int .i64 0), .d (.int .i64 0), .d (.int .i64 0), .sl 4 [] .full]⟩ (.nd (.nd .lf 54 ⟨.struct [(0, 1, false), (1, 1, false), (2, 4, true)], 6, 64, [.d (.int .i64 0), .d (.bool false), .d (.int .i64 0), .d (.int .i64 0), .d (.int .i64 0), .sl 4 [] .full]⟩ .lf) 55 ⟨.struct [(0, 1, false), (1, 1, false), (2, 4, true)], 6, 64, [.d (.int .i64 0), .d (.bool false), .d (.int .i64 0), .d (.int .i64 0), .d (.int .i64 0), .sl 4 [] .full]⟩ (.nd .lf 56 ⟨.fn, 1, 8, [.nilf]⟩ .lf))) 57 ⟨.fn, 1, 8, [.nilf]⟩ (.nd (.nd (.nd (.nd .lf 58 ⟨.fn, 1, 8, [.nilf]⟩ .lf) 59 ⟨.fn, 1, 8, [.nilf]⟩ .lf) 60 ⟨.fn, 1, 8, [.nilf]⟩ (.nd .lf 61 ⟨.fn, 1, 8, [.nilf]⟩ .lf)) 62 ⟨.fn, 1, 8, [.nilf]⟩ (.nd (.nd .lf 63 ⟨.fn, 1, 8, [.nilf]⟩ .lf) 64 ⟨.fn, 1, 8, [.nilf]⟩ (.nd .lf 65 ⟨.fn, 1, 8, [.nilf]⟩ .lf)))) 66 ⟨.slice 9, 1, 24, [.sl 1 [] .full]⟩ (.nd (.nd (.nd (.nd (.nd .lf 67 ⟨.fn, 1, 8, [.nilf]⟩ .lf) 69 ⟨.fn, 1, 8, [.nilf]⟩ .lf) 70 ⟨.fn, 1, 8, [.nilf]⟩ (.nd .lf 71 ⟨.fn, 1, 8, [.nilf]⟩ .lf)) 75 ⟨.fn, 1, 8, [.nilf]⟩ (.nd (.nd .lf 76 ⟨.fn, 1, 8, [.nilf]⟩ .lf) 77 ⟨.fn, 1, 8, [.nilf]⟩ (.nd .lf 78 ⟨.fn, 1, 8, [.nilf]⟩ .lf))) 79 ⟨.fn, 1, 8, [.nilf]⟩ (.nd (.nd (.nd (.nd .lf 80 ⟨.slice 103, 1, 24, [.sl 2 [] .full]⟩ .lf) 82 ⟨.fn, 1, 8, [.nilf]⟩ .lf) 83 ⟨.ptr, 1, 8, [.nilp]⟩ (.nd .lf 84 ⟨.struct [(0, 1, false), (1, 1, false), (2, 1, false), (3, 1, false)], 4, 48, [.sl 2 [] .full, .d (.int .i64 0), .d (.int .i64 0), .d (.int .i64 0)]⟩ .lf)) 85 ⟨.struct [(0, 1, false), (1, 1, false), (2, 1, false), (3, 1, false)], 4, 48, [.sl 2 [] .full, .d (.int .i64 0), .d (.int .i64 0), .d (.int .i64 0)]⟩ (.nd (.nd .lf 86 ⟨.fn, 1, 8, [.nilf]⟩ .lf) 87 ⟨.fn, 1, 8, [.nilf]⟩ (.nd .lf 88 ⟨.fn, 1, 8, [.nilf]⟩ .lf)))))) 89 ⟨.struct [(0, 1, false), (1, 1, false)], 2, 32, [.sl 1 [] .full, .d (.int .i64 0)]⟩ (.nd (.nd (.nd (.nd (.nd (.nd (.nd .lf 90 ⟨.struct [(0, 1, false), (1, 1, false)], 2, 32, [.sl 1 [] .full, .d (.int .i64 0)]⟩ .lf) 91 ⟨.fn, 1, 8, [.nilf]⟩ .lf) 92 ⟨.fn, 1, 8, [.nilf]⟩ (.nd .lf 93 ⟨.fn, 1, 8, [.nilf]⟩ .lf)) 94 ⟨.fn, 1, 8, [.nilf]⟩ (.nd (.nd .lf 95 ⟨.fn, 1, 8, [.nilf]⟩ .lf) 96 ⟨.fn, 1, 8, [.nilf]⟩ (.nd .lf 97 ⟨.slice 5, 1, 24, [.sl 1 [] .full]⟩ .lf))) 98 ⟨.ptr, 1, 8, [.nilp]⟩ (.nd (.nd (.nd (.nd .lf 99 ⟨.struct [(0, 1, false), (1, 1, false)], 2, 32, [.nilp, .sl 1 [] .full]⟩ .lf) 100 ⟨.struct [(0, 1, false), (1, 1, false)], 2, 32, [.nilp, .sl 1 [] .full]⟩ .lf) 101 ⟨.fn, 1, 8, [.nilf]⟩ (.nd .lf 102 ⟨.struct [(0, 1, false), (1, 1, false)], 2, 24, [.d (.str []), .d (.int .i64 0)]⟩ .lf)) 103 ⟨.struct [(0, 1, false), (1, 1, false)], 2, 24, [.d (.str []), .d (.int .i64 0)]⟩ (.nd (.nd .lf 104 ⟨.fn, 1, 8, [.nilf]⟩ .lf) 105 ⟨.fn, 1, 8, [.nilf]⟩ (.nd .lf 107 ⟨.fn, 1, 8, [.nilf]⟩ .lf)))) 108 ⟨.fn, 1, 8, [.nilf]⟩ (.nd (.nd (.nd (.nd (.nd .lf 109 ⟨.fn, 1, 8, [.nilf]⟩ .lf) 110 ⟨.int .i64, 1, 8, [.d (.int .i64 0)]⟩ .lf) 112 ⟨.fn, 1, 8, [.nilf]⟩ (.nd .lf 113 ⟨.ptr, 1, 8, [.nilp]⟩ .lf)) 114 ⟨.fn, 1, 8, [.nilf]⟩ (.nd (.nd .lf 115 ⟨.fn, 1, 8, [.nilf]⟩ .lf) 116 ⟨.fn, 1, 8, [.nilf]⟩ (.nd .lf 117 ⟨.ptr, 1, 8, [.nilp]⟩ .lf))) 118 ⟨.fn, 1, 8, [.nilf]⟩ (.nd (.nd (.nd (.nd .lf 119 ⟨.fn, 1, 8, [.nilf]⟩ .lf) 120 ⟨.fn, 1, 8, [.nilf]⟩ .lf) 121 ⟨.array 3 3, 3, 24, [.d (.int .i64 0), .d (.int .i64 0), .d (.int .i64 0)]⟩ (.nd .lf 122 ⟨.fn, 1, 8, [.nilf]⟩ .lf)) 124 ⟨.fn, 1, 8, [.nilf]⟩ (.nd (.nd .lf 125 ⟨.fn, 1, 8, [.nilf]⟩ .lf) 126 ⟨.int .u64, 1, 8, [.d (.int .u64 0)]⟩ (.nd .lf 127 ⟨.int .u64, 1, 8, [.d (.int .u64 0)]⟩ .lf))))) 129 ⟨.fn, 1, 8, [.nilf]⟩ (.nd (.nd (.nd (.nd (.nd (.nd .lf 130 ⟨.fn, 1, 8, [.nilf]⟩ .lf) 131 ⟨.struct [(0, 1, false), (1, 1, false), (2, 1, false)], 3, 48, [.d (.str []), .d (.str []), .ifc true]⟩ .lf) 132 ⟨.struct [(0, 1, false), (1, 1, false), (2, 1, false)], 3, 48, [.d (.str []), .d (.str []), .ifc true]⟩ (.nd .lf 133 ⟨.fn, 1, 8, [.nilf]⟩ .lf)) 134 ⟨.array 24 5, 24, 24, [.d (.int .u8 0), .d (.int .u8 0), .d (.int .u8 0), .d (.int .u8 0), .d (.int .u8 0), .d (.int .u8 0), .d (.int .u8 0), .d (.int .u8 0), .d (.int .u8 0), .d (.int .u8 0), .d (.int .u8 0), .d (.int .u8 0), .d (.int .u8 0), .d (.int .u8 0), .d (.int .u8 0), .d (.int .u8 0), .d (.int .u8 0), .d (.int .u8 0), .d (.int .u8 0), .d (.int .u8 0), .d (.int .u8 0), .d (.int .u8 0), .d (.int .u8 0), .d (.int .u8 0)]⟩ (.nd (.nd .lf 135 ⟨.fn, 1, 8, [.nilf]⟩ .lf) 136 ⟨.fn, 1, 8, [.nilf]⟩ (.nd .lf 138 ⟨.fn, 1, 8, [.nilf]⟩ .lf))) 140 ⟨.fn, 1, 8, [.nilf]⟩ (.nd (.nd (.nd (.nd .lf 141 ⟨.fn, 1, 8, [.nilf]⟩ .lf) 142 ⟨.int .u32, 1, 4, [.d (.int .u32 0)]⟩ .lf) 144 ⟨.fn, 1, 8, [.nilf]⟩ (.nd .lf 145 ⟨.fn, 1, 8, [.nilf]⟩ .lf)) 146 ⟨.fn, 1, 8, [.nilf]⟩ (.nd (.nd .lf 147 ⟨.ptr, 1, 8, [.nilp]⟩ .lf) 148 ⟨.struct [(0, 1, false)], 1, 16, [.d (.str [])]⟩ (.nd .lf 149 ⟨.struct [(0, 1, false)], 1, 16, [.d (.str [])]⟩ .lf)))) 150 ⟨.fn, 1, 8, [.nilf]⟩ (.nd (.nd (.nd (.nd (.nd .lf 151 ⟨.array 20 127, 20, 160, [.d (.int .u64 0), .d (.int .u64 0), .d (.int .u64 0), .d (.int .u64 0), .d (.int .u64 0), .d (.int .u64 0), .d (.int .u64 0), .d (.int .u64 0), .d (.int .u64 0), .d (.int .u64 0), .d (.int .u64 0), .d (.int .u64 0), .d (.int .u64 0), .d (.int .u64 0), .d (.int .u64 0), .d (.int .u64 0), .d (.int .u64 0), .d (.int .u64 0), .d (.int .u64 0), .d (.int .u64 0)]⟩ .lf) 152 ⟨.array 65 5, 65, 65, [.d (.int .u8 0), .d (.int .u8 0), .d (.int .u8 0), .d (.int .u8 0), .d (.int .u8 0), .d (.int .u8 0), .d (.int .u8 0), .d (.int .u8 0), .d (.int .u8 0), .d (.int .u8 0), .d (.int .u8 0), .d (.int .u8 0), .d (.int .u8 0), .d (.int .u8 0), .d (.int .u8 0), .d (.int .u8 0), .d (.int .u8 0), .d (.int .u8 0), .d (.int .u8 0), .d (.int .u8 0), .d (.int .u8 0), .d (.int .u8 0), .d (.int .u8 0), .d (.int .u8 0), .d (.int .u8 0), .d (.int .u8 0), .d (.int .u8 0), .d (.int .u8 0), .d (.int .u8 0), .d (.int .u8 0), .d (.int .u8 0), .d (.int .u8 0), .d (.int .u8 0), .d (.int .u8 0), .d (.int .u8 0), .d (.int .u8 0), .d (.int .u8 0), .d (.int .u8 0), .d (.int .u8 0), .d (.int .u8 0), .d (.int .u8 0), .d (.int .u8 0), .d (.int .u8 0), .d (.int .u8 0), .d (.int .u8 0), .d (.int .u8 0), .d (.int .u8 0), .d (.int .u8 0), .d (.int .u8 0), .d (.int .u8 0), .d (.int .u8 0), .d (.int .u8 0), .d (.int .u8 0), .d (.int .u8 0), .d (.int .u8 0), .d (.int .u8 0), .d (.int .u8 0), .d (.int .u8 0), .d (.int .u8 0), .d (.int .u8 0), .d (.int .u8 0), .d (.int .u8 0), .d (.int .u8 0), .d (.int .u8 0), .d (.int .u8 0)]⟩ .lf) 153 ⟨.fn, 1, 8, [.nilf]⟩ (.nd .lf 154 ⟨.fn, 1, 8, [.nilf]⟩ .lf)) 155 ⟨.array 256 5, 256, 256, [.d (.int .u8 0), .d (.int .u8 0), .d (.int .u8 0), .d (.int .u8 0), .d (.int .u8 0), .d (.int .u8 0), .d (.int .u8 0), .d (.int .u8 0), .d (.int .u8 0), .d (.int .u8 0), .d (.int .u8 0), .d (.int .u8 0), .d (.int .u8 0), .d (.int .u8 0), .d (.int .u8 0), .d (.int .u8 0), .d (.int .u8 0), .d (.int .u8 0), .d (.int .u8 0), .d (.int .u8 0), .d (.int .u8 0), .d (.int .u8 0), .d (.int .u8 0), .d (.int .u8 0), .d (.int .u8 0), .d (.int .u8 0), .d (.int .u8 0), .d (.int .u8 0), .d (.int .u8 0), .d (.int .u8 0), .d (.int .u8 0), .d (.int .u8 0), .d (.int .u8 0), .d (.int .u8 0), .d (.int .u8 0), .d (.int .u8 0), .d (.int .u8 0), .d (.int .u8 0), .d (.int .u8 0), .d (.int .u8 0), .d (.int .u8 0), .d (.int .u8 0), .d (.int .u8 0), .d (.int .u8 0), .d (.int .u8 0), .d (.int .u8 0), .d (.int .u8 0), .d (.int .u8 0), .d (.int .u8 0), .d (.int .u8 0), .d (.int .u8 0), .d (.int .u8 0), .d (.int .u8 0), .d (.int .u8 0), .d (.int .u8 0), .d (.int .u8 0), .d (.int .u8 0), .d (.int .u8 0), .d (.int .u8 0), .d (.int .u8 0), .d (.int .u8 0), .d (.int .u8 0), .d (.int .u8 0), .d (.int .u8 0), .d (.int .u8 0), .d (.int .u8 0), .d (.int .u8 0), .d (.int .u8 0), .d (.int .u8 0), .d (.int .u8 0), .d (.int .u8 0), .d (.int .u8 0), .d (.int .u8 0), .d (.int .u8 0), .d (.int .u8 0), .d (.int .u8 0), .d (.int .u8 0), .d (.int .u8 0), .d (.int .u8 0), .d (.int .u8 0), .d (.int .u8 0), .d (.int .u8 0), .d (.int .u8 0), .d (.int .u8 0), .d (.int .u8 0), .d (.int .u8 0), .d (.int .u8 0), .d (.int .u8 0), .d (.int .u8 0), .d (.int .u8 0), .d (.int .u8 0), .d (.int .u8 0), .d (.int .u8 0), .d (.int .u8 0), .d (.int .u8 0), .d (.int .u8 0), .d (.int .u8 0), .d (.int .u8 0), .d (.int .u8 0), .d (.int .u8 0), .d (.int .u8 0), .d (.int .u8 0), .d (.int .u8 0), .d (.int .u8 0), .d (.int .u8 0), .d (.int .u8 0), .d (.int .u8 0), .d (.int .u8 0), .d (.int .u8 0), .d (.int .u8 0), .d (.int .u8 0), .d (.int .u8 0), .d (.int .u8 0), .d (.int .u8 0), .d (.int .u8 0), .d (.int .u8 0), .d (.int .u8 0), .d (.int .u8 0), .d (.int .u8 0), .d (.int .u8 0), .d (.int .u8 0), .d (.int .u8 0), .d (.int .u8 0), .d (.int .u8 0), .d (.int .u8 0), .d (.int .u8 0), .d (.int .u8 0), .d (.int .u8 0), .d (.int .u8 0), .d (.int .u8 0), .d (.int .u8 0), .d (.int .u8 0), .d (.int .u8 0), .d (.int .u8 0), .d (.int .u8 0), .d (.int .u8 0), .d (.int .u8 0), .d (.int .u8 0), .d (.int .u8 0), .d (.int .u8 0), .d (.int .u8 0), .d (.int .u8 0), .d (.int .u8 0), .d (.int .u8 0), .d (.int .u8 0), .d (.int .u8 0), .d (.int .u8 0), .d (.int .u8 0), .d (.int .u8 0), .d (.int .u8 0), .d (.int .u8 0), .d (.int .u8 0), .d (.int .u8 0), .d (.int .u8 0), .d (.int .u8 0), .d (.int .u8 0), .d (.int .u8 0), .d (.int .u8 0), .d (.int .u8 0), .d (.int .u8 0), .d (.int .u8 0), .d (.int .u8 0), .d (.int .u8 0), .d (.int .u8 0), .d (.int .u8 0), .d (.int .u8 0), .d (.int .u8 0), .d (.int .u8 0), .d (.int .u8 0), .d (.int .u8 0), .d (.int .u8 0), .d (.int .u8 0), .d (.int .u8 0), .d (.int .u8 0), .d (.int .u8 0), .d (.int .u8 0), .d (.int .u8 0), .d (.int .u8 0), .d (.int .u8 0), .d (.int .u8 0), .d (.int .u8 0), .d (.int .u8 0), .d (.int .u8 0), .d (.int .u8 0), .d (.int .u8 0), .d (.int .u8 0), .d (.int .u8 0), .d (.int .u8 0), .d (.int .u8 0), .d (.int .u8 0), .d (.int .u8 0), .d (.int .u8 0), .d (.int .u8 0), .d (.int .u8 0), .d (.int .u8 0), .d (.int .u8 0), .d (.int .u8 0), .d (.int .u8 0), .d (.int .u8 0), .d (.int .u8 0), .d (.int .u8 0), .d (.int .u8 0), .d (.int .u8 0), .d (.int .u8 0), .d (.int .u8 0), .d (.int .u8 0), .d (.int .u8 0), .d (.int .u8 0), .d (.int .u8 0), .d (.int .u8 0), .d (.int .u8 0), .d (.int .u8 0), .d (.int .u8 0), .d (.int .u8 0), .d (.int .u8 0), .d (.int .u8 0), .d (.int .u8 0), .d (.int .u8 0), .d (.int .u8 0), .d (.int .u8 0), .d (.int .u8 0), .d (.int .u8 0), .d (.int .u8 0), .d (.int .u8 0), .d (.int .u8 0), .d (.int .u8 0), .d (.int .u8 0), .d (.int .u8 0), .d (.int .u8 0), .d (.int .u8 0), .d (.int .u8 0), .d (.int .u8 0), .d (.int .u8 0), .d (.int .u8 0), .d (.int .u8 0), .d (.int .u8 0), .d (.int .u8 0), .d (.int .u8 0), .d (.int .u8 0), .d (.int .u8 0), .d (.int .u8 0), .d (.int .u8 0), .d (.int .u8 0), .d (.int .u8 0), .d (.int .u8 0), .d (.int .u8 0), .d (.int .u8 0), .d (.int .u8 0), .d (.int .u8 0), .d (.int .u8 0), .d (.int .u8 0), .d (.int .u8 0), .d (.int .u8 0), .d (.int .u8 0), .d (.int .u8 0), .d (.int .u8 0)]⟩ (.nd (.nd .lf 156 ⟨.struct [(0, 1, false), (1, 1, false)], 2, 2, [.d (.int .u8 0), .d (.int .u8 0)]⟩ .lf) 157 ⟨.struct [(0, 1, false), (1, 1, false)], 2, 2, [.d (.int .u8 0), .d (.int .u8 0)]⟩ (.nd .lf 158 ⟨.array 16 157, 32, 32, [.d (.int .u8 0), .d (.int .u8 0), .d (.int .u8 0), .d (.int .u8 0), .d (.int .u8 0), .d (.int .u8 0), .d (.int .u8 0), .d (.int .u8 0), .d (.int .u8 0), .d (.int .u8 0), .d (.int .u8 0), .d (.int .u8 0), .d (.int .u8 0), .d (.int .u8 0), .d (.int .u8 0), .d (.int .u8 0), .d (.int .u8 0), .d (.int .u8 0), .d (.int .u8 0), .d (.int .u8 0), .d (.int .u8 0), .d (.int .u8 0), .d (.int .u8 0), .d (.int .u8 0), .d (.int .u8 0), .d (.int .u8 0), .d (.int .u8 0), .d (.int .u8 0), .d (.int .u8 0), .d (.int .u8 0), .d (.int .u8 0), .d (.int .u8 0)]⟩ .lf))) 159 ⟨.fn, 1, 8, [.nilf]⟩ (.nd (.nd (.nd .lf 160 ⟨.array 32 5, 32, 32, [.d (.int .u8 0), .d (.int .u8 0), .d (.int .u8 0), .d (.int .u8 0), .d (.int .u8 0), .d (.int .u8 0), .d (.int .u8 0), .d (.int .u8 0), .d (.int .u8 0), .d (.int .u8 0), .d (.int .u8 0), .d (.int .u8 0), .d (.int .u8 0), .d (.int .u8 0), .d (.int .u8 0), .d (.int .u8 0), .d (.int .u8 0), .d (.int .u8 0), .d (.int .u8 0), .d (.int .u8 0), .d (.int .u8 0), .d (.int .u8 0), .d (.int .u8 0), .d (.int .u8 0), .d (.int .u8 0), .d (.int .u8 0), .d (.int .u8 0), .d (.int .u8 0), .d (.int .u8 0), .d (.int .u8 0), .d (.int .u8 0), .d (.int .u8 0)]⟩ .lf) 161 ⟨.array 64 5, 64, 64, [.d (.int .u8 0), .d (.int .u8 0), .d (.int .u8 0), .d (.int .u8 0), .d (.int .u8 0), .d (.int .u8 0), .d (.int .u8 0), .d (.int .u8 0), .d (.int .u8 0), .d (.int .u8 0), .d (.int .u8 0), .d (.int .u8 0), .d (.int .u8 0), .d (.int .u8 0), .d (.int .u8 0), .d (.int .u8 0), .d (.int .u8 0), .d (.int .u8 0), .d (.int .u8 0), .d (.int .u8 0), .d (.int .u8 0), .d (.int .u8 0), .d (.int .u8 0), .d (.int .u8 0), .d (.int .u8 0), .d (.int .u8 0), .d (.int .u8 0), .d (.int .u8 0), .d (.int .u8 0), .d (.int .u8 0), .d (.int .u8 0), .d (.int .u8 0), .d (.int .u8 0), .d (.int .u8 0), .d (.int .u8 0), .d (.int .u8 0), .d (.int .u8 0), .d (.int .u8 0), .d (.int .u8 0), .d (.int .u8 0), .d (.int .u8 0), .d (.int .u8 0), .d (.int .u8 0), .d (.int .u8 0), .d (.int .u8 0), .d (.int .u8 0), .d (.int .u8 0), .d (.int .u8 0), .d (.int .u8 0), .d (.int .u8 0), .d (.int .u8 0), .d (.int .u8 0), .d (.int .u8 0), .d (.int .u8 0), .d (.int .u8 0), .d (.int .u8 0), .d (.int .u8 0), .d (.int .u8 0), .d (.int .u8 0), .d (.int .u8 0), .d (.int .u8 0), .d (.int .u8 0), .d (.int .u8 0), .d (.int .u8 0)]⟩ (.nd .lf 162 ⟨.struct [(0, 1, false), (1, 1, false), (2, 1, false), (3, 1, false)], 4, 40, [.nilp, .nilp, .nilp, .d (.str [])]⟩ .lf)) 164 ⟨.array 0 16, 0, 0, []⟩ (.nd (.nd .lf 165 ⟨.struct [(0, 0, true)], 0, 0, []⟩ .lf) 169 ⟨.fn, 1, 8, [.nilf]⟩ (.nd .lf 172 ⟨.struct [(0, 1, false), (1, 1, false), (2, 1, false), (3, 1, false), (4, 1, false), (5, 1, false), (6, 1, false), (7, 1, false), (8, 1, false), (9, 1, false), (10, 1, false)], 11, 48, [.d (.int .u64 0), .d (.int .u64 0), .d (.int .u32 0), .d (.int .u8 0), .d (.int .u8 0), .d (.int .u8 0), .d (.int .u8 0), .nilf, .nilp, .d (.int .i32 0), .d (.int .i32 0)]⟩ .lf)))))))
theorem hT : TOk Tryz.prog T := ⟨by kernel_rfl⟩
theorem mixed : Tryz.prog.follows .mixedOrders = true := by kernel_rfl
end Tdoc
/- A law's statement out of its contract: the world before the call as a ghost state, the reading behind the call. No program is named here. -/
set_option linter.unusedSimpArgs false
set_option linter.unusedVariables false
namespace Tdoc
open Go Go.ChangeShapes Go.WideShapes Go.ChangeAt Go.RowKit

/-- All that lies in memory before the call counts as data that does not turn. -/
def GW (W : World) : Gh := ⟨fun a => W.cell? a, fun _ => none, fun _ _ => none, fun _ => none⟩

theorem WRel_start (W : World) (ht : TabOk W (GW W)) : WRel ⟨W, GW W, ht⟩ (GW W) [] W where
  le := .refl _
  imm := fun _ _ h => h
  immNew := fun _ _ h => .inl h
  keep := fun _ _ => rfl
  size := Nat.le_refl _
  os := rfl
  tape := rfl
  output := rfl
  own := fun b i h => by cases h
  fresh := fun i _ => ⟨rfl, fun _ => rfl⟩
  obj := fun i o h => by simp at h

theorem law_calls {P : Program} {f : FuncId} {avs : List AV} {W : World} {vals : Array Value} (ht : TabOk W (GW W)) (hs : Spec P f avs [] (fun r h' => r = .d (.bool true) ∧ h' = [])) (hlen : vals.size = avs.length)
    (hrep : ∀ (j : Nat) (x : AV) (v : Value), avs[j]? = some x → vals[j]? = some v → RepA (GW W) x v) :
    Calls P f vals W (fun e W' => e = .returned (.bool true) ∧ Below W.heap.size W W') :=
  (hs.2 (GW W) W vals hlen hrep ht (WRel_start W ht)).mono fun e W' ⟨v, r, h', G', he, ⟨hr, hh⟩, _, _, _, hrp, hw⟩ => by
    subst hr
    rw [hrp.bool_inv] at he
    exact ⟨he, hw.os, hw.tape, hw.output, hw.size, fun k hk => hw.keep k ⟨hk, rfl⟩⟩

section
variable {H : Type} {enc : TypeId × Value → H} {P : Program}

theorem trodAll_below (hl : laidOutB P = true) {W W' : World} (hb : Below W.heap.size W W') {sp : Nat → Bool} :
    ∀ {ts : List TypeId} {vs : List Value} {ds : List (DataW H)} {ps : List MemPlace}, ts.all (fun t => P.readableRec t && decide (t < P.types.size)) = true →
      DataW.TrodAll enc P W 0 (fun _ => true) true ts vs ds ps → (∀ p ∈ ps, p.block < W.heap.size) → (∀ p ∈ ps, sp p.block = true) → DataW.TrodAll enc P W' 0 sp true ts vs ds ps
  | [], _, _, _, _, h, _, _ => by
    obtain ⟨rfl, rfl, rfl⟩ := trodAll_nil h
    exact trodAll_mk0
  | t :: ts, _, _, _, hr, h, hlt, hsp => by
    obtain ⟨v, vs1, d, ds1, a, b, rfl, rfl, rfl, h1, h2⟩ := trodAll_cons h
    simp only [List.all_cons, Bool.and_eq_true, decide_eq_true_eq] at hr
    exact trodAll_cons_mk (WideElems.Trod_stays hl hr.1.1 hr.1.2 h1 (fun x hx => hb.same (hlt x (by simp [hx]))) (fun x hx => hsp x (by simp [hx])))
      (trodAll_below hl hb (by simpa using hr.2) h2 (fun x hx => hlt x (by simp [hx])) (fun x hx => hsp x (by simp [hx])))

theorem law_post {f : Func} {s : ChangeSpec} {again : Bool} {W W' : World} {args : Array Value} {ds gs : List (DataW H)} {before : List MemPlace} {tb : TypeId} (hl : laidOutB P = true)
    (hr : f.params.toList.all (fun t => P.readableRec t && decide (t < P.types.size)) = true) (hres : f.resultTypes = #[tb]) (htb : P.underlying tb = some .bool) (hvars : s.vars = [])
    (hW : DataW.Whole enc P f.params.toList s.vars false W args.toList ds gs before) (hfn : s.fn H (ds ++ gs) = { results := [.lit (.bool true)], args := ds }) (hb : Below W.heap.size W W') :
    s.post enc P f false true false again W args (.bool true) W' := by
  have hW0 := hW
  have hlt := hW.lt
  obtain ⟨p, q, hA, hV, rfl, hfz, hnd⟩ := hW
  rw [hvars] at hV
  obtain ⟨rfl, rfl⟩ := trodVars_none hV
  have hargs : ∀ sp : Nat → Bool, (∀ x ∈ p ++ [], sp x.block = true) → DataW.TrodAll enc P W' 0 sp true f.params.toList args.toList (s.fn H (ds ++ [])).args p := by
    intro sp hsp
    rw [hfn]
    exact trodAll_below hl hb hr hA (fun x hx => hlt x (by simp [hx])) (fun x hx => hsp x (by simp [hx]))
  have hv : ∀ sp : Nat → Bool, DataW.TrodVars enc P W' sp s.vars (s.fn H (ds ++ [])).vars [] := by
    intro sp; rw [hfn, hvars]; rfl
  have hrs : ∀ (b : Nat) (sp : Nat → Bool) (hd : Bool), DataW.TrodAll enc P W' b sp hd f.resultTypes.toList ((Value.bool true).resultList f.resultTypes.size) (s.fn H (ds ++ [])).results [] := by
    intro b sp hd
    rw [hfn, hres]
    exact trodAll_cons_mk (shut_bool htb _) trodAll_mk0
  refine ⟨ds, [], p ++ [], [], p, [], hW0, hrs _ _ _, hargs _ (fun x hx => by simpa using hlt x hx), hv _, World.keptBut_mono (fun p hp => ⟨hp, ?_⟩) (hb.frame (· ∈ p ++ [])), fun _ => ?_⟩
  · exact Or.inr (Or.inl (by simpa using hp))
  · refine ⟨ok_one hres rfl (okWide_bool_mk htb _), _, _, ([] ++ p) ++ [], ⟨[] ++ p, [], trodAll_append (hargs _ (fun _ _ => rfl)) (hrs _ _ _), hv _, rfl, ?_, fun h => by cases h⟩, ?_⟩
    · intro b off hp
      rw [hb.frozen (p := ⟨b, off, none⟩) (hlt (.cell b off) (by simpa using hp))]
      exact hfz b off (by simpa using hp)
    · intro x hx _
      simpa using hx

/-! the arguments -/
theorem open_str {r : Reach} {b0 : Nat} {W : World} {t : TypeId} {v : Value} {d : DataW H} {ps : List MemPlace} (ht : P.underlying t = some .string) (hval : Value.okWide P W r b0 t v)
    (hd : DataW.Trod enc P W 0 (fun _ => true) true t v d ps) : ∃ s : List UInt8, s.length ≤ maxLen ∧ RepA (GW W) (.d (.str s)) v := by
  obtain ⟨s, rfl, _, _, h⟩ := Go.ChangeMaps.open_string ht hval hd
  obtain ⟨⟨l⟩⟩ := s
  exact ⟨l, by simpa [ByteArray.size] using h, .d (.str l)⟩

theorem open_num {r : Reach} {b0 : Nat} {W : World} {t : TypeId} {k : IntKind} {v : Value} {d : DataW H} {ps : List MemPlace} (ht : P.underlying t = some (.int k)) (hval : Value.okWide P W r b0 t v)
    (hd : DataW.Trod enc P W 0 (fun _ => true) true t v d ps) : ∃ n : Int, (Lit.int k n).wf = true ∧ RepA (GW W) (.d (.int k n)) v := by
  obtain ⟨a0, rfl, rfl, rfl, w0⟩ := open_int ht hval hd
  exact ⟨a0, w0, .d (.int k a0)⟩

theorem open_flag {r : Reach} {b0 : Nat} {W : World} {t : TypeId} {v : Value} {d : DataW H} {ps : List MemPlace} (ht : P.underlying t = some .bool) (hval : Value.okWide P W r b0 t v)
    (hd : DataW.Trod enc P W 0 (fun _ => true) true t v d ps) : ∃ b : Bool, RepA (GW W) (.d (.bool b)) v := by
  obtain ⟨b, rfl, rfl, rfl⟩ := open_bool ht hval hd
  exact ⟨b, .d (.bool b)⟩

/-- A list of numbers as abstract data. -/
def numsD (k : IntKind) (zs : List Int) : List (List Dat) := zs.map fun n => [.int k n]

theorem RepD_nums {W : World} {k : IntKind} {a : Addr} {len cap : Nat} {zs : List Int} (hs : a.spot = none) (hlc : len ≤ cap) (hl : len ≤ zs.length) (hcell : ∀ i, i < zs.length → W.cell? (a.add i) = some (.int k (zs.getD i 0))) :
    RepD (GW W).imm (.sl 1 (numsD k (zs.take len))) (.slice (some a) len cap) := by
  have hz : (numsD k (zs.take len)).length = len := by simp [numsD]; omega
  have h := RepD.sl (m := (GW W).imm) 1 (numsD k (zs.take len)) a cap (fun j => .int k (zs.getD j 0)) hs (by omega) (fun e he => ?_) (fun i e j d he hd => ?_) (fun i e j d he hd => ?_)
  · rw [hz] at h; exact h
  · simp only [numsD, List.mem_map] at he
    obtain ⟨n, _, rfl⟩ := he; rfl
  · have hi : i < len := by rw [← hz]; exact (List.getElem?_eq_some_iff.1 he).1
    simp only [numsD, List.getElem?_map, Option.map_eq_some_iff] at he
    obtain ⟨n, hn, rfl⟩ := he
    cases j with
    | zero => simpa [GW] using hcell i (by omega)
    | succ j => simp at hd
  · have hi : i < len := by rw [← hz]; exact (List.getElem?_eq_some_iff.1 he).1
    simp only [numsD, List.getElem?_map, Option.map_eq_some_iff] at he
    obtain ⟨n, hn, rfl⟩ := he
    cases j with
    | zero =>
      simp only [List.getElem?_cons_zero, Option.some.injEq] at hd
      subst hd
      rw [List.getElem?_take] at hn
      simp only [hi, if_true] at hn
      have : zs.getD (i * 1 + 0) 0 = n := by simp [List.getD, hn]
      simp only [this]
      exact .int k n
    | succ j => simp at hd

theorem open_nums {r : Reach} {b0 : Nat} {W : World} {t e : TypeId} {k : IntKind} {v : Value} {d : DataW H} {ps : List MemPlace} (ht : P.underlying t = some (.slice e)) (he : P.underlying e = some (.int k))
    (hc : P.cellsOf e = 1) (hval : Value.okWide P W r b0 t v)
    (hd : DataW.Trod enc P W 0 (fun _ => true) true t v d ps) : ∃ zs : List Int, (∀ n, n ∈ zs → (Lit.int k n).wf = true) ∧ zs.length ≤ maxLen ∧ RepA (GW W) (.d (.sl 1 (numsD k zs))) v := by
  obtain ⟨a0, len0, cap0, rfl⟩ := okWide_slice ht hval
  obtain ⟨fuel, hf⟩ := hd
  rcases open_ints ht he hc hf with ⟨h1, h2⟩ | ⟨a, len, cap, zs, h1, h2, h3, h4, h5, h6, h7, h8⟩
  · simp [Value.cells] at h1
    obtain ⟨rfl, rfl, rfl⟩ := h1
    exact ⟨[], by simp, by simp, .d (.nil 1)⟩
  · simp [Value.cells] at h1
    obtain ⟨rfl, rfl, rfl⟩ := h1
    simp only [if_true] at h5
    have hsp : a.spot = none := by
      simp only [Value.okWide, ht, Cell.okWide, Cell.ok] at hval
      exact hval.2.2.2.1
    exact ⟨zs.take len0, fun n hn => h8 n (List.mem_of_mem_take hn), by simp; omega, .d (RepD_nums hsp h3 (by omega) h7)⟩
end
end Tdoc
/- Plain: bits of numbers, as sums. No program is named here. -/
set_option linter.unusedSimpArgs false
set_option linter.unusedVariables false
namespace Tdoc
open Go

theorem wrapu8 {n : Int} (h : 0 ≤ n ∧ n ≤ 255) : IntKind.u8.wrap n = n := by
  simp only [IntKind.wrap, IntKind.signed, IntKind.bits]
  simp
  omega

theorem wrapu8_mod (n : Int) : IntKind.u8.wrap n = n % 256 := by
  simp only [IntKind.wrap, IntKind.signed, IntKind.bits]
  simp

theorem ofInt_nat (n : Nat) : BitVec.ofInt 64 (n : Int) = BitVec.ofNat 64 n := by
  apply BitVec.eq_of_toNat_eq
  simp [BitVec.toNat_ofInt]

theorem and_nat {a b : Nat} (ha : a < 9223372036854775808) (hb : b < 9223372036854775808) :
    IntKind.i64.wrap ((BitVec.ofInt IntKind.i64.bits (a : Int) &&& BitVec.ofInt IntKind.i64.bits (b : Int)).toNat : Int) = ((a &&& b : Nat) : Int) := by
  have h : (BitVec.ofInt IntKind.i64.bits (a : Int) &&& BitVec.ofInt IntKind.i64.bits (b : Int)).toNat = a &&& b := by
    show (BitVec.ofInt 64 (a : Int) &&& BitVec.ofInt 64 (b : Int)).toNat = a &&& b
    rw [ofInt_nat, ofInt_nat, BitVec.toNat_and, BitVec.toNat_ofNat, BitVec.toNat_ofNat, Nat.mod_eq_of_lt (by omega), Nat.mod_eq_of_lt (by omega)]
  rw [h]
  have := Nat.and_le_left (n := a) (m := b)
  exact wrap_id (by omega)

theorem or_nat {a b : Nat} (ha : a < 9223372036854775808) (hb : b < 9223372036854775808) :
    IntKind.i64.wrap ((BitVec.ofInt IntKind.i64.bits (a : Int) ||| BitVec.ofInt IntKind.i64.bits (b : Int)).toNat : Int) = ((a ||| b : Nat) : Int) := by
  have h : (BitVec.ofInt IntKind.i64.bits (a : Int) ||| BitVec.ofInt IntKind.i64.bits (b : Int)).toNat = a ||| b := by
    show (BitVec.ofInt 64 (a : Int) ||| BitVec.ofInt 64 (b : Int)).toNat = a ||| b
    rw [ofInt_nat, ofInt_nat, BitVec.toNat_or, BitVec.toNat_ofNat, BitVec.toNat_ofNat, Nat.mod_eq_of_lt (by omega), Nat.mod_eq_of_lt (by omega)]
  rw [h]
  have : a ||| b < 2 ^ 63 := Nat.or_lt_two_pow (by omega) (by omega)
  exact wrap_id (by omega)

theorem or_nat8 {a b : Nat} (ha : a < 256) (hb : b < 256) :
    IntKind.u8.wrap ((BitVec.ofInt IntKind.u8.bits (a : Int) ||| BitVec.ofInt IntKind.u8.bits (b : Int)).toNat : Int) = ((a ||| b : Nat) : Int) := by
  have h8 : ∀ n : Nat, BitVec.ofInt 8 (n : Int) = BitVec.ofNat 8 n := fun n => by
    apply BitVec.eq_of_toNat_eq
    simp [BitVec.toNat_ofInt]
  have h : (BitVec.ofInt IntKind.u8.bits (a : Int) ||| BitVec.ofInt IntKind.u8.bits (b : Int)).toNat = a ||| b := by
    show (BitVec.ofInt 8 (a : Int) ||| BitVec.ofInt 8 (b : Int)).toNat = a ||| b
    rw [h8, h8, BitVec.toNat_or, BitVec.toNat_ofNat, BitVec.toNat_ofNat, Nat.mod_eq_of_lt (by omega), Nat.mod_eq_of_lt (by omega)]
  rw [h]
  have : a ||| b < 2 ^ 8 := Nat.or_lt_two_pow (by omega) (by omega)
  exact wrapu8 (by omega)

/-- The low k bits. -/
theorem mask_nat (a k : Nat) : a &&& (2 ^ k - 1) = a % 2 ^ k := Nat.and_two_pow_sub_one_eq_mod a k

/-- One bit. -/
theorem bit_nat (a k : Nat) : a &&& 2 ^ k = 2 ^ k * (a / 2 ^ k % 2) := by
  apply Nat.eq_of_testBit_eq
  intro i
  rw [Nat.testBit_and, Nat.testBit_two_pow, Nat.mul_comm, Nat.testBit_mul_two_pow]
  by_cases h : k = i
  · subst h
    simp only [decide_true, Bool.and_true, Nat.le_refl, Nat.sub_self, Bool.true_and]
    rw [Nat.testBit_eq_decide_div_mod_eq, Nat.testBit_eq_decide_div_mod_eq]
    congr 1
    simp
  · simp only [h, decide_false, Bool.and_false]
    by_cases hk : k ≤ i
    · have h2 : i - k ≠ 0 := by omega
      simp only [hk, decide_true, Bool.true_and]
      rw [Nat.testBit_eq_decide_div_mod_eq]
      have h3 : a / 2 ^ k % 2 / 2 ^ (i - k) = 0 := by
        apply Nat.div_eq_of_lt
        have h4 : a / 2 ^ k % 2 < 2 := Nat.mod_lt _ (by omega)
        have h5 : 2 ^ 1 ≤ 2 ^ (i - k) := Nat.pow_le_pow_right (by omega) (by omega)
        omega
      rw [h3]; simp
    · simp [hk]

/-- A part that was moved up, and one that fits below it. -/
theorem shl_or (a b k : Nat) (h : b < 2 ^ k) : a * 2 ^ k ||| b = a * 2 ^ k + b := by
  rw [Nat.mul_comm, ← Nat.two_pow_add_eq_or_of_lt h]

theorem shr_nat (a k : Nat) : Int.fdiv (a : Int) ((2 : Int) ^ k) = ((a / 2 ^ k : Nat) : Int) := by
  rw [Int.fdiv_eq_ediv_of_nonneg _ (by exact Int.le_of_lt (Int.pow_pos (by omega)))]
  simp
end Tdoc
/- The parser of package policy: blanks and words. -/
set_option linter.unusedVariables false
set_option linter.unusedSimpArgs false
namespace Tdoc
open Go Go.Proofs

/-- The parser's state: where it is, the present word and where it began, whether it has met an error. -/
structure PS where
  a : Nat
  nt : List UInt8
  na : Nat
  wr : Bool

def psr (text : List UInt8) : PS → List AV
  | ⟨a, nt, na, wr⟩ => [.d (.str text), .d (.int .i64 a), .d (.str nt), .d (.int .i64 na), .d (.bool wr)]

/-- How many bytes are skipped. -/
def skipS : Bool → List UInt8 → Nat
  | _, [] => 0
  | false, c :: r => if c = 32 ∨ c = 10 then skipS false r + 1 else if c = 35 then skipS true r + 1 else 0
  | true, c :: r => if c = 10 then skipS false r + 1 else skipS true r + 1

theorem skipS_le : ∀ (b : Bool) (l : List UInt8), skipS b l ≤ l.length
  | _, [] => by simp [skipS]
  | false, c :: r => by
    have h1 := skipS_le false r; have h2 := skipS_le true r
    simp only [skipS, List.length_cons]; split
    · omega
    · split <;> omega
  | true, c :: r => by
    have h1 := skipS_le false r; have h2 := skipS_le true r
    simp only [skipS, List.length_cons]; split <;> omega

end Tdoc
/- The parser of package policy: the next word. -/
set_option linter.unusedVariables false
set_option linter.unusedSimpArgs false
namespace Tdoc
open Go Go.Proofs

def isLow (c : UInt8) : Bool := decide (97 ≤ c.toNat) && decide (c.toNat ≤ 122)
/-- How many letters a text begins with. -/
def lets : List UInt8 → Nat
  | [] => 0
  | c :: r => if isLow c then lets r + 1 else 0

theorem lets_le : ∀ (l : List UInt8), lets l ≤ l.length
  | [] => by simp [lets]
  | c :: r => by have := lets_le r; simp only [lets, List.length_cons]; split <;> omega

/-- The word that begins here: its length. -/
def wlen (l : List UInt8) : Nat := if lets l = 0 ∧ l ≠ [] then 1 else lets l

theorem wlen_le (l : List UInt8) : wlen l ≤ l.length := by
  unfold wlen
  split
  · rename_i h; have := List.length_pos_iff.2 h.2; omega
  · exact lets_le l

def nextP (text : List UInt8) (s : PS) : PS :=
  ⟨s.a + skipS false (text.drop s.a) + wlen (text.drop (s.a + skipS false (text.drop s.a))), (text.drop (s.a + skipS false (text.drop s.a))).take (wlen (text.drop (s.a + skipS false (text.drop s.a)))), s.a + skipS false (text.drop s.a), s.wr⟩

theorem nextP_le (text : List UInt8) (s : PS) (h : s.a ≤ text.length) : (nextP text s).a ≤ text.length := by
  have h1 := skipS_le false (text.drop s.a)
  have h2 := wlen_le (text.drop (s.a + skipS false (text.drop s.a)))
  simp only [List.length_drop] at h1 h2
  simp only [nextP]; omega

end Tdoc
/- The parser of package policy: names and their numbers, words that are passed over. -/
set_option linter.unusedVariables false
set_option linter.unusedSimpArgs false
namespace Tdoc
open Go Go.Proofs

def strsAV (l : List (List UInt8)) : List (List Dat) := l.map fun s => [.str s]

/-- The index of a text in a list, from 0 on, or -1. -/
def sIdx (l : List (List UInt8)) (s : List UInt8) : Int := match l.findIdx? (fun x => x == s) with
  | some i => i
  | none => -1

theorem sIdx_bound (l : List (List UInt8)) (s : List UInt8) : -1 ≤ sIdx l s ∧ sIdx l s < l.length := by
  unfold sIdx
  split
  · rename_i i h
    have := (List.findIdx?_eq_some_iff_getElem.1 h).1
    omega
  · omega

theorem sIdx_at {l : List (List UInt8)} {s : List UInt8} {k : Nat} (hk : k < l.length) (h : l[k] = s) (hb : ∀ j, (hj : j < k) → l[j]'(by omega) ≠ s) : sIdx l s = k := by
  unfold sIdx
  have : l.findIdx? (fun x => x == s) = some k := by
    rw [List.findIdx?_eq_some_iff_getElem]
    exact ⟨hk, by simp [h], fun j hj => by simpa using hb j hj⟩
  rw [this]

theorem sIdx_none {l : List (List UInt8)} {s : List UInt8} (hb : ∀ j, (hj : j < l.length) → l[j] ≠ s) : sIdx l s = -1 := by
  unfold sIdx
  have : l.findIdx? (fun x => x == s) = none := by
    rw [List.findIdx?_eq_none_iff]
    intro x hx
    obtain ⟨j, hj, rfl⟩ := List.mem_iff_getElem.1 hx
    simpa using hb j hj
  rw [this]

set_option maxRecDepth 100000 in
theorem Index_spec (l : List (List UInt8)) (s : List UInt8) (hl : l.length ≤ 1000000) :
    Spec Tryz.prog 39 [.d (.sl 1 (strsAV l)), .d (.str s)] [] (fun r h' => r = .d (.int .i64 (sIdx l s)) ∧ h' = []) := by
  refine Spec_of_body hT Tryz.func39 rfl rfl rfl rfl ?_
  intro E hE
  have hlen : (strsAV l).length = l.length := by simp [strsAV]
  repeat (first | refine wk hT rfl rfl ?_ | refine wd hT rfl rfl rfl ?_ | refine wz hT rfl ?_ | refine AWd_nil ?_ | refine AWk_nil ?_ | refine wh hT rfl rfl rfl rfl ?_ | refine wg hT rfl rfl rfl rfl rfl ?_ | refine AW_seq ?_ | refine AW_region ?_ | refine wx mixed ?_ | refine AW_block ?_ | refine AW_skip ?_ | refine AW_exit ?_ | refine AW_ret ?_)
  refine AW_loopL (ι := Nat) (fun k => [(0, .d (.sl 1 (strsAV l))), (1, .d (.str s)), (7, .d (.int .i64 (strsAV l).length)), (8, .d (.int .i64 k))]) (fun _ => []) (fun k => k ≤ l.length ∧ ∀ j, (hj : j < k) → (hj2 : j < l.length) → l[j] ≠ s) (fun k => l.length - k) 0
    ⟨by omega, fun j hj => by omega⟩ ⟨.refl _, .refl _, .refl _, .refl _, trivial⟩ (HLe.refl _) ?_
  intro k ⟨hk, hb⟩
  repeat (first | refine wk hT rfl rfl ?_ | refine wd hT rfl rfl rfl ?_ | refine wz hT rfl ?_ | refine AWd_nil ?_ | refine AWk_nil ?_ | refine wh hT rfl rfl rfl rfl ?_ | refine wg hT rfl rfl rfl rfl rfl ?_ | refine AW_seq ?_ | refine AW_region ?_ | refine wx mixed ?_ | refine AW_block ?_ | refine AW_skip ?_ | refine AW_exit ?_ | refine AW_ret ?_)
  refine AW_condL rfl (fun h1 => ?_) (fun h1 => ?_)
  · have hlt : k < l.length := by rw [hlen] at h1; simpa using h1
    have hel : (strsAV l)[((k : Int)).toNat]? = some [.str l[k]] := by simp [strsAV, hlt]
    repeat (first | refine wk hT rfl rfl ?_ | refine wd hT rfl rfl rfl ?_ | refine wz hT rfl ?_ | refine AWd_nil ?_ | refine AWk_nil ?_ | refine wh hT rfl rfl rfl rfl ?_ | refine wg hT rfl rfl rfl rfl rfl ?_ | refine AW_seq ?_ | refine AW_region ?_ | refine wx mixed ?_ | refine AW_block ?_ | refine AW_skip ?_ | refine AW_exit ?_ | refine AW_ret ?_)
    refine AWk_op (OpS_of_pure (indexAddr_ok hT rfl rfl rfl rfl (by omega) hel)) rfl ?_
    repeat (first | refine wk hT rfl rfl ?_ | refine wd hT rfl rfl rfl ?_ | refine wz hT rfl ?_ | refine AWd_nil ?_ | refine AWk_nil ?_ | refine wh hT rfl rfl rfl rfl ?_ | refine wg hT rfl rfl rfl rfl rfl ?_ | refine AW_seq ?_ | refine AW_region ?_ | refine wx mixed ?_ | refine AW_block ?_ | refine AW_skip ?_ | refine AW_exit ?_ | refine AW_ret ?_)
    refine AW_condL rfl (fun h2 => ?_) (fun h2 => ?_)
    · have h2' : s = l[k] := by simpa using h2
      repeat (first | refine wk hT rfl rfl ?_ | refine wd hT rfl rfl rfl ?_ | refine wz hT rfl ?_ | refine AWd_nil ?_ | refine AWk_nil ?_ | refine wh hT rfl rfl rfl rfl ?_ | refine wg hT rfl rfl rfl rfl rfl ?_ | refine AW_seq ?_ | refine AW_region ?_ | refine wx mixed ?_ | refine AW_block ?_ | refine AW_skip ?_ | refine AW_exit ?_ | refine AW_ret ?_)
      refine ret_exact rfl (.refl _) rfl rfl rfl rfl ⟨?_, rfl⟩
      show AV.d (.int .i64 (k : Int)) = _
      rw [sIdx_at hlt h2'.symm (fun j hj => hb j hj (by omega))]
    · have h2' : ¬ s = l[k] := by simpa using h2
      repeat (first | refine wk hT rfl rfl ?_ | refine wd hT rfl rfl rfl ?_ | refine wz hT rfl ?_ | refine AWd_nil ?_ | refine AWk_nil ?_ | refine wh hT rfl rfl rfl rfl ?_ | refine wg hT rfl rfl rfl rfl rfl ?_ | refine AW_seq ?_ | refine AW_region ?_ | refine wx mixed ?_ | refine AW_block ?_ | refine AW_skip ?_ | refine AW_exit ?_ | refine AW_ret ?_)
      refine ⟨k + 1, ⟨by omega, fun j hj hj2 => ?_⟩, by omega, ⟨.refl _, .refl _, .refl _, AV.le.eq ?_, trivial⟩, HLe.refl _⟩
      · by_cases hjk : j = k
        · subst hjk; exact fun hh => h2' hh.symm
        · exact hb j (by omega) hj2
      · show AV.d (.int .i64 (IntKind.i64.wrap ((k : Int) + 1))) = _
        rw [wrap_id (by omega)]; rfl
  · have hge : k = l.length := by rw [hlen] at h1; simp at h1; omega
    repeat (first | refine wk hT rfl rfl ?_ | refine wd hT rfl rfl rfl ?_ | refine wz hT rfl ?_ | refine AWd_nil ?_ | refine AWk_nil ?_ | refine wh hT rfl rfl rfl rfl ?_ | refine wg hT rfl rfl rfl rfl rfl ?_ | refine AW_seq ?_ | refine AW_region ?_ | refine wx mixed ?_ | refine AW_block ?_ | refine AW_skip ?_ | refine AW_exit ?_ | refine AW_ret ?_)
    refine ret_exact rfl (.refl _) rfl rfl rfl rfl ⟨?_, rfl⟩
    show AV.d (.int .i64 (-1)) = _
    rw [sIdx_none (fun j hj => hb j (by omega) hj)]

def chk : List (List UInt8) := [[102,111,114,109],[115,105,103,110,97,116,117,114,101],[112,97,116,104],[114,101,118,111,99,97,116,105,111,110],[102,114,101,115,104],[104,97,115,104,101,115],[103,114,111,117,112,115],[122,111,110,101],[101,120,112,105,114,121],[115,116,97,116,101],[97,99,99,101,115,115],[99,104,105,112],[97,99,116,105,118,101]]
def vls : List (List UInt8) := [[103,111,111,100],[98,97,100],[119,97,105,118,101,100],[109,105,115,115,105,110,103]]
def vds : List (List UInt8) := [[97,99,99,101,112,116],[114,101,102,101,114],[114,101,102,117,115,101]]

theorem Checks_spec : Spec Tryz.prog 42 [] [] (fun r h' => r = .d (.sl 1 (strsAV chk)) ∧ h' = []) := by
  refine Spec_of_body hT Tryz.func42 rfl rfl rfl rfl ?_
  intro E hE
  repeat (first | refine wk hT rfl rfl ?_ | refine wd hT rfl rfl rfl ?_ | refine wz hT rfl ?_ | refine AWd_nil ?_ | refine AWk_nil ?_ | refine wh hT rfl rfl rfl rfl ?_ | refine wg hT rfl rfl rfl rfl rfl ?_ | refine AW_seq ?_ | refine AW_region ?_ | refine wx mixed ?_ | refine AW_block ?_ | refine AW_skip ?_ | refine AW_exit ?_ | refine AW_ret ?_)
  exact ret_exact rfl AV.le.dat rfl rfl rfl rfl ⟨rfl, rfl⟩
theorem Values_spec : Spec Tryz.prog 43 [] [] (fun r h' => r = .d (.sl 1 (strsAV vls)) ∧ h' = []) := by
  refine Spec_of_body hT Tryz.func43 rfl rfl rfl rfl ?_
  intro E hE
  repeat (first | refine wk hT rfl rfl ?_ | refine wd hT rfl rfl rfl ?_ | refine wz hT rfl ?_ | refine AWd_nil ?_ | refine AWk_nil ?_ | refine wh hT rfl rfl rfl rfl ?_ | refine wg hT rfl rfl rfl rfl rfl ?_ | refine AW_seq ?_ | refine AW_region ?_ | refine wx mixed ?_ | refine AW_block ?_ | refine AW_skip ?_ | refine AW_exit ?_ | refine AW_ret ?_)
  exact ret_exact rfl AV.le.dat rfl rfl rfl rfl ⟨rfl, rfl⟩
theorem Verdicts_spec : Spec Tryz.prog 40 [] [] (fun r h' => r = .d (.sl 1 (strsAV vds)) ∧ h' = []) := by
  refine Spec_of_body hT Tryz.func40 rfl rfl rfl rfl ?_
  intro E hE
  repeat (first | refine wk hT rfl rfl ?_ | refine wd hT rfl rfl rfl ?_ | refine wz hT rfl ?_ | refine AWd_nil ?_ | refine AWk_nil ?_ | refine wh hT rfl rfl rfl rfl ?_ | refine wg hT rfl rfl rfl rfl rfl ?_ | refine AW_seq ?_ | refine AW_region ?_ | refine wx mixed ?_ | refine AW_block ?_ | refine AW_skip ?_ | refine AW_exit ?_ | refine AW_ret ?_)
  exact ret_exact rfl AV.le.dat rfl rfl rfl rfl ⟨rfl, rfl⟩
end Tdoc
/- The parser of package policy: words that are passed over, and lists of conditions. -/
set_option linter.unusedVariables false
set_option linter.unusedSimpArgs false
namespace Tdoc
open Go Go.Proofs

theorem low_psr (k : Nat) (text : List UInt8) (s : PS) : lowL k (psr text s) = true := by cases s; rfl
theorem lowH_psr (k : Nat) (text : List UInt8) (s : PS) : lowH k [.row (psr text s)] = true := by cases s; rfl

def isP (text : List UInt8) (s : PS) (w : List UInt8) : Bool × PS := if s.wr = true ∨ s.nt ≠ w then (false, s) else (true, nextP text s)
def oneP (text : List UInt8) (s : PS) (l : List (List UInt8)) : Int × PS := if sIdx l s.nt + 1 = 0 ∨ s.wr = true then (0, { s with wr := true }) else (sIdx l s.nt + 1, nextP text s)
def needP (text : List UInt8) (s : PS) (w : List UInt8) : PS := if (isP text s w).1 then (isP text s w).2 else { (isP text s w).2 with wr := true }

/-! ### conditions -/
inductive Cond where
  | mk (k c v : Int) (kids : List Cond)

mutual
def encC : Cond → List Dat
  | .mk k c v kids => [.int .i64 k, .int .i64 c, .int .i64 v, .sl 4 (encCs kids)]
def encCs : List Cond → List (List Dat)
  | [] => []
  | a :: l => encC a :: encCs l
end

def cAV (c : Cond) : AV := .agg ((encC c).map .d)

theorem encCs_eq : ∀ (l : List Cond), encCs l = l.map encC
  | [] => rfl
  | a :: l => by simp [encCs, encCs_eq l]
theorem encCs_length (l : List Cond) : (encCs l).length = l.length := by rw [encCs_eq]; simp
theorem encCs_append (a b : List Cond) : encCs (a ++ b) = encCs a ++ encCs b := by simp [encCs_eq]
theorem low_cAV (k : Nat) (c : Cond) : low k (cAV c) = true := lowL_d (encC c)

def flatC (kind : Int) : Cond → List Cond
  | .mk k c v kids => if k = kind then kids else [.mk k c v kids]

def wideC : Cond → Nat
  | .mk _ _ _ kids => kids.length

end Tdoc
/- The parser of package policy: a series of conditions with a word between them. -/
set_option linter.unusedVariables false
set_option linter.unusedSimpArgs false
namespace Tdoc
open Go Go.Proofs

structure Inv (text : List UInt8) (s : PS) : Prop where
  a : s.a = s.na + s.nt.length
  le : s.a ≤ text.length

theorem Inv.next {text : List UInt8} {s : PS} (h : Inv text s) : Inv text (nextP text s) ∧ s.na + s.nt.length ≤ (nextP text s).na ∧ (nextP text s).wr = s.wr := by
  have h1 := skipS_le false (text.drop s.a)
  have h2 := wlen_le (text.drop (s.a + skipS false (text.drop s.a)))
  simp only [List.length_drop] at h1 h2
  have := h.a; have := h.le
  refine ⟨⟨?_, nextP_le text s h.le⟩, ?_, rfl⟩
  · simp only [nextP, List.length_take, List.length_drop]; omega
  · simp only [nextP]; omega

theorem isP_true {text : List UInt8} {s : PS} {w : List UInt8} (h : Inv text s) (ht : (isP text s w).1 = true) : Inv text (isP text s w).2 ∧ s.na + w.length ≤ (isP text s w).2.na ∧ (isP text s w).2.na ≤ text.length := by
  unfold isP at ht ⊢
  split at ht
  · cases ht
  · rename_i hc
    rw [if_neg hc]
    have hw : s.nt = w := by simp at hc; exact hc.2
    obtain ⟨h1, h2, _⟩ := h.next
    rw [hw] at h2
    refine ⟨h1, h2, ?_⟩
    have := h1.a; have := h1.le; simp only at *; omega
theorem isP_false {text : List UInt8} {s : PS} {w : List UInt8} (ht : (isP text s w).1 = false) : (isP text s w).2 = s := by
  unfold isP at ht ⊢
  split
  · rfl
  · rename_i hc; rw [if_neg hc] at ht; cases ht

theorem Inv.wr {text : List UInt8} {s : PS} (h : Inv text s) (b : Bool) : Inv text { s with wr := b } := ⟨h.a, h.le⟩

theorem oneP_inv {text : List UInt8} {s : PS} {l : List (List UInt8)} (h : Inv text s) : Inv text (oneP text s l).2 ∧ s.na ≤ (oneP text s l).2.na := by
  unfold oneP
  split
  · exact ⟨h.wr true, Nat.le_refl _⟩
  · obtain ⟨h1, h2, _⟩ := h.next; exact ⟨h1, by simp only; omega⟩
theorem needP_inv {text : List UInt8} {s : PS} {w : List UInt8} (h : Inv text s) : Inv text (needP text s w) ∧ s.na ≤ (needP text s w).na := by
  unfold needP
  cases hb : (isP text s w).1 with
  | true => rw [if_pos rfl]; obtain ⟨h1, h2, _⟩ := isP_true h hb; exact ⟨h1, by omega⟩
  | false => rw [isP_false hb]; exact ⟨h.wr true, Nat.le_refl _⟩

def loopP (text : List UInt8) (kind : Int) (w : List UInt8) (part : PS → Cond × PS) : Nat → List Cond → PS → List Cond × PS
  | 0, l, s => (l, s)
  | m + 1, l, s => if (isP text s w).1 then loopP text kind w part m (l ++ flatC kind (part (isP text s w).2).1) (part (isP text s w).2).2 else (l, (isP text s w).2)

def seriesP (text : List UInt8) (kind : Int) (w : List UInt8) (part : PS → Cond × PS) (s : PS) : Cond × PS :=
  if (part s).2.nt ≠ w ∨ (part s).2.wr = true then part s else
    (.mk kind 0 0 (loopP text kind w part (text.length + 1) (flatC kind (part s).1) (part s).2).1, (loopP text kind w part (text.length + 1) (flatC kind (part s).1) (part s).2).2)

/-- What a part keeps. -/
structure PartOk (text : List UInt8) (n : Nat) (part : PS → Cond × PS) : Prop where
  inv : ∀ s, Inv text s → text.length - s.na < n → Inv text (part s).2 ∧ s.na ≤ (part s).2.na ∧ wideC (part s).1 ≤ 1 + ((part s).2.na - s.na)

theorem flatC_len (kind : Int) (c : Cond) : (flatC kind c).length ≤ max 1 (wideC c) := by
  cases c; simp only [flatC, wideC]; split
  · omega
  · simp only [List.length_cons, List.length_nil]; omega

theorem loopP_ok {text : List UInt8} {n : Nat} {part : PS → Cond × PS} (hp : PartOk text n part) (kind : Int) {w : List UInt8} (hw : w ≠ []) : ∀ (m : Nat) (l : List Cond) (s : PS) (b : Nat), Inv text s → text.length - s.na < n → l.length ≤ 1 + (s.na - b) → b ≤ s.na →
    Inv text (loopP text kind w part m l s).2 ∧ s.na ≤ (loopP text kind w part m l s).2.na ∧ (loopP text kind w part m l s).1.length ≤ 1 + ((loopP text kind w part m l s).2.na - b)
  | 0, l, s, b, h, hn, hl, hb => ⟨h, Nat.le_refl _, hl⟩
  | m + 1, l, s, b, h, hn, hl, hb => by
    unfold loopP
    cases hi : (isP text s w).1 with
    | false => rw [if_neg (by simp), isP_false hi]; exact ⟨h, Nat.le_refl _, hl⟩
    | true =>
      rw [if_pos rfl]
      obtain ⟨h1, h2, h3⟩ := isP_true h hi
      have hwl : 0 < w.length := List.length_pos_iff.2 hw
      obtain ⟨k1, k2, k3⟩ := hp.inv _ h1 (by omega)
      have hf := flatC_len kind (part (isP text s w).2).1
      have := loopP_ok hp kind hw m (l ++ flatC kind (part (isP text s w).2).1) _ b k1 (by omega) (by simp only [List.length_append]; omega) (by omega)
      exact ⟨this.1, by omega, this.2.2⟩

theorem seriesP_ok {text : List UInt8} {n : Nat} {part : PS → Cond × PS} (hp : PartOk text n part) (kind : Int) {w : List UInt8} (hw : w ≠ []) : PartOk text n (seriesP text kind w part) := by
  refine ⟨fun s h hn => ?_⟩
  obtain ⟨k1, k2, k3⟩ := hp.inv s h hn
  unfold seriesP
  split
  · exact ⟨k1, k2, k3⟩
  · have hf := flatC_len kind (part s).1
    have := loopP_ok hp kind hw (text.length + 1) (flatC kind (part s).1) (part s).2 s.na k1 (by omega) (by omega) k2
    exact ⟨this.1, by simp only; omega, by simp only [wideC]; exact this.2.2⟩

/-- The contract of a part. -/
def PartSpec (text : List UInt8) (n : Nat) (g : FuncId) (part : PS → Cond × PS) : Prop :=
  ∀ s, Inv text s → text.length - s.na < n → Spec Tryz.prog g [.ptr 0 0] [.row (psr text s)] (fun r h' => r = cAV (part s).1 ∧ h' = [.row (psr text (part s).2)])

theorem ren_cAV (f : Nat → Nat) (c : Cond) : ren f (cAV c) = cAV c := ren_low f _ (low_cAV 0 c)

end Tdoc
/- The parser of package policy: conditions. -/
set_option linter.unusedVariables false
set_option linter.unusedSimpArgs false
namespace Tdoc
open Go Go.Proofs

def andW : List UInt8 := [97, 110, 100]
def orW : List UInt8 := [111, 114]
def notW : List UInt8 := [110, 111, 116]
def isW : List UInt8 := [105, 115]
def lpW : List UInt8 := [40]
def rpW : List UInt8 := [41]
def ifW : List UInt8 := [105, 102]
def scW : List UInt8 := [59]

def isAtomP (text : List UInt8) (s : PS) : Cond × PS :=
  if (isP text (oneP text s chk).2 isW).1 then (.mk 1 (oneP text s chk).1 (oneP text (isP text (oneP text s chk).2 isW).2 vls).1 [], (oneP text (isP text (oneP text s chk).2 isW).2 vls).2)
  else (.mk 1 (oneP text s chk).1 1 [], (isP text (oneP text s chk).2 isW).2)

def atomP (text : List UInt8) : Nat → PS → Cond × PS
  | 0, s => (.mk 0 0 0 [], s)
  | n + 1, s =>
    if (isP text s notW).1 then (.mk 2 0 0 [(atomP text n (isP text s notW).2).1], (atomP text n (isP text s notW).2).2)
    else if (isP text (isP text s notW).2 lpW).1 then
      ((seriesP text 4 orW (seriesP text 3 andW (atomP text n)) (isP text (isP text s notW).2 lpW).2).1, needP text (seriesP text 4 orW (seriesP text 3 andW (atomP text n)) (isP text (isP text s notW).2 lpW).2).2 rpW)
    else isAtomP text (isP text (isP text s notW).2 lpW).2

def conjP (text : List UInt8) (n : Nat) : PS → Cond × PS := seriesP text 3 andW (atomP text n)
def condP (text : List UInt8) (n : Nat) : PS → Cond × PS := seriesP text 4 orW (conjP text n)

theorem isP_inv {text : List UInt8} {s : PS} {w : List UInt8} (h : Inv text s) : Inv text (isP text s w).2 ∧ s.na ≤ (isP text s w).2.na := by
  cases hb : (isP text s w).1 with
  | true => obtain ⟨h1, h2, _⟩ := isP_true h hb; exact ⟨h1, by omega⟩
  | false => rw [isP_false hb]; exact ⟨h, Nat.le_refl _⟩

theorem isAtomP_ok {text : List UInt8} {s : PS} (h : Inv text s) : Inv text (isAtomP text s).2 ∧ s.na ≤ (isAtomP text s).2.na ∧ wideC (isAtomP text s).1 = 0 := by
  obtain ⟨h1, h2⟩ := oneP_inv (l := chk) h
  obtain ⟨h3, h4⟩ := isP_inv (w := isW) h1
  unfold isAtomP
  split
  · obtain ⟨h5, h6⟩ := oneP_inv (l := vls) h3
    exact ⟨h5, by simp only; omega, rfl⟩
  · exact ⟨h3, by simp only; omega, rfl⟩

theorem atomP_ok (text : List UInt8) : ∀ n, PartOk text n (atomP text n)
  | 0 => ⟨fun s _ hn => by omega⟩
  | n + 1 => by
    have ih := atomP_ok text n
    refine ⟨fun s h hn => ?_⟩
    unfold atomP
    cases h1 : (isP text s notW).1 with
    | true =>
      rw [if_pos rfl]
      obtain ⟨k1, k2, k3⟩ := isP_true h h1
      have : notW.length = 3 := rfl
      obtain ⟨q1, q2, q3⟩ := ih.inv _ k1 (by omega)
      exact ⟨q1, by simp only; omega, by simp only [wideC, List.length_cons, List.length_nil]; omega⟩
    | false =>
      rw [if_neg (by simp), isP_false h1]
      cases h2 : (isP text s lpW).1 with
      | true =>
        rw [if_pos rfl]
        obtain ⟨k1, k2, k3⟩ := isP_true h h2
        have : lpW.length = 1 := rfl
        obtain ⟨q1, q2, q3⟩ := (seriesP_ok (seriesP_ok ih 3 (w := andW) (by decide)) 4 (w := orW) (by decide)).inv _ k1 (by omega)
        obtain ⟨r1, r2⟩ := needP_inv (w := rpW) q1
        exact ⟨r1, by simp only; omega, by simp only; omega⟩
      | false =>
        rw [if_neg (by simp), isP_false h2]
        obtain ⟨q1, q2, q3⟩ := isAtomP_ok h
        exact ⟨q1, q2, by omega⟩

theorem conjP_ok (text : List UInt8) (n : Nat) : PartOk text n (conjP text n) := seriesP_ok (atomP_ok text n) 3 (by decide)
theorem condP_ok (text : List UInt8) (n : Nat) : PartOk text n (condP text n) := seriesP_ok (conjP_ok text n) 4 (by decide)

end Tdoc
/- Package policy: which conditions are valid. -/
set_option linter.unusedVariables false
set_option linter.unusedSimpArgs false
namespace Tdoc
open Go Go.Proofs

mutual
def smallC : Cond → Prop
  | .mk _ _ _ kids => kids.length ≤ 1000000000 ∧ smallCs kids
def smallCs : List Cond → Prop
  | [] => True
  | a :: l => smallC a ∧ smallCs l
end

theorem smallCs_at : ∀ {l : List Cond}, smallCs l → ∀ c, c ∈ l → smallC c
  | [], _, c, hc => by cases hc
  | a :: l, h, c, hc => by
    cases hc with
    | head => exact h.1
    | tail _ hc => exact smallCs_at h.2 c hc
theorem smallCs_append : ∀ {a b : List Cond}, smallCs a → smallCs b → smallCs (a ++ b)
  | [], _, _, h => h
  | x :: a, b, h1, h2 => ⟨h1.1, smallCs_append h1.2 h2⟩

/-- The index of the first that p takes, or -1. -/
def fIdx {α : Type} (p : α → Bool) (l : List α) : Int := match l.findIdx? p with
  | some i => i
  | none => -1
theorem fIdx_at {α : Type} {p : α → Bool} {l : List α} {k : Nat} (hk : k < l.length) (h : p l[k] = true) (hb : ∀ j, (hj : j < k) → (hj2 : j < l.length) → p l[j] = false) : fIdx p l = k := by
  unfold fIdx
  have : l.findIdx? p = some k := by
    rw [List.findIdx?_eq_some_iff_getElem]
    exact ⟨hk, h, fun j hj => by simpa using hb j hj (by omega)⟩
  rw [this]
theorem fIdx_none {α : Type} {p : α → Bool} {l : List α} (hb : ∀ j, (hj : j < l.length) → p l[j] = false) : fIdx p l = -1 := by
  unfold fIdx
  have : l.findIdx? p = none := by
    rw [List.findIdx?_eq_none_iff]
    intro x hx
    obtain ⟨j, hj, rfl⟩ := List.mem_iff_getElem.1 hx
    simpa using hb j hj
  rw [this]
theorem fIdx_any {α : Type} (p : α → Bool) (l : List α) : decide (fIdx p l ≥ 0) = l.any p := by
  unfold fIdx
  split
  · rename_i i h
    obtain ⟨h1, h2, _⟩ := List.findIdx?_eq_some_iff_getElem.1 h
    have : l.any p = true := List.any_eq_true.2 ⟨_, List.getElem_mem h1, h2⟩
    rw [this]; simp
  · rename_i h
    rw [List.findIdx?_eq_none_iff] at h
    have : l.any p = false := by rw [List.any_eq_false]; intro x hx; simpa using h x hx
    rw [this]; decide

/-- The contract of a predicate on conditions. -/
def PredC (g : FuncId) (first cap : List AV) (H : List AObj) (p : Cond → Bool) (l : List Cond) : Prop :=
  ∀ c, c ∈ l → Spec Tryz.prog g (first ++ ([cAV c] ++ cap)) H (fun r h' => r = .d (.bool (p c)) ∧ h' = H)

set_option maxRecDepth 100000 in
theorem IndexFuncC_spec {kids : List Cond} {g : FuncId} {first cap : List AV} {H : List AObj} {p : Cond → Bool} (hp : PredC g first cap H p kids) (hH : lowH H.length H = true) (h1 : lowL H.length first = true) (h2 : lowL H.length cap = true) (hl : kids.length ≤ 1000000000) :
    Spec Tryz.prog 98 [.d (.sl 4 (encCs kids)), .fn (.func g) first cap] H (fun r h' => r = .d (.int .i64 (fIdx p kids)) ∧ h' = H) := by
  refine Spec_of_body hT Tryz.func98 rfl rfl rfl rfl ?_
  intro E hE
  have hlen := encCs_length kids
  repeat (first | refine wk hT rfl rfl ?_ | refine wd hT rfl rfl rfl ?_ | refine wz hT rfl ?_ | refine AWd_nil ?_ | refine AWk_nil ?_ | refine wh hT rfl rfl rfl rfl ?_ | refine wg hT rfl rfl rfl rfl rfl ?_ | refine AW_seq ?_ | refine AW_region ?_ | refine wx mixed ?_ | refine AW_block ?_ | refine AW_skip ?_ | refine AW_exit ?_ | refine AW_ret ?_)
  refine AW_loopL (ι := Nat) (fun k => [(0, .d (.sl 4 (encCs kids))), (1, .fn (.func g) first cap), (7, .d (.int .i64 (encCs kids).length)), (8, .d (.int .i64 k))]) (fun _ => H) (fun k => k ≤ kids.length ∧ ∀ j, (hj : j < k) → (hj2 : j < kids.length) → p kids[j] = false) (fun k => kids.length - k) 0
    ⟨by omega, fun j hj => by omega⟩ ⟨.refl _, .refl _, .refl _, .refl _, trivial⟩ (HLe.refl _) ?_
  intro k ⟨hk, hb⟩
  repeat (first | refine wk hT rfl rfl ?_ | refine wd hT rfl rfl rfl ?_ | refine wz hT rfl ?_ | refine AWd_nil ?_ | refine AWk_nil ?_ | refine wh hT rfl rfl rfl rfl ?_ | refine wg hT rfl rfl rfl rfl rfl ?_ | refine AW_seq ?_ | refine AW_region ?_ | refine wx mixed ?_ | refine AW_block ?_ | refine AW_skip ?_ | refine AW_exit ?_ | refine AW_ret ?_)
  refine AW_condL rfl (fun h1' => ?_) (fun h1' => ?_)
  · have hlt : k < kids.length := by rw [hlen] at h1'; simpa using h1'
    have hel : (encCs kids)[((k : Int)).toNat]? = some (encC kids[k]) := by simp [encCs_eq, hlt]
    have hpk := hp kids[k] (List.getElem_mem hlt)
    generalize hc : kids[k] = c at hel hpk
    obtain ⟨ck, cc, cv, ckids⟩ := c
    repeat (first | refine wk hT rfl rfl ?_ | refine wd hT rfl rfl rfl ?_ | refine wz hT rfl ?_ | refine AWd_nil ?_ | refine AWk_nil ?_ | refine wh hT rfl rfl rfl rfl ?_ | refine wg hT rfl rfl rfl rfl rfl ?_ | refine AW_seq ?_ | refine AW_region ?_ | refine wx mixed ?_ | refine AW_block ?_ | refine AW_skip ?_ | refine AW_exit ?_ | refine AW_ret ?_)
    refine AWk_op (OpS_of_pure (indexAddr_ok hT rfl rfl rfl rfl (by omega) hel)) rfl ?_
    repeat (first | refine wk hT rfl rfl ?_ | refine wd hT rfl rfl rfl ?_ | refine wz hT rfl ?_ | refine AWd_nil ?_ | refine AWk_nil ?_ | refine wh hT rfl rfl rfl rfl ?_ | refine wg hT rfl rfl rfl rfl rfl ?_ | refine AW_seq ?_ | refine AW_region ?_ | refine wx mixed ?_ | refine AW_block ?_ | refine AW_skip ?_ | refine AW_exit ?_ | refine AW_ret ?_)
    refine AWk_opR (callSame (Q := fun r h' => r = .d (.bool (p (.mk ck cc cv ckids))) ∧ h' = H) rfl rfl (hpk.mono (fun r h' ⟨q1, q2⟩ => ⟨⟨q1, q2⟩, by rw [q1]; rfl, by rw [q2]; exact hH⟩)) hH rfl ?_) rfl ?_
    · have : ∀ (a b : List AV), lowL H.length a = true → lowL H.length b = true → lowL H.length (a ++ b) = true := by
        intro a
        induction a with
        | nil => intro b _ hb; exact hb
        | cons x a ih => intro b ha hb; simp only [lowL, Bool.and_eq_true, List.cons_append] at ha ⊢; exact ⟨ha.1, ih b ha.2 hb⟩
      exact this _ _ h1 (this [_] _ (by simp [lowL, low_cAV]) h2)
    rintro v h' ⟨rfl, rfl⟩
    repeat (first | refine wk hT rfl rfl ?_ | refine wd hT rfl rfl rfl ?_ | refine wz hT rfl ?_ | refine AWd_nil ?_ | refine AWk_nil ?_ | refine wh hT rfl rfl rfl rfl ?_ | refine wg hT rfl rfl rfl rfl rfl ?_ | refine AW_seq ?_ | refine AW_region ?_ | refine wx mixed ?_ | refine AW_block ?_ | refine AW_skip ?_ | refine AW_exit ?_ | refine AW_ret ?_)
    refine AW_condL rfl (fun h2' => ?_) (fun h2' => ?_)
    · repeat (first | refine wk hT rfl rfl ?_ | refine wd hT rfl rfl rfl ?_ | refine wz hT rfl ?_ | refine AWd_nil ?_ | refine AWk_nil ?_ | refine wh hT rfl rfl rfl rfl ?_ | refine wg hT rfl rfl rfl rfl rfl ?_ | refine AW_seq ?_ | refine AW_region ?_ | refine wx mixed ?_ | refine AW_block ?_ | refine AW_skip ?_ | refine AW_exit ?_ | refine AW_ret ?_)
      refine ret_exact rfl (.refl _) (by simp) rfl rfl hH ⟨?_, rfl⟩
      show AV.d (.int .i64 (k : Int)) = _
      rw [fIdx_at hlt (by rw [hc]; exact h2') (fun j hj hj2 => hb j hj hj2)]
    · repeat (first | refine wk hT rfl rfl ?_ | refine wd hT rfl rfl rfl ?_ | refine wz hT rfl ?_ | refine AWd_nil ?_ | refine AWk_nil ?_ | refine wh hT rfl rfl rfl rfl ?_ | refine wg hT rfl rfl rfl rfl rfl ?_ | refine AW_seq ?_ | refine AW_region ?_ | refine wx mixed ?_ | refine AW_block ?_ | refine AW_skip ?_ | refine AW_exit ?_ | refine AW_ret ?_)
      refine ⟨k + 1, ⟨by omega, fun j hj hj2 => ?_⟩, by omega, ⟨.refl _, .refl _, .refl _, AV.le.eq ?_, trivial⟩, HLe.refl _⟩
      · by_cases hjk : j = k
        · subst hjk; rw [hc]; exact h2'
        · exact hb j (by omega) hj2
      · show AV.d (.int .i64 (IntKind.i64.wrap ((k : Int) + 1))) = _
        rw [wrap_id (by omega)]; rfl
  · have hge : k = kids.length := by rw [hlen] at h1'; simp at h1'; omega
    repeat (first | refine wk hT rfl rfl ?_ | refine wd hT rfl rfl rfl ?_ | refine wz hT rfl ?_ | refine AWd_nil ?_ | refine AWk_nil ?_ | refine wh hT rfl rfl rfl rfl ?_ | refine wg hT rfl rfl rfl rfl rfl ?_ | refine AW_seq ?_ | refine AW_region ?_ | refine wx mixed ?_ | refine AW_block ?_ | refine AW_skip ?_ | refine AW_exit ?_ | refine AW_ret ?_)
    refine ret_exact rfl (.refl _) (by simp) rfl rfl hH ⟨?_, rfl⟩
    show AV.d (.int .i64 (-1)) = _
    rw [fIdx_none (fun j hj => hb j (by omega) hj)]

set_option maxRecDepth 100000 in
theorem ContainsFuncC_spec {kids : List Cond} {g : FuncId} {first cap : List AV} {H : List AObj} {p : Cond → Bool} (hp : PredC g first cap H p kids) (hH : lowH H.length H = true) (h1 : lowL H.length first = true) (h2 : lowL H.length cap = true) (hl : kids.length ≤ 1000000000) :
    Spec Tryz.prog 79 [.d (.sl 4 (encCs kids)), .fn (.func g) first cap] H (fun r h' => r = .d (.bool (kids.any p)) ∧ h' = H) := by
  refine Spec_of_body hT Tryz.func79 rfl rfl rfl rfl ?_
  intro E hE
  have hs := IndexFuncC_spec hp hH h1 h2 hl
  repeat (first | refine wk hT rfl rfl ?_ | refine wd hT rfl rfl rfl ?_ | refine wz hT rfl ?_ | refine AWd_nil ?_ | refine AWk_nil ?_ | refine wh hT rfl rfl rfl rfl ?_ | refine wg hT rfl rfl rfl rfl rfl ?_ | refine AW_seq ?_ | refine AW_region ?_ | refine wx mixed ?_ | refine AW_block ?_ | refine AW_skip ?_ | refine AW_exit ?_ | refine AW_ret ?_)
  refine AWk_opR (callSame (Q := fun r h' => r = .d (.int .i64 (fIdx p kids)) ∧ h' = H) rfl rfl (hs.mono (fun r h' ⟨q1, q2⟩ => ⟨⟨q1, q2⟩, by rw [q1]; rfl, by rw [q2]; exact hH⟩)) hH rfl ?_) rfl ?_
  · simp [lowL, low, h1, h2]
  rintro v h' ⟨rfl, rfl⟩
  repeat (first | refine wk hT rfl rfl ?_ | refine wd hT rfl rfl rfl ?_ | refine wz hT rfl ?_ | refine AWd_nil ?_ | refine AWk_nil ?_ | refine wh hT rfl rfl rfl rfl ?_ | refine wg hT rfl rfl rfl rfl rfl ?_ | refine AW_seq ?_ | refine AW_region ?_ | refine wx mixed ?_ | refine AW_block ?_ | refine AW_skip ?_ | refine AW_exit ?_ | refine AW_ret ?_)
  refine ret_exact rfl (.refl _) (by simp) rfl rfl hH ⟨?_, rfl⟩
  show AV.d (.bool (decide (fIdx p kids ≥ 0))) = _
  rw [fIdx_any]

def kindC : Cond → Int
  | .mk k _ _ _ => k

def validC : Nat → Cond → Bool
  | 0, _ => false
  | d + 1, .mk k c v kids =>
    if k = 1 then decide (1 ≤ c) && decide (c ≤ 13) && decide (1 ≤ v) && decide (v ≤ 4) && decide (kids.length = 0)
    else if c ≠ 0 ∨ v ≠ 0 then false
    else if k = 2 then decide (kids.length = 1) && !(kids.any fun x => !validC d x)
    else if k = 3 ∨ k = 4 then !(decide (kids.length < 2) || kids.any fun x => kindC x == k) && !(kids.any fun x => !validC d x)
    else false

set_option maxRecDepth 100000 in
theorem valid1_spec (c x : Cond) : Spec Tryz.prog 80 ([] ++ ([cAV x] ++ [.ptr 0 0])) [.row ((encC c).map .d)] (fun r h' => r = .d (.bool (kindC x == kindC c)) ∧ h' = [.row ((encC c).map .d)]) := by
  obtain ⟨k, cc, cv, kids⟩ := c
  obtain ⟨k2, cc2, cv2, kids2⟩ := x
  refine Spec_of_body hT Tryz.func80 rfl rfl rfl rfl ?_
  intro E hE
  repeat (first | refine wk hT rfl rfl ?_ | refine wd hT rfl rfl rfl ?_ | refine wz hT rfl ?_ | refine AWd_nil ?_ | refine AWk_nil ?_ | refine wh hT rfl rfl rfl rfl ?_ | refine wg hT rfl rfl rfl rfl rfl ?_ | refine AW_seq ?_ | refine AW_region ?_ | refine wx mixed ?_ | refine AW_block ?_ | refine AW_skip ?_ | refine AW_exit ?_ | refine AW_ret ?_)
  exact ret_exact rfl (.refl _) rfl rfl rfl rfl ⟨rfl, rfl⟩

set_option maxRecDepth 100000 in
theorem valid_spec : ∀ (d : Nat) (c : Cond), d ≤ 1000 → smallC c → Spec Tryz.prog 60 [cAV c, .d (.int .i64 d)] [] (fun r h' => r = .d (.bool (validC d c)) ∧ h' = [])
  | 0, .mk k c v kids, hd, hs => by
    refine Spec_of_body hT Tryz.func60 rfl rfl rfl rfl ?_
    intro E hE
    repeat (first | refine wk hT rfl rfl ?_ | refine wd hT rfl rfl rfl ?_ | refine wz hT rfl ?_ | refine AWd_nil ?_ | refine AWk_nil ?_ | refine wh hT rfl rfl rfl rfl ?_ | refine wg hT rfl rfl rfl rfl rfl ?_ | refine AW_seq ?_ | refine AW_region ?_ | refine wx mixed ?_ | refine AW_block ?_ | refine AW_skip ?_ | refine AW_exit ?_ | refine AW_ret ?_)
    refine AW_condL rfl (fun _ => ?_) (fun hf => by simp at hf)
    repeat (first | refine wk hT rfl rfl ?_ | refine wd hT rfl rfl rfl ?_ | refine wz hT rfl ?_ | refine AWd_nil ?_ | refine AWk_nil ?_ | refine wh hT rfl rfl rfl rfl ?_ | refine wg hT rfl rfl rfl rfl rfl ?_ | refine AW_seq ?_ | refine AW_region ?_ | refine wx mixed ?_ | refine AW_block ?_ | refine AW_skip ?_ | refine AW_exit ?_ | refine AW_ret ?_)
    exact ret_exact rfl (.refl _) rfl rfl rfl rfl ⟨rfl, rfl⟩
  | d + 1, .mk k c v kids, hd, hs => by
    have h2 : ∀ x, x ∈ kids → Spec Tryz.prog 81 ([] ++ ([cAV x] ++ [.ptr 0 0])) [.row [.d (.int .i64 ((d + 1 : Nat) : Int))]] (fun r h' => r = .d (.bool (!validC d x)) ∧ h' = [.row [.d (.int .i64 ((d + 1 : Nat) : Int))]]) := by
      intro x hx
      have ih := valid_spec d x (by omega) (smallCs_at hs.2 x hx)
      obtain ⟨k2, cc2, cv2, kids2⟩ := x
      refine Spec_of_body hT Tryz.func81 rfl rfl rfl rfl ?_
      intro E hE
      have hw : IntKind.i64.wrap (((d + 1 : Nat) : Int) - 1) = (d : Int) := by rw [wrap_id (by omega)]; omega
      repeat (first | refine wk hT rfl rfl ?_ | refine wd hT rfl rfl rfl ?_ | refine wz hT rfl ?_ | refine AWd_nil ?_ | refine AWk_nil ?_ | refine wh hT rfl rfl rfl rfl ?_ | refine wg hT rfl rfl rfl rfl rfl ?_ | refine AW_seq ?_ | refine AW_region ?_ | refine wx mixed ?_ | refine AW_block ?_ | refine AW_skip ?_ | refine AW_exit ?_ | refine AW_ret ?_)
      rw [hw]
      refine AWk_op (callS0 rfl rfl ih rfl rfl rfl) rfl ?_
      repeat (first | refine wk hT rfl rfl ?_ | refine wd hT rfl rfl rfl ?_ | refine wz hT rfl ?_ | refine AWd_nil ?_ | refine AWk_nil ?_ | refine wh hT rfl rfl rfl rfl ?_ | refine wg hT rfl rfl rfl rfl rfl ?_ | refine AW_seq ?_ | refine AW_region ?_ | refine wx mixed ?_ | refine AW_block ?_ | refine AW_skip ?_ | refine AW_exit ?_ | refine AW_ret ?_)
      exact ret_exact rfl (.refl _) rfl rfl rfl rfl ⟨rfl, rfl⟩
    have c1 := ContainsFuncC_spec (p := fun x => kindC x == k) (kids := kids) (fun x hx => valid1_spec (.mk k c v kids) x) rfl rfl rfl hs.1
    have c2 := ContainsFuncC_spec (p := fun x => !validC d x) h2 rfl rfl rfl hs.1
    refine Spec_of_body hT Tryz.func60 rfl rfl rfl rfl ?_
    intro E hE
    have hlen := encCs_length kids
    repeat (first | refine wk hT rfl rfl ?_ | refine wd hT rfl rfl rfl ?_ | refine wz hT rfl ?_ | refine AWd_nil ?_ | refine AWk_nil ?_ | refine wh hT rfl rfl rfl rfl ?_ | refine wg hT rfl rfl rfl rfl rfl ?_ | refine AW_seq ?_ | refine AW_region ?_ | refine wx mixed ?_ | refine AW_block ?_ | refine AW_skip ?_ | refine AW_exit ?_ | refine AW_ret ?_)
    have hz0 : (((encCs kids).length : Int) == 0) = decide (kids.length = 0) := by rw [hlen, Bool.eq_iff_iff]; simp
    refine AW_condL rfl (fun hf => by simp at hf; omega) (fun _ => ?_)
    repeat (first | refine wk hT rfl rfl ?_ | refine wd hT rfl rfl rfl ?_ | refine wz hT rfl ?_ | refine AWd_nil ?_ | refine AWk_nil ?_ | refine wh hT rfl rfl rfl rfl ?_ | refine wg hT rfl rfl rfl rfl rfl ?_ | refine AW_seq ?_ | refine AW_region ?_ | refine wx mixed ?_ | refine AW_block ?_ | refine AW_skip ?_ | refine AW_exit ?_ | refine AW_ret ?_)
    refine AW_condL rfl (fun hk => ?_) (fun hk => ?_)
    · have hk' : k = 1 := by simpa using hk
      repeat (first | refine wk hT rfl rfl ?_ | refine wd hT rfl rfl rfl ?_ | refine wz hT rfl ?_ | refine AWd_nil ?_ | refine AWk_nil ?_ | refine wh hT rfl rfl rfl rfl ?_ | refine wg hT rfl rfl rfl rfl rfl ?_ | refine AW_seq ?_ | refine AW_region ?_ | refine wx mixed ?_ | refine AW_block ?_ | refine AW_skip ?_ | refine AW_exit ?_ | refine AW_ret ?_)
      refine ret_exact rfl (.refl _) rfl rfl rfl rfl ⟨congrArg (fun b => AV.d (.bool b)) ?_, rfl⟩
      rw [validC, if_pos hk', ← hz0]
    · have hk1 : ¬ k = 1 := by simpa using hk
      repeat (first | refine wk hT rfl rfl ?_ | refine wd hT rfl rfl rfl ?_ | refine wz hT rfl ?_ | refine AWd_nil ?_ | refine AWk_nil ?_ | refine wh hT rfl rfl rfl rfl ?_ | refine wg hT rfl rfl rfl rfl rfl ?_ | refine AW_seq ?_ | refine AW_region ?_ | refine wx mixed ?_ | refine AW_block ?_ | refine AW_skip ?_ | refine AW_exit ?_ | refine AW_ret ?_)
      refine AW_condL rfl (fun hz => ?_) (fun hz => ?_)
      · have hz' : c ≠ 0 ∨ v ≠ 0 := by simpa using hz
        repeat (first | refine wk hT rfl rfl ?_ | refine wd hT rfl rfl rfl ?_ | refine wz hT rfl ?_ | refine AWd_nil ?_ | refine AWk_nil ?_ | refine wh hT rfl rfl rfl rfl ?_ | refine wg hT rfl rfl rfl rfl rfl ?_ | refine AW_seq ?_ | refine AW_region ?_ | refine wx mixed ?_ | refine AW_block ?_ | refine AW_skip ?_ | refine AW_exit ?_ | refine AW_ret ?_)
        refine ret_exact rfl (.refl _) rfl rfl rfl rfl ⟨congrArg (fun b => AV.d (.bool b)) ?_, rfl⟩
        rw [validC, if_neg hk1, if_pos hz']
      · have hz' : ¬ (c ≠ 0 ∨ v ≠ 0) := by simpa using hz
        repeat (first | refine wk hT rfl rfl ?_ | refine wd hT rfl rfl rfl ?_ | refine wz hT rfl ?_ | refine AWd_nil ?_ | refine AWk_nil ?_ | refine wh hT rfl rfl rfl rfl ?_ | refine wg hT rfl rfl rfl rfl rfl ?_ | refine AW_seq ?_ | refine AW_region ?_ | refine wx mixed ?_ | refine AW_block ?_ | refine AW_skip ?_ | refine AW_exit ?_ | refine AW_ret ?_)
        refine AW_condL rfl (fun h3 => ?_) (fun h3 => ?_)
        · have hk2 : k = 2 := by simpa using h3
          repeat (first | refine wk hT rfl rfl ?_ | refine wd hT rfl rfl rfl ?_ | refine wz hT rfl ?_ | refine AWd_nil ?_ | refine AWk_nil ?_ | refine wh hT rfl rfl rfl rfl ?_ | refine wg hT rfl rfl rfl rfl rfl ?_ | refine AW_seq ?_ | refine AW_region ?_ | refine wx mixed ?_ | refine AW_block ?_ | refine AW_skip ?_ | refine AW_exit ?_ | refine AW_ret ?_)
          refine AW_condL rfl (fun h4 => ?_) (fun h4 => ?_)
          · have h4' : ¬ kids.length = 1 := by rw [hlen] at h4; simp at h4; omega
            repeat (first | refine wk hT rfl rfl ?_ | refine wd hT rfl rfl rfl ?_ | refine wz hT rfl ?_ | refine AWd_nil ?_ | refine AWk_nil ?_ | refine wh hT rfl rfl rfl rfl ?_ | refine wg hT rfl rfl rfl rfl rfl ?_ | refine AW_seq ?_ | refine AW_region ?_ | refine wx mixed ?_ | refine AW_block ?_ | refine AW_skip ?_ | refine AW_exit ?_ | refine AW_ret ?_)
            refine ret_exact rfl (.refl _) rfl rfl rfl rfl ⟨congrArg (fun b => AV.d (.bool b)) ?_, rfl⟩
            rw [validC, if_neg hk1, if_neg hz', if_pos hk2]; simp [h4']
          · have h4' : kids.length = 1 := by rw [hlen] at h4; simp at h4; omega
            repeat (first | refine wk hT rfl rfl ?_ | refine wd hT rfl rfl rfl ?_ | refine wz hT rfl ?_ | refine AWd_nil ?_ | refine AWk_nil ?_ | refine wh hT rfl rfl rfl rfl ?_ | refine wg hT rfl rfl rfl rfl rfl ?_ | refine AW_seq ?_ | refine AW_region ?_ | refine wx mixed ?_ | refine AW_block ?_ | refine AW_skip ?_ | refine AW_exit ?_ | refine AW_ret ?_)
            refine AWk_op (callS1 rfl rfl c2 [1] (by decide) rfl rfl rfl rfl rfl rfl rfl) rfl ?_
            repeat (first | refine wk hT rfl rfl ?_ | refine wd hT rfl rfl rfl ?_ | refine wz hT rfl ?_ | refine AWd_nil ?_ | refine AWk_nil ?_ | refine wh hT rfl rfl rfl rfl ?_ | refine wg hT rfl rfl rfl rfl rfl ?_ | refine AW_seq ?_ | refine AW_region ?_ | refine wx mixed ?_ | refine AW_block ?_ | refine AW_skip ?_ | refine AW_exit ?_ | refine AW_ret ?_)
            refine ret_exact rfl (.refl _) rfl rfl rfl rfl ⟨congrArg (fun b => AV.d (.bool b)) ?_, rfl⟩
            rw [validC, if_neg hk1, if_neg hz', if_pos hk2]; simp [h4']
        · have hk2 : ¬ k = 2 := by simpa using h3
          have hl2 : decide (((encCs kids).length : Int) < 2) = decide (kids.length < 2) := by rw [hlen, Bool.eq_iff_iff]; simp; omega
          repeat (first | refine wk hT rfl rfl ?_ | refine wd hT rfl rfl rfl ?_ | refine wz hT rfl ?_ | refine AWd_nil ?_ | refine AWk_nil ?_ | refine wh hT rfl rfl rfl rfl ?_ | refine wg hT rfl rfl rfl rfl rfl ?_ | refine AW_seq ?_ | refine AW_region ?_ | refine wx mixed ?_ | refine AW_block ?_ | refine AW_skip ?_ | refine AW_exit ?_ | refine AW_ret ?_)
          by_cases hk3 : k = 3
          · have hk34 : k = 3 ∨ k = 4 := .inl hk3
            refine AW_condL rfl (fun _ => ?_) (fun hf => by simp [hk3] at hf)
            repeat (first | refine wk hT rfl rfl ?_ | refine wd hT rfl rfl rfl ?_ | refine wz hT rfl ?_ | refine AWd_nil ?_ | refine AWk_nil ?_ | refine wh hT rfl rfl rfl rfl ?_ | refine wg hT rfl rfl rfl rfl rfl ?_ | refine AW_seq ?_ | refine AW_region ?_ | refine wx mixed ?_ | refine AW_block ?_ | refine AW_skip ?_ | refine AW_exit ?_ | refine AW_ret ?_)
            refine AW_condL rfl (fun _ => ?_) (fun hf => by simp [hk3] at hf)
            repeat (first | refine wk hT rfl rfl ?_ | refine wd hT rfl rfl rfl ?_ | refine wz hT rfl ?_ | refine AWd_nil ?_ | refine AWk_nil ?_ | refine wh hT rfl rfl rfl rfl ?_ | refine wg hT rfl rfl rfl rfl rfl ?_ | refine AW_seq ?_ | refine AW_region ?_ | refine wx mixed ?_ | refine AW_block ?_ | refine AW_skip ?_ | refine AW_exit ?_ | refine AW_ret ?_)
            refine AWk_gop rfl rfl rfl (fun hg => ⟨by first | exact True.intro | exact ⟨hg, hg, True.intro⟩, callS1 rfl rfl c1 [0] (by decide) rfl rfl rfl rfl rfl rfl rfl⟩) ?_
            repeat (first | refine wk hT rfl rfl ?_ | refine wd hT rfl rfl rfl ?_ | refine wz hT rfl ?_ | refine AWd_nil ?_ | refine AWk_nil ?_ | refine wh hT rfl rfl rfl rfl ?_ | refine wg hT rfl rfl rfl rfl rfl ?_ | refine AW_seq ?_ | refine AW_region ?_ | refine wx mixed ?_ | refine AW_block ?_ | refine AW_skip ?_ | refine AW_exit ?_ | refine AW_ret ?_)
            refine AW_condL rfl (fun h5 => ?_) (fun h5 => ?_)
            · repeat (first | refine wk hT rfl rfl ?_ | refine wd hT rfl rfl rfl ?_ | refine wz hT rfl ?_ | refine AWd_nil ?_ | refine AWk_nil ?_ | refine wh hT rfl rfl rfl rfl ?_ | refine wg hT rfl rfl rfl rfl rfl ?_ | refine AW_seq ?_ | refine AW_region ?_ | refine wx mixed ?_ | refine AW_block ?_ | refine AW_skip ?_ | refine AW_exit ?_ | refine AW_ret ?_)
              refine ret_exact rfl (.refl _) rfl rfl rfl rfl ⟨congrArg (fun b => AV.d (.bool b)) ?_, rfl⟩
              rw [validC, if_neg hk1, if_neg hz', if_neg hk2, if_pos hk34, ← hl2, h5]; rfl
            · repeat (first | refine wk hT rfl rfl ?_ | refine wd hT rfl rfl rfl ?_ | refine wz hT rfl ?_ | refine AWd_nil ?_ | refine AWk_nil ?_ | refine wh hT rfl rfl rfl rfl ?_ | refine wg hT rfl rfl rfl rfl rfl ?_ | refine AW_seq ?_ | refine AW_region ?_ | refine wx mixed ?_ | refine AW_block ?_ | refine AW_skip ?_ | refine AW_exit ?_ | refine AW_ret ?_)
              refine AWk_op (callS1 rfl rfl c2 [1] (by decide) rfl rfl rfl rfl rfl rfl rfl) rfl ?_
              repeat (first | refine wk hT rfl rfl ?_ | refine wd hT rfl rfl rfl ?_ | refine wz hT rfl ?_ | refine AWd_nil ?_ | refine AWk_nil ?_ | refine wh hT rfl rfl rfl rfl ?_ | refine wg hT rfl rfl rfl rfl rfl ?_ | refine AW_seq ?_ | refine AW_region ?_ | refine wx mixed ?_ | refine AW_block ?_ | refine AW_skip ?_ | refine AW_exit ?_ | refine AW_ret ?_)
              refine ret_exact rfl (.refl _) rfl rfl rfl rfl ⟨congrArg (fun b => AV.d (.bool b)) ?_, rfl⟩
              rw [validC, if_neg hk1, if_neg hz', if_neg hk2, if_pos hk34, ← hl2, h5]; rfl
          · refine AW_condL rfl (fun hf => by simp at hf; exact absurd hf hk3) (fun _ => ?_)
            repeat (first | refine wk hT rfl rfl ?_ | refine wd hT rfl rfl rfl ?_ | refine wz hT rfl ?_ | refine AWd_nil ?_ | refine AWk_nil ?_ | refine wh hT rfl rfl rfl rfl ?_ | refine wg hT rfl rfl rfl rfl rfl ?_ | refine AW_seq ?_ | refine AW_region ?_ | refine wx mixed ?_ | refine AW_block ?_ | refine AW_skip ?_ | refine AW_exit ?_ | refine AW_ret ?_)
            refine AW_condL rfl (fun h4 => ?_) (fun h4 => ?_)
            · have hk34 : k = 3 ∨ k = 4 := .inr (by simpa using h4)
              repeat (first | refine wk hT rfl rfl ?_ | refine wd hT rfl rfl rfl ?_ | refine wz hT rfl ?_ | refine AWd_nil ?_ | refine AWk_nil ?_ | refine wh hT rfl rfl rfl rfl ?_ | refine wg hT rfl rfl rfl rfl rfl ?_ | refine AW_seq ?_ | refine AW_region ?_ | refine wx mixed ?_ | refine AW_block ?_ | refine AW_skip ?_ | refine AW_exit ?_ | refine AW_ret ?_)
              refine AWk_gop rfl rfl rfl (fun hg => ⟨by first | exact True.intro | exact ⟨hg, hg, True.intro⟩, callS1 rfl rfl c1 [0] (by decide) rfl rfl rfl rfl rfl rfl rfl⟩) ?_
              repeat (first | refine wk hT rfl rfl ?_ | refine wd hT rfl rfl rfl ?_ | refine wz hT rfl ?_ | refine AWd_nil ?_ | refine AWk_nil ?_ | refine wh hT rfl rfl rfl rfl ?_ | refine wg hT rfl rfl rfl rfl rfl ?_ | refine AW_seq ?_ | refine AW_region ?_ | refine wx mixed ?_ | refine AW_block ?_ | refine AW_skip ?_ | refine AW_exit ?_ | refine AW_ret ?_)
              refine AW_condL rfl (fun h5 => ?_) (fun h5 => ?_)
              · repeat (first | refine wk hT rfl rfl ?_ | refine wd hT rfl rfl rfl ?_ | refine wz hT rfl ?_ | refine AWd_nil ?_ | refine AWk_nil ?_ | refine wh hT rfl rfl rfl rfl ?_ | refine wg hT rfl rfl rfl rfl rfl ?_ | refine AW_seq ?_ | refine AW_region ?_ | refine wx mixed ?_ | refine AW_block ?_ | refine AW_skip ?_ | refine AW_exit ?_ | refine AW_ret ?_)
                refine ret_exact rfl (.refl _) rfl rfl rfl rfl ⟨congrArg (fun b => AV.d (.bool b)) ?_, rfl⟩
                rw [validC, if_neg hk1, if_neg hz', if_neg hk2, if_pos hk34, ← hl2, h5]; rfl
              · repeat (first | refine wk hT rfl rfl ?_ | refine wd hT rfl rfl rfl ?_ | refine wz hT rfl ?_ | refine AWd_nil ?_ | refine AWk_nil ?_ | refine wh hT rfl rfl rfl rfl ?_ | refine wg hT rfl rfl rfl rfl rfl ?_ | refine AW_seq ?_ | refine AW_region ?_ | refine wx mixed ?_ | refine AW_block ?_ | refine AW_skip ?_ | refine AW_exit ?_ | refine AW_ret ?_)
                refine AWk_op (callS1 rfl rfl c2 [1] (by decide) rfl rfl rfl rfl rfl rfl rfl) rfl ?_
                repeat (first | refine wk hT rfl rfl ?_ | refine wd hT rfl rfl rfl ?_ | refine wz hT rfl ?_ | refine AWd_nil ?_ | refine AWk_nil ?_ | refine wh hT rfl rfl rfl rfl ?_ | refine wg hT rfl rfl rfl rfl rfl ?_ | refine AW_seq ?_ | refine AW_region ?_ | refine wx mixed ?_ | refine AW_block ?_ | refine AW_skip ?_ | refine AW_exit ?_ | refine AW_ret ?_)
                refine ret_exact rfl (.refl _) rfl rfl rfl rfl ⟨congrArg (fun b => AV.d (.bool b)) ?_, rfl⟩
                rw [validC, if_neg hk1, if_neg hz', if_neg hk2, if_pos hk34, ← hl2, h5]; rfl
            · have hk34 : ¬ (k = 3 ∨ k = 4) := by simp at h4; omega
              repeat (first | refine wk hT rfl rfl ?_ | refine wd hT rfl rfl rfl ?_ | refine wz hT rfl ?_ | refine AWd_nil ?_ | refine AWk_nil ?_ | refine wh hT rfl rfl rfl rfl ?_ | refine wg hT rfl rfl rfl rfl rfl ?_ | refine AW_seq ?_ | refine AW_region ?_ | refine wx mixed ?_ | refine AW_block ?_ | refine AW_skip ?_ | refine AW_exit ?_ | refine AW_ret ?_)
              refine ret_exact rfl (.refl _) rfl rfl rfl rfl ⟨congrArg (fun b => AV.d (.bool b)) ?_, rfl⟩
              rw [validC, if_neg hk1, if_neg hz', if_neg hk2, if_neg hk34]
end Tdoc
/- Package policy: which policies are valid. -/
set_option linter.unusedVariables false
set_option linter.unusedSimpArgs false
namespace Tdoc
open Go Go.Proofs

inductive Rule where
  | mk (v : Int) (al : Bool) (c : Cond)

def encR : Rule → List Dat
  | .mk v al (.mk k c w kids) => [.int .i64 v, .bool al, .int .i64 k, .int .i64 c, .int .i64 w, .sl 4 (encCs kids)]
def encRs (l : List Rule) : List (List Dat) := l.map encR
def polAV (l : List Rule) : AV := .agg [.d (.sl 6 (encRs l))]
def condR : Rule → Cond
  | .mk _ _ c => c

def ruleErr : Rule → Int
  | .mk v al (.mk k c w kids) => if v < 1 ∨ v > 3 then 61 else if al = true ∧ (k ≠ 0 ∨ c ≠ 0 ∨ w ≠ 0 ∨ 0 < kids.length) then 1 else if al = false ∧ validC 8 (.mk k c w kids) = false then 1 else 0
def firstErr : List Rule → Int
  | [] => 0
  | r :: l => if ruleErr r = 0 then firstErr l else ruleErr r
def validPol (l : List Rule) : Int := if l.length > 32 then 72 else firstErr l

set_option maxRecDepth 100000 in
theorem Valid_spec (l : List Rule) (hs : ∀ r, r ∈ l → smallC (condR r)) : Spec Tryz.prog 24 [polAV l] [] (fun r h' => r = .d (.int .i64 (validPol l)) ∧ h' = []) := by
  refine Spec_of_body hT Tryz.func24 rfl rfl rfl rfl ?_
  intro E hE
  have hlen : (encRs l).length = l.length := by simp [encRs]
  repeat (first | refine wk hT rfl rfl ?_ | refine wd hT rfl rfl rfl ?_ | refine wz hT rfl ?_ | refine AWd_nil ?_ | refine AWk_nil ?_ | refine wh hT rfl rfl rfl rfl ?_ | refine wg hT rfl rfl rfl rfl rfl ?_ | refine AW_seq ?_ | refine AW_region ?_ | refine wx mixed ?_ | refine AW_block ?_ | refine AW_skip ?_ | refine AW_exit ?_ | refine AW_ret ?_)
  refine AW_condL rfl (fun h1 => ?_) (fun h1 => ?_)
  · have h1' : l.length > 32 := by rw [hlen] at h1; simp at h1; omega
    repeat (first | refine wk hT rfl rfl ?_ | refine wd hT rfl rfl rfl ?_ | refine wz hT rfl ?_ | refine AWd_nil ?_ | refine AWk_nil ?_ | refine wh hT rfl rfl rfl rfl ?_ | refine wg hT rfl rfl rfl rfl rfl ?_ | refine AW_seq ?_ | refine AW_region ?_ | refine wx mixed ?_ | refine AW_block ?_ | refine AW_skip ?_ | refine AW_exit ?_ | refine AW_ret ?_)
    refine ret_exact rfl (.refl _) rfl rfl rfl rfl ⟨?_, rfl⟩
    rw [validPol, if_pos h1']; rfl
  · have h1' : ¬ l.length > 32 := by rw [hlen] at h1; simp at h1; omega
    rw [validPol, if_neg h1']
    repeat (first | refine wk hT rfl rfl ?_ | refine wd hT rfl rfl rfl ?_ | refine wz hT rfl ?_ | refine AWd_nil ?_ | refine AWk_nil ?_ | refine wh hT rfl rfl rfl rfl ?_ | refine wg hT rfl rfl rfl rfl rfl ?_ | refine AW_seq ?_ | refine AW_region ?_ | refine wx mixed ?_ | refine AW_block ?_ | refine AW_skip ?_ | refine AW_exit ?_ | refine AW_ret ?_)
    refine AW_loopC (ι := Nat) (fun k => [(1, .ptr 0 0), (10, .d (.sl 6 (encRs l))), (11, .d (.int .i64 (encRs l).length)), (12, .d (.int .i64 k))]) (fun _ => [.row [.d (.sl 6 (encRs l))]]) (fun k => k ≤ l.length ∧ firstErr (l.drop k) = firstErr l) (fun k => l.length - k) 0
      ⟨by omega, rfl⟩ ⟨.refl _, .refl _, .refl _, .refl _, trivial⟩ (HLe.refl _) ?_
    rintro k ⟨hk, hf⟩
    repeat (first | refine wk hT rfl rfl ?_ | refine wd hT rfl rfl rfl ?_ | refine wz hT rfl ?_ | refine AWd_nil ?_ | refine AWk_nil ?_ | refine wh hT rfl rfl rfl rfl ?_ | refine wg hT rfl rfl rfl rfl rfl ?_ | refine AW_seq ?_ | refine AW_region ?_ | refine wx mixed ?_ | refine AW_block ?_ | refine AW_skip ?_ | refine AW_exit ?_ | refine AW_ret ?_)
    refine AW_condL rfl (fun h2 => ?_) (fun h2 => ?_)
    · have hlt : k < l.length := by rw [hlen] at h2; simpa using h2
      have hel : (encRs l)[((k : Int)).toNat]? = some (encR l[k]) := by simp [encRs, hlt]
      have hd : l.drop k = l[k] :: l.drop (k + 1) := by simp
      rw [hd] at hf
      have hsm := hs l[k] (List.getElem_mem hlt)
      generalize l[k] = r at hel hf hsm
      obtain ⟨v, al, ⟨ck, cc, cv, kids⟩⟩ := r
      have hkl := encCs_length kids
      have hv := valid_spec 8 (.mk ck cc cv kids) (by omega) hsm
      rw [firstErr] at hf
      repeat (first | refine wk hT rfl rfl ?_ | refine wd hT rfl rfl rfl ?_ | refine wz hT rfl ?_ | refine AWd_nil ?_ | refine AWk_nil ?_ | refine wh hT rfl rfl rfl rfl ?_ | refine wg hT rfl rfl rfl rfl rfl ?_ | refine AW_seq ?_ | refine AW_region ?_ | refine wx mixed ?_ | refine AW_block ?_ | refine AW_skip ?_ | refine AW_exit ?_ | refine AW_ret ?_)
      refine AWk_op (OpS_of_pure (indexAddr_ok hT rfl rfl rfl rfl (by omega) hel)) rfl ?_
      repeat (first | refine wk hT rfl rfl ?_ | refine wd hT rfl rfl rfl ?_ | refine wz hT rfl ?_ | refine AWd_nil ?_ | refine AWk_nil ?_ | refine wh hT rfl rfl rfl rfl ?_ | refine wg hT rfl rfl rfl rfl rfl ?_ | refine AW_seq ?_ | refine AW_region ?_ | refine wx mixed ?_ | refine AW_block ?_ | refine AW_skip ?_ | refine AW_exit ?_ | refine AW_ret ?_)
      refine AW_condL rfl (fun h3 => ?_) (fun h3 => ?_)
      · have h3' : v < 1 ∨ v > 3 := by simpa using h3
        repeat (first | refine wk hT rfl rfl ?_ | refine wd hT rfl rfl rfl ?_ | refine wz hT rfl ?_ | refine AWd_nil ?_ | refine AWk_nil ?_ | refine wh hT rfl rfl rfl rfl ?_ | refine wg hT rfl rfl rfl rfl rfl ?_ | refine AW_seq ?_ | refine AW_region ?_ | refine wx mixed ?_ | refine AW_block ?_ | refine AW_skip ?_ | refine AW_exit ?_ | refine AW_ret ?_)
        refine ret_exact rfl (.refl _) rfl rfl rfl rfl ⟨?_, rfl⟩
        rw [← hf, ruleErr, if_pos h3']; rfl
      · have h3' : ¬ (v < 1 ∨ v > 3) := by simpa using h3
        repeat (first | refine wk hT rfl rfl ?_ | refine wd hT rfl rfl rfl ?_ | refine wz hT rfl ?_ | refine AWd_nil ?_ | refine AWk_nil ?_ | refine wh hT rfl rfl rfl rfl ?_ | refine wg hT rfl rfl rfl rfl rfl ?_ | refine AW_seq ?_ | refine AW_region ?_ | refine wx mixed ?_ | refine AW_block ?_ | refine AW_skip ?_ | refine AW_exit ?_ | refine AW_ret ?_)
        refine AW_condL rfl (fun h4 => ?_) (fun h4 => ?_)
        · have h4' : al = true ∧ (ck ≠ 0 ∨ cc ≠ 0 ∨ cv ≠ 0 ∨ 0 < kids.length) := by rw [hkl] at h4; simpa [or_assoc, and_assoc] using h4
          repeat (first | refine wk hT rfl rfl ?_ | refine wd hT rfl rfl rfl ?_ | refine wz hT rfl ?_ | refine AWd_nil ?_ | refine AWk_nil ?_ | refine wh hT rfl rfl rfl rfl ?_ | refine wg hT rfl rfl rfl rfl rfl ?_ | refine AW_seq ?_ | refine AW_region ?_ | refine wx mixed ?_ | refine AW_block ?_ | refine AW_skip ?_ | refine AW_exit ?_ | refine AW_ret ?_)
          refine ret_exact rfl (.refl _) rfl rfl rfl rfl ⟨?_, rfl⟩
          rw [← hf, ruleErr, if_neg h3', if_pos h4']; rfl
        · have h4' : ¬ (al = true ∧ (ck ≠ 0 ∨ cc ≠ 0 ∨ cv ≠ 0 ∨ 0 < kids.length)) := by rw [hkl] at h4; simpa [or_assoc, and_assoc] using h4
          repeat (first | refine wk hT rfl rfl ?_ | refine wd hT rfl rfl rfl ?_ | refine wz hT rfl ?_ | refine AWd_nil ?_ | refine AWk_nil ?_ | refine wh hT rfl rfl rfl rfl ?_ | refine wg hT rfl rfl rfl rfl rfl ?_ | refine AW_seq ?_ | refine AW_region ?_ | refine wx mixed ?_ | refine AW_block ?_ | refine AW_skip ?_ | refine AW_exit ?_ | refine AW_ret ?_)
          refine AWk_gop rfl rfl rfl (fun hg => ⟨by first | exact True.intro | exact ⟨hg, True.intro⟩, callS0 rfl rfl hv rfl rfl rfl⟩) ?_
          repeat (first | refine wk hT rfl rfl ?_ | refine wd hT rfl rfl rfl ?_ | refine wz hT rfl ?_ | refine AWd_nil ?_ | refine AWk_nil ?_ | refine wh hT rfl rfl rfl rfl ?_ | refine wg hT rfl rfl rfl rfl rfl ?_ | refine AW_seq ?_ | refine AW_region ?_ | refine wx mixed ?_ | refine AW_block ?_ | refine AW_skip ?_ | refine AW_exit ?_ | refine AW_ret ?_)
          refine AW_condL rfl (fun h5 => ?_) (fun h5 => ?_)
          · have h5' : al = false ∧ validC 8 (.mk ck cc cv kids) = false := by simpa using h5
            repeat (first | refine wk hT rfl rfl ?_ | refine wd hT rfl rfl rfl ?_ | refine wz hT rfl ?_ | refine AWd_nil ?_ | refine AWk_nil ?_ | refine wh hT rfl rfl rfl rfl ?_ | refine wg hT rfl rfl rfl rfl rfl ?_ | refine AW_seq ?_ | refine AW_region ?_ | refine wx mixed ?_ | refine AW_block ?_ | refine AW_skip ?_ | refine AW_exit ?_ | refine AW_ret ?_)
            refine ret_exact rfl (.refl _) rfl rfl rfl rfl ⟨?_, rfl⟩
            rw [← hf, ruleErr, if_neg h3', if_neg h4', if_pos h5']; rfl
          · have h5' : ¬ (al = false ∧ validC 8 (.mk ck cc cv kids) = false) := by simpa using h5
            have hz : ruleErr (.mk v al (.mk ck cc cv kids)) = 0 := by rw [ruleErr, if_neg h3', if_neg h4', if_neg h5']
            rw [if_pos hz] at hf
            repeat (first | refine wk hT rfl rfl ?_ | refine wd hT rfl rfl rfl ?_ | refine wz hT rfl ?_ | refine AWd_nil ?_ | refine AWk_nil ?_ | refine wh hT rfl rfl rfl rfl ?_ | refine wg hT rfl rfl rfl rfl rfl ?_ | refine AW_seq ?_ | refine AW_region ?_ | refine wx mixed ?_ | refine AW_block ?_ | refine AW_skip ?_ | refine AW_exit ?_ | refine AW_ret ?_)
            refine ⟨k + 1, [.dead], ⟨by omega, hf⟩, by omega, ⟨.refl _, .refl _, .refl _, AV.le.eq ?_, trivial⟩, ⟨ObLe.refl _, trivial, trivial⟩, Env.below_mono hE (by simp), rfl, rfl⟩
            show AV.d (.int .i64 (IntKind.i64.wrap ((k : Int) + 1))) = _
            rw [wrap_id (by omega)]; rfl
    · have hge : k = l.length := by rw [hlen] at h2; simp at h2; omega
      repeat (first | refine wk hT rfl rfl ?_ | refine wd hT rfl rfl rfl ?_ | refine wz hT rfl ?_ | refine AWd_nil ?_ | refine AWk_nil ?_ | refine wh hT rfl rfl rfl rfl ?_ | refine wg hT rfl rfl rfl rfl rfl ?_ | refine AW_seq ?_ | refine AW_region ?_ | refine wx mixed ?_ | refine AW_block ?_ | refine AW_skip ?_ | refine AW_exit ?_ | refine AW_ret ?_)
      refine ret_exact rfl (.refl _) rfl rfl rfl rfl ⟨?_, rfl⟩
      rw [← hf, hge, List.drop_length]; rfl
end Tdoc
/- Package policy: rules, and the parser as a whole. -/
set_option linter.unusedVariables false
set_option linter.unusedSimpArgs false
namespace Tdoc
open Go Go.Proofs

theorem flatC_small {kind : Int} {c : Cond} (h : smallC c) : smallCs (flatC kind c) := by
  cases c
  simp only [flatC]
  split
  · exact h.2
  · exact ⟨h, trivial⟩

def PartSmall (text : List UInt8) (n : Nat) (part : PS → Cond × PS) : Prop := ∀ s, Inv text s → text.length - s.na < n → smallC (part s).1

theorem loopP_small {text : List UInt8} {n : Nat} {part : PS → Cond × PS} (hp : PartOk text n part) (hs : PartSmall text n part) (kind : Int) {w : List UInt8} (hw : w ≠ []) : ∀ (m : Nat) (l : List Cond) (s : PS), Inv text s → text.length - s.na < n → smallCs l → smallCs (loopP text kind w part m l s).1
  | 0, l, s, h, hn, hl => hl
  | m + 1, l, s, h, hn, hl => by
    unfold loopP
    cases hi : (isP text s w).1 with
    | false => rw [if_neg (by simp)]; exact hl
    | true =>
      rw [if_pos rfl]
      obtain ⟨h1, h2, h3⟩ := isP_true h hi
      have hwl : 0 < w.length := List.length_pos_iff.2 hw
      obtain ⟨k1, k2, k3⟩ := hp.inv _ h1 (by omega)
      exact loopP_small hp hs kind hw m _ _ k1 (by omega) (smallCs_append hl (flatC_small (hs _ h1 (by omega))))

theorem seriesP_small {text : List UInt8} {n : Nat} {part : PS → Cond × PS} (hl : text.length ≤ 1000000) (hp : PartOk text n part) (hs : PartSmall text n part) (kind : Int) {w : List UInt8} (hw : w ≠ []) : PartSmall text n (seriesP text kind w part) := by
  intro s h hn
  obtain ⟨k1, k2, k3⟩ := hp.inv s h hn
  have h0 := hs s h hn
  have hwide := ((seriesP_ok hp kind hw).inv s h hn)
  unfold seriesP at hwide ⊢
  split
  · exact h0
  · rename_i hc
    rw [if_neg hc] at hwide
    obtain ⟨q1, q2, q3⟩ := hwide
    simp only [wideC] at q3
    have := q1.a; have := q1.le
    exact ⟨by simp only at *; omega, loopP_small hp hs kind hw _ _ _ k1 (by omega) (flatC_small h0)⟩

theorem atomP_small {text : List UInt8} (hl : text.length ≤ 1000000) : ∀ n, PartSmall text n (atomP text n)
  | 0 => fun s _ hn => by omega
  | n + 1 => by
    have ih := atomP_small hl n
    intro s h hn
    unfold atomP
    cases h1 : (isP text s notW).1 with
    | true =>
      rw [if_pos rfl]
      obtain ⟨k1, k2, k3⟩ := isP_true h h1
      have : notW.length = 3 := rfl
      exact ⟨by simp, ih _ k1 (by omega), trivial⟩
    | false =>
      rw [if_neg (by simp), isP_false h1]
      cases h2 : (isP text s lpW).1 with
      | true =>
        rw [if_pos rfl]
        obtain ⟨k1, k2, k3⟩ := isP_true h h2
        have : lpW.length = 1 := rfl
        exact seriesP_small hl (conjP_ok text n) (seriesP_small hl (atomP_ok text n) ih 3 (w := andW) (by decide)) 4 (w := orW) (by decide) _ k1 (by omega)
      | false =>
        rw [if_neg (by simp)]
        unfold isAtomP
        split <;> exact ⟨by simp, trivial⟩

theorem condP_small {text : List UInt8} (hl : text.length ≤ 1000000) (n : Nat) : PartSmall text n (condP text n) :=
  seriesP_small hl (conjP_ok text n) (seriesP_small hl (atomP_ok text n) (atomP_small hl n) 3 (w := andW) (by decide)) 4 (w := orW) (by decide)

def ruleP (text : List UInt8) (n : Nat) (s : PS) : Rule × PS :=
  if (isP text (oneP text s vds).2 ifW).1 then (.mk (oneP text s vds).1 false (condP text n (isP text (oneP text s vds).2 ifW).2).1, needP text (condP text n (isP text (oneP text s vds).2 ifW).2).2 scW)
  else (.mk (oneP text s vds).1 true (.mk 0 0 0 []), needP text (isP text (oneP text s vds).2 ifW).2 scW)

theorem isP_wr {text : List UInt8} {s : PS} {w : List UInt8} (h : s.wr = true) : isP text s w = (false, s) := by unfold isP; rw [if_pos (.inl h)]
theorem needP_wr {text : List UInt8} {s : PS} {w : List UInt8} (h : s.wr = true) : (needP text s w).wr = true := by unfold needP; rw [isP_wr h]; rfl

theorem ruleP_ok {text : List UInt8} (hl : text.length ≤ 1000000) {s : PS} (h : Inv text s) (hnt : s.nt ≠ []) :
    Inv text (ruleP text (text.length + 1) s).2 ∧ s.na ≤ (ruleP text (text.length + 1) s).2.na ∧ ((ruleP text (text.length + 1) s).2.wr = true ∨ s.na < (ruleP text (text.length + 1) s).2.na) ∧ smallC (condR (ruleP text (text.length + 1) s).1) := by
  obtain ⟨h1, h2⟩ := oneP_inv (l := vds) h
  have hone : (oneP text s vds).2.wr = true ∨ s.na < (oneP text s vds).2.na := by
    unfold oneP
    split
    · exact .inl rfl
    · obtain ⟨_, q, _⟩ := h.next
      have := List.length_pos_iff.2 hnt
      exact .inr (by simp only; omega)
  obtain ⟨h3, h4⟩ := isP_inv (w := ifW) h1
  unfold ruleP
  cases hi : (isP text (oneP text s vds).2 ifW).1 with
  | true =>
    rw [if_pos rfl]
    have hnw : (oneP text s vds).2.wr = false := by
      cases hb : (oneP text s vds).2.wr with
      | false => rfl
      | true => rw [isP_wr hb] at hi; cases hi
    rw [hnw] at hone
    have hone := hone.resolve_left (by simp)
    obtain ⟨q1, q2, q3⟩ := (condP_ok text (text.length + 1)).inv _ h3 (by omega)
    obtain ⟨r1, r2⟩ := needP_inv (w := scW) q1
    exact ⟨r1, by simp only; omega, .inr (by simp only; omega), condP_small hl _ _ h3 (by omega)⟩
  | false =>
    rw [if_neg (by simp)]
    obtain ⟨r1, r2⟩ := needP_inv (w := scW) h3
    refine ⟨r1, by simp only; omega, ?_, by simp, trivial⟩
    rcases hone with hw | hw
    · left; rw [isP_wr hw]; exact needP_wr hw
    · right; simp only; omega

theorem lowL_encR (k : Nat) (r : Rule) : low k (.agg ((encR r).map .d)) = true := lowL_d (encR r)

end Tdoc
/- Package policy: Parse. -/
set_option linter.unusedVariables false
set_option linter.unusedSimpArgs false
namespace Tdoc
open Go Go.Proofs

def rulesP (text : List UInt8) : Nat → List Rule → PS → List Rule × PS
  | 0, l, s => (l, s)
  | m + 1, l, s => if s.nt ≠ [] ∧ s.wr = false then rulesP text m (l ++ [(ruleP text (text.length + 1) s).1]) (ruleP text (text.length + 1) s).2 else (l, s)

def parseQ (text : List UInt8) : List Rule × PS := rulesP text (text.length + 3) [] (nextP text ⟨0, [], 0, false⟩)

def parseP (text : List UInt8) : List Rule × Int × Int :=
  if text.length > 4096 then ([], 0, 72)
  else if (parseQ text).2.wr = true then ([], (parseQ text).2.na, 71)
  else if validPol (parseQ text).1 ≠ 0 then ([], 0, 72) else ((parseQ text).1, 0, 0)

def meas (text : List UInt8) (s : PS) : Nat := if s.wr = true then 0 else text.length - s.na + 1

theorem encRs_append (a : List Rule) (r : Rule) : encRs (a ++ [r]) = encRs a ++ [encR r] := by simp [encRs]

end Tdoc
