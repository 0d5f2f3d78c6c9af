/- Contracts of Go's library, laid over this translation by the kit's tool (plain mode), cut down to those that are used. -/
import Derived.Shelf.Strings.Builder1
import Derived.Shelf.Strings.Trim
import Derived.Shelf.Small.Utf8
import Derived.Shelf.Small.Bits
import Derived.Shelf.Small.Strs
import Derived.Shelf.Strings.BuilderF
import Derived.Shelf.Strconv.Atoi
import Derived.Shelf.Strconv.Itoa0
import Derived.Shelf.Strconv.Itoa1
import Derived.Shelf.LaysM
import Derived.Shelf.Strconv.Itoa2
import Derived.Shelf.Strconv.Itoa3
import Derived.Shelf.Strconv.AtoiErrFast
import Derived.Shelf.Strconv.ParseIntEmpty
import Derived.Shelf.Strconv.AtoiFail
import Derived.Shelf.Strconv.Clone
import Derived.Shelf.Strconv.SyntaxError
import Derived.Shelf.LaysC
import Derived.Shelf.Strconv.ToError
import Derived.Shelf.Strconv.Lower
import Derived.Shelf.Strconv.ParseUint10
import Derived.Shelf.Strconv.ParseUint10Empty
import Derived.Shelf.Strconv.ParseUint10Any
import Derived.Shelf.Strconv.ParseInt10
import Derived.Shelf.Strconv.AtoiLong
import Derived.Shelf.Strconv.AtoiInnerAll
import Derived.Shelf.Strconv.RangeError
import Derived.Shelf.Strconv.ToErrorRange
import Derived.Shelf.Strconv.AtoiAll
import Derived.Shelf.Strconv.ErrVarAll
import Derived.Shelf.Strings.Search1
import Derived.Shelf.Sort.Plain
import Derived.Shelf.GgClosure.StringsIndexFunc
import Derived.Ground.GgwProg
import Derived.Shelf.GgClosure.StringsIndexFuncTop
import Derived.Shelf.Strings.Prefix
import Derived.Shelf.Unicode.Decode
import Derived.Shelf.Strings.Runes
import Derived.Shelf.Strings.AsciiSet
import Derived.Shelf.Unicode.DecodeSlow
import Derived.Shelf.Unicode.DecodeAny
import Derived.Shelf.Unicode.DecodeLast
import Derived.Shelf.Slices.In.SortNone
import Derived.Ground.SlbCloneProg
import Derived.Shelf.Bytes.SlClone
import Derived.Test.YtbilkpioddjlfaaDoorProg
namespace Go.Proofs
open Go.Shelf
def Tryd.lays169_ren : Go.Shelf.Ren := ⟨fun | 169 => 33 | n => n, fun | 70 => 72 | 9 => 9 | 0 => 0 | 72 => 74 | 37 => 38 | 127 => 115 | 3 => 3 | 5 => 5 | n => n, fun | n => n⟩
theorem Tryd.lays169 : Go.Proofs.Lays.n169 Tryd.prog Tryd.lays169_ren := {
  mixed := by kernel_rfl
  f169 := Tryd.func33.trans (congrArg some (by kernel_rfl))
  t0 := Tryd.underlying0
  a0 := Tryd.isAgg0
  z0 := Tryd.sizeOf0
  v0 := Tryd.zeroValue0
  t3 := Tryd.underlying3
  a3 := Tryd.isAgg3
  z3 := Tryd.sizeOf3
  v3 := Tryd.zeroValue3
  t9 := Tryd.underlying9
  a9 := Tryd.isAgg9
  z9 := Tryd.sizeOf9
  v9 := Tryd.zeroValue9
  t37 := Tryd.underlying38
  a37 := Tryd.isAgg38
  z37 := Tryd.sizeOf38
  v37 := Tryd.zeroValue38
  t70 := Tryd.underlying72
  a70 := Tryd.isAgg72
  z70 := Tryd.sizeOf72
  v70 := Tryd.zeroValue72
  t72 := Tryd.underlying74
  a72 := Tryd.isAgg74
  z72 := Tryd.sizeOf74
  v72 := Tryd.zeroValue74
  t127 := Tryd.underlying115
  a127 := Tryd.isAgg115
  z127 := Tryd.sizeOf115
  v127 := Tryd.zeroValue115 }
theorem Tryd.Builder_Extra_169 : Builder.Extra Tryd.prog Tryd.lays169_ren := {
  sizeBuilder := by kernel_rfl
  liesBuilder := by kernel_rfl
  t5 := Tryd.underlying5
  a5 := Tryd.isAgg5
  z5 := Tryd.sizeOf5
  v5 := Tryd.zeroValue5
  infoByte := by kernel_rfl
  cellsByte := by kernel_rfl
  sizeByte := by kernel_rfl
  neB5 := by decide }
open Go.RowKit in
theorem Tryd.Builder_String_any (B b : Nat) (l : List UInt8) (w : World) (h : Lib.IsBuilder 74 5 B b (Lib.byteCells l) w) (hBw : B ≤ w.heap.size) :
    Calls Tryd.prog 33 #[.pointer (some ⟨b, 0, none⟩)] w fun e w' => e = .returned (.string ⟨l.toArray⟩) ∧ Below B w w' := Any.Builder_String_any Tryd.lays169 Tryd.Builder_Extra_169 B b l w h hBw
def Tryd.lays160_ren : Go.Shelf.Ren := ⟨fun | 160 => 37 | 232 => 55 | 231 => 54 | 227 => 56 | 234 => 58 | 233 => 57 | 236 => 60 | 235 => 59 | 228 => 75 | 271 => 78 | 151 => 77 | 197 => 76 | 120 => 100 | 152 => 99 | 260 => 98 | 137 => 70 | 119 => 123 | 224 => 124 | 225 => 125 | 217 => 88 | 266 => 115 | n => n, fun | 9 => 9 | 4 => 4 | 3 => 3 | 5 => 5 | 117 => 126 | 116 => 125 | 0 => 0 | 124 => 129 | 21 => 21 | 105 => 150 | 46 => 140 | 119 => 206 | 139 => 209 | 138 => 208 | n => n, fun | 3 => 3 | 4 => 4 | n => n⟩
theorem Tryd.lays160 : Go.Proofs.Lays.n160 Tryd.prog Tryd.lays160_ren := {
  mixed := by kernel_rfl
  f119 := Tryd.func123.trans (congrArg some (by kernel_rfl))
  f120 := Tryd.func100.trans (congrArg some (by kernel_rfl))
  f137 := Tryd.func70.trans (congrArg some (by kernel_rfl))
  f151 := Tryd.func77.trans (congrArg some (by kernel_rfl))
  f152 := Tryd.func99.trans (congrArg some (by kernel_rfl))
  f160 := Tryd.func37.trans (congrArg some (by kernel_rfl))
  f197 := Tryd.func76.trans (congrArg some (by kernel_rfl))
  f217 := Tryd.func88.trans (congrArg some (by kernel_rfl))
  f224 := Tryd.func124.trans (congrArg some (by kernel_rfl))
  f225 := Tryd.func125.trans (congrArg some (by kernel_rfl))
  f227 := Tryd.func56.trans (congrArg some (by kernel_rfl))
  f228 := Tryd.func75.trans (congrArg some (by kernel_rfl))
  f231 := Tryd.func54.trans (congrArg some (by kernel_rfl))
  f232 := Tryd.func55.trans (congrArg some (by kernel_rfl))
  f233 := Tryd.func57.trans (congrArg some (by kernel_rfl))
  f234 := Tryd.func58.trans (congrArg some (by kernel_rfl))
  f235 := Tryd.func59.trans (congrArg some (by kernel_rfl))
  f236 := Tryd.func60.trans (congrArg some (by kernel_rfl))
  f260 := Tryd.func98.trans (congrArg some (by kernel_rfl))
  f266 := Tryd.func115.trans (congrArg some (by kernel_rfl))
  f271 := Tryd.func78.trans (congrArg some (by kernel_rfl))
  t0 := Tryd.underlying0
  a0 := Tryd.isAgg0
  z0 := Tryd.sizeOf0
  v0 := Tryd.zeroValue0
  t3 := Tryd.underlying3
  a3 := Tryd.isAgg3
  z3 := Tryd.sizeOf3
  v3 := Tryd.zeroValue3
  t4 := Tryd.underlying4
  a4 := Tryd.isAgg4
  z4 := Tryd.sizeOf4
  v4 := Tryd.zeroValue4
  t5 := Tryd.underlying5
  a5 := Tryd.isAgg5
  z5 := Tryd.sizeOf5
  v5 := Tryd.zeroValue5
  t9 := Tryd.underlying9
  a9 := Tryd.isAgg9
  z9 := Tryd.sizeOf9
  v9 := Tryd.zeroValue9
  t21 := Tryd.underlying21
  a21 := Tryd.isAgg21
  z21 := Tryd.sizeOf21
  v21 := Tryd.zeroValue21
  t46 := Tryd.underlying140
  a46 := Tryd.isAgg140
  z46 := Tryd.sizeOf140
  v46 := Tryd.zeroValue140
  t105 := Tryd.underlying150
  a105 := Tryd.isAgg150
  z105 := Tryd.sizeOf150
  v105 := Tryd.zeroValue150
  t116 := Tryd.underlying125
  a116 := Tryd.isAgg125
  z116 := Tryd.sizeOf125
  t117 := Tryd.underlying126
  a117 := Tryd.isAgg126
  z117 := Tryd.sizeOf126
  v117 := Tryd.zeroValue126
  t119 := Tryd.underlying206
  a119 := Tryd.isAgg206
  z119 := Tryd.sizeOf206
  t124 := Tryd.underlying129
  a124 := Tryd.isAgg129
  z124 := Tryd.sizeOf129
  v124 := Tryd.zeroValue129
  t138 := Tryd.underlying208
  a138 := Tryd.isAgg208
  z138 := Tryd.sizeOf208
  v138 := Tryd.zeroValue208
  t139 := Tryd.underlying209
  a139 := Tryd.isAgg209
  z139 := Tryd.sizeOf209
  v139 := Tryd.zeroValue209
  g3 := by kernel_rfl
  g4 := by kernel_rfl }
def Tryd.lays137_ren : Go.Shelf.Ren := ⟨fun | 137 => 70 | 217 => 88 | 266 => 115 | n => n, fun | 9 => 9 | 5 => 5 | 3 => 3 | n => n, fun | n => n⟩
theorem Tryd.lays137 : Go.Proofs.Lays.n137 Tryd.prog Tryd.lays137_ren := {
  mixed := by kernel_rfl
  f137 := Tryd.func70.trans (congrArg some (by kernel_rfl))
  f217 := Tryd.func88.trans (congrArg some (by kernel_rfl))
  f266 := Tryd.func115.trans (congrArg some (by kernel_rfl))
  t3 := Tryd.underlying3
  a3 := Tryd.isAgg3
  z3 := Tryd.sizeOf3
  v3 := Tryd.zeroValue3
  t5 := Tryd.underlying5
  a5 := Tryd.isAgg5
  z5 := Tryd.sizeOf5
  v5 := Tryd.zeroValue5
  t9 := Tryd.underlying9
  a9 := Tryd.isAgg9
  z9 := Tryd.sizeOf9
  v9 := Tryd.zeroValue9 }
open Go.RowKit in
theorem Tryd.strings_IndexByte (s : ByteArray) (c : Int) (w : World) :
    Calls Tryd.prog 70 #[.string s, .int .u8 c] w fun e w' => e = .returned (.int .i64 (Lib.indexByte s.data.toList c.toNat.toUInt8)) ∧ w' = w := Any.strings_IndexByte Tryd.lays137 s c w
def Tryd.lays172_ren : Go.Shelf.Ren := ⟨fun | 172 => 38 | 244 => 61 | 245 => 62 | 247 => 79 | 279 => 80 | 280 => 81 | 281 => 82 | 282 => 83 | 287 => 101 | 316 => 102 | 171 => 32 | 205 => 103 | 321 => 126 | 322 => 127 | 243 => 50 | 246 => 71 | 283 => 89 | 284 => 90 | 285 => 91 | 286 => 92 | 129 => 114 | 317 => 116 | 318 => 117 | 319 => 118 | 320 => 119 | 337 => 134 | 338 => 135 | n => n, fun | 9 => 9 | 3 => 3 | 75 => 82 | 76 => 83 | 4 => 4 | 5 => 5 | 167 => 153 | 37 => 38 | 0 => 0 | 85 => 154 | 2 => 2 | 168 => 156 | 53 => 162 | 175 => 178 | 46 => 140 | 210 => 182 | 127 => 115 | 145 => 215 | 143 => 213 | 21 => 21 | 171 => 161 | 173 => 165 | 212 => 196 | 51 => 193 | 20 => 20 | 213 => 197 | 232 => 227 | 233 => 228 | 80 => 87 | n => n, fun | 15 => 0 | 16 => 1 | 17 => 2 | 18 => 6 | 19 => 7 | n => n⟩
theorem Tryd.lays172 : Go.Proofs.Lays.n172 Tryd.prog Tryd.lays172_ren := {
  mixed := by kernel_rfl
  f129 := Tryd.func114.trans (congrArg some (by kernel_rfl))
  f171 := Tryd.func32.trans (congrArg some (by kernel_rfl))
  f172 := Tryd.func38.trans (congrArg some (by kernel_rfl))
  f205 := Tryd.func103.trans (congrArg some (by kernel_rfl))
  f243 := Tryd.func50.trans (congrArg some (by kernel_rfl))
  f244 := Tryd.func61.trans (congrArg some (by kernel_rfl))
  f245 := Tryd.func62.trans (congrArg some (by kernel_rfl))
  f246 := Tryd.func71.trans (congrArg some (by kernel_rfl))
  f247 := Tryd.func79.trans (congrArg some (by kernel_rfl))
  f279 := Tryd.func80.trans (congrArg some (by kernel_rfl))
  f280 := Tryd.func81.trans (congrArg some (by kernel_rfl))
  f281 := Tryd.func82.trans (congrArg some (by kernel_rfl))
  f282 := Tryd.func83.trans (congrArg some (by kernel_rfl))
  f283 := Tryd.func89.trans (congrArg some (by kernel_rfl))
  f284 := Tryd.func90.trans (congrArg some (by kernel_rfl))
  f285 := Tryd.func91.trans (congrArg some (by kernel_rfl))
  f286 := Tryd.func92.trans (congrArg some (by kernel_rfl))
  f287 := Tryd.func101.trans (congrArg some (by kernel_rfl))
  f316 := Tryd.func102.trans (congrArg some (by kernel_rfl))
  f317 := Tryd.func116.trans (congrArg some (by kernel_rfl))
  f318 := Tryd.func117.trans (congrArg some (by kernel_rfl))
  f319 := Tryd.func118.trans (congrArg some (by kernel_rfl))
  f320 := Tryd.func119.trans (congrArg some (by kernel_rfl))
  f321 := Tryd.func126.trans (congrArg some (by kernel_rfl))
  f322 := Tryd.func127.trans (congrArg some (by kernel_rfl))
  f337 := Tryd.func134.trans (congrArg some (by kernel_rfl))
  f338 := Tryd.func135.trans (congrArg some (by kernel_rfl))
  t0 := Tryd.underlying0
  a0 := Tryd.isAgg0
  z0 := Tryd.sizeOf0
  v0 := Tryd.zeroValue0
  t2 := Tryd.underlying2
  a2 := Tryd.isAgg2
  z2 := Tryd.sizeOf2
  v2 := Tryd.zeroValue2
  t3 := Tryd.underlying3
  a3 := Tryd.isAgg3
  z3 := Tryd.sizeOf3
  v3 := Tryd.zeroValue3
  t4 := Tryd.underlying4
  a4 := Tryd.isAgg4
  z4 := Tryd.sizeOf4
  v4 := Tryd.zeroValue4
  t5 := Tryd.underlying5
  a5 := Tryd.isAgg5
  z5 := Tryd.sizeOf5
  v5 := Tryd.zeroValue5
  t9 := Tryd.underlying9
  a9 := Tryd.isAgg9
  z9 := Tryd.sizeOf9
  v9 := Tryd.zeroValue9
  t20 := Tryd.underlying20
  a20 := Tryd.isAgg20
  z20 := Tryd.sizeOf20
  v20 := Tryd.zeroValue20
  t21 := Tryd.underlying21
  a21 := Tryd.isAgg21
  z21 := Tryd.sizeOf21
  v21 := Tryd.zeroValue21
  t37 := Tryd.underlying38
  a37 := Tryd.isAgg38
  z37 := Tryd.sizeOf38
  v37 := Tryd.zeroValue38
  t46 := Tryd.underlying140
  a46 := Tryd.isAgg140
  z46 := Tryd.sizeOf140
  v46 := Tryd.zeroValue140
  t51 := Tryd.underlying193
  a51 := Tryd.isAgg193
  z51 := Tryd.sizeOf193
  v51 := Tryd.zeroValue193
  t53 := Tryd.underlying162
  a53 := Tryd.isAgg162
  z53 := Tryd.sizeOf162
  v53 := Tryd.zeroValue162
  t75 := Tryd.underlying82
  a75 := Tryd.isAgg82
  z75 := Tryd.sizeOf82
  v75 := Tryd.zeroValue82
  t76 := Tryd.underlying83
  a76 := Tryd.isAgg83
  z76 := Tryd.sizeOf83
  v76 := Tryd.zeroValue83
  t85 := Tryd.underlying154
  a85 := Tryd.isAgg154
  z85 := Tryd.sizeOf154
  v85 := Tryd.zeroValue154
  t127 := Tryd.underlying115
  a127 := Tryd.isAgg115
  z127 := Tryd.sizeOf115
  v127 := Tryd.zeroValue115
  t143 := Tryd.underlying213
  a143 := Tryd.isAgg213
  z143 := Tryd.sizeOf213
  v143 := Tryd.zeroValue213
  t145 := Tryd.underlying215
  a145 := Tryd.isAgg215
  z145 := Tryd.sizeOf215
  v145 := Tryd.zeroValue215
  t167 := Tryd.underlying153
  a167 := Tryd.isAgg153
  z167 := Tryd.sizeOf153
  v167 := Tryd.zeroValue153
  t168 := Tryd.underlying156
  a168 := Tryd.isAgg156
  z168 := Tryd.sizeOf156
  v168 := Tryd.zeroValue156
  t171 := Tryd.underlying161
  a171 := Tryd.isAgg161
  z171 := Tryd.sizeOf161
  v171 := Tryd.zeroValue161
  t173 := Tryd.underlying165
  a173 := Tryd.isAgg165
  z173 := Tryd.sizeOf165
  v173 := Tryd.zeroValue165
  t175 := Tryd.underlying178
  a175 := Tryd.isAgg178
  z175 := Tryd.sizeOf178
  v175 := Tryd.zeroValue178
  t210 := Tryd.underlying182
  a210 := Tryd.isAgg182
  z210 := Tryd.sizeOf182
  v210 := Tryd.zeroValue182
  t212 := Tryd.underlying196
  a212 := Tryd.isAgg196
  z212 := Tryd.sizeOf196
  v212 := Tryd.zeroValue196
  t213 := Tryd.underlying197
  a213 := Tryd.isAgg197
  z213 := Tryd.sizeOf197
  t232 := Tryd.underlying227
  a232 := Tryd.isAgg227
  z232 := Tryd.sizeOf227
  v232 := Tryd.zeroValue227
  t233 := Tryd.underlying228
  a233 := Tryd.isAgg228
  z233 := Tryd.sizeOf228
  v233 := Tryd.zeroValue228
  g15 := by kernel_rfl
  g16 := by kernel_rfl
  g17 := by kernel_rfl
  g18 := by kernel_rfl
  g19 := by kernel_rfl }
open Go.RowKit in
theorem Tryd.strconv_Atoi (s : ByteArray) (n : Int) (hl : s.size ≤ 18) (h : Lib.atoi s.data.toList = some n) (w : World) :
    Calls Tryd.prog 38 #[.string s] w fun e w' => e = .returned (.tuple #[.int .i64 n, .nilIface]) ∧ ∃ t, w' = Lib.bytesWorld w 5 t := Any.strconv_Atoi Tryd.lays172 s n hl h w
def Tryd.laysM171_ren : Go.Shelf.Ren := ⟨fun | 171 => 32 | 243 => 50 | 246 => 71 | 283 => 89 | 284 => 90 | 285 => 91 | 286 => 92 | 129 => 114 | 317 => 116 | 318 => 117 | 319 => 118 | 320 => 119 | 337 => 134 | 338 => 135 | n => n, fun | 3 => 3 | 9 => 9 | 2 => 2 | 4 => 4 | 171 => 161 | 0 => 0 | 53 => 162 | 37 => 38 | 5 => 5 | 173 => 165 | 212 => 196 | 51 => 193 | 20 => 20 | 213 => 197 | 46 => 140 | 232 => 227 | 233 => 228 | n => n, fun | 17 => 2 | 18 => 6 | 19 => 7 | n => n⟩
theorem Tryd.laysM171 : Go.Proofs.LaysM.n171 Tryd.prog Tryd.laysM171_ren := {
  mixed := by kernel_rfl
  f129 := Tryd.func114.trans (congrArg some (by kernel_rfl))
  f171 := Tryd.func32.trans (congrArg some (by kernel_rfl))
  f243 := Tryd.func50.trans (congrArg some (by kernel_rfl))
  f246 := Tryd.func71.trans (congrArg some (by kernel_rfl))
  f283 := Tryd.func89.trans (congrArg some (by kernel_rfl))
  f284 := Tryd.func90.trans (congrArg some (by kernel_rfl))
  f285 := Tryd.func91.trans (congrArg some (by kernel_rfl))
  f286 := Tryd.func92.trans (congrArg some (by kernel_rfl))
  f317 := Tryd.func116.trans (congrArg some (by kernel_rfl))
  f318 := Tryd.func117.trans (congrArg some (by kernel_rfl))
  f319 := Tryd.func118.trans (congrArg some (by kernel_rfl))
  f320 := Tryd.func119.trans (congrArg some (by kernel_rfl))
  f337 := Tryd.func134.trans (congrArg some (by kernel_rfl))
  f338 := Tryd.func135.trans (congrArg some (by kernel_rfl))
  t0 := Tryd.underlying0
  a0 := Tryd.isAgg0
  z0 := Tryd.sizeOf0
  v0 := Tryd.zeroValue0
  t2 := Tryd.underlying2
  a2 := Tryd.isAgg2
  z2 := Tryd.sizeOf2
  v2 := Tryd.zeroValue2
  t3 := Tryd.underlying3
  a3 := Tryd.isAgg3
  z3 := Tryd.sizeOf3
  v3 := Tryd.zeroValue3
  t4 := Tryd.underlying4
  a4 := Tryd.isAgg4
  z4 := Tryd.sizeOf4
  v4 := Tryd.zeroValue4
  t5 := Tryd.underlying5
  a5 := Tryd.isAgg5
  z5 := Tryd.sizeOf5
  v5 := Tryd.zeroValue5
  t9 := Tryd.underlying9
  a9 := Tryd.isAgg9
  z9 := Tryd.sizeOf9
  v9 := Tryd.zeroValue9
  t20 := Tryd.underlying20
  a20 := Tryd.isAgg20
  z20 := Tryd.sizeOf20
  v20 := Tryd.zeroValue20
  t37 := Tryd.underlying38
  a37 := Tryd.isAgg38
  z37 := Tryd.sizeOf38
  v37 := Tryd.zeroValue38
  t46 := Tryd.underlying140
  a46 := Tryd.isAgg140
  z46 := Tryd.sizeOf140
  v46 := Tryd.zeroValue140
  t51 := Tryd.underlying193
  a51 := Tryd.isAgg193
  z51 := Tryd.sizeOf193
  v51 := Tryd.zeroValue193
  t53 := Tryd.underlying162
  a53 := Tryd.isAgg162
  z53 := Tryd.sizeOf162
  v53 := Tryd.zeroValue162
  t171 := Tryd.underlying161
  a171 := Tryd.isAgg161
  z171 := Tryd.sizeOf161
  v171 := Tryd.zeroValue161
  t173 := Tryd.underlying165
  a173 := Tryd.isAgg165
  z173 := Tryd.sizeOf165
  v173 := Tryd.zeroValue165
  t212 := Tryd.underlying196
  a212 := Tryd.isAgg196
  z212 := Tryd.sizeOf196
  v212 := Tryd.zeroValue196
  t213 := Tryd.underlying197
  a213 := Tryd.isAgg197
  z213 := Tryd.sizeOf197
  t232 := Tryd.underlying227
  a232 := Tryd.isAgg227
  z232 := Tryd.sizeOf227
  v232 := Tryd.zeroValue227
  t233 := Tryd.underlying228
  a233 := Tryd.isAgg228
  z233 := Tryd.sizeOf228
  v233 := Tryd.zeroValue228
  g17 := by kernel_rfl
  g18 := by kernel_rfl
  g19 := by kernel_rfl
  i0 := by kernel_rfl
  i2 := by kernel_rfl
  i3 := by kernel_rfl
  i4 := by kernel_rfl
  i5 := by kernel_rfl
  i9 := by kernel_rfl
  i20 := by kernel_rfl
  i37 := by kernel_rfl
  i46 := by kernel_rfl
  i51 := by kernel_rfl
  i53 := by kernel_rfl
  i171 := by kernel_rfl
  i173 := by kernel_rfl
  i212 := by kernel_rfl
  i232 := by kernel_rfl
  i233 := by kernel_rfl
  m17 := by kernel_rfl
  m18 := by kernel_rfl
  m19 := by kernel_rfl }
open Go.RowKit Go.Sort Go.Lib in
theorem Tryd.strconv_Itoa (n : Int) (h0 : -9223372036854775808 ≤ n) (h1 : n ≤ 9223372036854775807) (w : World) (htab : Lib.TabIs Tryd.prog w "internal/strconv.uint64pow10" .u64 Lib.pow10Tab) :
    Calls Tryd.prog 32 #[.int .i64 n] w fun e w' => e = .returned (.string ⟨(Lib.itoa n).toArray⟩) ∧ ∃ k os, w' = grow (w.drewN k) os := Any.strconv_Itoa Tryd.laysM171 n h0 h1 w htab
def Tryd.lays190_ren : Go.Shelf.Ren := ⟨fun | 190 => 65 | 125 => 86 | 258 => 85 | 128 => 113 | 129 => 114 | 302 => 104 | 303 => 105 | 304 => 106 | 305 => 107 | 306 => 108 | 307 => 109 | 308 => 110 | 309 => 111 | 310 => 112 | 333 => 128 | 329 => 129 | 330 => 130 | 334 => 131 | 335 => 132 | 336 => 133 | 344 => 138 | n => n, fun | 31 => 36 | 9 => 9 | 3 => 3 | 46 => 140 | 0 => 0 | 51 => 193 | 53 => 162 | 4 => 4 | 183 => 186 | 182 => 185 | 131 => 190 | 5 => 5 | 218 => 216 | 222 => 220 | 228 => 225 | 229 => 44 | n => n, fun | n => n⟩
theorem Tryd.lays190 : Go.Proofs.Lays.n190 Tryd.prog Tryd.lays190_ren := {
  mixed := by kernel_rfl
  f125 := Tryd.func86.trans (congrArg some (by kernel_rfl))
  f128 := Tryd.func113.trans (congrArg some (by kernel_rfl))
  f129 := Tryd.func114.trans (congrArg some (by kernel_rfl))
  f190 := Tryd.func65.trans (congrArg some (by kernel_rfl))
  f258 := Tryd.func85.trans (congrArg some (by kernel_rfl))
  f302 := Tryd.func104.trans (congrArg some (by kernel_rfl))
  f303 := Tryd.func105.trans (congrArg some (by kernel_rfl))
  f304 := Tryd.func106.trans (congrArg some (by kernel_rfl))
  f305 := Tryd.func107.trans (congrArg some (by kernel_rfl))
  f306 := Tryd.func108.trans (congrArg some (by kernel_rfl))
  f307 := Tryd.func109.trans (congrArg some (by kernel_rfl))
  f308 := Tryd.func110.trans (congrArg some (by kernel_rfl))
  f309 := Tryd.func111.trans (congrArg some (by kernel_rfl))
  f310 := Tryd.func112.trans (congrArg some (by kernel_rfl))
  f329 := Tryd.func129.trans (congrArg some (by kernel_rfl))
  f330 := Tryd.func130.trans (congrArg some (by kernel_rfl))
  f333 := Tryd.func128.trans (congrArg some (by kernel_rfl))
  f334 := Tryd.func131.trans (congrArg some (by kernel_rfl))
  f335 := Tryd.func132.trans (congrArg some (by kernel_rfl))
  f336 := Tryd.func133.trans (congrArg some (by kernel_rfl))
  f344 := Tryd.func138.trans (congrArg some (by kernel_rfl))
  t0 := Tryd.underlying0
  a0 := Tryd.isAgg0
  z0 := Tryd.sizeOf0
  v0 := Tryd.zeroValue0
  t3 := Tryd.underlying3
  a3 := Tryd.isAgg3
  z3 := Tryd.sizeOf3
  v3 := Tryd.zeroValue3
  t4 := Tryd.underlying4
  a4 := Tryd.isAgg4
  z4 := Tryd.sizeOf4
  v4 := Tryd.zeroValue4
  t5 := Tryd.underlying5
  a5 := Tryd.isAgg5
  z5 := Tryd.sizeOf5
  v5 := Tryd.zeroValue5
  t9 := Tryd.underlying9
  a9 := Tryd.isAgg9
  z9 := Tryd.sizeOf9
  v9 := Tryd.zeroValue9
  t31 := Tryd.underlying36
  a31 := Tryd.isAgg36
  z31 := Tryd.sizeOf36
  v31 := Tryd.zeroValue36
  t46 := Tryd.underlying140
  a46 := Tryd.isAgg140
  z46 := Tryd.sizeOf140
  v46 := Tryd.zeroValue140
  t51 := Tryd.underlying193
  a51 := Tryd.isAgg193
  z51 := Tryd.sizeOf193
  v51 := Tryd.zeroValue193
  t53 := Tryd.underlying162
  a53 := Tryd.isAgg162
  z53 := Tryd.sizeOf162
  v53 := Tryd.zeroValue162
  t131 := Tryd.underlying190
  a131 := Tryd.isAgg190
  z131 := Tryd.sizeOf190
  v131 := Tryd.zeroValue190
  t182 := Tryd.underlying185
  a182 := Tryd.isAgg185
  z182 := Tryd.sizeOf185
  v182 := Tryd.zeroValue185
  t183 := Tryd.underlying186
  a183 := Tryd.isAgg186
  z183 := Tryd.sizeOf186
  v183 := Tryd.zeroValue186
  t218 := Tryd.underlying216
  a218 := Tryd.isAgg216
  z218 := Tryd.sizeOf216
  v218 := Tryd.zeroValue216
  t222 := Tryd.underlying220
  a222 := Tryd.isAgg220
  z222 := Tryd.sizeOf220
  v222 := Tryd.zeroValue220
  t228 := Tryd.underlying225
  a228 := Tryd.isAgg225
  z228 := Tryd.sizeOf225
  v228 := Tryd.zeroValue225
  t229 := Tryd.underlying44
  a229 := Tryd.isAgg44
  z229 := Tryd.sizeOf44
  v229 := Tryd.zeroValue44 }
open Go.Sort Go.RowKit in
theorem Tryd.slices_Sort_string (blk off cap : Nat) (ss : List (List UInt8)) (w : World) (hH : Holds encStr w blk off ss.toArray) (hblk : blk < w.heap.size) (hsz : ss.length < 4611686018427387904) :
    Calls Tryd.prog 65 #[.slice (some ⟨blk, off, none⟩) ss.length cap] w fun e w' =>
      e = .returned (.tuple #[]) ∧ ∃ n os, w' = grow (putRow encStr (Sort.ahead w n) blk off (ss.mergeSort fun x y => decide (x ≤ y)).toArray) os := Any.slices_Sort_string Tryd.lays190 blk off cap ss w hH hblk hsz
def Tryd.laysGw15_ren : Go.Shelf.Ren := ⟨fun | 15 => 144 | 20 => 148 | n => n, fun | 9 => 9 | 23 => 210 | 3 => 3 | 4 => 4 | 0 => 0 | 21 => 21 | n => n, fun | n => n⟩
theorem Tryd.laysGw15 : Go.Proofs.LaysGw.n15 Tryd.prog Tryd.laysGw15_ren := {
  mixed := by kernel_rfl
  f15 := Tryd.func144.trans (congrArg some (by kernel_rfl))
  f20 := Tryd.func148.trans (congrArg some (by kernel_rfl))
  t0 := Tryd.underlying0
  a0 := Tryd.isAgg0
  z0 := Tryd.sizeOf0
  v0 := Tryd.zeroValue0
  i0 := by kernel_rfl
  t3 := Tryd.underlying3
  a3 := Tryd.isAgg3
  z3 := Tryd.sizeOf3
  v3 := Tryd.zeroValue3
  i3 := by kernel_rfl
  t4 := Tryd.underlying4
  a4 := Tryd.isAgg4
  z4 := Tryd.sizeOf4
  v4 := Tryd.zeroValue4
  i4 := by kernel_rfl
  t9 := Tryd.underlying9
  a9 := Tryd.isAgg9
  z9 := Tryd.sizeOf9
  v9 := Tryd.zeroValue9
  i9 := by kernel_rfl
  t21 := Tryd.underlying21
  a21 := Tryd.isAgg21
  z21 := Tryd.sizeOf21
  v21 := Tryd.zeroValue21
  i21 := by kernel_rfl
  t23 := Tryd.underlying210
  a23 := Tryd.isAgg210
  z23 := Tryd.sizeOf210
  v23 := Tryd.zeroValue210
  i23 := by kernel_rfl }
open Go.RowKit Go.Lib in
theorem Tryd.strings_IndexFunc (g : Nat) (lb : Array Value) (eg : ∀ args w, (callFunc g args).run Tryd.prog w = .ok (.enter g args) w) (p : Nat → Bool) (s : ByteArray) (w : World) (hp : PredAt Tryd.prog g lb encR p w) :
    Calls Tryd.prog 144 #[.string s, .func (.func g) #[] lb] w fun e w' => e = .returned (.int .i64 (Lib.idxFunc p true s)) ∧ Below w.heap.size w w' := Any.strings_IndexFunc Tryd.laysGw15 g lb eg p s w hp
def Tryd.lays101_ren : Go.Shelf.Ren := ⟨fun | 101 => 36 | 208 => 53 | 206 => 74 | n => n, fun | 9 => 9 | 4 => 4 | 3 => 3 | n => n, fun | n => n⟩
theorem Tryd.lays101 : Go.Proofs.Lays.n101 Tryd.prog Tryd.lays101_ren := {
  mixed := by kernel_rfl
  f101 := Tryd.func36.trans (congrArg some (by kernel_rfl))
  f206 := Tryd.func74.trans (congrArg some (by kernel_rfl))
  f208 := Tryd.func53.trans (congrArg some (by kernel_rfl))
  t3 := Tryd.underlying3
  a3 := Tryd.isAgg3
  z3 := Tryd.sizeOf3
  v3 := Tryd.zeroValue3
  t4 := Tryd.underlying4
  a4 := Tryd.isAgg4
  z4 := Tryd.sizeOf4
  v4 := Tryd.zeroValue4
  t9 := Tryd.underlying9
  a9 := Tryd.isAgg9
  z9 := Tryd.sizeOf9
  v9 := Tryd.zeroValue9 }
open Go.RowKit Go.Lib in
theorem Tryd.strings_TrimPrefix (s p : ByteArray) (w : World) :
    Calls Tryd.prog 36 #[.string s, .string p] w fun e w' => e = .returned (.string ⟨(Lib.trimPrefix s.data.toList p.data.toList).toArray⟩) ∧ w' = w := Any.strings_TrimPrefix Tryd.lays101 s p w
open Go.RowKit Go.Sort in
theorem Tryd.slices_Sort_string_none (p : Option Addr) (cap : Nat) (w : World) :
    Calls Tryd.prog 65 #[.slice p 0 cap] w fun e w' => e = .returned (.tuple #[]) ∧ w' = w := Any.slices_Sort_string_none Tryd.lays190 p cap w
end Go.Proofs
