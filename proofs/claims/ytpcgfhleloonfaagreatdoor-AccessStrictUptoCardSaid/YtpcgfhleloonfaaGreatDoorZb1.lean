/- What the proof of this law needs, part 1: walks of the program's functions and plain laws (texts Shelf, AcPlain, AcB1, JKit). -/
import Derived.Test.YtpcgfhleloonfaaGreatDoorProg
import Derived.Shelf.Strings.Builder1
import Derived.Shelf.Strings.Builder2
import Derived.Shelf.Strings.OnBuilder
import Derived.Shelf.Small.Utf8
import Derived.Shelf.Small.Bits
import Derived.Shelf.Small.Strs
import Derived.Shelf.Small.Wraps
import Derived.Shelf.Strings.BuilderF
import Derived.Shelf.Strings.BuilderK
import Derived.Shelf.Utf8.AppendRune
import Derived.Shelf.Utf8.AppendRunePlain
import Derived.Shelf.Strings.Builder2Cap
import Derived.Shelf.Strconv.Atoi
import Derived.Shelf.Strconv.Itoa0
import Derived.Shelf.Strconv.Itoa1
import Derived.Shelf.LaysM
import Derived.Shelf.Strconv.Itoa2
import Derived.Shelf.Strconv.Itoa3
import Derived.Shelf.Strconv.AtoiErrFast
import Derived.Shelf.Strconv.ParseIntEmpty
import Derived.Shelf.Strconv.AtoiFail
import Derived.Shelf.Strconv.Clone
import Derived.Shelf.Strconv.SyntaxError
import Derived.Shelf.LaysC
import Derived.Shelf.Strconv.ToError
import Derived.Shelf.Strconv.Lower
import Derived.Shelf.Strconv.ParseUint10
import Derived.Shelf.Strconv.ParseUint10Empty
import Derived.Shelf.Strconv.ParseUint10Any
import Derived.Shelf.Strconv.ParseInt10
import Derived.Shelf.Strconv.AtoiLong
import Derived.Shelf.Strconv.AtoiInnerAll
import Derived.Shelf.Strconv.RangeError
import Derived.Shelf.Strconv.ToErrorRange
import Derived.Shelf.Strconv.AtoiAll
import Derived.Shelf.Strconv.ErrVarAll
import Derived.Shelf.Strings.Search1
import Derived.Shelf.Strings.Search2
import Derived.Shelf.Strings.Search3
import Derived.Shelf.Strings.Count
import Derived.Shelf.Strings.Shaped
import Derived.Shelf.Sort.Plain
import Derived.Shelf.Strings.Split
import Derived.Shelf.Strings.SplitShaped
import Derived.Shelf.Unicode.Decode
import Derived.Shelf.Strings.Runes
import Derived.Shelf.Strings.RuneCount
import Derived.Shelf.Strings.Explode
import Derived.Shelf.Unicode.DecodeSlow
import Derived.Shelf.Unicode.DecodeAny
import Derived.Shelf.Strings.BuilderCap
import Derived.Shelf.Slices.In.SortNone
import Derived.WalkKit
import Derived.WalkSpells
import Derived.WalkLawsBesides
import Derived.Handy
import Derived.Lib.Hide
import Derived.Lib.OthersKept
import Derived.Laws.IdiomStrings
import Derived.Maps.AppendAt
import Derived.Deep.Upon
namespace Go.Proofs
open Go.Shelf
def Tryz.lays170_ren : Go.Shelf.Ren := ⟨fun | 170 => 266 | n => n, fun | 70 => 128 | 3 => 3 | 0 => 0 | 72 => 130 | 37 => 84 | 5 => 5 | n => n, fun | n => n⟩
theorem Tryz.lays170 : Go.Proofs.Lays.n170 Tryz.prog Tryz.lays170_ren := {
  mixed := by kernel_rfl
  f170 := Tryz.func266.trans (congrArg some (by kernel_rfl))
  t0 := Tryz.underlying0
  a0 := Tryz.isAgg0
  z0 := Tryz.sizeOf0
  v0 := Tryz.zeroValue0
  t3 := Tryz.underlying3
  a3 := Tryz.isAgg3
  z3 := Tryz.sizeOf3
  v3 := Tryz.zeroValue3
  t37 := Tryz.underlying84
  a37 := Tryz.isAgg84
  z37 := Tryz.sizeOf84
  v37 := Tryz.zeroValue84
  t70 := Tryz.underlying128
  a70 := Tryz.isAgg128
  z70 := Tryz.sizeOf128
  v70 := Tryz.zeroValue128
  t72 := Tryz.underlying130
  a72 := Tryz.isAgg130
  z72 := Tryz.sizeOf130
  v72 := Tryz.zeroValue130 }
open Go.RowKit in
theorem Tryz.Builder_Len (B b : Nat) (bs : List Value) (w : World) (h : Lib.IsBuilder 130 5 B b bs w) :
    Calls Tryz.prog 266 #[.pointer (some ⟨b, 0, none⟩)] w fun e w' => e = .returned (.int .i64 bs.length) ∧ w' = w := Any.Builder_Len Tryz.lays170 B b bs w h
def Tryz.lays169_ren : Go.Shelf.Ren := ⟨fun | 169 => 96 | n => n, fun | 70 => 128 | 9 => 9 | 0 => 0 | 72 => 130 | 37 => 84 | 127 => 150 | 3 => 3 | 5 => 5 | n => n, fun | n => n⟩
theorem Tryz.lays169 : Go.Proofs.Lays.n169 Tryz.prog Tryz.lays169_ren := {
  mixed := by kernel_rfl
  f169 := Tryz.func96.trans (congrArg some (by kernel_rfl))
  t0 := Tryz.underlying0
  a0 := Tryz.isAgg0
  z0 := Tryz.sizeOf0
  v0 := Tryz.zeroValue0
  t3 := Tryz.underlying3
  a3 := Tryz.isAgg3
  z3 := Tryz.sizeOf3
  v3 := Tryz.zeroValue3
  t9 := Tryz.underlying9
  a9 := Tryz.isAgg9
  z9 := Tryz.sizeOf9
  v9 := Tryz.zeroValue9
  t37 := Tryz.underlying84
  a37 := Tryz.isAgg84
  z37 := Tryz.sizeOf84
  v37 := Tryz.zeroValue84
  t70 := Tryz.underlying128
  a70 := Tryz.isAgg128
  z70 := Tryz.sizeOf128
  v70 := Tryz.zeroValue128
  t72 := Tryz.underlying130
  a72 := Tryz.isAgg130
  z72 := Tryz.sizeOf130
  v72 := Tryz.zeroValue130
  t127 := Tryz.underlying150
  a127 := Tryz.isAgg150
  z127 := Tryz.sizeOf150
  v127 := Tryz.zeroValue150 }
theorem Tryz.Builder_Extra_169 : Builder.Extra Tryz.prog Tryz.lays169_ren := {
  sizeBuilder := by kernel_rfl
  liesBuilder := by kernel_rfl
  t5 := Tryz.underlying5
  a5 := Tryz.isAgg5
  z5 := Tryz.sizeOf5
  v5 := Tryz.zeroValue5
  infoByte := by kernel_rfl
  cellsByte := by kernel_rfl
  sizeByte := by kernel_rfl
  neB5 := by decide }
open Go.RowKit in
theorem Tryz.Builder_String_any (B b : Nat) (l : List UInt8) (w : World) (h : Lib.IsBuilder 130 5 B b (Lib.byteCells l) w) (hBw : B ≤ w.heap.size) :
    Calls Tryz.prog 96 #[.pointer (some ⟨b, 0, none⟩)] w fun e w' => e = .returned (.string ⟨l.toArray⟩) ∧ Below B w w' := Any.Builder_String_any Tryz.lays169 Tryz.Builder_Extra_169 B b l w h hBw
def Tryz.lays156_ren : Go.Shelf.Ren := ⟨fun | 156 => 60 | 165 => 94 | 166 => 95 | 169 => 96 | 240 => 115 | 241 => 116 | 276 => 137 | 277 => 138 | n => n, fun | 31 => 24 | 9 => 9 | 3 => 3 | 4 => 4 | 0 => 0 | 20 => 20 | 72 => 130 | 76 => 116 | 70 => 128 | 37 => 84 | 75 => 115 | 127 => 150 | 164 => 182 | 5 => 5 | 80 => 101 | n => n, fun | n => n⟩
theorem Tryz.lays156 : Go.Proofs.Lays.n156 Tryz.prog Tryz.lays156_ren := {
  mixed := by kernel_rfl
  f156 := Tryz.func60.trans (congrArg some (by kernel_rfl))
  f165 := Tryz.func94.trans (congrArg some (by kernel_rfl))
  f166 := Tryz.func95.trans (congrArg some (by kernel_rfl))
  f169 := Tryz.func96.trans (congrArg some (by kernel_rfl))
  f240 := Tryz.func115.trans (congrArg some (by kernel_rfl))
  f241 := Tryz.func116.trans (congrArg some (by kernel_rfl))
  f276 := Tryz.func137.trans (congrArg some (by kernel_rfl))
  f277 := Tryz.func138.trans (congrArg some (by kernel_rfl))
  t0 := Tryz.underlying0
  a0 := Tryz.isAgg0
  z0 := Tryz.sizeOf0
  v0 := Tryz.zeroValue0
  t3 := Tryz.underlying3
  a3 := Tryz.isAgg3
  z3 := Tryz.sizeOf3
  v3 := Tryz.zeroValue3
  t4 := Tryz.underlying4
  a4 := Tryz.isAgg4
  z4 := Tryz.sizeOf4
  v4 := Tryz.zeroValue4
  t9 := Tryz.underlying9
  a9 := Tryz.isAgg9
  z9 := Tryz.sizeOf9
  v9 := Tryz.zeroValue9
  t20 := Tryz.underlying20
  a20 := Tryz.isAgg20
  z20 := Tryz.sizeOf20
  v20 := Tryz.zeroValue20
  t31 := Tryz.underlying24
  a31 := Tryz.isAgg24
  z31 := Tryz.sizeOf24
  v31 := Tryz.zeroValue24
  t37 := Tryz.underlying84
  a37 := Tryz.isAgg84
  z37 := Tryz.sizeOf84
  v37 := Tryz.zeroValue84
  t70 := Tryz.underlying128
  a70 := Tryz.isAgg128
  z70 := Tryz.sizeOf128
  v70 := Tryz.zeroValue128
  t72 := Tryz.underlying130
  a72 := Tryz.isAgg130
  z72 := Tryz.sizeOf130
  v72 := Tryz.zeroValue130
  t75 := Tryz.underlying115
  a75 := Tryz.isAgg115
  z75 := Tryz.sizeOf115
  v75 := Tryz.zeroValue115
  t76 := Tryz.underlying116
  a76 := Tryz.isAgg116
  z76 := Tryz.sizeOf116
  v76 := Tryz.zeroValue116
  t127 := Tryz.underlying150
  a127 := Tryz.isAgg150
  z127 := Tryz.sizeOf150
  v127 := Tryz.zeroValue150
  t164 := Tryz.underlying182
  a164 := Tryz.isAgg182
  z164 := Tryz.sizeOf182
  v164 := Tryz.zeroValue182 }
theorem Tryz.Builder_Extra_156 : Builder.Extra Tryz.prog Tryz.lays156_ren := {
  sizeBuilder := by kernel_rfl
  liesBuilder := by kernel_rfl
  t5 := Tryz.underlying5
  a5 := Tryz.isAgg5
  z5 := Tryz.sizeOf5
  v5 := Tryz.zeroValue5
  infoByte := by kernel_rfl
  cellsByte := by kernel_rfl
  sizeByte := by kernel_rfl
  neB5 := by decide }
open Go.RowKit in
theorem Tryz.strings_Join_none (a : Option Addr) (c : Nat) (sep : ByteArray) (w : World) :
    Calls Tryz.prog 60 #[.slice a 0 c, .string sep] w fun e w' => e = .returned (.string ⟨#[]⟩) ∧ w' = w := Any.strings_Join_none Tryz.lays156 Tryz.Builder_Extra_156 a c sep w
open Go.RowKit in
theorem Tryz.strings_Join (bk o c : Nat) (xs : List ByteArray) (sep : ByteArray) (w : World) (hcells : ∀ (j : Nat) x, xs[j]? = some x → w.cell? ⟨bk, o + j, none⟩ = some (.string x)) (hbk : bk < w.heap.size) (hN : xs.length ≤ 140737488355328) (hcap : xs.length ≤ c) (hlen : (Lib.join (xs.map (·.data.toList)) sep.data.toList).length ≤ 140737488355328) :
    Calls Tryz.prog 60 #[.slice (some ⟨bk, o, none⟩) xs.length c, .string sep] w fun e w' => e = .returned (.string ⟨(Lib.join (xs.map (·.data.toList)) sep.data.toList).toArray⟩) ∧ Below w.heap.size w w' := Any.strings_Join Tryz.lays156 Tryz.Builder_Extra_156 bk o c xs sep w hcells hbk hN hcap hlen
def Tryz.lays119_ren : Go.Shelf.Ren := ⟨fun | 119 => 199 | n => n, fun | 21 => 21 | 4 => 4 | n => n, fun | n => n⟩
theorem Tryz.lays119 : Go.Proofs.Lays.n119 Tryz.prog Tryz.lays119_ren := {
  mixed := by kernel_rfl
  f119 := Tryz.func199.trans (congrArg some (by kernel_rfl))
  t4 := Tryz.underlying4
  a4 := Tryz.isAgg4
  z4 := Tryz.sizeOf4
  v4 := Tryz.zeroValue4
  t21 := Tryz.underlying21
  a21 := Tryz.isAgg21
  z21 := Tryz.sizeOf21
  v21 := Tryz.zeroValue21 }
theorem Tryz.utf8_ValidRune (r : Int) (w : World) :
    Calls Tryz.prog 199 #[.int .i32 r] w fun e w' => e = .returned (.bool (Lib.validRune r)) ∧ w' = w := Any.utf8_ValidRune Tryz.lays119 r w
def Tryz.lays125_ren : Go.Shelf.Ren := ⟨fun | 125 => 162 | 128 => 197 | 129 => 198 | n => n, fun | 46 => 83 | 3 => 3 | 51 => 132 | 53 => 140 | 4 => 4 | 5 => 5 | 9 => 9 | n => n, fun | n => n⟩
theorem Tryz.lays125 : Go.Proofs.Lays.n125 Tryz.prog Tryz.lays125_ren := {
  mixed := by kernel_rfl
  f125 := Tryz.func162.trans (congrArg some (by kernel_rfl))
  f128 := Tryz.func197.trans (congrArg some (by kernel_rfl))
  f129 := Tryz.func198.trans (congrArg some (by kernel_rfl))
  t3 := Tryz.underlying3
  a3 := Tryz.isAgg3
  z3 := Tryz.sizeOf3
  v3 := Tryz.zeroValue3
  t4 := Tryz.underlying4
  a4 := Tryz.isAgg4
  z4 := Tryz.sizeOf4
  v4 := Tryz.zeroValue4
  t5 := Tryz.underlying5
  a5 := Tryz.isAgg5
  z5 := Tryz.sizeOf5
  v5 := Tryz.zeroValue5
  t9 := Tryz.underlying9
  a9 := Tryz.isAgg9
  z9 := Tryz.sizeOf9
  v9 := Tryz.zeroValue9
  t46 := Tryz.underlying83
  a46 := Tryz.isAgg83
  z46 := Tryz.sizeOf83
  v46 := Tryz.zeroValue83
  t51 := Tryz.underlying132
  a51 := Tryz.isAgg132
  z51 := Tryz.sizeOf132
  v51 := Tryz.zeroValue132
  t53 := Tryz.underlying140
  a53 := Tryz.isAgg140
  z53 := Tryz.sizeOf140
  v53 := Tryz.zeroValue140 }
theorem Tryz.bits_Len (x : Int) (w : World) (h0 : 0 ≤ x) (h1 : x ≤ 18446744073709551615) :
    Calls Tryz.prog 162 #[.int .u64 x] w fun e w' => e = .returned (.int .i64 (Lib.bitLen x.toNat)) ∧ w' = w := Any.bits_Len Tryz.lays125 x w h0 h1
def Tryz.lays106_ren : Go.Shelf.Ren := ⟨fun | 106 => 183 | 213 => 207 | 265 => 227 | n => n, fun | 9 => 9 | 3 => 3 | n => n, fun | n => n⟩
theorem Tryz.lays106 : Go.Proofs.Lays.n106 Tryz.prog Tryz.lays106_ren := {
  mixed := by kernel_rfl
  f106 := Tryz.func183.trans (congrArg some (by kernel_rfl))
  f213 := Tryz.func207.trans (congrArg some (by kernel_rfl))
  f265 := Tryz.func227.trans (congrArg some (by kernel_rfl))
  t3 := Tryz.underlying3
  a3 := Tryz.isAgg3
  z3 := Tryz.sizeOf3
  v3 := Tryz.zeroValue3
  t9 := Tryz.underlying9
  a9 := Tryz.isAgg9
  z9 := Tryz.sizeOf9
  v9 := Tryz.zeroValue9 }
open Go.RowKit in
theorem Tryz.strings_Compare (a b : ByteArray) (w : World) :
    Calls Tryz.prog 183 #[.string a, .string b] w fun e w' => e = .returned (.int .i64 (Lib.compareBytes a.data.toList b.data.toList)) ∧ w' = w := Any.strings_Compare Tryz.lays106 a b w
def Tryz.lays137_ren : Go.Shelf.Ren := ⟨fun | 137 => 156 | 217 => 171 | 266 => 201 | n => n, fun | 9 => 9 | 5 => 5 | 3 => 3 | n => n, fun | n => n⟩
theorem Tryz.lays137 : Go.Proofs.Lays.n137 Tryz.prog Tryz.lays137_ren := {
  mixed := by kernel_rfl
  f137 := Tryz.func156.trans (congrArg some (by kernel_rfl))
  f217 := Tryz.func171.trans (congrArg some (by kernel_rfl))
  f266 := Tryz.func201.trans (congrArg some (by kernel_rfl))
  t3 := Tryz.underlying3
  a3 := Tryz.isAgg3
  z3 := Tryz.sizeOf3
  v3 := Tryz.zeroValue3
  t5 := Tryz.underlying5
  a5 := Tryz.isAgg5
  z5 := Tryz.sizeOf5
  v5 := Tryz.zeroValue5
  t9 := Tryz.underlying9
  a9 := Tryz.isAgg9
  z9 := Tryz.sizeOf9
  v9 := Tryz.zeroValue9 }
open Go.RowKit in
theorem Tryz.strings_IndexByte (s : ByteArray) (c : Int) (w : World) :
    Calls Tryz.prog 156 #[.string s, .int .u8 c] w fun e w' => e = .returned (.int .i64 (Lib.indexByte s.data.toList c.toNat.toUInt8)) ∧ w' = w := Any.strings_IndexByte Tryz.lays137 s c w
def Tryz.lays121_ren : Go.Shelf.Ren := ⟨fun | 121 => 271 | 214 => 275 | n => n, fun | 4 => 4 | 9 => 9 | n => n, fun | n => n⟩
theorem Tryz.lays121 : Go.Proofs.Lays.n121 Tryz.prog Tryz.lays121_ren := {
  mixed := by kernel_rfl
  f121 := Tryz.func271.trans (congrArg some (by kernel_rfl))
  f214 := Tryz.func275.trans (congrArg some (by kernel_rfl))
  t4 := Tryz.underlying4
  a4 := Tryz.isAgg4
  z4 := Tryz.sizeOf4
  v4 := Tryz.zeroValue4
  t9 := Tryz.underlying9
  a9 := Tryz.isAgg9
  z9 := Tryz.sizeOf9
  v9 := Tryz.zeroValue9 }
open Go.RowKit in
theorem Tryz.strconv_FormatBool (b : Bool) (w : World) :
    Calls Tryz.prog 271 #[.bool b] w fun e w' => e = .returned (.string ⟨(Lib.formatBool b).toArray⟩) ∧ w' = w := Any.strconv_FormatBool Tryz.lays121 b w
def Tryz.lays242_ren : Go.Shelf.Ren := ⟨fun | 242 => 203 | 278 => 217 | n => n, fun | 37 => 84 | 21 => 21 | 51 => 132 | 4 => 4 | 5 => 5 | 46 => 83 | n => n, fun | n => n⟩
theorem Tryz.lays242 : Go.Proofs.Lays.n242 Tryz.prog Tryz.lays242_ren := {
  mixed := by kernel_rfl
  f242 := Tryz.func203.trans (congrArg some (by kernel_rfl))
  f278 := Tryz.func217.trans (congrArg some (by kernel_rfl))
  t4 := Tryz.underlying4
  a4 := Tryz.isAgg4
  z4 := Tryz.sizeOf4
  v4 := Tryz.zeroValue4
  t5 := Tryz.underlying5
  a5 := Tryz.isAgg5
  z5 := Tryz.sizeOf5
  v5 := Tryz.zeroValue5
  t21 := Tryz.underlying21
  a21 := Tryz.isAgg21
  z21 := Tryz.sizeOf21
  v21 := Tryz.zeroValue21
  t37 := Tryz.underlying84
  a37 := Tryz.isAgg84
  z37 := Tryz.sizeOf84
  v37 := Tryz.zeroValue84
  t46 := Tryz.underlying83
  a46 := Tryz.isAgg83
  z46 := Tryz.sizeOf83
  v46 := Tryz.zeroValue83
  t51 := Tryz.underlying132
  a51 := Tryz.isAgg132
  z51 := Tryz.sizeOf132
  v51 := Tryz.zeroValue132 }
open Go.RowKit in
theorem Tryz.utf8_AppendRune_plain (B : Nat) (v : Value) (n : Nat) (xs : List Value) (r : Int) (hr0 : -2147483648 ≤ r) (hr1 : r ≤ 2147483647) (w : World) (hown : w.ownsRow B 5 1 v n xs) (hlen : n + 4 ≤ 140737488355328) (hBw : B ≤ w.heap.size) :
    Calls Tryz.prog 203 #[v, .int .i32 r] w fun e w' => ∃ v', e = .returned v' ∧ w'.ownsRow B 5 1 v' (n + (Lib.runeCells r).length) (xs ++ Lib.runeCells r) ∧ ∃ o, (w.alloc o).grownBy w' v.ownBlock := Any.utf8_AppendRune_plain Tryz.lays242 (by kernel_rfl) B v n xs r hr0 hr1 w hown hlen hBw
def Tryz.laysM171_ren : Go.Shelf.Ren := ⟨fun | 171 => 160 | 243 => 187 | 246 => 208 | 283 => 228 | 284 => 229 | 285 => 230 | 286 => 231 | 129 => 198 | 317 => 237 | 318 => 238 | 319 => 239 | 320 => 240 | 337 => 242 | 338 => 243 | n => n, fun | 3 => 3 | 9 => 9 | 2 => 2 | 4 => 4 | 171 => 257 | 0 => 0 | 53 => 140 | 37 => 84 | 5 => 5 | 173 => 259 | 212 => 268 | 51 => 132 | 20 => 20 | 213 => 269 | 46 => 83 | 232 => 271 | 233 => 136 | n => n, fun | 17 => 5 | 18 => 6 | 19 => 7 | n => n⟩
theorem Tryz.laysM171 : Go.Proofs.LaysM.n171 Tryz.prog Tryz.laysM171_ren := {
  mixed := by kernel_rfl
  f129 := Tryz.func198.trans (congrArg some (by kernel_rfl))
  f171 := Tryz.func160.trans (congrArg some (by kernel_rfl))
  f243 := Tryz.func187.trans (congrArg some (by kernel_rfl))
  f246 := Tryz.func208.trans (congrArg some (by kernel_rfl))
  f283 := Tryz.func228.trans (congrArg some (by kernel_rfl))
  f284 := Tryz.func229.trans (congrArg some (by kernel_rfl))
  f285 := Tryz.func230.trans (congrArg some (by kernel_rfl))
  f286 := Tryz.func231.trans (congrArg some (by kernel_rfl))
  f317 := Tryz.func237.trans (congrArg some (by kernel_rfl))
  f318 := Tryz.func238.trans (congrArg some (by kernel_rfl))
  f319 := Tryz.func239.trans (congrArg some (by kernel_rfl))
  f320 := Tryz.func240.trans (congrArg some (by kernel_rfl))
  f337 := Tryz.func242.trans (congrArg some (by kernel_rfl))
  f338 := Tryz.func243.trans (congrArg some (by kernel_rfl))
  t0 := Tryz.underlying0
  a0 := Tryz.isAgg0
  z0 := Tryz.sizeOf0
  v0 := Tryz.zeroValue0
  t2 := Tryz.underlying2
  a2 := Tryz.isAgg2
  z2 := Tryz.sizeOf2
  v2 := Tryz.zeroValue2
  t3 := Tryz.underlying3
  a3 := Tryz.isAgg3
  z3 := Tryz.sizeOf3
  v3 := Tryz.zeroValue3
  t4 := Tryz.underlying4
  a4 := Tryz.isAgg4
  z4 := Tryz.sizeOf4
  v4 := Tryz.zeroValue4
  t5 := Tryz.underlying5
  a5 := Tryz.isAgg5
  z5 := Tryz.sizeOf5
  v5 := Tryz.zeroValue5
  t9 := Tryz.underlying9
  a9 := Tryz.isAgg9
  z9 := Tryz.sizeOf9
  v9 := Tryz.zeroValue9
  t20 := Tryz.underlying20
  a20 := Tryz.isAgg20
  z20 := Tryz.sizeOf20
  v20 := Tryz.zeroValue20
  t37 := Tryz.underlying84
  a37 := Tryz.isAgg84
  z37 := Tryz.sizeOf84
  v37 := Tryz.zeroValue84
  t46 := Tryz.underlying83
  a46 := Tryz.isAgg83
  z46 := Tryz.sizeOf83
  v46 := Tryz.zeroValue83
  t51 := Tryz.underlying132
  a51 := Tryz.isAgg132
  z51 := Tryz.sizeOf132
  v51 := Tryz.zeroValue132
  t53 := Tryz.underlying140
  a53 := Tryz.isAgg140
  z53 := Tryz.sizeOf140
  v53 := Tryz.zeroValue140
  t171 := Tryz.underlying257
  a171 := Tryz.isAgg257
  z171 := Tryz.sizeOf257
  v171 := Tryz.zeroValue257
  t173 := Tryz.underlying259
  a173 := Tryz.isAgg259
  z173 := Tryz.sizeOf259
  v173 := Tryz.zeroValue259
  t212 := Tryz.underlying268
  a212 := Tryz.isAgg268
  z212 := Tryz.sizeOf268
  v212 := Tryz.zeroValue268
  t213 := Tryz.underlying269
  a213 := Tryz.isAgg269
  z213 := Tryz.sizeOf269
  t232 := Tryz.underlying271
  a232 := Tryz.isAgg271
  z232 := Tryz.sizeOf271
  v232 := Tryz.zeroValue271
  t233 := Tryz.underlying136
  a233 := Tryz.isAgg136
  z233 := Tryz.sizeOf136
  v233 := Tryz.zeroValue136
  g17 := by kernel_rfl
  g18 := by kernel_rfl
  g19 := by kernel_rfl
  i0 := by kernel_rfl
  i2 := by kernel_rfl
  i3 := by kernel_rfl
  i4 := by kernel_rfl
  i5 := by kernel_rfl
  i9 := by kernel_rfl
  i20 := by kernel_rfl
  i37 := by kernel_rfl
  i46 := by kernel_rfl
  i51 := by kernel_rfl
  i53 := by kernel_rfl
  i171 := by kernel_rfl
  i173 := by kernel_rfl
  i212 := by kernel_rfl
  i232 := by kernel_rfl
  i233 := by kernel_rfl
  m17 := by kernel_rfl
  m18 := by kernel_rfl
  m19 := by kernel_rfl }
open Go.RowKit Go.Sort Go.Lib in
theorem Tryz.strconv_Itoa (n : Int) (h0 : -9223372036854775808 ≤ n) (h1 : n ≤ 9223372036854775807) (w : World) (htab : Lib.TabIs Tryz.prog w "internal/strconv.uint64pow10" .u64 Lib.pow10Tab) :
    Calls Tryz.prog 160 #[.int .i64 n] w fun e w' => e = .returned (.string ⟨(Lib.itoa n).toArray⟩) ∧ ∃ k os, w' = grow (w.drewN k) os := Any.strconv_Itoa Tryz.laysM171 n h0 h1 w htab
def Tryz.laysC172_ren : Go.Shelf.Ren := ⟨fun | 172 => 79 | 244 => 105 | 245 => 106 | 247 => 129 | 279 => 130 | 280 => 131 | 281 => 132 | 282 => 133 | 287 => 157 | 316 => 158 | 171 => 160 | 205 => 159 | 321 => 185 | 322 => 186 | 243 => 187 | 246 => 208 | 283 => 228 | 284 => 229 | 285 => 230 | 286 => 231 | 129 => 198 | 317 => 237 | 318 => 238 | 319 => 239 | 320 => 240 | 337 => 242 | 338 => 243 | n => n, fun | 9 => 9 | 3 => 3 | 75 => 115 | 76 => 116 | 4 => 4 | 5 => 5 | 167 => 172 | 37 => 84 | 0 => 0 | 85 => 173 | 2 => 2 | 168 => 175 | 53 => 140 | 175 => 196 | 46 => 83 | 210 => 199 | 127 => 150 | 145 => 222 | 143 => 220 | 21 => 21 | 171 => 257 | 173 => 259 | 212 => 268 | 51 => 132 | 20 => 20 | 213 => 269 | 232 => 271 | 233 => 136 | 80 => 101 | n => n, fun | 15 => 0 | 16 => 1 | 17 => 5 | 18 => 6 | 19 => 7 | n => n⟩
theorem Tryz.laysC172 : Go.Proofs.LaysC.n172 Tryz.prog Tryz.laysC172_ren := {
  mixed := by kernel_rfl
  f129 := Tryz.func198.trans (congrArg some (by kernel_rfl))
  f171 := Tryz.func160.trans (congrArg some (by kernel_rfl))
  f172 := Tryz.func79.trans (congrArg some (by kernel_rfl))
  f205 := Tryz.func159.trans (congrArg some (by kernel_rfl))
  f243 := Tryz.func187.trans (congrArg some (by kernel_rfl))
  f244 := Tryz.func105.trans (congrArg some (by kernel_rfl))
  f245 := Tryz.func106.trans (congrArg some (by kernel_rfl))
  f246 := Tryz.func208.trans (congrArg some (by kernel_rfl))
  f247 := Tryz.func129.trans (congrArg some (by kernel_rfl))
  f279 := Tryz.func130.trans (congrArg some (by kernel_rfl))
  f280 := Tryz.func131.trans (congrArg some (by kernel_rfl))
  f281 := Tryz.func132.trans (congrArg some (by kernel_rfl))
  f282 := Tryz.func133.trans (congrArg some (by kernel_rfl))
  f283 := Tryz.func228.trans (congrArg some (by kernel_rfl))
  f284 := Tryz.func229.trans (congrArg some (by kernel_rfl))
  f285 := Tryz.func230.trans (congrArg some (by kernel_rfl))
  f286 := Tryz.func231.trans (congrArg some (by kernel_rfl))
  f287 := Tryz.func157.trans (congrArg some (by kernel_rfl))
  f316 := Tryz.func158.trans (congrArg some (by kernel_rfl))
  f317 := Tryz.func237.trans (congrArg some (by kernel_rfl))
  f318 := Tryz.func238.trans (congrArg some (by kernel_rfl))
  f319 := Tryz.func239.trans (congrArg some (by kernel_rfl))
  f320 := Tryz.func240.trans (congrArg some (by kernel_rfl))
  f321 := Tryz.func185.trans (congrArg some (by kernel_rfl))
  f322 := Tryz.func186.trans (congrArg some (by kernel_rfl))
  f337 := Tryz.func242.trans (congrArg some (by kernel_rfl))
  f338 := Tryz.func243.trans (congrArg some (by kernel_rfl))
  t0 := Tryz.underlying0
  a0 := Tryz.isAgg0
  z0 := Tryz.sizeOf0
  v0 := Tryz.zeroValue0
  t2 := Tryz.underlying2
  a2 := Tryz.isAgg2
  z2 := Tryz.sizeOf2
  v2 := Tryz.zeroValue2
  t3 := Tryz.underlying3
  a3 := Tryz.isAgg3
  z3 := Tryz.sizeOf3
  v3 := Tryz.zeroValue3
  t4 := Tryz.underlying4
  a4 := Tryz.isAgg4
  z4 := Tryz.sizeOf4
  v4 := Tryz.zeroValue4
  t5 := Tryz.underlying5
  a5 := Tryz.isAgg5
  z5 := Tryz.sizeOf5
  v5 := Tryz.zeroValue5
  t9 := Tryz.underlying9
  a9 := Tryz.isAgg9
  z9 := Tryz.sizeOf9
  v9 := Tryz.zeroValue9
  t20 := Tryz.underlying20
  a20 := Tryz.isAgg20
  z20 := Tryz.sizeOf20
  v20 := Tryz.zeroValue20
  t21 := Tryz.underlying21
  a21 := Tryz.isAgg21
  z21 := Tryz.sizeOf21
  v21 := Tryz.zeroValue21
  t37 := Tryz.underlying84
  a37 := Tryz.isAgg84
  z37 := Tryz.sizeOf84
  v37 := Tryz.zeroValue84
  t46 := Tryz.underlying83
  a46 := Tryz.isAgg83
  z46 := Tryz.sizeOf83
  v46 := Tryz.zeroValue83
  t51 := Tryz.underlying132
  a51 := Tryz.isAgg132
  z51 := Tryz.sizeOf132
  v51 := Tryz.zeroValue132
  t53 := Tryz.underlying140
  a53 := Tryz.isAgg140
  z53 := Tryz.sizeOf140
  v53 := Tryz.zeroValue140
  t75 := Tryz.underlying115
  a75 := Tryz.isAgg115
  z75 := Tryz.sizeOf115
  v75 := Tryz.zeroValue115
  t76 := Tryz.underlying116
  a76 := Tryz.isAgg116
  z76 := Tryz.sizeOf116
  v76 := Tryz.zeroValue116
  t85 := Tryz.underlying173
  a85 := Tryz.isAgg173
  z85 := Tryz.sizeOf173
  v85 := Tryz.zeroValue173
  t127 := Tryz.underlying150
  a127 := Tryz.isAgg150
  z127 := Tryz.sizeOf150
  v127 := Tryz.zeroValue150
  t143 := Tryz.underlying220
  a143 := Tryz.isAgg220
  z143 := Tryz.sizeOf220
  v143 := Tryz.zeroValue220
  t145 := Tryz.underlying222
  a145 := Tryz.isAgg222
  z145 := Tryz.sizeOf222
  v145 := Tryz.zeroValue222
  t167 := Tryz.underlying172
  a167 := Tryz.isAgg172
  z167 := Tryz.sizeOf172
  v167 := Tryz.zeroValue172
  t168 := Tryz.underlying175
  a168 := Tryz.isAgg175
  z168 := Tryz.sizeOf175
  v168 := Tryz.zeroValue175
  t171 := Tryz.underlying257
  a171 := Tryz.isAgg257
  z171 := Tryz.sizeOf257
  v171 := Tryz.zeroValue257
  t173 := Tryz.underlying259
  a173 := Tryz.isAgg259
  z173 := Tryz.sizeOf259
  v173 := Tryz.zeroValue259
  t175 := Tryz.underlying196
  a175 := Tryz.isAgg196
  z175 := Tryz.sizeOf196
  v175 := Tryz.zeroValue196
  t210 := Tryz.underlying199
  a210 := Tryz.isAgg199
  z210 := Tryz.sizeOf199
  v210 := Tryz.zeroValue199
  t212 := Tryz.underlying268
  a212 := Tryz.isAgg268
  z212 := Tryz.sizeOf268
  v212 := Tryz.zeroValue268
  t213 := Tryz.underlying269
  a213 := Tryz.isAgg269
  z213 := Tryz.sizeOf269
  t232 := Tryz.underlying271
  a232 := Tryz.isAgg271
  z232 := Tryz.sizeOf271
  v232 := Tryz.zeroValue271
  t233 := Tryz.underlying136
  a233 := Tryz.isAgg136
  z233 := Tryz.sizeOf136
  v233 := Tryz.zeroValue136
  g15 := by kernel_rfl
  g16 := by kernel_rfl
  g17 := by kernel_rfl
  g18 := by kernel_rfl
  g19 := by kernel_rfl
  t80 := Tryz.underlying101
  a80 := Tryz.isAgg101
  z80 := Tryz.sizeOf101
  v80 := Tryz.zeroValue101
  i0 := by kernel_rfl
  i2 := by kernel_rfl
  i3 := by kernel_rfl
  i4 := by kernel_rfl
  i5 := by kernel_rfl
  i9 := by kernel_rfl
  i20 := by kernel_rfl
  i21 := by kernel_rfl
  i37 := by kernel_rfl
  i46 := by kernel_rfl
  i51 := by kernel_rfl
  i53 := by kernel_rfl
  i75 := by kernel_rfl
  i76 := by kernel_rfl
  i80 := by kernel_rfl
  i85 := by kernel_rfl
  i127 := by kernel_rfl
  i143 := by kernel_rfl
  i145 := by kernel_rfl
  i167 := by kernel_rfl
  i168 := by kernel_rfl
  i171 := by kernel_rfl
  i173 := by kernel_rfl
  i175 := by kernel_rfl
  i210 := by kernel_rfl
  i212 := by kernel_rfl
  i232 := by kernel_rfl
  i233 := by kernel_rfl
  m15 := by kernel_rfl
  m16 := by kernel_rfl
  m17 := by kernel_rfl
  m18 := by kernel_rfl
  m19 := by kernel_rfl
  c0 := by kernel_rfl
  c2 := by kernel_rfl
  c3 := by kernel_rfl
  c4 := by kernel_rfl
  c5 := by kernel_rfl
  c9 := by kernel_rfl
  c20 := by kernel_rfl
  c21 := by kernel_rfl
  c37 := by kernel_rfl
  c46 := by kernel_rfl
  c51 := by kernel_rfl
  c53 := by kernel_rfl
  c75 := by kernel_rfl
  c76 := by kernel_rfl
  c80 := by kernel_rfl
  c85 := by kernel_rfl
  c127 := by kernel_rfl
  c143 := by kernel_rfl
  c145 := by kernel_rfl
  c167 := by kernel_rfl
  c168 := by kernel_rfl
  c171 := by kernel_rfl
  c173 := by kernel_rfl
  c175 := by kernel_rfl
  c210 := by kernel_rfl
  c212 := by kernel_rfl
  c213 := by kernel_rfl
  c232 := by kernel_rfl
  c233 := by kernel_rfl }
open Go.RowKit in
theorem Tryz.strconv_Atoi_ok (s : ByteArray) (hmax : s.size ≤ 9223372036854775806) (v : Int) (h : Lib.atoiAll s.data.toList = .ok v) (w : World) :
    Calls Tryz.prog 79 #[.string s] w fun e w' => e = .returned (.tuple #[.int .i64 v, .nilIface]) ∧ (w' = w ∨ ∃ t, w' = Lib.bytesWorld w 5 t) := Any.strconv_Atoi_ok Tryz.laysC172 s hmax v h w
open Go.RowKit in
theorem Tryz.strconv_Atoi_syntax (s : ByteArray) (hlim : s.size ≤ 281474976710656) (h0 : (∀ v, Lib.atoiAll s.data.toList ≠ .ok v) ∧ Lib.atoiAll s.data.toList ≠ .range) (ev : Value) (w : World) (hv : w.cell? ⟨0, 0, none⟩ = some ev) (hev : ev = .nilIface ∨ ∃ te pe, ev = .iface te pe) :
    Calls Tryz.prog 79 #[.string s] w fun e w' => ∃ N, e = .returned (.tuple #[.int .i64 (0), .iface 175 (.pointer (some ⟨N, 0, none⟩))]) ∧ w.heap.size ≤ N ∧ w'.heap[N]? = some (.cells #[.string ⟨#[65, 116, 111, 105]⟩, .string s, ev] 199 (0, 0)) ∧ Below w.heap.size w w' := Any.strconv_Atoi_syntax Tryz.laysC172 s hlim (by cases hh : Lib.atoiAll s.data.toList with | ok v => exact absurd hh (h0.1 v) | range => exact absurd hh h0.2 | _ => rfl) ev w hv hev
open Go.RowKit in
theorem Tryz.strconv_Atoi_range (s : ByteArray) (hlim : s.size ≤ 281474976710656) (h : Lib.atoiAll s.data.toList = .range) (ev : Value) (w : World) (hv : w.cell? ⟨1, 0, none⟩ = some ev) (hev : ev = .nilIface ∨ ∃ te pe, ev = .iface te pe) :
    Calls Tryz.prog 79 #[.string s] w fun e w' => ∃ N, e = .returned (.tuple #[.int .i64 (Lib.atoiSat s.data.toList), .iface 175 (.pointer (some ⟨N, 0, none⟩))]) ∧ w.heap.size ≤ N ∧ w'.heap[N]? = some (.cells #[.string ⟨#[65, 116, 111, 105]⟩, .string s, ev] 199 (0, 0)) ∧ Below w.heap.size w w' := Any.strconv_Atoi_range Tryz.laysC172 s hlim h ev w hv hev
def Tryz.lays190_ren : Go.Shelf.Ren := ⟨fun | 190 => 134 | 125 => 162 | 258 => 161 | 128 => 197 | 129 => 198 | 302 => 188 | 303 => 189 | 304 => 190 | 305 => 191 | 306 => 192 | 307 => 193 | 308 => 194 | 309 => 195 | 310 => 196 | 333 => 209 | 329 => 210 | 330 => 211 | 334 => 212 | 335 => 213 | 336 => 214 | 344 => 232 | n => n, fun | 31 => 24 | 9 => 9 | 3 => 3 | 46 => 83 | 0 => 0 | 51 => 132 | 53 => 140 | 4 => 4 | 183 => 225 | 182 => 224 | 131 => 179 | 5 => 5 | 218 => 245 | 222 => 249 | 228 => 261 | 229 => 262 | n => n, fun | n => n⟩
theorem Tryz.lays190 : Go.Proofs.Lays.n190 Tryz.prog Tryz.lays190_ren := {
  mixed := by kernel_rfl
  f125 := Tryz.func162.trans (congrArg some (by kernel_rfl))
  f128 := Tryz.func197.trans (congrArg some (by kernel_rfl))
  f129 := Tryz.func198.trans (congrArg some (by kernel_rfl))
  f190 := Tryz.func134.trans (congrArg some (by kernel_rfl))
  f258 := Tryz.func161.trans (congrArg some (by kernel_rfl))
  f302 := Tryz.func188.trans (congrArg some (by kernel_rfl))
  f303 := Tryz.func189.trans (congrArg some (by kernel_rfl))
  f304 := Tryz.func190.trans (congrArg some (by kernel_rfl))
  f305 := Tryz.func191.trans (congrArg some (by kernel_rfl))
  f306 := Tryz.func192.trans (congrArg some (by kernel_rfl))
  f307 := Tryz.func193.trans (congrArg some (by kernel_rfl))
  f308 := Tryz.func194.trans (congrArg some (by kernel_rfl))
  f309 := Tryz.func195.trans (congrArg some (by kernel_rfl))
  f310 := Tryz.func196.trans (congrArg some (by kernel_rfl))
  f329 := Tryz.func210.trans (congrArg some (by kernel_rfl))
  f330 := Tryz.func211.trans (congrArg some (by kernel_rfl))
  f333 := Tryz.func209.trans (congrArg some (by kernel_rfl))
  f334 := Tryz.func212.trans (congrArg some (by kernel_rfl))
  f335 := Tryz.func213.trans (congrArg some (by kernel_rfl))
  f336 := Tryz.func214.trans (congrArg some (by kernel_rfl))
  f344 := Tryz.func232.trans (congrArg some (by kernel_rfl))
  t0 := Tryz.underlying0
  a0 := Tryz.isAgg0
  z0 := Tryz.sizeOf0
  v0 := Tryz.zeroValue0
  t3 := Tryz.underlying3
  a3 := Tryz.isAgg3
  z3 := Tryz.sizeOf3
  v3 := Tryz.zeroValue3
  t4 := Tryz.underlying4
  a4 := Tryz.isAgg4
  z4 := Tryz.sizeOf4
  v4 := Tryz.zeroValue4
  t5 := Tryz.underlying5
  a5 := Tryz.isAgg5
  z5 := Tryz.sizeOf5
  v5 := Tryz.zeroValue5
  t9 := Tryz.underlying9
  a9 := Tryz.isAgg9
  z9 := Tryz.sizeOf9
  v9 := Tryz.zeroValue9
  t31 := Tryz.underlying24
  a31 := Tryz.isAgg24
  z31 := Tryz.sizeOf24
  v31 := Tryz.zeroValue24
  t46 := Tryz.underlying83
  a46 := Tryz.isAgg83
  z46 := Tryz.sizeOf83
  v46 := Tryz.zeroValue83
  t51 := Tryz.underlying132
  a51 := Tryz.isAgg132
  z51 := Tryz.sizeOf132
  v51 := Tryz.zeroValue132
  t53 := Tryz.underlying140
  a53 := Tryz.isAgg140
  z53 := Tryz.sizeOf140
  v53 := Tryz.zeroValue140
  t131 := Tryz.underlying179
  a131 := Tryz.isAgg179
  z131 := Tryz.sizeOf179
  v131 := Tryz.zeroValue179
  t182 := Tryz.underlying224
  a182 := Tryz.isAgg224
  z182 := Tryz.sizeOf224
  v182 := Tryz.zeroValue224
  t183 := Tryz.underlying225
  a183 := Tryz.isAgg225
  z183 := Tryz.sizeOf225
  v183 := Tryz.zeroValue225
  t218 := Tryz.underlying245
  a218 := Tryz.isAgg245
  z218 := Tryz.sizeOf245
  v218 := Tryz.zeroValue245
  t222 := Tryz.underlying249
  a222 := Tryz.isAgg249
  z222 := Tryz.sizeOf249
  v222 := Tryz.zeroValue249
  t228 := Tryz.underlying261
  a228 := Tryz.isAgg261
  z228 := Tryz.sizeOf261
  v228 := Tryz.zeroValue261
  t229 := Tryz.underlying262
  a229 := Tryz.isAgg262
  z229 := Tryz.sizeOf262
  v229 := Tryz.zeroValue262 }
open Go.Sort Go.RowKit in
theorem Tryz.slices_Sort_string (blk off cap : Nat) (ss : List (List UInt8)) (w : World) (hH : Holds encStr w blk off ss.toArray) (hblk : blk < w.heap.size) (hsz : ss.length < 4611686018427387904) :
    Calls Tryz.prog 134 #[.slice (some ⟨blk, off, none⟩) ss.length cap] w fun e w' =>
      e = .returned (.tuple #[]) ∧ ∃ n os, w' = grow (putRow encStr (Sort.ahead w n) blk off (ss.mergeSort fun x y => decide (x ≤ y)).toArray) os := Any.slices_Sort_string Tryz.lays190 blk off cap ss w hH hblk hsz
def Tryz.lays146_ren : Go.Shelf.Ren := ⟨fun | 146 => 74 | 221 => 102 | 268 => 122 | 138 => 123 | 143 => 124 | 195 => 146 | 197 => 147 | 218 => 148 | 219 => 149 | 260 => 170 | 217 => 171 | 225 => 172 | 224 => 173 | 267 => 174 | 266 => 201 | 314 => 202 | n => n, fun | 9 => 9 | 31 => 24 | 3 => 3 | 4 => 4 | 0 => 0 | 105 => 188 | 21 => 21 | 5 => 5 | 46 => 83 | 119 => 233 | 139 => 236 | 138 => 235 | 146 => 237 | 51 => 132 | n => n, fun | 1 => 2 | 3 => 3 | 4 => 4 | n => n⟩
theorem Tryz.lays146 : Go.Proofs.Lays.n146 Tryz.prog Tryz.lays146_ren := {
  mixed := by kernel_rfl
  f138 := Tryz.func123.trans (congrArg some (by kernel_rfl))
  f143 := Tryz.func124.trans (congrArg some (by kernel_rfl))
  f146 := Tryz.func74.trans (congrArg some (by kernel_rfl))
  f195 := Tryz.func146.trans (congrArg some (by kernel_rfl))
  f197 := Tryz.func147.trans (congrArg some (by kernel_rfl))
  f217 := Tryz.func171.trans (congrArg some (by kernel_rfl))
  f218 := Tryz.func148.trans (congrArg some (by kernel_rfl))
  f219 := Tryz.func149.trans (congrArg some (by kernel_rfl))
  f221 := Tryz.func102.trans (congrArg some (by kernel_rfl))
  f224 := Tryz.func173.trans (congrArg some (by kernel_rfl))
  f225 := Tryz.func172.trans (congrArg some (by kernel_rfl))
  f260 := Tryz.func170.trans (congrArg some (by kernel_rfl))
  f266 := Tryz.func201.trans (congrArg some (by kernel_rfl))
  f267 := Tryz.func174.trans (congrArg some (by kernel_rfl))
  f268 := Tryz.func122.trans (congrArg some (by kernel_rfl))
  f314 := Tryz.func202.trans (congrArg some (by kernel_rfl))
  t0 := Tryz.underlying0
  a0 := Tryz.isAgg0
  z0 := Tryz.sizeOf0
  v0 := Tryz.zeroValue0
  t3 := Tryz.underlying3
  a3 := Tryz.isAgg3
  z3 := Tryz.sizeOf3
  v3 := Tryz.zeroValue3
  t4 := Tryz.underlying4
  a4 := Tryz.isAgg4
  z4 := Tryz.sizeOf4
  v4 := Tryz.zeroValue4
  t5 := Tryz.underlying5
  a5 := Tryz.isAgg5
  z5 := Tryz.sizeOf5
  v5 := Tryz.zeroValue5
  t9 := Tryz.underlying9
  a9 := Tryz.isAgg9
  z9 := Tryz.sizeOf9
  v9 := Tryz.zeroValue9
  t21 := Tryz.underlying21
  a21 := Tryz.isAgg21
  z21 := Tryz.sizeOf21
  v21 := Tryz.zeroValue21
  t31 := Tryz.underlying24
  a31 := Tryz.isAgg24
  z31 := Tryz.sizeOf24
  v31 := Tryz.zeroValue24
  t46 := Tryz.underlying83
  a46 := Tryz.isAgg83
  z46 := Tryz.sizeOf83
  v46 := Tryz.zeroValue83
  t51 := Tryz.underlying132
  a51 := Tryz.isAgg132
  z51 := Tryz.sizeOf132
  v51 := Tryz.zeroValue132
  t105 := Tryz.underlying188
  a105 := Tryz.isAgg188
  z105 := Tryz.sizeOf188
  v105 := Tryz.zeroValue188
  t119 := Tryz.underlying233
  a119 := Tryz.isAgg233
  z119 := Tryz.sizeOf233
  t138 := Tryz.underlying235
  a138 := Tryz.isAgg235
  z138 := Tryz.sizeOf235
  v138 := Tryz.zeroValue235
  t139 := Tryz.underlying236
  a139 := Tryz.isAgg236
  z139 := Tryz.sizeOf236
  v139 := Tryz.zeroValue236
  t146 := Tryz.underlying237
  a146 := Tryz.isAgg237
  z146 := Tryz.sizeOf237
  v146 := Tryz.zeroValue237
  g1 := by kernel_rfl
  g3 := by kernel_rfl
  g4 := by kernel_rfl }
open Go.RowKit Go.Lib in
theorem Tryz.strings_Split (s sep : ByteArray) (m : Int) (w : World) (hs : s.size < 4294967281) (hm : w.cell? ⟨2, 0, none⟩ = some (.int .i64 m)) (h1 : 1 ≤ sep.size) :
    Calls Tryz.prog 74 #[.string s, .string sep] w fun e w' =>
      e = .returned (.slice (some ⟨w.heap.size, 0, none⟩) (Lib.countB s sep + 1) (Lib.countB s sep + 1)) ∧ w' = w.alloc (.cells ((Lib.splitB sep 0 (Lib.countB s sep) s).map Value.string).toArray 9) := Any.strings_Split Tryz.lays146 (by kernel_rfl) s sep m w hs hm h1
def Tryz.laysM146_ren : Go.Shelf.Ren := ⟨fun | 146 => 74 | 221 => 102 | 268 => 122 | 138 => 123 | 143 => 124 | 195 => 146 | 197 => 147 | 218 => 148 | 219 => 149 | 260 => 170 | 217 => 171 | 225 => 172 | 224 => 173 | 267 => 174 | 266 => 201 | 314 => 202 | n => n, fun | 9 => 9 | 31 => 24 | 3 => 3 | 4 => 4 | 0 => 0 | 105 => 188 | 21 => 21 | 5 => 5 | 46 => 83 | 119 => 233 | 139 => 236 | 138 => 235 | 146 => 237 | 51 => 132 | n => n, fun | 1 => 2 | 3 => 3 | 4 => 4 | n => n⟩
theorem Tryz.laysM146 : Go.Proofs.LaysM.n146 Tryz.prog Tryz.laysM146_ren := {
  mixed := by kernel_rfl
  f138 := Tryz.func123.trans (congrArg some (by kernel_rfl))
  f143 := Tryz.func124.trans (congrArg some (by kernel_rfl))
  f146 := Tryz.func74.trans (congrArg some (by kernel_rfl))
  f195 := Tryz.func146.trans (congrArg some (by kernel_rfl))
  f197 := Tryz.func147.trans (congrArg some (by kernel_rfl))
  f217 := Tryz.func171.trans (congrArg some (by kernel_rfl))
  f218 := Tryz.func148.trans (congrArg some (by kernel_rfl))
  f219 := Tryz.func149.trans (congrArg some (by kernel_rfl))
  f221 := Tryz.func102.trans (congrArg some (by kernel_rfl))
  f224 := Tryz.func173.trans (congrArg some (by kernel_rfl))
  f225 := Tryz.func172.trans (congrArg some (by kernel_rfl))
  f260 := Tryz.func170.trans (congrArg some (by kernel_rfl))
  f266 := Tryz.func201.trans (congrArg some (by kernel_rfl))
  f267 := Tryz.func174.trans (congrArg some (by kernel_rfl))
  f268 := Tryz.func122.trans (congrArg some (by kernel_rfl))
  f314 := Tryz.func202.trans (congrArg some (by kernel_rfl))
  t0 := Tryz.underlying0
  a0 := Tryz.isAgg0
  z0 := Tryz.sizeOf0
  v0 := Tryz.zeroValue0
  t3 := Tryz.underlying3
  a3 := Tryz.isAgg3
  z3 := Tryz.sizeOf3
  v3 := Tryz.zeroValue3
  t4 := Tryz.underlying4
  a4 := Tryz.isAgg4
  z4 := Tryz.sizeOf4
  v4 := Tryz.zeroValue4
  t5 := Tryz.underlying5
  a5 := Tryz.isAgg5
  z5 := Tryz.sizeOf5
  v5 := Tryz.zeroValue5
  t9 := Tryz.underlying9
  a9 := Tryz.isAgg9
  z9 := Tryz.sizeOf9
  v9 := Tryz.zeroValue9
  t21 := Tryz.underlying21
  a21 := Tryz.isAgg21
  z21 := Tryz.sizeOf21
  v21 := Tryz.zeroValue21
  t31 := Tryz.underlying24
  a31 := Tryz.isAgg24
  z31 := Tryz.sizeOf24
  v31 := Tryz.zeroValue24
  t46 := Tryz.underlying83
  a46 := Tryz.isAgg83
  z46 := Tryz.sizeOf83
  v46 := Tryz.zeroValue83
  t51 := Tryz.underlying132
  a51 := Tryz.isAgg132
  z51 := Tryz.sizeOf132
  v51 := Tryz.zeroValue132
  t105 := Tryz.underlying188
  a105 := Tryz.isAgg188
  z105 := Tryz.sizeOf188
  v105 := Tryz.zeroValue188
  t119 := Tryz.underlying233
  a119 := Tryz.isAgg233
  z119 := Tryz.sizeOf233
  t138 := Tryz.underlying235
  a138 := Tryz.isAgg235
  z138 := Tryz.sizeOf235
  v138 := Tryz.zeroValue235
  t139 := Tryz.underlying236
  a139 := Tryz.isAgg236
  z139 := Tryz.sizeOf236
  v139 := Tryz.zeroValue236
  t146 := Tryz.underlying237
  a146 := Tryz.isAgg237
  z146 := Tryz.sizeOf237
  v146 := Tryz.zeroValue237
  g1 := by kernel_rfl
  g3 := by kernel_rfl
  g4 := by kernel_rfl
  i0 := by kernel_rfl
  i3 := by kernel_rfl
  i4 := by kernel_rfl
  i5 := by kernel_rfl
  i9 := by kernel_rfl
  i21 := by kernel_rfl
  i31 := by kernel_rfl
  i46 := by kernel_rfl
  i51 := by kernel_rfl
  i105 := by kernel_rfl
  i138 := by kernel_rfl
  i139 := by kernel_rfl
  i146 := by kernel_rfl
  m1 := by kernel_rfl
  s1_3 := fun w h => Go.Proofs.cell_of_shapedOpen_int (zero := #[.int .i64 0]) (t := 3) h (of_decide_eq_true (by kernel_rfl)) (by kernel_rfl) rfl (by kernel_rfl) (by kernel_rfl) Tryz.underlying3
  m3 := by kernel_rfl
  m4 := by kernel_rfl }
def Tryz.lays151_ren : Go.Shelf.Ren := ⟨fun | 151 => 136 | 152 => 164 | 137 => 156 | 119 => 199 | 224 => 173 | 225 => 172 | 217 => 171 | 266 => 201 | n => n, fun | 9 => 9 | 21 => 21 | 4 => 4 | 3 => 3 | 5 => 5 | 0 => 0 | 46 => 83 | n => n, fun | n => n⟩
theorem Tryz.lays151 : Go.Proofs.Lays.n151 Tryz.prog Tryz.lays151_ren := {
  mixed := by kernel_rfl
  f119 := Tryz.func199.trans (congrArg some (by kernel_rfl))
  f137 := Tryz.func156.trans (congrArg some (by kernel_rfl))
  f151 := Tryz.func136.trans (congrArg some (by kernel_rfl))
  f152 := Tryz.func164.trans (congrArg some (by kernel_rfl))
  f217 := Tryz.func171.trans (congrArg some (by kernel_rfl))
  f224 := Tryz.func173.trans (congrArg some (by kernel_rfl))
  f225 := Tryz.func172.trans (congrArg some (by kernel_rfl))
  f266 := Tryz.func201.trans (congrArg some (by kernel_rfl))
  t0 := Tryz.underlying0
  a0 := Tryz.isAgg0
  z0 := Tryz.sizeOf0
  v0 := Tryz.zeroValue0
  t3 := Tryz.underlying3
  a3 := Tryz.isAgg3
  z3 := Tryz.sizeOf3
  v3 := Tryz.zeroValue3
  t4 := Tryz.underlying4
  a4 := Tryz.isAgg4
  z4 := Tryz.sizeOf4
  v4 := Tryz.zeroValue4
  t5 := Tryz.underlying5
  a5 := Tryz.isAgg5
  z5 := Tryz.sizeOf5
  v5 := Tryz.zeroValue5
  t9 := Tryz.underlying9
  a9 := Tryz.isAgg9
  z9 := Tryz.sizeOf9
  v9 := Tryz.zeroValue9
  t21 := Tryz.underlying21
  a21 := Tryz.isAgg21
  z21 := Tryz.sizeOf21
  v21 := Tryz.zeroValue21
  t46 := Tryz.underlying83
  a46 := Tryz.isAgg83
  z46 := Tryz.sizeOf83
  v46 := Tryz.zeroValue83 }
open Go.RowKit Go.Lib in
theorem Tryz.strings_ContainsRune_ascii (s : ByteArray) (r : Int) (w : World) (h0 : 0 ≤ r) (h1 : r < 128) :
    Calls Tryz.prog 136 #[.string s, .int .i32 r] w fun e w' => e = .returned (.bool (decide (0 ≤ Lib.indexByte s.data.toList r.toNat.toUInt8))) ∧ w' = w := Any.strings_ContainsRune_ascii Tryz.lays151 s r w h0 h1
end Go.Proofs
namespace Go.Proofs.YtpcgfhleloonfaaGreatDoor
namespace Ac
def rotr (x n : Nat) : Nat := (x >>> n) ||| ((x <<< (32 - n)) % 4294967296)
def sg0 (x : Nat) : Nat := rotr x 7 ^^^ rotr x 18 ^^^ (x >>> 3)
def sg1 (x : Nat) : Nat := rotr x 17 ^^^ rotr x 19 ^^^ (x >>> 10)
def bg0 (x : Nat) : Nat := rotr x 2 ^^^ rotr x 13 ^^^ rotr x 22
def bg1 (x : Nat) : Nat := rotr x 6 ^^^ rotr x 11 ^^^ rotr x 25
def chf (e f g : Nat) : Nat := (e &&& f) ^^^ ((4294967295 ^^^ e) &&& g)
def mjf (a b c : Nat) : Nat := (a &&& b) ^^^ (a &&& c) ^^^ (b &&& c)
def kTab0 : List Nat := [
  0x428a2f98, 0x71374491, 0xb5c0fbcf, 0xe9b5dba5, 0x3956c25b, 0x59f111f1, 0x923f82a4, 0xab1c5ed5,
  0xd807aa98, 0x12835b01, 0x243185be, 0x550c7dc3, 0x72be5d74, 0x80deb1fe, 0x9bdc06a7, 0xc19bf174,
  0xe49b69c1, 0xefbe4786, 0x0fc19dc6, 0x240ca1cc, 0x2de92c6f, 0x4a7484aa, 0x5cb0a9dc, 0x76f988da,
  0x983e5152, 0xa831c66d, 0xb00327c8, 0xbf597fc7, 0xc6e00bf3, 0xd5a79147, 0x06ca6351, 0x14292967,
  0x27b70a85, 0x2e1b2138, 0x4d2c6dfc, 0x53380d13, 0x650a7354, 0x766a0abb, 0x81c2c92e, 0x92722c85,
  0xa2bfe8a1, 0xa81a664b, 0xc24b8b70, 0xc76c51a3, 0xd192e819, 0xd6990624, 0xf40e3585, 0x106aa070,
  0x19a4c116, 0x1e376c08, 0x2748774c, 0x34b0bcb5, 0x391c0cb3, 0x4ed8aa4a, 0x5b9cca4f, 0x682e6ff3,
  0x748f82ee, 0x78a5636f, 0x84c87814, 0x8cc70208, 0x90befffa, 0xa4506ceb, 0xbef9a3f7, 0xc67178f2]
@[irreducible] def kTab : List Nat := kTab0
theorem kTab_eq : kTab = kTab0 := by unfold kTab; rfl
def h0 : List Nat := [0x6a09e667, 0xbb67ae85, 0x3c6ef372, 0xa54ff53a, 0x510e527f, 0x9b05688c, 0x1f83d9ab, 0x5be0cd19]
/-- A word of four bytes, the highest first. -/
def word4 (b : List UInt8) (i : Nat) : Nat := ((b.getD i 0).toNat * 256 + (b.getD (i + 1) 0).toNat) * 65536 + ((b.getD (i + 2) 0).toNat * 256 + (b.getD (i + 3) 0).toNat)
def wordsN (b : List UInt8) (n : Nat) : List Nat := (List.range n).map fun t => word4 b (4 * t)
/-- The next word of the schedule. -/
def nextW (w : List Nat) : Nat := (w.getD (w.length - 16) 0 + sg0 (w.getD (w.length - 15) 0) + w.getD (w.length - 7) 0 + sg1 (w.getD (w.length - 2) 0)) % 4294967296
def extW : Nat → List Nat → List Nat
  | 0, w => w
  | n + 1, w => extW n (w ++ [nextW w])
@[irreducible] def sched (b : List UInt8) : List Nat := extW 48 (wordsN b 16)
/-- One round. -/
def rnd (v : List Nat) (k w : Nat) : List Nat :=
  match v with
  | [a, b, c, d, e, f, g, h] =>
    let x := h + bg1 e + chf e f g + k + w
    let y := bg0 a + mjf a b c
    [(x + y) % 4294967296, a, b, c, (d + x) % 4294967296, e, f, g]
  | _ => v
def rnds : List (Nat × Nat) → List Nat → List Nat
  | [], v => v
  | (k, w) :: r, v => rnds r (rnd v k w)
def addW (s v : List Nat) : List Nat := List.zipWith (fun a b => (a + b) % 4294967296) s v
/-- The state behind a block. -/
@[irreducible] def blockS (s : List Nat) (b : List UInt8) : List Nat := addW s (rnds (kTab.zip (sched b)) s)
/-- The state behind whole blocks of 64 bytes. -/
def blocksS : Nat → List Nat → List UInt8 → List Nat
  | 0, s, _ => s
  | n + 1, s, b => blocksS n (blockS s (b.take 64)) (b.drop 64)
def bigE (n many : Nat) : List UInt8 := ((List.range many).map fun i => UInt8.ofNat (n / 256 ^ (many - 1 - i)))
/-- How many noughts stand behind the first byte of the filling. -/
def noughts (n : Nat) : Nat := 63 - (n + 8) % 64
def filled (s : List UInt8) : List UInt8 := s ++ 128 :: (List.replicate (noughts s.length) 0 ++ bigE (8 * s.length) 8)
@[irreducible] def sha (s : List UInt8) : List UInt8 := (blocksS ((filled s).length / 64) h0 (filled s)).flatMap fun w => bigE w 4
def padK (key : List UInt8) (x : UInt8) : List UInt8 := (key ++ List.replicate (64 - key.length) 0).map fun b => b ^^^ x
@[irreducible] def mac (key s : List UInt8) : List UInt8 :=
  let k := if 64 < key.length then sha key else key
  sha (padK k 92 ++ sha (padK k 54 ++ s))
end Ac
end Go.Proofs.YtpcgfhleloonfaaGreatDoor
namespace Go.Proofs.YtpcgfhleloonfaaGreatDoor
namespace Ac
def ofNames : List UInt8 := [65, 66, 67, 68, 69, 70, 71, 72, 73, 74, 75, 76, 77, 78, 79, 80, 81, 82, 83, 84, 85, 86, 87, 88, 89, 90, 97, 98, 99, 100, 101, 102, 103, 104, 105, 106, 107, 108, 109, 110, 111, 112, 113, 114, 115, 116, 117, 118, 119, 120, 121, 122, 48, 49, 50, 51, 52, 53, 54, 55, 56, 57, 45, 95]
def sg (l : List UInt8) (k : Nat) : UInt8 := l.getD k 0
/-- The signs that stand whole in n bits of h. -/
def em (l : List UInt8) (h n : Nat) : List UInt8 := if n < 6 then [] else if n < 12 then [sg l (h / 2 ^ (n - 6) % 64)] else [sg l (h / 2 ^ (n - 6) % 64), sg l (h / 2 ^ (n - 12) % 64)]
/-- Bytes by signs of six bits; n bits of h are left over from ahead. -/
def sx (l : List UInt8) : Nat → Nat → List UInt8 → List UInt8
  | h, n, [] => if n = 0 then [] else [sg l (h * 2 ^ (6 - n) % 64)]
  | h, n, c :: s => em l (h * 256 + c.toNat) (n + 8) ++ sx l ((h * 256 + c.toNat) % 2 ^ ((n + 8) % 6)) ((n + 8) % 6) s
def b64 (s : List UInt8) : List UInt8 := sx ofNames 0 0 s
def plc (l : List UInt8) (c : UInt8) : Option Nat := l.findIdx? (· == c)
/-- Signs read, as far as they make whole bytes. -/
def dc (l : List UInt8) : Nat → Nat → List UInt8 → Option (List UInt8)
  | _, _, [] => some []
  | h, n, c :: s =>
    match plc l c with
    | none => none
    | some k => if n < 2 then dc l (h * 64 + k) (n + 6) s else (dc l ((h * 64 + k) % 2 ^ (n - 2)) (n - 2) s).map (UInt8.ofNat ((h * 64 + k) / 2 ^ (n - 2)) :: ·)
def unb64 (s : List UInt8) : Option (List UInt8) :=
  match dc ofNames 0 0 s with
  | none => none
  | some t => if b64 t = s then some t else none
theorem em_len (l : List UInt8) (h n : Nat) : (em l h n).length ≤ 2 := by
  unfold em
  split
  · simp
  · split <;> simp
theorem sx_len (l : List UInt8) : ∀ (s : List UInt8) (h n : Nat), (sx l h n s).length ≤ 2 * s.length + 1
  | [], h, n => by unfold sx; split <;> simp
  | c :: s, h, n => by
    rw [sx, List.length_append, List.length_cons]
    have := em_len l (h * 256 + c.toNat) (n + 8)
    have := sx_len l s ((h * 256 + c.toNat) % 2 ^ ((n + 8) % 6)) ((n + 8) % 6)
    omega
theorem sx3 (l : List UInt8) (a b c : UInt8) (r : List UInt8) : sx l 0 0 (a :: b :: c :: r) = sg l (a.toNat / 4) :: sg l (a.toNat % 4 * 16 + b.toNat / 16) :: sg l (b.toNat % 16 * 4 + c.toNat / 64) :: sg l (c.toNat % 64) :: sx l 0 0 r := by
  have h1 := a.toNat_lt
  have h2 := b.toNat_lt
  have h3 := c.toNat_lt
  simp only [sx, em]
  simp only [Nat.zero_mul, Nat.zero_add, Nat.reduceAdd, Nat.reduceLT, if_false, if_true, Nat.reduceMod, Nat.reduceSub, Nat.reducePow, Nat.mod_one, Nat.div_one, List.cons_append, List.nil_append]
  refine congr (congrArg List.cons ?_) (congr (congrArg List.cons ?_) (congr (congrArg List.cons ?_) (congrArg (· :: _) ?_)))
  all_goals
    congr 1
    omega
theorem sx2 (l : List UInt8) (a b : UInt8) : sx l 0 0 [a, b] = [sg l (a.toNat / 4), sg l (a.toNat % 4 * 16 + b.toNat / 16), sg l (b.toNat % 16 * 4)] := by
  have h1 := a.toNat_lt
  have h2 := b.toNat_lt
  simp only [sx, em]
  simp only [Nat.zero_mul, Nat.zero_add, Nat.reduceAdd, Nat.reduceLT, if_false, if_true, Nat.reduceMod, Nat.reduceSub, Nat.reducePow, List.cons_append, List.nil_append, Nat.reduceEqDiff]
  refine congr (congrArg List.cons ?_) (congr (congrArg List.cons ?_) (congrArg (· :: _) ?_))
  all_goals
    congr 1
    omega
theorem sx1 (l : List UInt8) (a : UInt8) : sx l 0 0 [a] = [sg l (a.toNat / 4), sg l (a.toNat % 4 * 16)] := by
  have h1 := a.toNat_lt
  simp only [sx, em]
  simp only [Nat.zero_mul, Nat.zero_add, Nat.reduceLT, if_false, if_true, Nat.reduceMod, Nat.reduceSub, Nat.reducePow, List.cons_append, List.nil_append, Nat.reduceEqDiff]
  refine congr (congrArg List.cons ?_) (congrArg (· :: _) ?_)
  all_goals
    congr 1
    omega
theorem plc_sg : ∀ k, k < 64 → plc ofNames (sg ofNames k) = some k := by decide +kernel
theorem plc_lt {l : List UInt8} {c : UInt8} {k : Nat} (h : plc l c = some k) : k < l.length := by
  unfold plc at h
  exact (List.findIdx?_eq_some_iff_getElem.1 h).1
theorem dc_step {l : List UInt8} {c : UInt8} {k : Nat} (hk : plc l c = some k) (h n : Nat) (s : List UInt8) : dc l h n (c :: s) = if n < 2 then dc l (h * 64 + k) (n + 6) s else (dc l ((h * 64 + k) % 2 ^ (n - 2)) (n - 2) s).map (UInt8.ofNat ((h * 64 + k) / 2 ^ (n - 2)) :: ·) := by
  rw [dc, hk]
theorem u8_back (a : UInt8) {n : Nat} (h : n = a.toNat) : UInt8.ofNat n = a := by rw [h]; exact UInt8.ofNat_toNat
/-- What was written is read. -/
theorem dc_b64 : ∀ t : List UInt8, dc ofNames 0 0 (b64 t) = some t
  | [] => rfl
  | [a] => by
    have h1 := a.toNat_lt
    unfold b64
    rw [sx1, dc_step (plc_sg _ (by omega)), if_pos (by omega), dc_step (plc_sg _ (by omega)), if_neg (by omega)]
    simp only [Nat.zero_mul, Nat.zero_add, Nat.reduceSub, Nat.reducePow]
    rw [u8_back a (by omega)]
    rfl
  | [a, b] => by
    have h1 := a.toNat_lt
    have h2 := b.toNat_lt
    unfold b64
    rw [sx2, dc_step (plc_sg _ (by omega)), if_pos (by omega), dc_step (plc_sg _ (by omega)), if_neg (by omega)]
    simp only [Nat.zero_mul, Nat.zero_add, Nat.reduceSub, Nat.reducePow]
    rw [dc_step (plc_sg _ (by omega)), if_neg (by omega)]
    simp only [Nat.reduceSub, Nat.reducePow]
    rw [u8_back a (by omega), u8_back b (by omega)]
    rfl
  | a :: b :: c :: r => by
    have h1 := a.toNat_lt
    have h2 := b.toNat_lt
    have h3 := c.toNat_lt
    have ih := dc_b64 r
    unfold b64 at ih ⊢
    rw [sx3, dc_step (plc_sg _ (by omega)), if_pos (by omega), dc_step (plc_sg _ (by omega)), if_neg (by omega)]
    simp only [Nat.zero_mul, Nat.zero_add, Nat.reduceSub, Nat.reducePow]
    rw [dc_step (plc_sg _ (by omega)), if_neg (by omega)]
    simp only [Nat.reduceSub, Nat.reducePow]
    rw [dc_step (plc_sg _ (by omega)), if_neg (by omega)]
    simp only [Nat.reduceSub, Nat.reducePow, Nat.mod_one, Nat.div_one]
    rw [u8_back a (by omega), u8_back b (by omega), u8_back c (by omega), ih]
    rfl
theorem unb64_b64 (t : List UInt8) : unb64 (b64 t) = some t := by
  unfold unb64
  rw [dc_b64]
  simp
theorem unb64_some {s t : List UInt8} (h : unb64 s = some t) : s = b64 t := by
  unfold unb64 at h
  split at h
  · cases h
  · split at h
    · cases h
      exact Eq.symm ‹_›
    · cases h
theorem dc_len (l : List UInt8) : ∀ (s : List UInt8) (h n : Nat) {t : List UInt8}, dc l h n s = some t → t.length ≤ s.length
  | [], _, _, t, h => by cases h; exact Nat.le_refl _
  | c :: s, h, n, t, e => by
    cases hk : plc l c with
    | none => rw [dc, hk] at e; cases e
    | some k =>
      rw [dc_step hk] at e
      split at e
      · have := dc_len l s _ _ e
        rw [List.length_cons]
        omega
      · cases hd : dc l ((h * 64 + k) % 2 ^ (n - 2)) (n - 2) s with
        | none => rw [hd] at e; cases e
        | some t' =>
          rw [hd] at e
          cases e
          have := dc_len l s _ _ hd
          simp only [List.length_cons]
          omega
end Ac
end Go.Proofs.YtpcgfhleloonfaaGreatDoor
namespace Go.Proofs.YtpcgfhleloonfaaGreatDoor
open Go.RowKit
/-- The bytes l stand in the slice value v, which the call itself has made (in a block from B on). -/
def OwnB (e : TypeId) (B : Nat) (v : Value) (l : List UInt8) (w : World) : Prop := w.ownsRow B e 1 v l.length (Lib.byteCells l)
theorem OwnB.alloc {e : TypeId} {B : Nat} {v : Value} {l : List UInt8} {w : World} (h : OwnB e B v l w) (o : Obj) : OwnB e B v l (w.alloc o) := World.ownsRow.alloc h o
theorem OwnB.drew {e : TypeId} {B : Nat} {v : Value} {l : List UInt8} {w : World} (h : OwnB e B v l w) : OwnB e B v l w.drew := h
theorem OwnB.lt {e : TypeId} {B : Nat} {v : Value} {l : List UInt8} {w : World} (h : OwnB e B v l w) : ∀ k, v.ownBlock = some k → B ≤ k ∧ k < w.heap.size := World.ownsRow.lt h
theorem OwnB.kind {e : TypeId} {B : Nat} {v : Value} {l : List UInt8} {w : World} (h : OwnB e B v l w) : ∀ g, v.ownBlock = some g → ∃ c fz, w.heap[g]? = some (.cells c e fz) := by
  intro g hg
  rcases h.2 with ⟨rfl, _⟩ | ⟨g', cap, cur, rfl, _, hgg, _⟩
  · simp [Value.ownBlock] at hg
  · simp [Value.ownBlock] at hg
    subst hg
    exact ⟨cur, (0, 0), hgg⟩
theorem heap_below {B : Nat} {w w' : World} (hb : Below B w w') {k : Nat} (hk : k < B) : w'.heap[k]? = w.heap[k]? := hb.block k hk
theorem OwnB.below {e : TypeId} {B : Nat} {v : Value} {l : List UInt8} {w w' : World} (h : OwnB e B v l w) (hb : Below w.heap.size w w') : OwnB e B v l w' := by
  refine ⟨h.1, ?_⟩
  rcases h.2 with hn | ⟨g, cap, cur, rfl, hB, hgg, rest⟩
  · exact .inl hn
  · exact .inr ⟨g, cap, cur, rfl, hB, (heap_below hb (Array.getElem?_eq_some_iff.1 hgg).1).trans hgg, rest⟩
theorem OwnB.nil (e : TypeId) (B : Nat) (w : World) : OwnB e B (.slice none 0 0) [] w := World.ownsRow_nil _ _ _ _
/-- What 'append' leaves, said with 'Below' and 'OthersKept'. -/
theorem OwnB.grown {e : TypeId} {B : Nat} {v : Value} {l : List UInt8} {w w' : World} (h : OwnB e B v l w) (hB : B ≤ w.heap.size) (hg : w.grownBy w' v.ownBlock) : Below B w w' ∧ Lib.OthersKept e none w w' :=
  ⟨(Below.refl B w).grown hg hB (fun k hk => (h.lt k hk).1), (Lib.OthersKept.refl e none w).grown hg (h.kind)⟩
section
variable {P : Program} {ops : Array Oper} {rest : List Oper} {o : Oper} {a : Act} {Q : Exit → Act → World → Prop} {w : World}
/-- append(v, the n bytes that a block just made holds). -/
theorem wpList_pushes (t e : TypeId) (ht : P.underlying t = some (.slice e)) (hi : (P.info? e).map (fun i => (i.zero, i.size, i.bytes)) = some (some (.int .u8 0), 1, 1))
    (hgd : o.guard = none) (s x : Operand) (ho : o.op = .call { callee := .builtin .append, args := #[s, x], argTypes := #[t, t] })
    (B : Nat) (l : List UInt8) (v : Value) (bs : List UInt8) (wr : World) (vs : Array Value) (hvs : vs = (Lib.byteCells bs).toArray) (hw : w = wr.alloc (.cells vs e))
    (n c : Nat) (hn : n = bs.length) (g : Nat) (hg : g = wr.heap.size) (hs : a.eval s = v) (hx : a.eval x = .slice (some ⟨g, 0, none⟩) n c) (hown : OwnB e B v l wr) (hl : l.length + bs.length ≤ 140737488355328) (hB : B ≤ wr.heap.size)
    (h : ∀ v' w', OwnB e B v' (l ++ bs) w' → Below B wr w' → Lib.OthersKept e none wr w' → wpList P ops Q rest (a.put o.dst v') w') : wpList P ops Q (o :: rest) a w := by
  obtain ⟨i0, hi0, hz0, hz1, hz2⟩ := info_parts hi
  subst hn hg hvs hw
  have hnews : ∀ (j : Nat) u, (Lib.byteCells bs)[j]? = some u → (wr.alloc (.cells (Lib.byteCells bs).toArray e)).cell? ((⟨wr.heap.size, 0, none⟩ : Addr).add j) = some u := by
    intro j u hj
    have hadd : (⟨wr.heap.size, 0, none⟩ : Addr).add j = ⟨wr.heap.size, j, none⟩ := by unfold Addr.add; split <;> simp_all
    rw [hadd, cell_of_row _ wr.heap.size j (Lib.byteCells bs).toArray e (0, 0) (heap_alloc_new wr _)]
    simpa using hj
  refine wpList_append_own _ hgd s x t ho B e i0 (.int .u8 0) 1 1 ht hi0 hz0 hz1 hz2 rfl (by decide) v l.length (Lib.byteCells l) hs (hown.alloc _) ⟨wr.heap.size, 0, none⟩ bs.length c (Lib.byteCells bs) hx (by simp [Lib.byteCells_length]) hnews ?_ ?_ (by omega) ?_ ?_
  · intro u hu
    simp only [Lib.byteCells, List.mem_map] at hu
    obtain ⟨b, _, rfl⟩ := hu
    rfl
  · unfold maxLen; omega
  · simp; omega
  · intro v' w' h1 h2 _
    have h3 : OwnB e B v' (l ++ bs) w' := by
      unfold OwnB
      rw [List.length_append, Lib.byteCells_append]
      exact h1
    have h4 := (hown.alloc (.cells (Lib.byteCells bs).toArray e)).grown (by simp; omega) h2
    exact h v' w' h3 (((Below.refl B wr).alloc hB _).trans h4.1) (((Lib.OthersKept.refl e none wr).alloc _).trans h4.2)
end
/-- make([]byte, 0, n). -/
theorem wpList_makeB {P : Program} {ops : Array Oper} {rest : List Oper} {o : Oper} {a : Act} {Q : Exit → Act → World → Prop} {w : World} (t e : TypeId) (ht : P.underlying t = some (.slice e))
    (hi : (P.info? e).map (fun i => (i.zero, i.size, i.bytes)) = some (some (.int .u8 0), 1, 1)) (hgd : o.guard = none) (l c : Operand) (hop : o.op = Op.makeSlice t l c)
    (B : Nat) (kl kc : IntKind) (C : Int) (n : Nat) (hl : a.eval l = .int kl 0) (hc : a.eval c = .int kc C) (hC : C = (n : Int)) (hn : n ≤ 140737488355328) (hB : B ≤ w.heap.size)
    (hK : ∀ w', OwnB e B (.slice (some ⟨w.heap.size, 0, none⟩) 0 n) [] w' → Below B w w' → w'.heap.size = w.heap.size + 1 → wpList P ops Q rest (a.put o.dst (.slice (some ⟨w.heap.size, 0, none⟩) 0 n)) w') : wpList P ops Q (o :: rest) a w := by
  obtain ⟨i0, hi0, hz0, hz1, hz2⟩ := info_parts hi
  have h63' : (n : Int) ≤ 9223372036854775807 := by omega
  have hb' : (i0.bytes : Int) * (n : Int) ≤ 281474976710656 := by rw [hz2]; omega
  have hr := run_make (P := P) w t e i0 (.int .u8 0) ht hi0 hz0 kl kc 0 n (Int.le_refl _) (by omega) hb' h63'
  simp only [Int.toNat_zero, Int.toNat_natCast] at hr
  subst hC
  refine wpList_plain hgd fun K hK' => ?_
  unfold Oper.wp
  simp [execOp, hop, hl, hc, hr, Result.andThen]
  refine hK' _ _ (hK _ ?_ ((Below.refl B w).alloc hB _) (by simp))
  have := World.ownsRow_made (base := B) (e := e) (size := 1) w (madeCells (Value.int .u8 0).cells (n * i0.size)) n hB (by unfold maxLen; omega) (by rw [size_madeCells, hz1])
  simpa [OwnB, Lib.byteCells] using this
/-- s[i] at a place within: a rule for the walk, by which the byte has a name. -/
theorem run_index_str {P : Program} {T : TypeId} (hT : P.underlying T = some .string) (s : ByteArray) (i : Int) (k : Nat) (hi : i = k) (h : k < s.size) (c : UInt8) (hc : s[k]'h = c) (w : World) :
    (Instr.index T (.string s) (.int .i64 i)).run P w = .ok (.int .u8 c.toNat) w := by
  subst hi hc
  rw [run_index_string (P := P) (w := w) T s .i64 k hT]
  have h1 : 0 ≤ (k : Int) ∧ (k : Int) < s.size := by omega
  simp [h1.2]
/-- string(v) of an owned row. -/
theorem OwnB.string {P : Program} {src dst e : TypeId} (hs : P.underlying src = some (.slice e)) (he : P.underlying e = some (.int .u8)) (hd : P.underlying dst = some .string)
    {B : Nat} {v : Value} {l : List UInt8} {w : World} (h : OwnB e B v l w) : (convert src dst v).run P w = .ok (.string ⟨l.toArray⟩) w := by
  rcases h.2 with ⟨rfl, h0⟩ | ⟨g, cap, cur, rfl, -, -, -, -, -, -⟩
  · obtain rfl : l = [] := List.eq_nil_of_length_eq_zero h0
    rw [run_convert_bytes_string w src dst e none 0 0 hs he hd]
    simp [Conv.bytesToString, Sem.run_pure]
    rfl
  · exact run_convert_bytes_back (P := P) w src dst e ⟨g, 0, none⟩ cap l hs he hd (fun j hj => h.cells (g := g) rfl j _ (by simp [Lib.byteCells, hj]))
end Go.Proofs.YtpcgfhleloonfaaGreatDoor
namespace Go.Proofs.YtpcgfhleloonfaaGreatDoor
open Go.RowKit
/-- Every block but 'row' stands as it stood. -/
def KeptRow (row : Option Nat) (w w' : World) : Prop := w.heap.size ≤ w'.heap.size ∧ ∀ k, k < w.heap.size → some k ≠ row → w'.heap[k]? = w.heap[k]?
/-- x + y of two texts: a rule for the walk, by which the sum has a name. -/
theorem run_cat {P : Program} (x y z : List UInt8) (h : x ++ y = z) (hl : x.length + y.length ≤ 9223372036854775807) (w : World) :
    (Op.stringOp .add ⟨x.toArray⟩ ⟨y.toArray⟩).run P w = .ok (.string ⟨z.toArray⟩) w := by
  rw [run_string_add_sum w _ _ (by simp [ByteArray.size]; omega), ByteArray.mk_append_mk, h]
theorem ownsRow_base {e : TypeId} {size B B' n : Nat} {v : Value} {xs : List Value} {w : World} (h : w.ownsRow B e size v n xs) (hB : B' ≤ B) : w.ownsRow B' e size v n xs := by
  refine ⟨h.1, ?_⟩
  rcases h.2 with hn | ⟨g, cap, cur, rfl, hg, rest⟩
  · exact .inl hn
  · exact .inr ⟨g, cap, cur, rfl, by omega, rest⟩
theorem KeptRow.refl (row : Option Nat) (w : World) : KeptRow row w w := ⟨Nat.le_refl _, fun _ _ _ => rfl⟩
theorem KeptRow.trans {row : Option Nat} {a b c : World} (h : KeptRow row a b) (k : KeptRow row b c) : KeptRow row a c :=
  ⟨Nat.le_trans h.1 k.1, fun i hi hr => (k.2 i (by have := h.1; omega) hr).trans (h.2 i hi hr)⟩
theorem KeptRow.cell {row : Option Nat} {w w' : World} (h : KeptRow row w w') {b o : Nat} (hb : b < w.heap.size) (hr : some b ≠ row) : w'.cell? ⟨b, o, none⟩ = w.cell? ⟨b, o, none⟩ := World.cell?_of_block (a := ⟨b, o, none⟩) (h.2 b hb hr)
end Go.Proofs.YtpcgfhleloonfaaGreatDoor
namespace Go.Proofs.YtpcgfhleloonfaaGreatDoor
open Go.RowKit
/-- From v to v' in one append: in place (no other block is touched), or in a new block (none that stood is touched). -/
def Moved (v v' : Value) (w w' : World) : Prop := (v'.ownBlock = v.ownBlock ∧ KeptRow v.ownBlock w w') ∨ ((∀ b, v'.ownBlock = some b → w.heap.size ≤ b) ∧ KeptRow none w w')
theorem Moved.kept {v v' : Value} {w w' : World} (h : Moved v v' w w') : KeptRow v.ownBlock w w' := by
  rcases h with h | h
  · exact h.2
  · exact ⟨h.2.1, fun k hk _ => h.2.2 k hk (by simp)⟩
theorem run_append_moved {P : Program} (w : World) (base : Nat) (t ty e : TypeId) (i : TypeInfo) (z : Value) (size bytes : Nat) (ht : P.underlying t = some (.slice e)) (hi : P.info? e = some i) (hz : i.zero = some z)
    (hsize : i.size = size) (hby : i.bytes = bytes) (hzs : z.cells.size = size) (hsz : 0 < size)
    (v : Value) (n : Nat) (xs : List Value) (hown : w.ownsRow base e size v n xs)
    (a : Addr) (m c : Nat) (news : List Value) (hl : news.length = m * size) (hnews : ∀ j u, news[j]? = some u → w.cell? (a.add j) = some u) (h1 : ∀ u ∈ news, u.oneCell' = true)
    (hm : 0 < m) (h63 : n + m ≤ maxLen) (hbytes : (n + m) * bytes ≤ 140737488355328) (hbase : base ≤ w.heap.size) :
    ∃ v' w', (Builtin.append_ #[t, t] ty #[v, .slice (some a) m c]).run P w = .ok v' w' ∧ w'.ownsRow base e size v' (n + m) (xs ++ news) ∧ w.grownBy w' v.ownBlock ∧ Moved v v' w w' := by
  obtain ⟨v', w', hr, h2, h3, _, h5⟩ := run_append_own_at (P := P) w base t ty e i z size bytes ht hi hz hsize hby hzs hsz v n xs hown a m c news hl hnews h1 h63 hbytes hbase
  refine ⟨v', w', hr, h2, h3, ?_⟩
  subst hsize hby
  have hsmall : n + m ≤ 9223372036854775807 := by simp only [maxLen] at h63; omega
  have drawn : ∀ o : Obj, KeptRow none w (w.drew.alloc o) := fun o => ⟨by simp, fun k hk _ => Lib.alloc_old w.drew o k hk⟩
  rcases hown.2 with ⟨rfl, rfl⟩ | ⟨g, cap, cur, rfl, hbg, hg, hnc, hcm, hcs, htake⟩
  · right
    have hrn := run_append_nil (P := P) w t ty e i z ht hi hz a m c news hl hnews hm (by omega) (by have hb := hbytes; simp only [Nat.zero_add] at hb; omega)
    rw [hrn] at hr
    injection hr with hv hw
    subst hv hw
    exact ⟨fun b hb => by simp [Value.ownBlock] at hb; omega, drawn _⟩
  · by_cases hroom : n + m ≤ cap
    · left
      have hfit : n * i.size + news.length ≤ cur.size := by rw [hl, hcs, ← Nat.add_mul]; exact Nat.mul_le_mul_right _ hroom
      have hrr := run_append_room (P := P) w t ty e i ht hi g n cap cur hg a m c news hl hnews h1 hroom hfit
      rw [hrr] at hr
      injection hr with hv hw
      subst hv
      exact ⟨rfl, h3.size, h3.block⟩
    · right
      have holds : ∀ j u, xs[j]? = some u → w.cell? ((⟨g, 0, none⟩ : Addr).add j) = some u := hown.cells (g := g) rfl
      have hrg := run_append_grow (P := P) w t ty e i z ht hi hz ⟨g, 0, none⟩ n cap xs hown.1 holds a m c news hl hnews (by omega) (by omega) (growslice_fits (by omega) hbytes)
      rw [hrg] at hr
      injection hr with hv hw
      subst hv hw
      exact ⟨fun b hb => by simp [Value.ownBlock] at hb; omega, drawn _⟩
/-- append(v, one element that a block just made holds): where the new row lies. -/
theorem wpList_pushOne {P : Program} {ops : Array Oper} {rest : List Oper} {o : Oper} {a : Act} {Q : Exit → Act → World → Prop} {w : World} (t e : TypeId) (ht : P.underlying t = some (.slice e)) {z : Value} {size bytes : Nat}
    (hi : (P.info? e).map (fun i => (i.zero, i.size, i.bytes)) = some (some z, size, bytes)) (hzs : z.cells.size = size) (hsz : 0 < size)
    (hgd : o.guard = none) (s x : Operand) (ho : o.op = .call { callee := .builtin .append, args := #[s, x], argTypes := #[t, t] })
    (B : Nat) (v : Value) (n : Nat) (xs : List Value) (cells : List Value) (wr : World) (vs : Array Value) (hvs : vs = cells.toArray) (hw : w = wr.alloc (.cells vs e))
    (hcl : cells.length = size) (h1 : ∀ u ∈ cells, u.oneCell' = true)
    (c g : Nat) (hg : g = wr.heap.size) (hs : a.eval s = v) (hx : a.eval x = .slice (some ⟨g, 0, none⟩) 1 c) (hown : wr.ownsRow B e size v n xs) (hl : n + 1 ≤ 4398046511104) (hby : bytes ≤ 32) (hB : B ≤ wr.heap.size)
    (h : ∀ v' w', w'.ownsRow B e size v' (n + 1) (xs ++ cells) → Below B wr w' → Moved v v' wr w' → wpList P ops Q rest (a.put o.dst v') w') : wpList P ops Q (o :: rest) a w := by
  obtain ⟨i0, hi0, hz0, hz1, hz2⟩ := info_parts hi
  subst hg hvs hw
  have hnews : ∀ (j : Nat) u, cells[j]? = some u → (wr.alloc (.cells cells.toArray e)).cell? ((⟨wr.heap.size, 0, none⟩ : Addr).add j) = some u := by
    intro j u hj
    have hadd : (⟨wr.heap.size, 0, none⟩ : Addr).add j = ⟨wr.heap.size, j, none⟩ := by unfold Addr.add; split <;> simp_all
    rw [hadd, cell_of_row _ wr.heap.size j cells.toArray e (0, 0) (heap_alloc_new wr _)]
    simpa using hj
  have hbytes : (n + 1) * bytes ≤ 140737488355328 := by
    have : (n + 1) * bytes ≤ 4398046511104 * 32 := Nat.mul_le_mul hl hby
    omega
  obtain ⟨v', w', hr, h2, h3, h4⟩ := run_append_moved (P := P) (wr.alloc (.cells cells.toArray e)) B t o.type e i0 z size bytes ht hi0 hz0 hz1 hz2 hzs hsz v n xs (hown.alloc _) ⟨wr.heap.size, 0, none⟩ 1 c cells (by omega) hnews h1 (by decide) (by unfold maxLen; omega) hbytes (by simp; omega)
  refine wpList_plain hgd fun K hK => ?_
  unfold Oper.wp
  simp [execOp, ho, resolve, invoke, builtin, hs, hx, hr, Result.andThen]
  have hlt := hown.lt
  refine hK _ _ (h v' w' h2 ((((Below.refl B wr).alloc hB _)).grown h3 (by simp; omega) (fun k hk => (hlt k hk).1)) ?_)
  have old : ∀ k, k < wr.heap.size → (wr.alloc (.cells cells.toArray e)).heap[k]? = wr.heap[k]? := fun k hk => Lib.alloc_old wr _ k hk
  rcases h4 with ⟨e1, k1, k2⟩ | ⟨e1, k1, k2⟩
  · exact .inl ⟨e1, by simp at k1; omega, fun k hk hne => (k2 k (by simp; omega) hne).trans (old k hk)⟩
  · exact .inr ⟨fun b hb => by have := e1 b hb; simp at this; omega, by simp at k1; omega, fun k hk hne => (k2 k (by simp; omega) hne).trans (old k hk)⟩
end Go.Proofs.YtpcgfhleloonfaaGreatDoor
namespace Go.Proofs.YtpcgfhleloonfaaGreatDoor
open Go.RowKit
section
variable {P : Program} {ops : Array Oper} {o : Oper} {a : Act} {K : Act → World → Prop} {Q : Exit → Act → World → Prop} {E : Prop} {w : World}
/-- append(v, one element that a block just made holds), as one step of a region that draws its order. -/
theorem step_pushOne (t e : TypeId) (ht : P.underlying t = some (.slice e)) {z : Value} {size bytes : Nat}
    (hi : (P.info? e).map (fun i => (i.zero, i.size, i.bytes)) = some (some z, size, bytes)) (hzs : z.cells.size = size) (hsz : 0 < size)
    (hgd : o.guard = none) (s x : Operand) (ho : o.op = .call { callee := .builtin .append, args := #[s, x], argTypes := #[t, t] })
    (B : Nat) (v : Value) (n : Nat) (xs : List Value) (cells : List Value) (wr : World) (vs : Array Value) (hvs : vs = cells.toArray) (hw : w = wr.alloc (.cells vs e))
    (hcl : cells.length = size) (h1 : ∀ u ∈ cells, u.oneCell' = true)
    (c g : Nat) (hg : g = wr.heap.size) (hs : a.eval s = v) (hx : a.eval x = .slice (some ⟨g, 0, none⟩) 1 c) (hown : wr.ownsRow B e size v n xs) (hl : n + 1 ≤ 1099511627776) (hby : bytes ≤ 128) (hB : B ≤ wr.heap.size)
    (h : ∀ v' w', w'.ownsRow B e size v' (n + 1) (xs ++ cells) → Below B wr w' → Moved v v' wr w' → K (a.put o.dst v') w') :
    if Region.wanted o (yielded ops a.tmps) = true then Oper.wp P o a w K Q else E := by
  obtain ⟨i0, hi0, hz0, hz1, hz2⟩ := info_parts hi
  subst hg hvs hw
  have hnews : ∀ (j : Nat) u, cells[j]? = some u → (wr.alloc (.cells cells.toArray e)).cell? ((⟨wr.heap.size, 0, none⟩ : Addr).add j) = some u := by
    intro j u hj
    have hadd : (⟨wr.heap.size, 0, none⟩ : Addr).add j = ⟨wr.heap.size, j, none⟩ := by unfold Addr.add; split <;> simp_all
    rw [hadd, cell_of_row _ wr.heap.size j cells.toArray e (0, 0) (heap_alloc_new wr _)]
    simpa using hj
  have hbytes : (n + 1) * bytes ≤ 140737488355328 := by
    have : (n + 1) * bytes ≤ 1099511627776 * 128 := Nat.mul_le_mul hl hby
    omega
  obtain ⟨v', w', hr, h2, h3, h4⟩ := run_append_moved (P := P) (wr.alloc (.cells cells.toArray e)) B t o.type e i0 z size bytes ht hi0 hz0 hz1 hz2 hzs hsz v n xs (hown.alloc _) ⟨wr.heap.size, 0, none⟩ 1 c cells (by omega) hnews h1 (by decide) (by unfold maxLen; omega) hbytes (by simp; omega)
  have hwd : Region.wanted o (yielded ops a.tmps) = true := by simp [Region.wanted, hgd]
  rw [if_pos hwd]
  have hlt := hown.lt
  have old : ∀ k, k < wr.heap.size → (wr.alloc (.cells cells.toArray e)).heap[k]? = wr.heap[k]? := fun k hk => Lib.alloc_old wr _ k hk
  have hm : Moved v v' wr w' := by
    rcases h4 with ⟨e1, k1, k2⟩ | ⟨e1, k1, k2⟩
    · exact .inl ⟨e1, by simp at k1; omega, fun k hk hne => (k2 k (by simp; omega) hne).trans (old k hk)⟩
    · exact .inr ⟨fun b hb => by have := e1 b hb; simp at this; omega, by simp at k1; omega, fun k hk hne => (k2 k (by simp; omega) hne).trans (old k hk)⟩
  have hK := h v' w' h2 ((((Below.refl B wr).alloc hB _)).grown h3 (by simp; omega) (fun k hk => (hlt k hk).1)) hm
  unfold Oper.wp
  simp [execOp, ho, resolve, invoke, builtin, hs, hx, hr, Result.andThen]
  exact hK
end
section
variable {P : Program} {ops : Array Oper} {rest : List Oper} {o : Oper} {a : Act} {Q : Exit → Act → World → Prop} {w : World}
/-- The same, outside of such a region, for elements of up to 128 bytes. -/
theorem wpList_pushOne' (t e : TypeId) (ht : P.underlying t = some (.slice e)) {z : Value} {size bytes : Nat}
    (hi : (P.info? e).map (fun i => (i.zero, i.size, i.bytes)) = some (some z, size, bytes)) (hzs : z.cells.size = size) (hsz : 0 < size)
    (hgd : o.guard = none) (s x : Operand) (ho : o.op = .call { callee := .builtin .append, args := #[s, x], argTypes := #[t, t] })
    (B : Nat) (v : Value) (n : Nat) (xs : List Value) (cells : List Value) (wr : World) (vs : Array Value) (hvs : vs = cells.toArray) (hw : w = wr.alloc (.cells vs e))
    (hcl : cells.length = size) (h1 : ∀ u ∈ cells, u.oneCell' = true)
    (c g : Nat) (hg : g = wr.heap.size) (hs : a.eval s = v) (hx : a.eval x = .slice (some ⟨g, 0, none⟩) 1 c) (hown : wr.ownsRow B e size v n xs) (hl : n + 1 ≤ 1099511627776) (hby : bytes ≤ 128) (hB : B ≤ wr.heap.size)
    (h : ∀ v' w', w'.ownsRow B e size v' (n + 1) (xs ++ cells) → Below B wr w' → Moved v v' wr w' → wpList P ops Q rest (a.put o.dst v') w') : wpList P ops Q (o :: rest) a w := by
  refine wpList_plain hgd fun K hK => ?_
  have := step_pushOne (P := P) (ops := ops) (o := o) (a := a) (K := K) (Q := Q) (E := True) (w := w) t e ht hi hzs hsz hgd s x ho B v n xs cells wr vs hvs hw hcl h1 c g hg hs hx hown hl hby hB fun v' w' k1 k2 k3 => hK _ _ (h v' w' k1 k2 k3)
  have hwd : Region.wanted o (yielded ops a.tmps) = true := by simp [Region.wanted, hgd]
  rw [if_pos hwd] at this
  exact this
end
end Go.Proofs.YtpcgfhleloonfaaGreatDoor
namespace Go.Proofs.YtpcgfhleloonfaaGreatDoor
open Go.RowKit
section
variable {P : Program} {ops : Array Oper} {o : Oper} {a : Act} {K : Act → World → Prop} {Q : Exit → Act → World → Prop} {E : Prop} {w : World}
theorem step_call {f : FuncId} {args : Array Value} {R : Ending → World → Prop} (hgd : o.guard = none) (hrun : (execOp a.eval o).run P w = .ok (.enter f args) w) (hc : Calls P f args w R)
    (h : ∀ e w', R e w' → ∃ v, e = .returned v ∧ K (a.put o.dst v) w') : if Region.wanted o (yielded ops a.tmps) = true then Oper.wp P o a w K Q else E := by
  have hwd : Region.wanted o (yielded ops a.tmps) = true := by simp [Region.wanted, hgd]
  rw [if_pos hwd]
  unfold Oper.wp
  rw [hrun, Oper.upon_enter]
  refine hc.mono fun e w' hr => ?_
  obtain ⟨v, rfl, hk⟩ := h e w' hr
  exact hk
/-- A method called on an interface value. -/
theorem step_invoke (t : TypeId) (v : Value) (name : String) {f : FuncId} {arg : Value} {R : Ending → World → Prop} (hgd : o.guard = none) (x : Operand) (ho : o.op = .call { callee := .invoke x name, args := #[], argTypes := #[] }) (hx : a.eval x = .iface t v)
    (hm : ∀ w, (callMethod (.iface t v) name #[]).run P w = .ok (.enter f #[arg]) w) (hc : Calls P f #[arg] w R)
    (h : ∀ e w', R e w' → ∃ v, e = .returned v ∧ K (a.put o.dst v) w') : if Region.wanted o (yielded ops a.tmps) = true then Oper.wp P o a w K Q else E := by
  refine step_call hgd ?_ hc h
  simp [execOp, ho, resolve, invoke, hx, hm]
end
section
variable {P : Program} {ops : Array Oper} {rest : List Oper} {o : Oper} {a : Act} {Q : Exit → Act → World → Prop} {w : World}
theorem wpList_invoke (t : TypeId) (v : Value) (name : String) {f : FuncId} {arg : Value} {R : Ending → World → Prop} (hgd : o.guard = none) (x : Operand) (ho : o.op = .call { callee := .invoke x name, args := #[], argTypes := #[] }) (hx : a.eval x = .iface t v)
    (hm : ∀ w, (callMethod (.iface t v) name #[]).run P w = .ok (.enter f #[arg]) w) (hc : Calls P f #[arg] w R)
    (h : ∀ e w', R e w' → ∃ v, e = .returned v ∧ wpList P ops Q rest (a.put o.dst v) w') : wpList P ops Q (o :: rest) a w := by
  refine wpList_plain hgd fun K hK => ?_
  have := step_invoke (P := P) (ops := ops) (o := o) (a := a) (K := K) (Q := Q) (E := True) (w := w) t v name hgd x ho hx hm hc fun e w' hr => by
    obtain ⟨v, he, hk⟩ := h e w' hr
    exact ⟨v, he, hK _ _ hk⟩
  have hwd : Region.wanted o (yielded ops a.tmps) = true := by simp [Region.wanted, hgd]
  rw [if_pos hwd] at this
  exact this
end
end Go.Proofs.YtpcgfhleloonfaaGreatDoor
namespace Go.Proofs.YtpcgfhleloonfaaGreatDoor
open Go.RowKit
/-- The slice value x has m elements; their cells. -/
def Rd (w : World) (x : Value) (m : Nat) (news : List Value) : Prop :=
  (∃ a c, x = .slice a 0 c ∧ m = 0 ∧ news = []) ∨ ∃ b off c, x = .slice (some ⟨b, off, none⟩) m c ∧ 0 < m ∧ ∀ (j : Nat) u, news[j]? = some u → w.cell? ⟨b, off + j, none⟩ = some u
theorem Moved.refl (v : Value) (w : World) : Moved v v w w := .inl ⟨rfl, Nat.le_refl _, fun _ _ _ => rfl⟩
theorem run_append_all {P : Program} (w : World) (base : Nat) (t ty e : TypeId) (i : TypeInfo) (z : Value) (size bytes : Nat) (ht : P.underlying t = some (.slice e)) (hi : P.info? e = some i) (hz : i.zero = some z)
    (hsize : i.size = size) (hby : i.bytes = bytes) (hzs : z.cells.size = size) (hsz : 0 < size)
    (v : Value) (n : Nat) (xs : List Value) (hown : w.ownsRow base e size v n xs) (x : Value) (m : Nat) (news : List Value) (hl : news.length = m * size) (hx : Rd w x m news) (h1 : ∀ u ∈ news, u.oneCell' = true)
    (h63 : n + m ≤ maxLen) (hbytes : (n + m) * bytes ≤ 140737488355328) (hbase : base ≤ w.heap.size) :
    ∃ v' w', (Builtin.append_ #[t, t] ty #[v, x]).run P w = .ok v' w' ∧ w'.ownsRow base e size v' (n + m) (xs ++ news) ∧ Below base w w' ∧ Moved v v' w w' := by
  rcases hx with ⟨a, c, rfl, rfl, rfl⟩ | ⟨b, off, c, rfl, hm, hc⟩
  · have hsrc : Src P i.size t (.slice a 0 c) 0 [] w := by
      cases a with
      | none => exact Src.ofNil w ht c
      | some ad => exact Src.ofSlice w ht ad 0 c [] (by simp) (fun j u h => by simp at h) (fun u h => by simp at h)
    have hv : ∃ a' c', v = .slice a' n c' ∧ n ≤ c' := by
      rcases hown.2 with ⟨rfl, rfl⟩ | ⟨g, cap, cur, rfl, _, _, hnc, _⟩
      · exact ⟨_, _, rfl, Nat.le_refl _⟩
      · exact ⟨_, _, rfl, hnc⟩
    obtain ⟨a', c', rfl, hle⟩ := hv
    exact ⟨_, w, run_append_nothing w t t ty e i ht hi a' n c' hle _ hsrc, by simpa using hown, Below.refl _ _, Moved.refl _ _⟩
  · have hadd : ∀ j, (⟨b, off, none⟩ : Addr).add j = ⟨b, off + j, none⟩ := fun j => by unfold Addr.add; split <;> simp_all
    obtain ⟨v', w', hr, h2, h3, h4⟩ := run_append_moved (P := P) w base t ty e i z size bytes ht hi hz hsize hby hzs hsz v n xs hown ⟨b, off, none⟩ m c news hl (fun j u hj => by rw [hadd]; exact hc j u hj) h1 hm h63 hbytes hbase
    have hlt := hown.lt
    exact ⟨v', w', hr, h2, (Below.refl base w).grown h3 hbase (fun k hk => (hlt k hk).1), h4⟩
section
variable {P : Program} {ops : Array Oper} {rest : List Oper} {o : Oper} {a : Act} {Q : Exit → Act → World → Prop} {w : World}
theorem step_pushAll {K : Act → World → Prop} {E : Prop} (t e : TypeId) (ht : P.underlying t = some (.slice e)) {z : Value} {size bytes : Nat}
    (hi : (P.info? e).map (fun i => (i.zero, i.size, i.bytes)) = some (some z, size, bytes)) (hzs : z.cells.size = size) (hsz : 0 < size)
    (hgd : o.guard = none) (s x : Operand) (ho : o.op = .call { callee := .builtin .append, args := #[s, x], argTypes := #[t, t] })
    (B : Nat) (v : Value) (n : Nat) (xs : List Value) (xv : Value) (m : Nat) (news : List Value) (hln : news.length = m * size) (h1 : ∀ u ∈ news, u.oneCell' = true)
    (hs : a.eval s = v) (hx : a.eval x = xv) (hrd : Rd w xv m news) (hown : w.ownsRow B e size v n xs) (hl : n + m ≤ 1099511627776) (hby : bytes ≤ 128) (hB : B ≤ w.heap.size)
    (h : ∀ v' w', w'.ownsRow B e size v' (n + m) (xs ++ news) → Below B w w' → Moved v v' w w' → K (a.put o.dst v') w') : if Region.wanted o (yielded ops a.tmps) = true then Oper.wp P o a w K Q else E := by
  obtain ⟨i0, hi0, hz0, hz1, hz2⟩ := info_parts hi
  have hbytes : (n + m) * bytes ≤ 140737488355328 := by
    have : (n + m) * bytes ≤ 1099511627776 * 128 := Nat.mul_le_mul hl hby
    omega
  obtain ⟨v', w', hr, h2, h3, h4⟩ := run_append_all (P := P) w B t o.type e i0 z size bytes ht hi0 hz0 hz1 hz2 hzs hsz v n xs hown xv m news hln hrd h1 (by unfold maxLen; omega) hbytes hB
  have hwd : Region.wanted o (yielded ops a.tmps) = true := by simp [Region.wanted, hgd]
  rw [if_pos hwd]
  unfold Oper.wp
  simp [execOp, ho, resolve, invoke, builtin, hs, hx, hr, Result.andThen]
  exact h v' w' h2 h3 h4
theorem wpList_pushAll (t e : TypeId) (ht : P.underlying t = some (.slice e)) {z : Value} {size bytes : Nat}
    (hi : (P.info? e).map (fun i => (i.zero, i.size, i.bytes)) = some (some z, size, bytes)) (hzs : z.cells.size = size) (hsz : 0 < size)
    (hgd : o.guard = none) (s x : Operand) (ho : o.op = .call { callee := .builtin .append, args := #[s, x], argTypes := #[t, t] })
    (B : Nat) (v : Value) (n : Nat) (xs : List Value) (xv : Value) (m : Nat) (news : List Value) (hln : news.length = m * size) (h1 : ∀ u ∈ news, u.oneCell' = true)
    (hs : a.eval s = v) (hx : a.eval x = xv) (hrd : Rd w xv m news) (hown : w.ownsRow B e size v n xs) (hl : n + m ≤ 1099511627776) (hby : bytes ≤ 128) (hB : B ≤ w.heap.size)
    (h : ∀ v' w', w'.ownsRow B e size v' (n + m) (xs ++ news) → Below B w w' → Moved v v' w w' → wpList P ops Q rest (a.put o.dst v') w') : wpList P ops Q (o :: rest) a w := by
  refine wpList_plain hgd fun K hK => ?_
  have := step_pushAll (P := P) (ops := ops) (o := o) (a := a) (K := K) (Q := Q) (E := True) (w := w) t e ht hi hzs hsz hgd s x ho B v n xs xv m news hln h1 hs hx hrd hown hl hby hB fun v' w' k1 k2 k3 => hK _ _ (h v' w' k1 k2 k3)
  have hwd : Region.wanted o (yielded ops a.tmps) = true := by simp [Region.wanted, hgd]
  rw [if_pos hwd] at this
  exact this
end
end Go.Proofs.YtpcgfhleloonfaaGreatDoor
namespace Go.Proofs.YtpcgfhleloonfaaGreatDoor
open Go.RowKit
section
variable {P : Program} {ops : Array Oper} {o : Oper} {a : Act} {K : Act → World → Prop} {Q : Exit → Act → World → Prop} {E : Prop} {w : World}
theorem step_call1 (f : FuncId) (x : Operand) (t : TypeId) {arg : Value} {R : Ending → World → Prop} (ho : o.op = .call { callee := .value (.func f), args := #[x], argTypes := #[t] }) (hgd : o.guard = none) (hcf : ∀ w, (callFunc f #[arg]).run P w = .ok (.enter f #[arg]) w) (hx : a.eval x = arg) (hc : Calls P f #[arg] w R)
    (h : ∀ e w', R e w' → ∃ v, e = .returned v ∧ K (a.put o.dst v) w') : if Region.wanted o (yielded ops a.tmps) = true then Oper.wp P o a w K Q else E := by
  refine step_call hgd ?_ hc h
  have hf : a.eval (.func f) = .func (.func f) #[] #[] := rfl
  simp [execOp, ho, resolve, invoke, hx, hf, Deferred.ofValue, hcf]
end
end Go.Proofs.YtpcgfhleloonfaaGreatDoor
