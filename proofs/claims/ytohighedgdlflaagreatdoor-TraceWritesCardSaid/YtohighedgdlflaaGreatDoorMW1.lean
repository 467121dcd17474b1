/- Texts of a proof that TraceWrites holds, for every row of observations, merged in order. -/
import Derived.Shelf.Strings.Builder1
import Derived.Shelf.Strings.Builder2
import Derived.Shelf.Strings.OnBuilder
import Derived.Shelf.Strings.Trim
import Derived.Shelf.Strings.SlTrimAscii
import Derived.Shelf.SlicesE.DeleteFunc
import Derived.Ground.SlgfProg
import Derived.Shelf.Small.Utf8
import Derived.Shelf.Small.Strs
import Derived.Shelf.Strings.BuilderF
import Derived.Shelf.Strings.BuilderK
import Derived.Shelf.Utf8.RuneCount
import Derived.Shelf.Strings.Builder2Cap
import Derived.Shelf.Strconv.Itoa0
import Derived.Shelf.Strconv.Itoa1
import Derived.Shelf.LaysM
import Derived.Shelf.Strconv.Itoa2
import Derived.Shelf.Strconv.Itoa3
import Derived.Shelf.Strconv.Clone
import Derived.Shelf.Strconv.RangeError
import Derived.Shelf.LaysC
import Derived.Shelf.Strconv.ToErrorRange
import Derived.Ground.MpProg
import Derived.Shelf.Pu.ParseUintPublic10
import Derived.Shelf.Strings.Search1
import Derived.Shelf.Strings.Search2
import Derived.Shelf.Strings.Search3
import Derived.Shelf.Strings.Count
import Derived.Shelf.Strings.Shaped
import Derived.Shelf.Strings.Split
import Derived.Shelf.Strings.SplitShaped
import Derived.Shelf.Unicode.Decode
import Derived.Shelf.Strings.Runes
import Derived.Shelf.Strings.RuneCount
import Derived.Shelf.Strings.AsciiSet
import Derived.Shelf.Strings.Explode
import Derived.Shelf.Unicode.DecodeSlow
import Derived.Shelf.Unicode.DecodeAny
import Derived.Shelf.Unicode.DecodeLast
import Derived.Shelf.Strings.BuilderCap
import Derived.Shelf.Slices.Turned
import Derived.Test.YtohighedgdlflaaGreatDoorProg
import Derived.Test.YtohighedgdlflaaGreatDoorPRx1
import Derived.Outline
import Derived.WalkSpells
import Derived.WalkLawsBesides
import Derived.Deep.RegionLaw
import Derived.Lib.Hide
import Derived.Lib.AppendIntMem
import Derived.Laws.BitsLemmas
import Derived.Test.YtohighedgdlflaaGreatDoorCards
import Derived.Test.YtohighedgdlflaaGreatDoorTie
import Derived.WalkKit
import Derived.ProofKit
import Derived.OpenShut
import Derived.Deep.DeepHandedRow
import Derived.Lib.LaidTab
import Derived.LaidMore
import Derived.Stop.LaidErr
import Derived.SevenTiedAt
import Derived.Below
import Derived.Carry
import Derived.Deep.QuietTactic
import Derived.BigQuiet
import Derived.Lib.Strings
import Derived.Lib.ConvBytes
import Derived.Lib.AtoiErrMem
import Derived.Lib.ParseIntBMem
import Derived.Laws.Strings3
import Derived.Laws.Closers25
import Derived.Laws.Closers25b
import Derived.BigCall
import Derived.BigGuard
import Derived.Lib.OthersKept
import Derived.Test.YtohighedgdlflaaGreatDoorPRx2
import Derived.Test.YtohighedgdlflaaGreatDoorPRx4
import Derived.Lib.ItoaLen
import Derived.Deep.RegionHeld3
import Derived.Lib.QuietBelow
import Derived.Lib.OwnBridge
/-
  DERIVED: THE SHELF's CONTRACTS AT THIS DUMP, IN PLAIN WORDS (tools/lay-plain.mjs out of 'YtohighedgdlflaaGreatDoorShelf.lean', which tools/lay-shelf.mjs wrote): THE SAME DECLARATIONS UNDER THE SAME NAMES: 'import', 'namespace', 'open', 'def', 'theorem' AND NOTHING ELSE: no command of the shelf's: FOR A HAND-IN. Each laying: the table of numbers ('.._ren') and one theorem, a field a fact of the dump's own or the kernel's comparison; each contract: ONE APPLICATION.
-/
namespace Go.Proofs
open Go.Shelf
def Tryz.lays169_ren : Go.Shelf.Ren := ⟨fun | 169 => 39 | n => n, fun | 70 => 65 | 9 => 9 | 0 => 0 | 72 => 67 | 37 => 37 | 127 => 123 | 3 => 3 | 5 => 5 | n => n, fun | n => n⟩
theorem Tryz.lays169 : Go.Proofs.Lays.n169 Tryz.prog Tryz.lays169_ren := {
  mixed := by kernel_rfl
  f169 := Tryz.func39.trans (congrArg some (by kernel_rfl))
  t0 := Tryz.underlying0
  a0 := Tryz.isAgg0
  z0 := Tryz.sizeOf0
  v0 := Tryz.zeroValue0
  t3 := Tryz.underlying3
  a3 := Tryz.isAgg3
  z3 := Tryz.sizeOf3
  v3 := Tryz.zeroValue3
  t9 := Tryz.underlying9
  a9 := Tryz.isAgg9
  z9 := Tryz.sizeOf9
  v9 := Tryz.zeroValue9
  t37 := Tryz.underlying37
  a37 := Tryz.isAgg37
  z37 := Tryz.sizeOf37
  v37 := Tryz.zeroValue37
  t70 := Tryz.underlying65
  a70 := Tryz.isAgg65
  z70 := Tryz.sizeOf65
  v70 := Tryz.zeroValue65
  t72 := Tryz.underlying67
  a72 := Tryz.isAgg67
  z72 := Tryz.sizeOf67
  v72 := Tryz.zeroValue67
  t127 := Tryz.underlying123
  a127 := Tryz.isAgg123
  z127 := Tryz.sizeOf123
  v127 := Tryz.zeroValue123 }
theorem Tryz.Builder_Extra_169 : Builder.Extra Tryz.prog Tryz.lays169_ren := {
  sizeBuilder := by kernel_rfl
  liesBuilder := by kernel_rfl
  t5 := Tryz.underlying5
  a5 := Tryz.isAgg5
  z5 := Tryz.sizeOf5
  v5 := Tryz.zeroValue5
  infoByte := by kernel_rfl
  cellsByte := by kernel_rfl
  sizeByte := by kernel_rfl
  neB5 := by decide }
def Tryz.lays156_ren : Go.Shelf.Ren := ⟨fun | 156 => 38 | 165 => 89 | 166 => 37 | 169 => 39 | 240 => 88 | 241 => 119 | 276 => 118 | 277 => 144 | n => n, fun | 31 => 78 | 9 => 9 | 3 => 3 | 4 => 4 | 0 => 0 | 20 => 20 | 72 => 67 | 76 => 81 | 70 => 65 | 37 => 37 | 75 => 80 | 127 => 123 | 164 => 155 | 5 => 5 | 80 => 84 | n => n, fun | n => n⟩
theorem Tryz.lays156 : Go.Proofs.Lays.n156 Tryz.prog Tryz.lays156_ren := {
  mixed := by kernel_rfl
  f156 := Tryz.func38.trans (congrArg some (by kernel_rfl))
  f165 := Tryz.func89.trans (congrArg some (by kernel_rfl))
  f166 := Tryz.func37.trans (congrArg some (by kernel_rfl))
  f169 := Tryz.func39.trans (congrArg some (by kernel_rfl))
  f240 := Tryz.func88.trans (congrArg some (by kernel_rfl))
  f241 := Tryz.func119.trans (congrArg some (by kernel_rfl))
  f276 := Tryz.func118.trans (congrArg some (by kernel_rfl))
  f277 := Tryz.func144.trans (congrArg some (by kernel_rfl))
  t0 := Tryz.underlying0
  a0 := Tryz.isAgg0
  z0 := Tryz.sizeOf0
  v0 := Tryz.zeroValue0
  t3 := Tryz.underlying3
  a3 := Tryz.isAgg3
  z3 := Tryz.sizeOf3
  v3 := Tryz.zeroValue3
  t4 := Tryz.underlying4
  a4 := Tryz.isAgg4
  z4 := Tryz.sizeOf4
  v4 := Tryz.zeroValue4
  t9 := Tryz.underlying9
  a9 := Tryz.isAgg9
  z9 := Tryz.sizeOf9
  v9 := Tryz.zeroValue9
  t20 := Tryz.underlying20
  a20 := Tryz.isAgg20
  z20 := Tryz.sizeOf20
  v20 := Tryz.zeroValue20
  t31 := Tryz.underlying78
  a31 := Tryz.isAgg78
  z31 := Tryz.sizeOf78
  v31 := Tryz.zeroValue78
  t37 := Tryz.underlying37
  a37 := Tryz.isAgg37
  z37 := Tryz.sizeOf37
  v37 := Tryz.zeroValue37
  t70 := Tryz.underlying65
  a70 := Tryz.isAgg65
  z70 := Tryz.sizeOf65
  v70 := Tryz.zeroValue65
  t72 := Tryz.underlying67
  a72 := Tryz.isAgg67
  z72 := Tryz.sizeOf67
  v72 := Tryz.zeroValue67
  t75 := Tryz.underlying80
  a75 := Tryz.isAgg80
  z75 := Tryz.sizeOf80
  v75 := Tryz.zeroValue80
  t76 := Tryz.underlying81
  a76 := Tryz.isAgg81
  z76 := Tryz.sizeOf81
  v76 := Tryz.zeroValue81
  t127 := Tryz.underlying123
  a127 := Tryz.isAgg123
  z127 := Tryz.sizeOf123
  v127 := Tryz.zeroValue123
  t164 := Tryz.underlying155
  a164 := Tryz.isAgg155
  z164 := Tryz.sizeOf155
  v164 := Tryz.zeroValue155 }
theorem Tryz.Builder_Extra_156 : Builder.Extra Tryz.prog Tryz.lays156_ren := {
  sizeBuilder := by kernel_rfl
  liesBuilder := by kernel_rfl
  t5 := Tryz.underlying5
  a5 := Tryz.isAgg5
  z5 := Tryz.sizeOf5
  v5 := Tryz.zeroValue5
  infoByte := by kernel_rfl
  cellsByte := by kernel_rfl
  sizeByte := by kernel_rfl
  neB5 := by decide }
open Go.RowKit in
/-- strings.Join: "Join concatenates the elements of its first argument to create a single string. The separator string sep is placed between elements in the resulting string.": HOWEVER MANY ELEMENTS. Below the heap's end the world is as it was. (LAID: no walk: one application.) -/
theorem Tryz.strings_Join (bk o c : Nat) (xs : List ByteArray) (sep : ByteArray) (w : World) (hcells : ∀ (j : Nat) x, xs[j]? = some x → w.cell? ⟨bk, o + j, none⟩ = some (.string x)) (hbk : bk < w.heap.size) (hN : xs.length ≤ 140737488355328) (hcap : xs.length ≤ c) (hlen : (Lib.join (xs.map (·.data.toList)) sep.data.toList).length ≤ 140737488355328) :
    Calls Tryz.prog 38 #[.slice (some ⟨bk, o, none⟩) xs.length c, .string sep] w fun e w' => e = .returned (.string ⟨(Lib.join (xs.map (·.data.toList)) sep.data.toList).toArray⟩) ∧ Below w.heap.size w w' := Any.strings_Join Tryz.lays156 Tryz.Builder_Extra_156 bk o c xs sep w hcells hbk hN hcap hlen
open Go.RowKit in
/-- (*strings.Builder).String: "String returns the accumulated string.": WHATEVER THE BUILDER HOLDS; THE FORM '_f': OF A BUILDER THAT MAY HAVE BEEN READ BEFORE; AND IT IS A BUILDER STILL, holding the same bytes: it can be written on. (LAID: no walk: one application.) -/
theorem Tryz.Builder_String_any_f (B b : Nat) (l : List UInt8) (w : World) (h : Lib.IsBuilderF 67 5 B b (Lib.byteCells l) w) (hBw : B ≤ w.heap.size) :
    Calls Tryz.prog 39 #[.pointer (some ⟨b, 0, none⟩)] w fun e w' => e = .returned (.string ⟨l.toArray⟩) ∧ (Lib.IsBuilderF 67 5 B b (Lib.byteCells l) w' ∧ Below B w w') := Any.Builder_String_any_f Tryz.lays169 Tryz.Builder_Extra_169 B b l w h hBw
def Tryz.lays283_ren : Go.Shelf.Ren := ⟨fun | 283 => 113 | n => n, fun | 3 => 3 | 9 => 9 | 4 => 4 | n => n, fun | n => n⟩
theorem Tryz.lays283 : Go.Proofs.Lays.n283 Tryz.prog Tryz.lays283_ren := {
  mixed := by kernel_rfl
  f283 := Tryz.func113.trans (congrArg some (by kernel_rfl))
  t3 := Tryz.underlying3
  a3 := Tryz.isAgg3
  z3 := Tryz.sizeOf3
  v3 := Tryz.zeroValue3
  t4 := Tryz.underlying4
  a4 := Tryz.isAgg4
  z4 := Tryz.sizeOf4
  v4 := Tryz.zeroValue4
  t9 := Tryz.underlying9
  a9 := Tryz.isAgg9
  z9 := Tryz.sizeOf9
  v9 := Tryz.zeroValue9 }
open Go.Lib in
/-- internal/strconv.small: "small returns the string for an i with 0 <= i < nSmalls.": i's decimal numeral. The world is as it was. (LAID: no walk: one application.) -/
theorem Tryz.internal_strconv_small (i : Nat) (h : i < 100) (w : World) :
    Calls Tryz.prog 113 #[.int .i64 i] w fun e w' => e = .returned (.string ⟨(Lib.decDigits i).toArray⟩) ∧ w' = w := Any.internal_strconv_small Tryz.lays283 i h w
def Tryz.laysM284_ren : Go.Shelf.Ren := ⟨fun | 284 => 114 | 129 => 140 | 317 => 139 | 318 => 141 | n => n, fun | 53 => 32 | 3 => 3 | 212 => 174 | 0 => 0 | 4 => 4 | 46 => 129 | 5 => 5 | 9 => 9 | n => n, fun | 17 => 1 | n => n⟩
theorem Tryz.laysM284 : Go.Proofs.LaysM.n284 Tryz.prog Tryz.laysM284_ren := {
  mixed := by kernel_rfl
  f129 := Tryz.func140.trans (congrArg some (by kernel_rfl))
  f284 := Tryz.func114.trans (congrArg some (by kernel_rfl))
  f317 := Tryz.func139.trans (congrArg some (by kernel_rfl))
  f318 := Tryz.func141.trans (congrArg some (by kernel_rfl))
  t0 := Tryz.underlying0
  a0 := Tryz.isAgg0
  z0 := Tryz.sizeOf0
  v0 := Tryz.zeroValue0
  t3 := Tryz.underlying3
  a3 := Tryz.isAgg3
  z3 := Tryz.sizeOf3
  v3 := Tryz.zeroValue3
  t4 := Tryz.underlying4
  a4 := Tryz.isAgg4
  z4 := Tryz.sizeOf4
  v4 := Tryz.zeroValue4
  t5 := Tryz.underlying5
  a5 := Tryz.isAgg5
  z5 := Tryz.sizeOf5
  v5 := Tryz.zeroValue5
  t9 := Tryz.underlying9
  a9 := Tryz.isAgg9
  z9 := Tryz.sizeOf9
  v9 := Tryz.zeroValue9
  t46 := Tryz.underlying129
  a46 := Tryz.isAgg129
  z46 := Tryz.sizeOf129
  v46 := Tryz.zeroValue129
  t53 := Tryz.underlying32
  a53 := Tryz.isAgg32
  z53 := Tryz.sizeOf32
  v53 := Tryz.zeroValue32
  t212 := Tryz.underlying174
  a212 := Tryz.isAgg174
  z212 := Tryz.sizeOf174
  v212 := Tryz.zeroValue174
  g17 := by kernel_rfl
  i0 := by kernel_rfl
  i3 := by kernel_rfl
  i4 := by kernel_rfl
  i5 := by kernel_rfl
  i9 := by kernel_rfl
  i46 := by kernel_rfl
  i53 := by kernel_rfl
  i212 := by kernel_rfl
  m17 := by kernel_rfl }
open Go.Lib in
/-- internal/strconv.numDigits, at a d that is not 0: THE NUMBER OF d's DECIMAL DIGITS. The world is as it was. (LAID: no walk: one application.) -/
theorem Tryz.internal_strconv_numDigits (u : Nat) (h1 : 1 ≤ u) (h2 : u < 18446744073709551616) (w : World) (htab : Lib.TabIs Tryz.prog w "internal/strconv.uint64pow10" .u64 Lib.pow10Tab) :
    Calls Tryz.prog 114 #[.int .u64 u] w fun e w' => e = .returned (.int .i64 (Lib.nDigits u)) ∧ w' = w := Any.internal_strconv_numDigits Tryz.laysM284 u h1 h2 w htab
def Tryz.lays285_ren : Go.Shelf.Ren := ⟨fun | 285 => 115 | n => n, fun | 37 => 37 | 53 => 32 | 3 => 3 | 4 => 4 | 51 => 31 | 9 => 9 | 5 => 5 | 0 => 0 | n => n, fun | n => n⟩
theorem Tryz.lays285 : Go.Proofs.Lays.n285 Tryz.prog Tryz.lays285_ren := {
  mixed := by kernel_rfl
  f285 := Tryz.func115.trans (congrArg some (by kernel_rfl))
  t0 := Tryz.underlying0
  a0 := Tryz.isAgg0
  z0 := Tryz.sizeOf0
  v0 := Tryz.zeroValue0
  t3 := Tryz.underlying3
  a3 := Tryz.isAgg3
  z3 := Tryz.sizeOf3
  v3 := Tryz.zeroValue3
  t4 := Tryz.underlying4
  a4 := Tryz.isAgg4
  z4 := Tryz.sizeOf4
  v4 := Tryz.zeroValue4
  t5 := Tryz.underlying5
  a5 := Tryz.isAgg5
  z5 := Tryz.sizeOf5
  v5 := Tryz.zeroValue5
  t9 := Tryz.underlying9
  a9 := Tryz.isAgg9
  z9 := Tryz.sizeOf9
  v9 := Tryz.zeroValue9
  t37 := Tryz.underlying37
  a37 := Tryz.isAgg37
  z37 := Tryz.sizeOf37
  v37 := Tryz.zeroValue37
  t51 := Tryz.underlying31
  a51 := Tryz.isAgg31
  z51 := Tryz.sizeOf31
  v51 := Tryz.zeroValue31
  t53 := Tryz.underlying32
  a53 := Tryz.isAgg32
  z53 := Tryz.sizeOf32
  v53 := Tryz.zeroValue32 }
open Go.RowKit Go.Sort Go.Lib in
/-- internal/strconv.formatBase10: "formatBase10 formats the decimal representation of u into a. The caller is responsible for ensuring that a is big enough to hold u. If a is too big, leading zeros will be filled in as needed.": THE ROW HOLDS u's DIGITS ('FmtInv .. 0 ..': every place t holds 'dg u (len - 1 - t)'); all else is as it was but for the count of draws. (LAID: no walk: one application.) -/
theorem Tryz.internal_strconv_formatBase10 (blk off cap : Nat) (u : Nat) (d : Array UInt8) (w : World) (hH : Holds (fun (b : UInt8) => Value.int .u8 (b.toNat : Int)) w blk off d) (hu : u < 10 ^ d.size) (hu64 : u < 18446744073709551616) (hsz : d.size < 4611686018427387904) :
    Calls Tryz.prog 115 #[.slice (some ⟨blk, off, none⟩) d.size cap, .int .u64 u] w fun e w' =>
      e = .returned (.tuple #[]) ∧ ∃ (n v' : Nat) (dk : Array UInt8), w' = (putRow (fun (b : UInt8) => Value.int .u8 (b.toNat : Int)) w blk off dk).drewN n ∧ FmtInv d.size u 0 v' dk := Any.internal_strconv_formatBase10 Tryz.lays285 blk off cap u d w hH hu hu64 hsz
def Tryz.lays171_ren : Go.Shelf.Ren := ⟨fun | 171 => 35 | 243 => 87 | 246 => 117 | 283 => 113 | 284 => 114 | 285 => 115 | 286 => 116 | 129 => 140 | 317 => 139 | 318 => 141 | 319 => 142 | 320 => 143 | 337 => 158 | 338 => 159 | n => n, fun | 3 => 3 | 9 => 9 | 2 => 2 | 4 => 4 | 171 => 149 | 0 => 0 | 53 => 32 | 37 => 37 | 5 => 5 | 173 => 152 | 212 => 174 | 51 => 31 | 20 => 20 | 213 => 175 | 46 => 129 | 232 => 192 | 233 => 193 | n => n, fun | 17 => 1 | 18 => 5 | 19 => 6 | n => n⟩
theorem Tryz.lays171 : Go.Proofs.Lays.n171 Tryz.prog Tryz.lays171_ren := {
  mixed := by kernel_rfl
  f129 := Tryz.func140.trans (congrArg some (by kernel_rfl))
  f171 := Tryz.func35.trans (congrArg some (by kernel_rfl))
  f243 := Tryz.func87.trans (congrArg some (by kernel_rfl))
  f246 := Tryz.func117.trans (congrArg some (by kernel_rfl))
  f283 := Tryz.func113.trans (congrArg some (by kernel_rfl))
  f284 := Tryz.func114.trans (congrArg some (by kernel_rfl))
  f285 := Tryz.func115.trans (congrArg some (by kernel_rfl))
  f286 := Tryz.func116.trans (congrArg some (by kernel_rfl))
  f317 := Tryz.func139.trans (congrArg some (by kernel_rfl))
  f318 := Tryz.func141.trans (congrArg some (by kernel_rfl))
  f319 := Tryz.func142.trans (congrArg some (by kernel_rfl))
  f320 := Tryz.func143.trans (congrArg some (by kernel_rfl))
  f337 := Tryz.func158.trans (congrArg some (by kernel_rfl))
  f338 := Tryz.func159.trans (congrArg some (by kernel_rfl))
  t0 := Tryz.underlying0
  a0 := Tryz.isAgg0
  z0 := Tryz.sizeOf0
  v0 := Tryz.zeroValue0
  t2 := Tryz.underlying2
  a2 := Tryz.isAgg2
  z2 := Tryz.sizeOf2
  v2 := Tryz.zeroValue2
  t3 := Tryz.underlying3
  a3 := Tryz.isAgg3
  z3 := Tryz.sizeOf3
  v3 := Tryz.zeroValue3
  t4 := Tryz.underlying4
  a4 := Tryz.isAgg4
  z4 := Tryz.sizeOf4
  v4 := Tryz.zeroValue4
  t5 := Tryz.underlying5
  a5 := Tryz.isAgg5
  z5 := Tryz.sizeOf5
  v5 := Tryz.zeroValue5
  t9 := Tryz.underlying9
  a9 := Tryz.isAgg9
  z9 := Tryz.sizeOf9
  v9 := Tryz.zeroValue9
  t20 := Tryz.underlying20
  a20 := Tryz.isAgg20
  z20 := Tryz.sizeOf20
  v20 := Tryz.zeroValue20
  t37 := Tryz.underlying37
  a37 := Tryz.isAgg37
  z37 := Tryz.sizeOf37
  v37 := Tryz.zeroValue37
  t46 := Tryz.underlying129
  a46 := Tryz.isAgg129
  z46 := Tryz.sizeOf129
  v46 := Tryz.zeroValue129
  t51 := Tryz.underlying31
  a51 := Tryz.isAgg31
  z51 := Tryz.sizeOf31
  v51 := Tryz.zeroValue31
  t53 := Tryz.underlying32
  a53 := Tryz.isAgg32
  z53 := Tryz.sizeOf32
  v53 := Tryz.zeroValue32
  t171 := Tryz.underlying149
  a171 := Tryz.isAgg149
  z171 := Tryz.sizeOf149
  v171 := Tryz.zeroValue149
  t173 := Tryz.underlying152
  a173 := Tryz.isAgg152
  z173 := Tryz.sizeOf152
  v173 := Tryz.zeroValue152
  t212 := Tryz.underlying174
  a212 := Tryz.isAgg174
  z212 := Tryz.sizeOf174
  v212 := Tryz.zeroValue174
  t213 := Tryz.underlying175
  a213 := Tryz.isAgg175
  z213 := Tryz.sizeOf175
  t232 := Tryz.underlying192
  a232 := Tryz.isAgg192
  z232 := Tryz.sizeOf192
  v232 := Tryz.zeroValue192
  t233 := Tryz.underlying193
  a233 := Tryz.isAgg193
  z233 := Tryz.sizeOf193
  v233 := Tryz.zeroValue193
  g17 := by kernel_rfl
  g18 := by kernel_rfl
  g19 := by kernel_rfl }
open Go.RowKit Go.Sort Go.Lib in
/-- THE ROAD WITHOUT THE TABLE: 0 <= i < 100: NO PREMISE ON THE WORLD, AND THE WORLD IS AS IT WAS: a row that keeps its argument in that range need list no table ('laid = []'). (LAID: no walk: one application.) -/
theorem Tryz.strconv_Itoa_small (i : Nat) (hi : i < 100) (w : World) :
    Calls Tryz.prog 35 #[.int .i64 i] w fun e w' => e = .returned (.string ⟨(Lib.decDigits i).toArray⟩) ∧ w' = w := Any.strconv_Itoa_small Tryz.lays171 i hi w
def Tryz.laysPu14_ren : Go.Shelf.Ren := ⟨fun | 14 => 110 | 16 => 136 | 17 => 137 | 19 => 151 | 20 => 152 | 21 => 153 | 22 => 154 | 23 => 155 | 24 => 156 | 25 => 166 | 27 => 35 | 26 => 167 | 28 => 87 | 29 => 117 | 30 => 113 | 31 => 114 | 32 => 115 | 33 => 116 | 35 => 140 | 34 => 139 | 36 => 141 | 37 => 142 | 38 => 143 | 39 => 158 | 40 => 159 | n => n, fun | 9 => 9 | 3 => 3 | 22 => 32 | 24 => 80 | 25 => 147 | 4 => 4 | 34 => 181 | 5 => 5 | 36 => 129 | 37 => 37 | 0 => 0 | 39 => 183 | 21 => 21 | 44 => 190 | 47 => 123 | 50 => 203 | 48 => 201 | 2 => 2 | 52 => 149 | 55 => 152 | 59 => 174 | 60 => 31 | 20 => 20 | 61 => 175 | 65 => 192 | 66 => 193 | 67 => 84 | n => n, fun | 0 => 3 | 1 => 4 | 2 => 1 | 3 => 5 | 4 => 6 | n => n⟩
theorem Tryz.laysPu14 : Go.Proofs.LaysPu.n14 Tryz.prog Tryz.laysPu14_ren := {
  mixed := by kernel_rfl
  f14 := Tryz.func110.trans (congrArg some (by kernel_rfl))
  f16 := Tryz.func136.trans (congrArg some (by kernel_rfl))
  f17 := Tryz.func137.trans (congrArg some (by kernel_rfl))
  f19 := Tryz.func151.trans (congrArg some (by kernel_rfl))
  f20 := Tryz.func152.trans (congrArg some (by kernel_rfl))
  f21 := Tryz.func153.trans (congrArg some (by kernel_rfl))
  f22 := Tryz.func154.trans (congrArg some (by kernel_rfl))
  f23 := Tryz.func155.trans (congrArg some (by kernel_rfl))
  f24 := Tryz.func156.trans (congrArg some (by kernel_rfl))
  f25 := Tryz.func166.trans (congrArg some (by kernel_rfl))
  f26 := Tryz.func167.trans (congrArg some (by kernel_rfl))
  f27 := Tryz.func35.trans (congrArg some (by kernel_rfl))
  f28 := Tryz.func87.trans (congrArg some (by kernel_rfl))
  f29 := Tryz.func117.trans (congrArg some (by kernel_rfl))
  f30 := Tryz.func113.trans (congrArg some (by kernel_rfl))
  f31 := Tryz.func114.trans (congrArg some (by kernel_rfl))
  f32 := Tryz.func115.trans (congrArg some (by kernel_rfl))
  f33 := Tryz.func116.trans (congrArg some (by kernel_rfl))
  f34 := Tryz.func139.trans (congrArg some (by kernel_rfl))
  f35 := Tryz.func140.trans (congrArg some (by kernel_rfl))
  f36 := Tryz.func141.trans (congrArg some (by kernel_rfl))
  f37 := Tryz.func142.trans (congrArg some (by kernel_rfl))
  f38 := Tryz.func143.trans (congrArg some (by kernel_rfl))
  f39 := Tryz.func158.trans (congrArg some (by kernel_rfl))
  f40 := Tryz.func159.trans (congrArg some (by kernel_rfl))
  t0 := Tryz.underlying0
  a0 := Tryz.isAgg0
  z0 := Tryz.sizeOf0
  v0 := Tryz.zeroValue0
  i0 := by kernel_rfl
  t2 := Tryz.underlying2
  a2 := Tryz.isAgg2
  z2 := Tryz.sizeOf2
  v2 := Tryz.zeroValue2
  i2 := by kernel_rfl
  t3 := Tryz.underlying3
  a3 := Tryz.isAgg3
  z3 := Tryz.sizeOf3
  v3 := Tryz.zeroValue3
  i3 := by kernel_rfl
  t4 := Tryz.underlying4
  a4 := Tryz.isAgg4
  z4 := Tryz.sizeOf4
  v4 := Tryz.zeroValue4
  i4 := by kernel_rfl
  t5 := Tryz.underlying5
  a5 := Tryz.isAgg5
  z5 := Tryz.sizeOf5
  v5 := Tryz.zeroValue5
  i5 := by kernel_rfl
  t9 := Tryz.underlying9
  a9 := Tryz.isAgg9
  z9 := Tryz.sizeOf9
  v9 := Tryz.zeroValue9
  i9 := by kernel_rfl
  t20 := Tryz.underlying20
  a20 := Tryz.isAgg20
  z20 := Tryz.sizeOf20
  v20 := Tryz.zeroValue20
  i20 := by kernel_rfl
  t21 := Tryz.underlying21
  a21 := Tryz.isAgg21
  z21 := Tryz.sizeOf21
  v21 := Tryz.zeroValue21
  i21 := by kernel_rfl
  t22 := Tryz.underlying32
  a22 := Tryz.isAgg32
  z22 := Tryz.sizeOf32
  v22 := Tryz.zeroValue32
  i22 := by kernel_rfl
  t24 := Tryz.underlying80
  a24 := Tryz.isAgg80
  z24 := Tryz.sizeOf80
  v24 := Tryz.zeroValue80
  i24 := by kernel_rfl
  t25 := Tryz.underlying147
  a25 := Tryz.isAgg147
  z25 := Tryz.sizeOf147
  v25 := Tryz.zeroValue147
  i25 := by kernel_rfl
  t34 := Tryz.underlying181
  a34 := Tryz.isAgg181
  z34 := Tryz.sizeOf181
  v34 := Tryz.zeroValue181
  i34 := by kernel_rfl
  c34 := by kernel_rfl
  t36 := Tryz.underlying129
  a36 := Tryz.isAgg129
  z36 := Tryz.sizeOf129
  v36 := Tryz.zeroValue129
  i36 := by kernel_rfl
  t37 := Tryz.underlying37
  a37 := Tryz.isAgg37
  z37 := Tryz.sizeOf37
  v37 := Tryz.zeroValue37
  i37 := by kernel_rfl
  t39 := Tryz.underlying183
  a39 := Tryz.isAgg183
  z39 := Tryz.sizeOf183
  v39 := Tryz.zeroValue183
  i39 := by kernel_rfl
  t44 := Tryz.underlying190
  a44 := Tryz.isAgg190
  z44 := Tryz.sizeOf190
  v44 := Tryz.zeroValue190
  i44 := by kernel_rfl
  t47 := Tryz.underlying123
  a47 := Tryz.isAgg123
  z47 := Tryz.sizeOf123
  v47 := Tryz.zeroValue123
  i47 := by kernel_rfl
  t48 := Tryz.underlying201
  a48 := Tryz.isAgg201
  z48 := Tryz.sizeOf201
  v48 := Tryz.zeroValue201
  i48 := by kernel_rfl
  t50 := Tryz.underlying203
  a50 := Tryz.isAgg203
  z50 := Tryz.sizeOf203
  v50 := Tryz.zeroValue203
  i50 := by kernel_rfl
  t52 := Tryz.underlying149
  a52 := Tryz.isAgg149
  z52 := Tryz.sizeOf149
  v52 := Tryz.zeroValue149
  i52 := by kernel_rfl
  t55 := Tryz.underlying152
  a55 := Tryz.isAgg152
  z55 := Tryz.sizeOf152
  v55 := Tryz.zeroValue152
  i55 := by kernel_rfl
  t59 := Tryz.underlying174
  a59 := Tryz.isAgg174
  z59 := Tryz.sizeOf174
  v59 := Tryz.zeroValue174
  i59 := by kernel_rfl
  t60 := Tryz.underlying31
  a60 := Tryz.isAgg31
  z60 := Tryz.sizeOf31
  v60 := Tryz.zeroValue31
  i60 := by kernel_rfl
  t61 := Tryz.underlying175
  a61 := Tryz.isAgg175
  z61 := Tryz.sizeOf175
  t65 := Tryz.underlying192
  a65 := Tryz.isAgg192
  z65 := Tryz.sizeOf192
  v65 := Tryz.zeroValue192
  i65 := by kernel_rfl
  t66 := Tryz.underlying193
  a66 := Tryz.isAgg193
  z66 := Tryz.sizeOf193
  v66 := Tryz.zeroValue193
  i66 := by kernel_rfl
  t67 := Tryz.underlying84
  a67 := Tryz.isAgg84
  z67 := Tryz.sizeOf84
  v67 := Tryz.zeroValue84
  i67 := by kernel_rfl
  g0 := by kernel_rfl
  m0 := by kernel_rfl
  g1 := by kernel_rfl
  m1 := by kernel_rfl
  g2 := by kernel_rfl
  m2 := by kernel_rfl
  g3 := by kernel_rfl
  m3 := by kernel_rfl
  g4 := by kernel_rfl
  m4 := by kernel_rfl }
open Go.RowKit in
/-- strconv.ParseUint(s, 10, 64), AT EVERY STRING THAT SPELLS A uint64 ('Lib.parseUintB 64 s.data.toList = .ok u'): u, AND NO ERROR. (LAID: no walk: one application.) -/
theorem Tryz.strconv_ParseUint_10_at64_ok (s : ByteArray) (hmax : s.size ≤ 9223372036854775806) (u : Nat) (h : Lib.parseUintB 64 s.data.toList = .ok u) (w : World) :
    Calls Tryz.prog 110 #[.string s, .int .i64 10, .int .i64 64] w fun e w' => e = .returned (.tuple #[.int .u64 u, .nilIface]) ∧ (w' = w ∨ w' = Lib.bytesWorld w 5 s) := Any.strconv_ParseUint_10_at64_ok Tryz.laysPu14 s hmax u h w
def Tryz.lays146_ren : Go.Shelf.Ren := ⟨fun | 146 => 65 | 221 => 105 | 268 => 126 | 138 => 127 | 143 => 128 | 195 => 145 | 197 => 146 | 218 => 147 | 219 => 148 | 260 => 160 | 217 => 161 | 225 => 162 | 224 => 163 | 267 => 164 | 266 => 168 | 314 => 169 | n => n, fun | 9 => 9 | 31 => 78 | 3 => 3 | 4 => 4 | 0 => 0 | 105 => 170 | 21 => 21 | 5 => 5 | 46 => 129 | 119 => 194 | 139 => 197 | 138 => 196 | 146 => 198 | 51 => 31 | n => n, fun | 1 => 2 | 3 => 7 | 4 => 8 | n => n⟩
theorem Tryz.lays146 : Go.Proofs.Lays.n146 Tryz.prog Tryz.lays146_ren := {
  mixed := by kernel_rfl
  f138 := Tryz.func127.trans (congrArg some (by kernel_rfl))
  f143 := Tryz.func128.trans (congrArg some (by kernel_rfl))
  f146 := Tryz.func65.trans (congrArg some (by kernel_rfl))
  f195 := Tryz.func145.trans (congrArg some (by kernel_rfl))
  f197 := Tryz.func146.trans (congrArg some (by kernel_rfl))
  f217 := Tryz.func161.trans (congrArg some (by kernel_rfl))
  f218 := Tryz.func147.trans (congrArg some (by kernel_rfl))
  f219 := Tryz.func148.trans (congrArg some (by kernel_rfl))
  f221 := Tryz.func105.trans (congrArg some (by kernel_rfl))
  f224 := Tryz.func163.trans (congrArg some (by kernel_rfl))
  f225 := Tryz.func162.trans (congrArg some (by kernel_rfl))
  f260 := Tryz.func160.trans (congrArg some (by kernel_rfl))
  f266 := Tryz.func168.trans (congrArg some (by kernel_rfl))
  f267 := Tryz.func164.trans (congrArg some (by kernel_rfl))
  f268 := Tryz.func126.trans (congrArg some (by kernel_rfl))
  f314 := Tryz.func169.trans (congrArg some (by kernel_rfl))
  t0 := Tryz.underlying0
  a0 := Tryz.isAgg0
  z0 := Tryz.sizeOf0
  v0 := Tryz.zeroValue0
  t3 := Tryz.underlying3
  a3 := Tryz.isAgg3
  z3 := Tryz.sizeOf3
  v3 := Tryz.zeroValue3
  t4 := Tryz.underlying4
  a4 := Tryz.isAgg4
  z4 := Tryz.sizeOf4
  v4 := Tryz.zeroValue4
  t5 := Tryz.underlying5
  a5 := Tryz.isAgg5
  z5 := Tryz.sizeOf5
  v5 := Tryz.zeroValue5
  t9 := Tryz.underlying9
  a9 := Tryz.isAgg9
  z9 := Tryz.sizeOf9
  v9 := Tryz.zeroValue9
  t21 := Tryz.underlying21
  a21 := Tryz.isAgg21
  z21 := Tryz.sizeOf21
  v21 := Tryz.zeroValue21
  t31 := Tryz.underlying78
  a31 := Tryz.isAgg78
  z31 := Tryz.sizeOf78
  v31 := Tryz.zeroValue78
  t46 := Tryz.underlying129
  a46 := Tryz.isAgg129
  z46 := Tryz.sizeOf129
  v46 := Tryz.zeroValue129
  t51 := Tryz.underlying31
  a51 := Tryz.isAgg31
  z51 := Tryz.sizeOf31
  v51 := Tryz.zeroValue31
  t105 := Tryz.underlying170
  a105 := Tryz.isAgg170
  z105 := Tryz.sizeOf170
  v105 := Tryz.zeroValue170
  t119 := Tryz.underlying194
  a119 := Tryz.isAgg194
  z119 := Tryz.sizeOf194
  t138 := Tryz.underlying196
  a138 := Tryz.isAgg196
  z138 := Tryz.sizeOf196
  v138 := Tryz.zeroValue196
  t139 := Tryz.underlying197
  a139 := Tryz.isAgg197
  z139 := Tryz.sizeOf197
  v139 := Tryz.zeroValue197
  t146 := Tryz.underlying198
  a146 := Tryz.isAgg198
  z146 := Tryz.sizeOf198
  v146 := Tryz.zeroValue198
  g1 := by kernel_rfl
  g3 := by kernel_rfl
  g4 := by kernel_rfl }
open Go.RowKit Go.Lib in
/-- strings.Split. (LAID: no walk: one application.) -/
theorem Tryz.strings_Split (s sep : ByteArray) (m : Int) (w : World) (hs : s.size < 4294967281) (hm : w.cell? ⟨2, 0, none⟩ = some (.int .i64 m)) (h1 : 1 ≤ sep.size) :
    Calls Tryz.prog 65 #[.string s, .string sep] w fun e w' =>
      e = .returned (.slice (some ⟨w.heap.size, 0, none⟩) (Lib.countB s sep + 1) (Lib.countB s sep + 1)) ∧ w' = w.alloc (.cells ((Lib.splitB sep 0 (Lib.countB s sep) s).map Value.string).toArray 9) := Any.strings_Split Tryz.lays146 (by kernel_rfl) s sep m w hs hm h1
def Tryz.lays271_ren : Go.Shelf.Ren := ⟨fun | 271 => 138 | 120 => 157 | 197 => 146 | 260 => 160 | n => n, fun | 9 => 9 | 21 => 21 | 3 => 3 | 4 => 4 | 5 => 5 | 105 => 170 | 119 => 194 | 0 => 0 | 46 => 129 | 139 => 197 | 138 => 196 | n => n, fun | 3 => 7 | 4 => 8 | n => n⟩
theorem Tryz.lays271 : Go.Proofs.Lays.n271 Tryz.prog Tryz.lays271_ren := {
  mixed := by kernel_rfl
  f120 := Tryz.func157.trans (congrArg some (by kernel_rfl))
  f197 := Tryz.func146.trans (congrArg some (by kernel_rfl))
  f260 := Tryz.func160.trans (congrArg some (by kernel_rfl))
  f271 := Tryz.func138.trans (congrArg some (by kernel_rfl))
  t0 := Tryz.underlying0
  a0 := Tryz.isAgg0
  z0 := Tryz.sizeOf0
  v0 := Tryz.zeroValue0
  t3 := Tryz.underlying3
  a3 := Tryz.isAgg3
  z3 := Tryz.sizeOf3
  v3 := Tryz.zeroValue3
  t4 := Tryz.underlying4
  a4 := Tryz.isAgg4
  z4 := Tryz.sizeOf4
  v4 := Tryz.zeroValue4
  t5 := Tryz.underlying5
  a5 := Tryz.isAgg5
  z5 := Tryz.sizeOf5
  v5 := Tryz.zeroValue5
  t9 := Tryz.underlying9
  a9 := Tryz.isAgg9
  z9 := Tryz.sizeOf9
  v9 := Tryz.zeroValue9
  t21 := Tryz.underlying21
  a21 := Tryz.isAgg21
  z21 := Tryz.sizeOf21
  v21 := Tryz.zeroValue21
  t46 := Tryz.underlying129
  a46 := Tryz.isAgg129
  z46 := Tryz.sizeOf129
  v46 := Tryz.zeroValue129
  t105 := Tryz.underlying170
  a105 := Tryz.isAgg170
  z105 := Tryz.sizeOf170
  v105 := Tryz.zeroValue170
  t119 := Tryz.underlying194
  a119 := Tryz.isAgg194
  z119 := Tryz.sizeOf194
  t138 := Tryz.underlying196
  a138 := Tryz.isAgg196
  z138 := Tryz.sizeOf196
  v138 := Tryz.zeroValue196
  t139 := Tryz.underlying197
  a139 := Tryz.isAgg197
  z139 := Tryz.sizeOf197
  v139 := Tryz.zeroValue197
  g3 := by kernel_rfl
  g4 := by kernel_rfl }
open Go.RowKit Go.Lib in
/-- **unicode/utf8.DecodeLastRuneInString AT EVERY STRING.** (LAID: no walk: one application.) -/
theorem Tryz.utf8_DecodeLastRuneInString (s : ByteArray) (w : World) (hs : s.size ≤ 9223372036854775807) (hT : Lib.Utf8Tabs 7 8 w) :
    Calls Tryz.prog 138 #[.string s] w fun e w' => e = .returned (.tuple #[.int .i32 (Lib.decodeLastL s.data.toList).1, .int .i64 (Lib.decodeLastL s.data.toList).2]) ∧ Below w.heap.size w w' := Any.utf8_DecodeLastRuneInString Tryz.lays271 s w hs hT
def Tryz.lays109_ren : Go.Shelf.Ren := ⟨fun | 109 => 74 | n => n, fun | 31 => 78 | 9 => 9 | 3 => 3 | 0 => 0 | 4 => 4 | n => n, fun | n => n⟩
theorem Tryz.lays109 : Go.Proofs.Lays.n109 Tryz.prog Tryz.lays109_ren := {
  mixed := by kernel_rfl
  f109 := Tryz.func74.trans (congrArg some (by kernel_rfl))
  t0 := Tryz.underlying0
  a0 := Tryz.isAgg0
  z0 := Tryz.sizeOf0
  v0 := Tryz.zeroValue0
  t3 := Tryz.underlying3
  a3 := Tryz.isAgg3
  z3 := Tryz.sizeOf3
  v3 := Tryz.zeroValue3
  t4 := Tryz.underlying4
  a4 := Tryz.isAgg4
  z4 := Tryz.sizeOf4
  v4 := Tryz.zeroValue4
  t9 := Tryz.underlying9
  a9 := Tryz.isAgg9
  z9 := Tryz.sizeOf9
  v9 := Tryz.zeroValue9
  t31 := Tryz.underlying78
  a31 := Tryz.isAgg78
  z31 := Tryz.sizeOf78
  v31 := Tryz.zeroValue78 }
open Go.Lib in
/-- slices.Index at []string: "Index returns the index of the first occurrence of v in s, or -1 if not present.": IT RETURNS 'Lib.idxOfS (the elements) v'; the world is as it was. 'zs': what the cells behind the slice's address hold (its spare capacity too, if you have it); 'zs.take n': its elements. (LAID: no walk: one application.) -/
theorem Tryz.slices_Index_string (b off n c : Nat) (zs : List ByteArray) (x : ByteArray) (w : World) (hz : n ≤ zs.length) (hbig : n ≤ 9223372036854775807) (hc : ∀ j, j < zs.length → w.cell? ⟨b, off + j, none⟩ = some (.string (zs.getD j ByteArray.empty))) :
    Calls Tryz.prog 74 #[.slice (some ⟨b, off, none⟩) n c, .string x] w fun e w' => e = .returned (.int .i64 (Lib.idxOfS (zs.take n) x)) ∧ w' = w := Any.slices_Index_string Tryz.lays109 b off n c zs x w hz hbig hc
theorem Tryz.lays166 : Lays.n166 Tryz.prog Tryz.lays156_ren := { Tryz.lays156 with }
open Go.RowKit in
theorem Tryz.Builder_WriteString_f (B b : Nat) (bs : List Value) (s : ByteArray) (w : World) (h : Lib.IsBuilderF 67 5 B b bs w) (hlen : bs.length + s.size ≤ 140737488355328) (hBw : B ≤ w.heap.size) :
    Calls Tryz.prog 37 #[.pointer (some ⟨b, 0, none⟩), .string s] w fun e w' => e = .returned (.tuple #[.int .i64 s.size, .nilIface]) ∧ (Lib.BuilderAtF 67 5 B b (.pointer (some ⟨b, 0, none⟩)) (bs ++ Lib.strCells s) w' ∧ Below B w w') := Any.Builder_WriteString_f Tryz.lays166 Tryz.Builder_Extra_156 B b bs s w h hlen hBw
open Go.RowKit in
theorem Tryz.Builder_WriteString_k (B b : Nat) (bs : List Value) (s : ByteArray) (w : World) (h : Lib.IsBuilderF 67 5 B b bs w) (hlen : bs.length + s.size ≤ 140737488355328) (hBw : B ≤ w.heap.size) :
    Calls Tryz.prog 37 #[.pointer (some ⟨b, 0, none⟩), .string s] w fun e w' => e = .returned (.tuple #[.int .i64 s.size, .nilIface]) ∧ (Lib.BuilderAtF 67 5 B b (.pointer (some ⟨b, 0, none⟩)) (bs ++ Lib.strCells s) w' ∧ Below B w w' ∧ Lib.OthersKept 5 (some b) w w') := Any.Builder_WriteString_k Tryz.lays166 Tryz.Builder_Extra_156 B b bs s w h hlen hBw
def Tryz.del66_ren : Go.Shelf.Ren := ⟨fun | 10 => 66 | 6 => 106 | n => n, fun | 22 => 78 | 23 => 9 | 25 => 114 | 3 => 3 | 4 => 4 | 0 => 0 | n => n, fun | n => n⟩
theorem Tryz.del66 : Go.Proofs.SlLaysH.n10 Tryz.prog Tryz.del66_ren := {
  mixed := by kernel_rfl
  f6 := ⟨Tryz.f106.name, by decide, Tryz.func106.trans (congrArg some (by kernel_rfl))⟩
  f10 := ⟨Tryz.f66.name, by decide, Tryz.func66.trans (congrArg some (by kernel_rfl))⟩
  t0 := Tryz.underlying0
  a0 := Tryz.isAgg0
  z0 := Tryz.sizeOf0
  v0 := Tryz.zeroValue0
  t3 := Tryz.underlying3
  a3 := Tryz.isAgg3
  z3 := Tryz.sizeOf3
  v3 := Tryz.zeroValue3
  t4 := Tryz.underlying4
  a4 := Tryz.isAgg4
  z4 := Tryz.sizeOf4
  v4 := Tryz.zeroValue4
  t22 := Tryz.underlying78
  a22 := Tryz.isAgg78
  z22 := Tryz.sizeOf78
  v22 := Tryz.zeroValue78
  a23 := Tryz.isAgg9
  z23 := Tryz.sizeOf9
  t25 := Tryz.underlying114
  a25 := Tryz.isAgg114
  z25 := Tryz.sizeOf114
  v25 := Tryz.zeroValue114 }
def Tryz.lays160_ren : Go.Shelf.Ren := ⟨fun | 160 => 109 | 232 => 130 | 231 => 129 | 227 => 131 | 234 => 133 | 233 => 132 | 236 => 135 | 235 => 134 | 228 => 149 | 271 => 138 | 151 => 150 | 197 => 146 | 120 => 157 | 152 => 165 | 260 => 160 | 137 => 170 | 119 => 171 | 224 => 163 | 225 => 162 | 217 => 161 | 266 => 168 | n => n, fun | 9 => 9 | 4 => 4 | 3 => 3 | 5 => 5 | 117 => 165 | 116 => 164 | 0 => 0 | 124 => 168 | 21 => 21 | 105 => 170 | 46 => 129 | 119 => 194 | 139 => 197 | 138 => 196 | n => n, fun | 3 => 7 | 4 => 8 | n => n⟩
theorem Tryz.lays160 : Go.Proofs.Lays.n160 Tryz.prog Tryz.lays160_ren := {
  mixed := by kernel_rfl
  f119 := Tryz.func171.trans (congrArg some (by kernel_rfl))
  f120 := Tryz.func157.trans (congrArg some (by kernel_rfl))
  f137 := Tryz.func170.trans (congrArg some (by kernel_rfl))
  f151 := Tryz.func150.trans (congrArg some (by kernel_rfl))
  f152 := Tryz.func165.trans (congrArg some (by kernel_rfl))
  f160 := Tryz.func109.trans (congrArg some (by kernel_rfl))
  f197 := Tryz.func146.trans (congrArg some (by kernel_rfl))
  f217 := Tryz.func161.trans (congrArg some (by kernel_rfl))
  f224 := Tryz.func163.trans (congrArg some (by kernel_rfl))
  f225 := Tryz.func162.trans (congrArg some (by kernel_rfl))
  f227 := Tryz.func131.trans (congrArg some (by kernel_rfl))
  f228 := Tryz.func149.trans (congrArg some (by kernel_rfl))
  f231 := Tryz.func129.trans (congrArg some (by kernel_rfl))
  f232 := Tryz.func130.trans (congrArg some (by kernel_rfl))
  f233 := Tryz.func132.trans (congrArg some (by kernel_rfl))
  f234 := Tryz.func133.trans (congrArg some (by kernel_rfl))
  f235 := Tryz.func134.trans (congrArg some (by kernel_rfl))
  f236 := Tryz.func135.trans (congrArg some (by kernel_rfl))
  f260 := Tryz.func160.trans (congrArg some (by kernel_rfl))
  f266 := Tryz.func168.trans (congrArg some (by kernel_rfl))
  f271 := Tryz.func138.trans (congrArg some (by kernel_rfl))
  t0 := Tryz.underlying0
  a0 := Tryz.isAgg0
  z0 := Tryz.sizeOf0
  v0 := Tryz.zeroValue0
  t3 := Tryz.underlying3
  a3 := Tryz.isAgg3
  z3 := Tryz.sizeOf3
  v3 := Tryz.zeroValue3
  t4 := Tryz.underlying4
  a4 := Tryz.isAgg4
  z4 := Tryz.sizeOf4
  v4 := Tryz.zeroValue4
  t5 := Tryz.underlying5
  a5 := Tryz.isAgg5
  z5 := Tryz.sizeOf5
  v5 := Tryz.zeroValue5
  t9 := Tryz.underlying9
  a9 := Tryz.isAgg9
  z9 := Tryz.sizeOf9
  v9 := Tryz.zeroValue9
  t21 := Tryz.underlying21
  a21 := Tryz.isAgg21
  z21 := Tryz.sizeOf21
  v21 := Tryz.zeroValue21
  t46 := Tryz.underlying129
  a46 := Tryz.isAgg129
  z46 := Tryz.sizeOf129
  v46 := Tryz.zeroValue129
  t105 := Tryz.underlying170
  a105 := Tryz.isAgg170
  z105 := Tryz.sizeOf170
  v105 := Tryz.zeroValue170
  t116 := Tryz.underlying164
  a116 := Tryz.isAgg164
  z116 := Tryz.sizeOf164
  t117 := Tryz.underlying165
  a117 := Tryz.isAgg165
  z117 := Tryz.sizeOf165
  v117 := Tryz.zeroValue165
  t119 := Tryz.underlying194
  a119 := Tryz.isAgg194
  z119 := Tryz.sizeOf194
  t124 := Tryz.underlying168
  a124 := Tryz.isAgg168
  z124 := Tryz.sizeOf168
  v124 := Tryz.zeroValue168
  t138 := Tryz.underlying196
  a138 := Tryz.isAgg196
  z138 := Tryz.sizeOf196
  v138 := Tryz.zeroValue196
  t139 := Tryz.underlying197
  a139 := Tryz.isAgg197
  z139 := Tryz.sizeOf197
  v139 := Tryz.zeroValue197
  g3 := by kernel_rfl
  g4 := by kernel_rfl }
open Go.RowKit Go.Lib in
theorem Tryz.strings_Trim_laid (s cutset : ByteArray) (w : World) (hs : s.size ≤ 9223372036854775807) (hcs : cutset.size < 4294967281) (hascii : ∀ (j : Nat) b, cutset.data.toList[j]? = some b → b.toNat < 128) :
    Calls Tryz.prog 109 #[.string s, .string cutset] w fun e w' => e = .returned (.string ⟨(Lib.trimS s.data.toList cutset.data.toList).toArray⟩) ∧ Below w.heap.size w w' := Any.strings_Trim_laid Tryz.lays160 (by kernel_rfl) s cutset w hs hcs hascii
end Go.Proofs

/- Small laws used by all texts of this claim: an append of one element as a step of a region of open order; byte strings as little-endian numbers. -/
namespace Go.Proofs.YtohighedgdlflaaGreatDoor
open Go.RowKit Go.Proofs.YtohighedgdlflaaGreatDoorW.PrintWords
set_option linter.unusedVariables false
set_option linter.unusedSimpArgs false

section
variable {P : Program} {ops : Array Oper} {o : Oper} {a : Act} {Q : Exit → Act → World → Prop} {K : Act → World → Prop}
theorem step_app1 {w0 W : World} (base : Nat) (hw : Region.wanted o (yielded ops a.tmps) = true) (s x : Operand) (t e : TypeId) (z : Value) (bytes : Nat)
    (ho : o.op = .call { callee := .builtin .append, args := #[s, x], argTypes := #[t, t] })
    (ht : P.underlying t = some (.slice e)) (hinfo : (P.info? e).map (fun i => (i.zero, i.size, i.bytes)) = some (some z, 1, bytes)) (hz : z.cells.size = 1) (hb0 : 0 < bytes)
    (v : Value) (n : Nat) (xs : List Value) (y : Value) (g : Nat) (hs : a.eval s = v) (hx : a.eval x = .slice (some ⟨g, 0, none⟩) 1 1) (hc : W.cell? ⟨g, 0, none⟩ = some y) (h1 : y.oneCell' = true)
    (HO : W.ownsRow base e 1 v n xs) (HB : Below base w0 W) (hbase : base ≤ W.heap.size) (hl : (n + 1) * bytes ≤ 140737488355328)
    (h : ∀ v1 w1, w1.ownsRow base e 1 v1 (n + 1) (xs ++ [y]) → Below base w0 w1 → W.grownBy w1 v.ownBlock → (v1.ownBlock = v.ownBlock ∨ v1.ownBlock = some W.heap.size) → K (a.put o.dst v1) w1) :
    if Region.wanted o (yielded ops a.tmps) = true then Oper.wp P o a W K Q else K (a.put o.dst undef) W := by
  obtain ⟨i0, hi, hzz⟩ := Option.map_eq_some_iff.1 hinfo
  simp only [Prod.mk.injEq] at hzz
  obtain ⟨hz0, hz1, hz2⟩ := hzz
  have hlen : n + 1 ≤ 140737488355328 := Nat.le_trans (Nat.le_mul_of_pos_right _ hb0) hl
  rw [if_pos hw]
  obtain ⟨v1, w1, hr, hown, hg, _, hat⟩ := run_append_own_at (P := P) W base t o.type e i0 z 1 bytes ht hi hz0 hz1 hz2 hz (by omega) v n xs HO ⟨g, 0, none⟩ 1 1 [y] (by simp)
    (by
      intro j u hu
      cases j with
      | zero => simp at hu; subst hu; simpa [Addr.add] using hc
      | succ j => simp at hu) (by simpa using h1) (by simp only [maxLen]; omega) hl hbase
  unfold Oper.wp execOp
  simp only [ho, resolve, invoke, builtin, Sem.run_bind, Sem.run_pure, Result.andThen_ok, List.map_toArray, List.map_cons, List.map_nil, hs, hx, hr]
  exact h v1 w1 hown (HB.grown hg hbase (own_base HO)) hg hat
end

theorem C_reads {w : World} {k : IntKind} {A : Option Addr} {n : Nat} {xs : List Int} (h : Kd.C (Kd.int k) w A n xs) : ReadsInt w k A n xs := Kd.reads_of_C (enc := Value.int k) (d := (0 : Int)) (h1 := fun _ => rfl) h
/-- The n lowest bytes of x, the lowest first. -/
def leb (n : Nat) (x : Int) : List Int := (List.range n).map fun i => x / 2 ^ (8 * i) % 256
theorem leb_length (n : Nat) (x : Int) : (leb n x).length = n := by simp [leb]
theorem leb_succ (n : Nat) (x : Int) : leb (n + 1) x = leb n x ++ [x / 2 ^ (8 * n) % 256] := by simp [leb, List.range_succ]
end Go.Proofs.YtohighedgdlflaaGreatDoor

/- strconv.FormatUint at base 10: the decimal digits of every uint64. -/
namespace Go.Proofs.YtohighedgdlflaaGreatDoor
open Go.Shelf Go.RowKit Go.Sort Go.Lib Go.Proofs.YtohighedgdlflaaGreatDoorW.PrintWords
set_option linter.unusedVariables false
set_option linter.unusedSimpArgs false
/-- The table of powers of ten lies where it was laid. -/
abbrev PTab (w : World) : Prop := Lib.TabIs Tryz.prog w "internal/strconv.uint64pow10" .u64 Lib.pow10Tab
theorem holds_zero0 (w : World) (T : TypeId) (nd : Nat) (hs : nd ≤ 24) : Holds (fun (b : UInt8) => Value.int .u8 (b.toNat : Int)) (w.alloc (.cells zeros24 T)) w.heap.size 0 (Array.replicate nd (0 : UInt8)) := fun j hj => by
  have hj' : j < nd := by simpa using hj
  refine ⟨?_, World.frozen?_alloc_new _ _ _ _⟩
  rw [World.cell?_alloc_new, zeros24_at _ (by omega), getElem!_pos _ j hj]
  simp
theorem fin_pos0 (w : World) (o : Obj) (dk : Array UInt8) (k : Nat) : ∃ os, (putRow (fun (b : UInt8) => Value.int .u8 (b.toNat : Int)) (w.alloc o) w.heap.size 0 dk).drewN k = grow (w.drewN k) os := by
  rw [alloc_eq_grow]
  obtain ⟨os', _, e⟩ := putRow_grow_new (fun (b : UInt8) => Value.int .u8 (b.toNat : Int)) w #[o] w.heap.size 0 dk (Nat.le_refl _)
  exact ⟨os', by rw [e]; rfl⟩
theorem PTab.below {w w' : World} (h : PTab w) (hb : Below w.heap.size w w') : PTab w' := tabBelow_of_tabIs h w' hb
set_option maxHeartbeats 1600000 in
set_option maxRecDepth 100000 in
theorem fmt86_ok (u : Nat) (hu64 : u < 18446744073709551616) (w : World) (htab : PTab w) :
    Calls Tryz.prog 86 #[.int .u64 u, .int .i64 10] w fun e w' => e = .returned (.string ⟨(Lib.decDigits u).toArray⟩) ∧ Below w.heap.size w w' := by
  by_cases hs : u < 100
  · have hs' : (u : Int) < 100 := by omega
    go_enter Tryz.func86, Tryz.ntmps86
    go_wp2_with fail
    refine (Tryz.internal_strconv_small u hs _).mono ?_
    rintro e w' ⟨rfl, rfl⟩
    go_wp2_with fail
    go_ret
    exact ⟨rfl, Below.refl _ _⟩
  · have hs' : ¬ (u : Int) < 100 := by omega
    have hu1 : 1 ≤ u := by omega
    have hnd20 : Lib.nDigits u ≤ 20 := by have := Lib.numDigits_eq u hu1 hu64; split at this <;> omega
    have hb3 : Lib.nDigits u ≤ 23 := by omega
    have hal : Tryz.prog.arrayLen 149 = 24 := by simp [Program.arrayLen, Tryz.underlying149]
    have hsl1 : ∀ W, (Instr.sliceAt 149 (.pointer (some ⟨w.heap.size, 0, none⟩)) none (some (.int .i64 (Lib.nDigits u : Int))) none).run Tryz.prog W = .ok (.slice (some ⟨w.heap.size, 0, none⟩) (Lib.nDigits u) 24) W := fun W => by
      rw [run_sliceAt_array_h W 149 ⟨w.heap.size, 0, none⟩ (by simp [Program.arrayLen, Program.elem, Tryz.underlying149]) .i64 (Lib.nDigits u : Int) (by omega) (by rw [hal]; omega)]
      go_simp
      try omega
    have hH0 := holds_zero0 w 149 (Lib.nDigits u) (by omega)
    have hfmt := Tryz.internal_strconv_formatBase10 w.heap.size 0 24 u (Array.replicate (Lib.nDigits u) 0) (w.alloc (.cells Lib.zeros24 149)) hH0 (by rw [Array.size_replicate]; exact Lib.lt_pow_nDigits u) hu64 (by rw [Array.size_replicate]; omega)
    rw [Array.size_replicate] at hfmt
    have HH0 := Lib.hid hH0
    clear hH0 hal
    go_enter Tryz.func86, Tryz.ntmps86
    go_wp2_with fail
    refine (Tryz.internal_strconv_numDigits u hu1 hu64 _ (Lib.tabIs_alloc htab _)).mono ?_
    rintro e w' ⟨rfl, rfl⟩
    go_wp2_with fail
    refine hfmt.mono ?_
    rintro e w' ⟨rfl, k, v', dk, rfl, hF⟩
    have hcv : (convert 37 9 (.slice (some ⟨w.heap.size, 0, none⟩) (Lib.nDigits u) 24)).run Tryz.prog ((putRow (fun (b : UInt8) => Value.int .u8 (b.toNat : Int)) (w.alloc (.cells Lib.zeros24 149)) w.heap.size 0 dk).drewN k) = .ok (.string ⟨(Lib.decDigits u).toArray⟩) ((putRow (fun (b : UInt8) => Value.int .u8 (b.toNat : Int)) (w.alloc (.cells Lib.zeros24 149)) w.heap.size 0 dk).drewN k) := by
      have h := run_convert_bytes_back (P := Tryz.prog) ((putRow (fun (b : UInt8) => Value.int .u8 (b.toNat : Int)) (w.alloc (.cells Lib.zeros24 149)) w.heap.size 0 dk).drewN k) 37 9 5 ⟨w.heap.size, 0, none⟩ 24 (Lib.decDigits u) Tryz.underlying37 Tryz.underlying5 Tryz.underlying9 (fun j hj => by
        rw [Lib.row_is_numeral hF j hj, Lib.add_plain, World.cell?_drewN]
        exact cell?_putRow (fun (b : UInt8) => Value.int .u8 (b.toNat : Int)) _ w.heap.size 0 _ dk HH0.out (by rw [hF.size, Array.size_replicate]) j (by rw [hF.size]; rw [Lib.decDigits_length] at hj; exact hj))
      rw [Lib.decDigits_length] at h
      exact h
    go_wp2_with fail
    go_ret
    obtain ⟨os, eo⟩ := fin_pos0 w (.cells Lib.zeros24 149) dk k
    refine ⟨rfl, ?_⟩
    rw [eo]
    exact below_grow _ _ (Nat.le_refl _) _ _
theorem fmt_ok (u : Nat) (hu64 : u < 18446744073709551616) (w : World) (htab : PTab w) :
    Calls Tryz.prog 34 #[.int .u64 u, .int .i64 10] w fun e w' => e = .returned (.string ⟨(Lib.decDigits u).toArray⟩) ∧ Below w.heap.size w w' := by
  go_enter Tryz.func34, Tryz.ntmps34
  go_wp2_with fail
  refine (fmt86_ok u hu64 _ htab).mono ?_
  rintro e w' ⟨rfl, hb⟩
  have HB := Lib.hid hb
  clear hb
  go_wp2_with fail
  go_ret
  exact ⟨rfl, HB.out⟩
end Go.Proofs.YtohighedgdlflaaGreatDoor

/- The CRC-32: by bits, and four bits at a time by a table: the same number. -/
namespace Go.Proofs.YtohighedgdlflaaGreatDoor
set_option linter.unusedVariables false
set_option linter.unusedSimpArgs false
namespace Crc
/-- One bit. -/
def bitN (c : Nat) : Nat := (c / 2) ^^^ (if c % 2 = 1 then 3988292384 else 0)
theorem bitN_xor (a b : Nat) : bitN (a ^^^ b) = bitN a ^^^ bitN b := by
  unfold bitN
  have h1 : (a ^^^ b) / 2 = a / 2 ^^^ b / 2 := Nat.xor_div_two
  have h2 : ((a ^^^ b) % 2 = 1) ↔ ¬ (a % 2 = 1 ↔ b % 2 = 1) := by
    simp
  rw [h1]
  by_cases ha : a % 2 = 1 <;> by_cases hb : b % 2 = 1
  · rw [if_neg (by rw [h2]; simp [ha, hb]), if_pos ha, if_pos hb]
    simp only [Nat.xor_zero]
    rw [Nat.xor_assoc, Nat.xor_comm 3988292384, Nat.xor_assoc, Nat.xor_self, Nat.xor_zero]
  · rw [if_pos (by rw [h2]; simp [ha, hb]), if_pos ha, if_neg hb]
    simp only [Nat.xor_zero]
    rw [Nat.xor_assoc, Nat.xor_assoc, Nat.xor_comm 3988292384]
  · rw [if_pos (by rw [h2]; simp [ha, hb]), if_neg ha, if_pos hb]
    simp only [Nat.xor_zero, Nat.xor_assoc]
  · rw [if_neg (by rw [h2]; simp [ha, hb]), if_neg ha, if_neg hb]
    simp
theorem bitN_even (q : Nat) : bitN (2 * q) = q := by
  unfold bitN
  rw [if_neg (by omega), Nat.xor_zero]; omega
/-- Four bits by the table. -/
def tblN : Nat → Nat
  | 0 => 0 | 1 => 498536548 | 2 => 997073096 | 3 => 651767980 | 4 => 1994146192 | 5 => 1802195444 | 6 => 1303535960 | 7 => 1342533948
  | 8 => 3988292384 | 9 => 4027552580 | 10 => 3604390888 | 11 => 3412177804 | 12 => 2607071920 | 13 => 2262029012 | 14 => 2685067896 | 15 => 3183342108 | _ => 0
theorem tblN_bits : ∀ r, r < 16 → bitN (bitN (bitN (bitN r))) = tblN r := by decide
theorem split16 (s : Nat) : s = (16 * (s / 16)) ^^^ (s % 16) := by
  apply Nat.eq_of_testBit_eq
  intro j
  have h := Nat.testBit_two_pow_mul_add (s / 16) (i := 4) (b := s % 16) (by omega) j
  rw [show 2 ^ 4 * (s / 16) + s % 16 = s by omega] at h
  rw [Nat.testBit_xor, h, show 16 * (s / 16) = 2 ^ 4 * (s / 16) by omega, Nat.testBit_two_pow_mul]
  have h2 : (s % 16).testBit j = (decide (j < 4) && (s % 16).testBit j) := by
    by_cases hj : j < 4
    · simp [hj]
    · have : (s % 16).testBit j = false := Nat.testBit_lt_two_pow (Nat.lt_of_lt_of_le (show s % 16 < 2 ^ 4 by omega) (Nat.pow_le_pow_right (by omega) (by omega)))
      simp [hj, this]
  by_cases hj : j < 4
  · simp [hj, show ¬ 4 ≤ j by omega]
  · rw [h2]; simp [hj, show 4 ≤ j by omega]
theorem nib (s : Nat) : bitN (bitN (bitN (bitN s))) = (s / 16) ^^^ tblN (s % 16) := by
  conv => lhs; rw [split16 s]
  simp only [bitN_xor]
  rw [tblN_bits (s % 16) (by omega)]
  congr 1
  rw [show 16 * (s / 16) = 2 * (2 * (2 * (2 * (s / 16)))) by omega]
  simp only [bitN_even]
theorem bitN_lt {s : Nat} (h : s < 2 ^ 32) : bitN s < 2 ^ 32 := by
  unfold bitN
  refine Nat.xor_lt_two_pow (by omega) ?_
  split <;> decide
/-- One byte. -/
def byteN (s b : Nat) : Nat := bitN (bitN (bitN (bitN (bitN (bitN (bitN (bitN (s ^^^ b))))))))
def stN (xs : List Int) (s : Nat) : Nat := xs.foldl (fun s b => byteN s b.toNat) s
theorem byteN_lt {s b : Nat} (h : s < 2 ^ 32) (hb : b < 256) : byteN s b < 2 ^ 32 := by
  unfold byteN
  have : s ^^^ b < 2 ^ 32 := Nat.xor_lt_two_pow h (by omega)
  exact bitN_lt (bitN_lt (bitN_lt (bitN_lt (bitN_lt (bitN_lt (bitN_lt (bitN_lt this)))))))
/-- The bytes' kind. -/
def Bytes (xs : List Int) : Prop := ∀ x ∈ xs, 0 ≤ x ∧ x < 256
theorem stN_lt : ∀ {xs : List Int} {s : Nat}, Bytes xs → s < 2 ^ 32 → stN xs s < 2 ^ 32
  | [], s, _, h => h
  | x :: xs, s, hx, h => stN_lt (xs := xs) (fun y hy => hx y (List.mem_cons_of_mem _ hy)) (byteN_lt h (by have := hx x List.mem_cons_self; omega))
/-- The sum of some bytes. -/
def crc (xs : List Int) : Int := ((stN xs 4294967295 ^^^ 4294967295 : Nat) : Int)
theorem byteN_nibs (s b : Nat) : byteN s b = (((s ^^^ b) / 16 ^^^ tblN ((s ^^^ b) % 16)) / 16) ^^^ tblN (((s ^^^ b) / 16 ^^^ tblN ((s ^^^ b) % 16)) % 16) := by
  unfold byteN
  rw [nib, nib]
theorem xor_u32 (a b : Nat) (ha : a < 2 ^ 32) (hb : b < 2 ^ 32) : bits .xor .u32 a b = ((a ^^^ b : Nat) : Int) := by
  have ha' : a % 2 ^ IntKind.u32.bits = a := Nat.mod_eq_of_lt (by simpa [IntKind.bits] using ha)
  have hb' : b % 2 ^ IntKind.u32.bits = b := Nat.mod_eq_of_lt (by simpa [IntKind.bits] using hb)
  simp only [bits, BitVec.ofInt_natCast, BitVec.toNat_xor, BitVec.toNat_ofNat, ha', hb']
  rw [IntKind.wrap_u32]
  have := Nat.xor_lt_two_pow ha hb
  omega
theorem and15_u32 (a : Nat) (ha : a < 2 ^ 32) : bits .and .u32 a 15 = ((a % 16 : Nat) : Int) := by
  have := bits_mask .u32 32 (by decide) (fun n h0 h1 => by rw [IntKind.wrap_u32]; omega) 4 (by decide) (a : Int) (by omega) (by exact_mod_cast ha)
  simpa using this
theorem tblN_lt (r : Nat) : tblN r < 2 ^ 32 := by
  unfold tblN
  split <;> decide
theorem stN_append (xs ys : List Int) (s : Nat) : stN (xs ++ ys) s = stN ys (stN xs s) := by simp [stN]
end Crc
end Go.Proofs.YtohighedgdlflaaGreatDoor

/- wire.Sum of one text is the CRC-32 of its bytes. -/
namespace Go.Proofs.YtohighedgdlflaaGreatDoor
open Go.RowKit Go.Proofs.YtohighedgdlflaaGreatDoorW.PrintWords Go.Proofs.YtohighedgdlflaaGreatDoor.PR
set_option linter.unusedVariables false
set_option linter.unusedSimpArgs false
/-- The table of package wire lies in block 0. -/
def WTab (w : World) : Prop := 0 < w.heap.size ∧ ∀ r, r < 16 → w.cell? ⟨0, r, none⟩ = some (.int .u32 (Crc.tblN r : Nat))
theorem WTab.below {w W : World} (h : WTab w) (hb : Below w.heap.size w W) : WTab W :=
  ⟨Nat.lt_of_lt_of_le h.1 hb.size, fun r hr => (hb.cell (p := ⟨0, r, none⟩) h.1).trans (h.2 r hr)⟩
set_option maxHeartbeats 400000 in
theorem sum_ok (xs : List Int) (A : Option Addr) (c pb pc : Nat) (w : World) (hT : WTab w) (hp : w.cell? ⟨pb, 0, none⟩ = some (.slice A xs.length c)) (hR : Kd.C (Kd.int .u8) w A xs.length xs) (hx : Crc.Bytes xs) :
    Calls Tryz.prog 45 #[.slice (some ⟨pb, 0, none⟩) 1 pc] w fun e w' => e = .returned (.int .u32 (Crc.crc xs)) ∧ w = w' := by
  have HT := Lib.hid hT
  have HR := Lib.hid (C_reads hR)
  have HX := Lib.hid hx
  have hm : xs.length ≤ 9223372036854775807 := HR.out.2.1
  clear hT hR hx
  go_enter Tryz.func45, Tryz.ntmps45
  go_wp2
  refine wp_loop_rounds 2 ?_
  rw [rounds_succ]
  go_wp2
  go_loop [3, 7, 16] (fun v3 v7 v16 => ∃ (k s : Nat), k ≤ xs.length ∧ v16 = .int .i64 k ∧ v3 = .int .u32 s ∧ Hid (s = Crc.stN (xs.take k) 4294967295)) (fun _ _ i => xs.length - (intOf i).toNat)
  case atStart => exact ⟨0, 4294967295, by omega, rfl, rfl, rfl⟩
  case round =>
    obtain ⟨k, s, hk, rfl, rfl, hs⟩ := hrel
    have hsl : s < 4294967296 := by
      rw [hs.out]
      exact Crc.stN_lt (fun x hx => HX.out x (List.mem_of_mem_take hx)) (by decide)
    by_cases hlt : k < xs.length
    · obtain ⟨b, hb0, hb⟩ : ∃ b : Nat, b < 256 ∧ Hid ((b : Int) = xs.getD k 0) := by
        have h := HX.out (xs.getD k 0) (by rw [List.getD_eq_getElem?_getD, List.getElem?_eq_getElem hlt]; exact List.getElem_mem hlt)
        exact ⟨(xs.getD k 0).toNat, by omega, by show (((xs.getD k 0).toNat : Nat) : Int) = _; omega⟩
      obtain ⟨ad, rfl, hcs⟩ := HR.out.2.2 (by omega)
      have hc0 : w.cell? (ad.add k) = some (.int .u8 b) := by rw [hb.out]; exact hcs k hlt
      clear hcs
      obtain ⟨s1, hs1⟩ : ∃ s1, s1 = s ^^^ b := ⟨_, rfl⟩
      have l1 : s1 < 2 ^ 32 := by rw [hs1]; exact Nat.xor_lt_two_pow hsl (by omega)
      have e1 : bits .xor .u32 (s : Int) (b : Int) = s1 := by rw [hs1]; exact Crc.xor_u32 s b hsl (by omega)
      obtain ⟨r1, hr1⟩ : ∃ r1, r1 = s1 % 16 := ⟨_, rfl⟩
      have e2 : bits .and .u32 (s1 : Int) 15 = r1 := by rw [hr1]; exact Crc.and15_u32 s1 l1
      have lr1 : r1 < 16 := by omega
      obtain ⟨t1, ht1⟩ : ∃ t1, t1 = Crc.tblN r1 := ⟨_, rfl⟩
      have c1 : w.cell? ⟨0, r1, none⟩ = some (.int .u32 t1) := by rw [ht1]; exact HT.out.2 r1 lr1
      obtain ⟨s2, hs2⟩ : ∃ s2, s2 = (s1 / 16) ^^^ t1 := ⟨_, rfl⟩
      have l2 : s2 < 2 ^ 32 := by rw [hs2, ht1]; exact Nat.xor_lt_two_pow (by omega) (Crc.tblN_lt _)
      have e3 : bits .xor .u32 ((s1 : Int) / 16) (t1 : Int) = s2 := by
        have := Crc.xor_u32 (s1 / 16) t1 (by omega) (by rw [ht1]; exact Crc.tblN_lt _)
        rw [hs2, ← this]; simp
      obtain ⟨r2, hr2⟩ : ∃ r2, r2 = s2 % 16 := ⟨_, rfl⟩
      have e4 : bits .and .u32 (s2 : Int) 15 = r2 := by rw [hr2]; exact Crc.and15_u32 s2 l2
      have lr2 : r2 < 16 := by omega
      obtain ⟨t2, ht2⟩ : ∃ t2, t2 = Crc.tblN r2 := ⟨_, rfl⟩
      have c2 : w.cell? ⟨0, r2, none⟩ = some (.int .u32 t2) := by rw [ht2]; exact HT.out.2 r2 lr2
      obtain ⟨s3, hs3⟩ : ∃ s3, s3 = (s2 / 16) ^^^ t2 := ⟨_, rfl⟩
      have e5 : bits .xor .u32 ((s2 : Int) / 16) (t2 : Int) = s3 := by
        have := Crc.xor_u32 (s2 / 16) t2 (by omega) (by rw [ht2]; exact Crc.tblN_lt _)
        rw [hs3, ← this]; simp
      have hfin : Hid (s3 = Crc.stN (xs.take (k + 1)) 4294967295) := by
        show s3 = _
        rw [List.take_succ_eq_append_getElem hlt, Crc.stN_append, ← hs.out]
        have hbb : xs[k].toNat = b := by
          have := hb.out
          rw [List.getD_eq_getElem?_getD, List.getElem?_eq_getElem hlt] at this
          simp at this; omega
        simp only [Crc.stN, List.foldl_cons, List.foldl_nil, hbb]
        rw [Crc.byteN_nibs, hs3, ht2, hr2, hs2, ht1, hr1, hs1]
      clear hs1 hr1 ht1 hs2 hr2 ht2 hs3 l1 l2
      go_wp2
      go_round
      case rel => exact ⟨k + 1, s3, by omega, by go_num, rfl, hfin⟩
      case measure => simp [intOf]; omega
    · obtain rfl : k = xs.length := by omega
      have e6 : bits .xor .u32 IntKind.u32.max (s : Int) = Crc.crc xs := by
        have := Crc.xor_u32 4294967295 s (by decide) hsl
        rw [show (IntKind.u32.max : Int) = ((4294967295 : Nat) : Int) by decide, this, Nat.xor_comm]
        unfold Crc.crc
        rw [hs.out, List.take_of_length_le (Nat.le_refl _)]
      go_wp2
      rw [rounds_succ]
      go_wp2
      go_ret
      exact ⟨rfl, rfl⟩
theorem sum_okn (xs : List Int) (n : Nat) (hn : xs.length = n) (A : Option Addr) (c pb pc : Nat) (w : World) (hT : WTab w) (hp : w.cell? ⟨pb, 0, none⟩ = some (.slice A n c)) (hR : Kd.C (Kd.int .u8) w A n xs) (hx : Crc.Bytes xs) :
    Calls Tryz.prog 45 #[.slice (some ⟨pb, 0, none⟩) 1 pc] w fun e w' => e = .returned (.int .u32 (Crc.crc xs)) ∧ w = w' := by
  subst hn
  exact sum_ok xs A c pb pc w hT hp hR hx
end Go.Proofs.YtohighedgdlflaaGreatDoor

/- What the rows' lists give the laws of package trace, and a world for the witness. -/
set_option maxRecDepth 100000
namespace Go.Proofs.YtohighedgdlflaaGreatDoor
open Go.ChangeShapes Go.WideShapes Go.ChangeAt Go.RowKit
set_option linter.unusedVariables false
namespace base
theorem own : ownKnob Tryz.prog.godebug = none := by kernel_rfl
theorem laidOut : laidOutB Tryz.prog = true := by kernel_rfl
theorem gPow : Tryz.prog.globalNamed "internal/strconv.uint64pow10" = some 1 := by kernel_rfl
theorem maxLen_cell {W : World} (h : W.ShapedOpen Tryz.prog) : ∃ m, W.cell? ⟨2, 0, none⟩ = some (.int .i64 m) := by
  obtain ⟨cs, hc, hs, hr⟩ := h.1 2 #[.int .i64 0] 3 (of_decide_eq_true (by kernel_rfl)) (by kernel_rfl)
  obtain ⟨ts, hts, _, hcell⟩ := hr (by kernel_rfl)
  have e : Tryz.prog.cellTypes Tryz.prog.depth 3 = some [3] := by kernel_rfl
  obtain rfl : [3] = ts := Option.some.inj (e.symm.trans hts)
  have h0 : 0 < cs.size := by rw [hs]; decide
  obtain ⟨u, hu, hk⟩ := hcell 0 cs[0] (Array.getElem?_eq_getElem h0)
  obtain rfl : 3 = u := Option.some.inj hu
  unfold Cell.ok at hk
  rw [Tryz.underlying3] at hk
  have hci : W.cell? ⟨2, 0, none⟩ = cs[0]? := by simp only [World.cell?, hc]; rfl
  rw [hci, Array.getElem?_eq_getElem h0]
  cases hv : cs[0] <;> rw [hv] at hk <;> simp at hk
  obtain ⟨rfl, _⟩ := hk
  exact ⟨_, rfl⟩
theorem gPowType : (Tryz.prog.globals[1]?).map (·.type) = some 174 := by kernel_rfl
theorem powCells : Tryz.prog.cellsOf 174 = 20 := by kernel_rfl
theorem cells32 : Tryz.prog.cellsOf 32 = 1 := by kernel_rfl
theorem cells31 : Tryz.prog.cellsOf 31 = 1 := by kernel_rfl
/-- The table of powers, out of the row's list. -/
theorem pow_of {rest : List (String × DataW Unit)} {W : World} (h : laidMet Tryz.prog (("internal/strconv.uint64pow10", Rows.laid_internal_strconv_uint64pow10) :: rest) W) : PTab W :=
  Lib.tabIs_of_head (rest := rest) gPow gPowType Tryz.underlying174 Tryz.underlying32 cells32 powCells h
theorem gWire : Tryz.prog.globalNamed "cloister/wire.table" = some 0 := by kernel_rfl
theorem gWireType : (Tryz.prog.globals[0]?).map (·.type) = some 130 := by kernel_rfl
theorem wireCells : Tryz.prog.cellsOf 130 = 16 := by kernel_rfl
def wireZ : List Int := [0, 498536548, 997073096, 651767980, 1994146192, 1802195444, 1303535960, 1342533948, 3988292384, 4027552580, 3604390888, 3412177804, 2607071920, 2262029012, 2685067896, 3183342108]
theorem wire_of {rest : List (String × DataW Unit)} {W : World} (h : laidMet Tryz.prog (("cloister/wire.table", Rows.laid_cloister_wire_table) :: rest) W) : WTab W := by
  have ht : Lib.TabIs Tryz.prog W "cloister/wire.table" .u32 wireZ := Lib.tabIs_of_head (rest := rest) gWire gWireType Tryz.underlying130 Tryz.underlying31 cells31 wireCells h
  have hc : ∀ r, r < 16 → W.cell? ⟨0, r, none⟩ = some (.int .u32 (Crc.tblN r : Nat)) := by
    intro r hr
    rw [ht.cell gWire r hr]
    have e : ∀ r, r < 16 → wireZ.getD r 0 = ((Crc.tblN r : Nat) : Int) := by decide
    rw [e r hr]
  exact ⟨World.block_lt_of_cell? _ _ (hc 0 (by decide)), hc⟩
/-- A world for the witness: what the door's own run lays, and Go's pinned table. -/
noncomputable def W0 (os : Os) : World :=
  { World.doorLaid Tryz.prog 4000 os with heap := (World.doorLaid Tryz.prog 4000 os).heap.modify 7 fun
      | .cells _ t fz => .cells ((Pinned.utf8FirstZ.map fun (z : Nat) => Value.int .u8 (z : Int)).toArray) t fz
      | o => o }
end base
end Go.Proofs.YtohighedgdlflaaGreatDoor

/- trace.hex writes eight hexadecimal digits. -/
namespace Go.Proofs.YtohighedgdlflaaGreatDoor
open Go.Shelf Go.RowKit Go.Sort Go.Lib Go.Proofs.YtohighedgdlflaaGreatDoorW.PrintWords Go.Proofs.YtohighedgdlflaaGreatDoor.PR
set_option linter.unusedVariables false
set_option linter.unusedSimpArgs false
/-- A hexadecimal digit. -/
def hexDig (d : Nat) : UInt8 := #[48, 49, 50, 51, 52, 53, 54, 55, 56, 57, 97, 98, 99, 100, 101, 102].getD d 0
def hexAt (n j : Nat) : UInt8 := hexDig (n / 16 ^ (7 - j) % 16)
def hexL (n : Nat) : List UInt8 := (List.range 8).map (hexAt n)
def hexS (n : Nat) : ByteArray := ⟨(hexL n).toArray⟩
set_option maxHeartbeats 1600000 in
set_option maxRecDepth 100000 in
theorem hex_ok (n : Nat) (hn : n < 4294967296) (w : World) :
    Calls Tryz.prog 36 #[.int .u32 n] w fun e w' => e = .returned (.string (hexS n)) ∧ Below w.heap.size w w' := by
  have hmk : ∀ W : World, (Instr.makeSlice 37 (.int .i64 8) (.int .i64 8)).run Tryz.prog W = .ok (.slice (some ⟨W.heap.size, 0, none⟩) 8 8) (W.alloc (.cells (Array.replicate 8 (.int .u8 0)) 5)) := fun W => by
    obtain ⟨i0, hi, hzz⟩ := Option.map_eq_some_iff.1 info5
    simp only [Prod.mk.injEq] at hzz
    obtain ⟨hz0, hz1, hz2⟩ := hzz
    have h := run_make (P := Tryz.prog) (w := W) 37 5 i0 (.int .u8 0) Tryz.underlying37 hi hz0 .i64 .i64 8 8 (by omega) (by omega) (by rw [hz2]; omega) (by omega)
    rw [h, hz1]
    rw [show madeCells (Value.int IntKind.u8 0).cells (Int.toNat 8 * 1) = Array.replicate 8 (Value.int IntKind.u8 0) from by kernel_rfl]
    rfl
  go_enter Tryz.func36, Tryz.ntmps36
  go_wp2_with fail
  go_loopw [4, 8] (fun v4 v8 wr => ∃ k : Nat, k ≤ 8 ∧ v8 = .int .i64 k ∧ Hid (Below w.heap.size w wr) ∧ Hid (∀ j < 8, wr.cell? ⟨w.heap.size, j, none⟩ = some (.int .u8 (if j < k then (hexAt n j).toNat else 0)) ∧ wr.frozen? ⟨w.heap.size, j, none⟩ = false)) (fun _ i _ => 8 - (RowKit.intOf i).toNat)
  case atStart =>
    refine ⟨0, by omega, rfl, below_alloc (Below.refl _ _) _, ?_⟩
    intro j hj
    refine ⟨?_, World.frozen?_alloc_new _ _ _ _⟩
    rw [World.cell?_alloc_new, Array.getElem?_replicate, if_pos hj, if_neg (by omega)]
  case round =>
    obtain ⟨k, hk, rfl, HB, HC⟩ := hrel
    by_cases hlt : k < 8
    · have hlt' : (k : Int) < 8 := by omega
      obtain ⟨hc, hf⟩ := HC.out k hlt
      obtain ⟨d, hd⟩ : ∃ d, d = n / 16 ^ (7 - k) % 16 := ⟨_, rfl⟩
      have hd16 : d < 16 := by omega
      have hand : bits .and .u32 ((n : Int) / 2 ^ (28 - 4 * k)) 15 = (d : Int) := by
        rw [show (n : Int) / 2 ^ (28 - 4 * k) = ((n / 2 ^ (28 - 4 * k) : Nat) : Int) from by norm_cast, Crc.and15_u32 _ (by have := Nat.div_le_self n (2 ^ (28 - 4 * k)); omega), hd]
        rw [show 28 - 4 * k = 4 * (7 - k) by omega, Nat.pow_mul]
      have Hd := Lib.hid hd
      clear hd
      go_wp2_with fail
      go_roundw
      case rel =>
        refine ⟨k + 1, by omega, by go_num, HB.out.setCell (Nat.le_refl _) _, ?_⟩
        intro j hj
        have hcell : hexAt n k = (#[48, 49, 50, 51, 52, 53, 54, 55, 56, 57, 97, 98, 99, 100, 101, 102] : Array UInt8)[d] := by
          unfold hexAt hexDig
          rw [← Hd.out]
          simp [Array.getD, hd16]
        obtain ⟨hcj, hfj⟩ := HC.out j hj
        refine ⟨?_, by rw [World.frozen?_setCell]; exact hfj⟩
        by_cases hjk : j = k
        · subst hjk
          rw [World.cell?_setCell_same _ _ _ hc, if_pos (by omega), hcell]
          rfl
        · rw [World.cell?_setCell_other _ _ _ _ (by simp [hjk]), hcj]
          have : (j < k + 1) ↔ j < k := by omega
          simp [this]
      case measure => simp [RowKit.intOf]; omega
    · obtain rfl : k = 8 := by omega
      have hcv : (convert 37 9 (.slice (some ⟨w.heap.size, 0, none⟩) 8 8)).run Tryz.prog wr = .ok (.string (hexS n)) wr := by
        have h := run_convert_bytes_back (P := Tryz.prog) wr 37 9 5 ⟨w.heap.size, 0, none⟩ 8 (hexL n) Tryz.underlying37 Tryz.underlying5 Tryz.underlying9 (fun j hj => by
          have hj8 : j < 8 := by simpa [hexL] using hj
          rw [Lib.add_plain, Nat.zero_add, (HC.out j hj8).1, if_pos hj8]
          simp [hexL])
        rw [show (hexL n).length = 8 from by simp [hexL]] at h
        exact h
      go_wp2_with fail
      go_ret
      exact ⟨rfl, HB.out⟩
end Go.Proofs.YtohighedgdlflaaGreatDoor

/- trace.forms: the table, as it lies in memory; what its write functions write. -/
namespace Go.Proofs.YtohighedgdlflaaGreatDoor
open Go.Shelf Go.RowKit Go.Sort Go.Lib Go.Proofs.YtohighedgdlflaaGreatDoorW.PrintWords Go.Proofs.YtohighedgdlflaaGreatDoor.PR
set_option linter.unusedVariables false
set_option linter.unusedSimpArgs false
/-- The names of the faults, as trace.faults lays them. -/
def faultS : List ByteArray := [⟨#[]⟩, ⟨#[97, 108, 105, 103, 110]⟩, ⟨#[111, 117, 116, 115, 105, 100, 101]⟩, ⟨#[117, 110, 109, 97, 112, 112, 101, 100]⟩, ⟨#[109, 97, 108, 102, 111, 114, 109, 101, 100]⟩, ⟨#[100, 101, 110, 105, 101, 100]⟩, ⟨#[105, 108, 108, 101, 103, 97, 108]⟩]
def kindS : List ByteArray := [⟨#[]⟩, ⟨#[108, 111, 97, 100]⟩, ⟨#[99, 97, 108, 108]⟩, ⟨#[102, 97, 117, 108, 116]⟩, ⟨#[105, 114, 113]⟩, ⟨#[99, 108, 111, 99, 107]⟩, ⟨#[104, 97, 108, 116]⟩, ⟨#[115, 97, 121]⟩]
def faultCells : Array Value := #[.string ⟨#[]⟩, .string ⟨#[97, 108, 105, 103, 110]⟩, .string ⟨#[111, 117, 116, 115, 105, 100, 101]⟩, .string ⟨#[117, 110, 109, 97, 112, 112, 101, 100]⟩, .string ⟨#[109, 97, 108, 102, 111, 114, 109, 101, 100]⟩, .string ⟨#[100, 101, 110, 105, 101, 100]⟩, .string ⟨#[105, 108, 108, 101, 103, 97, 108]⟩]
def formCells (p : Nat) : Array Value :=
  #[.string ⟨#[]⟩, .nilFunc, .int .i64 0, .nilFunc,
    .string ⟨#[108, 111, 97, 100]⟩, .func (.func 70) #[] #[], .int .i64 2, .func (.func 71) #[] #[],
    .string ⟨#[99, 97, 108, 108]⟩, .func (.func 70) #[] #[], .int .i64 2, .func (.func 71) #[] #[],
    .string ⟨#[102, 97, 117, 108, 116]⟩, .func (.func 72) #[] #[.pointer (some ⟨p, 0, none⟩)], .int .i64 2, .func (.func 73) #[] #[.pointer (some ⟨p, 0, none⟩)],
    .string ⟨#[105, 114, 113]⟩, .func (.func 77) #[] #[], .int .i64 1, .func (.func 78) #[] #[],
    .string ⟨#[99, 108, 111, 99, 107]⟩, .func (.func 80) #[] #[], .int .i64 1, .func (.func 81) #[] #[],
    .string ⟨#[104, 97, 108, 116]⟩, .func (.func 82) #[] #[], .int .i64 0, .func (.func 83) #[] #[],
    .string ⟨#[115, 97, 121]⟩, .func (.func 84) #[] #[], .int .i64 1, .func (.func 85) #[] #[]]
/-- The table lies in the three blocks from n on. -/
structure Frm (w : World) (n : Nat) : Prop where
  names : w.heap[n]? = some (.cells faultCells 9 (0, 0))
  ptr : w.heap[n + 1]? = some (.cells #[.slice (some ⟨n, 0, none⟩) 7 7] 78 (0, 0))
  tab : w.heap[n + 2]? = some (.cells (formCells (n + 1)) 74 (0, 0))
theorem heap_lt' {w : World} {n : Nat} {o : Obj} (h : w.heap[n]? = some o) : n < w.heap.size := by
  rcases Nat.lt_or_ge n w.heap.size with h' | h'
  · exact h'
  · rw [Array.getElem?_eq_none h'] at h; simp at h
theorem Frm.lt {w : World} {n : Nat} (h : Frm w n) : n + 2 < w.heap.size := heap_lt' h.tab
theorem Frm.below {w w' : World} {n : Nat} (h : Frm w n) (hb : Below w.heap.size w w') : Frm w' n := by
  have := h.lt
  exact ⟨by rw [hb.block _ (by omega)]; exact h.names, by rw [hb.block _ (by omega)]; exact h.ptr, by rw [hb.block _ (by omega)]; exact h.tab⟩
theorem Frm.others {w w' : World} {n b : Nat} (h : Frm w n) (hb : OthersKept 5 (some b) w w') (hn : b < n) : Frm w' n :=
  ⟨hb _ _ h.names (by simp; omega) (fun c fz => by simp), hb _ _ h.ptr (by simp; omega) (fun c fz => by simp), hb _ _ h.tab (by simp; omega) (fun c fz => by simp)⟩
theorem faults_ok (w : World) :
    Calls Tryz.prog 69 #[] w fun e w' => e = .returned (.slice (some ⟨w.heap.size, 0, none⟩) 7 7) ∧ w' = w.alloc (.cells faultCells 9) := by
  go_enter Tryz.func69, Tryz.ntmps69
  go_wp2_with fail
  go_ret
  exact ⟨rfl, rfl⟩
theorem forms_ok (w : World) :
    Calls Tryz.prog 32 #[] w fun e w' => e = .returned (.slice (some ⟨w.heap.size + 2, 0, none⟩) 8 8) ∧ Frm w' w.heap.size ∧ Below w.heap.size w w' := by
  go_enter Tryz.func32, Tryz.ntmps32
  go_wp2_with fail
  refine (faults_ok _).mono ?_
  rintro e w' ⟨rfl, rfl⟩
  go_wp2_with fail
  go_ret
  refine ⟨rfl, ⟨blk_alloc (blk_alloc (blk_new _ _) _) _, ?_, ?_⟩, ?_⟩
  · refine blk_alloc ?_ _
    have := blk_new (w.alloc (.cells faultCells 9)) (.cells #[.slice (some ⟨w.heap.size, 0, none⟩) 7 7] 78 (0, 0))
    rwa [World.size_alloc] at this
  · have := blk_new ((w.alloc (.cells faultCells 9)).alloc (.cells #[.slice (some ⟨w.heap.size, 0, none⟩) 7 7] 78 (0, 0))) (.cells (formCells (w.heap.size + 1)) 74 (0, 0))
    rwa [World.size_alloc, World.size_alloc] at this
  · exact below_alloc (below_alloc (below_alloc (Below.refl _ _) _) _) _
/-- What a write function hands back. -/
def WrR (w : World) (xs : List ByteArray) (e : Ending) (w' : World) : Prop :=
  ∃ v, e = .returned v ∧ Kd.string.R 9 w' w.heap.size (fun _ => True) v xs ∧ Below w.heap.size w w'
theorem WrR.mk' {w W : World} (xs : List ByteArray) (hb : Below w.heap.size w W) {n : Nat} (hn : n = xs.length) (hm : xs.length ≤ 9223372036854775807) {cs : Array Value} (hcs : cs = (xs.map Value.string).toArray) :
    WrR w xs (.returned (.slice (some ⟨W.heap.size, 0, none⟩) n n)) (W.alloc (.cells cs 9)) := by
  subst hn hcs
  refine ⟨_, rfl, ?_, hb.alloc hb.size _⟩
  refine Kd.R_of_own (enc := Value.string) (h1 := fun _ => rfl) ?_ (fun _ _ => trivial)
  have h2 := World.ownsRow_lit (base := w.heap.size) (e := 9) (size := 1) W (xs.map Value.string).toArray xs.length hb.size (by simpa [maxLen] using hm) (by simp)
  simpa [encs] using h2
theorem box_cells {w W : World} {o : Obj} (h : Below (w.heap.size + 1) (w.alloc o) W) (j : Nat) (v : Value) (hv : (w.alloc o).cell? ⟨w.heap.size, j, none⟩ = some v) : W.cell? ⟨w.heap.size, j, none⟩ = some v := by
  rw [h.cell (by simp)]; exact hv
end Go.Proofs.YtohighedgdlflaaGreatDoor

/- trace.forms: the table, as it lies in memory; what its write functions write. -/
namespace Go.Proofs.YtohighedgdlflaaGreatDoor
open Go.Shelf Go.RowKit Go.Sort Go.Lib Go.Proofs.YtohighedgdlflaaGreatDoorW.PrintWords Go.Proofs.YtohighedgdlflaaGreatDoor.PR
set_option linter.unusedVariables false
set_option linter.unusedSimpArgs false
theorem WrR.mk2 {w W : World} (xs : List ByteArray) (hb : Below w.heap.size w W) {n g : Nat} (hg : g = W.heap.size) (hn : n = xs.length) (hm : xs.length ≤ 9223372036854775807) {cs : Array Value} (hcs : cs = (xs.map Value.string).toArray) :
    WrR w xs (.returned (.slice (some ⟨g, 0, none⟩) n n)) (W.alloc (.cells cs 9)) := by subst hg; exact WrR.mk' xs hb hn hm hcs
theorem hexS_size (n : Nat) : (hexS n).size = 8 := by simp [hexS, hexL, ByteArray.size]
set_option maxRecDepth 100000 in
set_option maxHeartbeats 1000000 in
theorem w77_ok (x0 x1 x2 x3 : Int) (a b : Nat) (ha : a < 100) (w : World) :
    Calls Tryz.prog 77 #[.agg #[.int .u64 x0, .int .i64 x1, .int .i64 x2, .int .u32 x3, .int .u32 a, .int .u32 b]] w (WrR w [⟨(Lib.decDigits a).toArray⟩]) := by
  go_enter Tryz.func77, Tryz.ntmps77
  go_wp2_with fail
  have hbl : Hid (Below w.heap.size w (w.alloc (.cells #[.int .u64 x0, .int .i64 x1, .int .i64 x2, .int .u32 x3, .int .u32 a, .int .u32 b] 35))) := below_alloc (Below.refl _ _) _
  refine (Tryz.strconv_Itoa_small a ha _).mono ?_
  rintro e w1 ⟨rfl, rfl⟩
  go_wp2_with fail
  go_ret
  refine WrR.mk2 _ hbl.out (by simp) rfl ?_ rfl; simp
set_option maxRecDepth 100000 in
set_option maxHeartbeats 1000000 in
theorem w82_ok (x0 x1 x2 x3 : Int) (a b : Nat) (w : World) :
    Calls Tryz.prog 82 #[.agg #[.int .u64 x0, .int .i64 x1, .int .i64 x2, .int .u32 x3, .int .u32 a, .int .u32 b]] w (WrR w []) := by
  go_enter Tryz.func82, Tryz.ntmps82
  go_wp2_with fail
  have hbl : Hid (Below w.heap.size w (w.alloc (.cells #[.int .u64 x0, .int .i64 x1, .int .i64 x2, .int .u32 x3, .int .u32 a, .int .u32 b] 35))) := below_alloc (Below.refl _ _) _
  go_ret
  exact ⟨_, rfl, Kd.R_nil _ _ _ _ _, hbl.out⟩
set_option maxRecDepth 100000 in
set_option maxHeartbeats 1000000 in
theorem w84_ok (x0 x1 x2 x3 : Int) (a b : Nat) (ha : a < 4294967296) (w : World) :
    Calls Tryz.prog 84 #[.agg #[.int .u64 x0, .int .i64 x1, .int .i64 x2, .int .u32 x3, .int .u32 a, .int .u32 b]] w (WrR w [hexS a]) := by
  go_enter Tryz.func84, Tryz.ntmps84
  go_wp2_with fail
  have hbl : Hid (Below w.heap.size w (w.alloc (.cells #[.int .u64 x0, .int .i64 x1, .int .i64 x2, .int .u32 x3, .int .u32 a, .int .u32 b] 35))) := below_alloc (Below.refl _ _) _
  refine (hex_ok a ha _).mono ?_
  rintro e w1 ⟨rfl, hb⟩
  have HB := Lib.hid (hbl.out.trans (hb.mono hbl.out.size))
  clear hb
  go_wp2_with fail
  go_ret
  refine WrR.mk2 _ HB.out (by simp) rfl ?_ rfl; simp
set_option maxRecDepth 100000 in
set_option maxHeartbeats 1000000 in
theorem w80_ok (x0 x1 x2 x3 : Int) (a b : Nat) (ha : a < 4294967296) (hb : b < 4294967296) (w : World) :
    Calls Tryz.prog 80 #[.agg #[.int .u64 x0, .int .i64 x1, .int .i64 x2, .int .u32 x3, .int .u32 a, .int .u32 b]] w (WrR w [hexS b ++ hexS a]) := by
  go_enter Tryz.func80, Tryz.ntmps80
  go_wp2_with fail
  have hbl : Hid (Below w.heap.size w (w.alloc (.cells #[.int .u64 x0, .int .i64 x1, .int .i64 x2, .int .u32 x3, .int .u32 a, .int .u32 b] 35))) := below_alloc (Below.refl _ _) _
  have hadd : ∀ W : World, (Op.stringOp .add (hexS b) (hexS a)).run Tryz.prog W = .ok (.string (hexS b ++ hexS a)) W := fun W => run_string_add_sum W _ _ (by rw [hexS_size, hexS_size]; omega)
  go_region_with (first
    | (go_at_call 36; with_reducible refine (hex_ok b hb _).mono ?_; rintro e w5 ⟨rfl, hb5⟩; have HB5 := Lib.hid ((below_drew hbl.out).trans (hb5.mono (by simp))); have hc5 : w5.cell? ⟨w.heap.size, 4, none⟩ = some (.int .u32 a) := cell_later hb5 (by simp [World.cell?_alloc_new]); clear hb5)
    | (go_at_call 36; with_reducible refine (hex_ok a ha _).mono ?_; rintro e w6 ⟨rfl, hb6⟩; have HB6 := Lib.hid (HB5.out.trans (hb6.mono HB5.out.size)); clear hb6))
  all_goals
    go_wp2_with fail
    go_ret
    refine WrR.mk2 _ HB6.out (by simp) rfl ?_ rfl; simp
end Go.Proofs.YtohighedgdlflaaGreatDoor

/- strconv.ParseUint at base 16: eight digits that trace.hex wrote are read. -/
namespace Go.Proofs.YtohighedgdlflaaGreatDoor
open Go.Shelf Go.RowKit Go.Sort Go.Lib Go.Proofs.YtohighedgdlflaaGreatDoorW.PrintWords Go.Proofs.YtohighedgdlflaaGreatDoor.PR
set_option linter.unusedVariables false
set_option linter.unusedSimpArgs false
theorem lower_ok (c : Int) (w : World) : Calls Tryz.prog 151 #[.int .u8 c] w fun e w' => e = .returned (.int .u8 (bits .or .u8 c 32)) ∧ w' = w := by
  go_enter Tryz.func151, Tryz.ntmps151
  go_wp2_with fail
  go_ret
  exact ⟨rfl, rfl⟩
theorem hexDig_lo {d : Nat} (h : d < 10) : ((hexDig d).toNat : Int) = 48 + d := by
  rcases (show d = 0 ∨ d = 1 ∨ d = 2 ∨ d = 3 ∨ d = 4 ∨ d = 5 ∨ d = 6 ∨ d = 7 ∨ d = 8 ∨ d = 9 by omega) with h | h | h | h | h | h | h | h | h | h <;> subst h <;> rfl
theorem hexDig_hi {d : Nat} (h : ¬ d < 10) (h2 : d < 16) : ((hexDig d).toNat : Int) = 87 + d := by
  rcases (show d = 10 ∨ d = 11 ∨ d = 12 ∨ d = 13 ∨ d = 14 ∨ d = 15 by omega) with h | h | h | h | h | h <;> subst h <;> rfl
theorem or_hi {d : Nat} (h : ¬ d < 10) (h2 : d < 16) : bits .or .u8 (87 + (d : Int)) 32 = 87 + d := by
  rcases (show d = 10 ∨ d = 11 ∨ d = 12 ∨ d = 13 ∨ d = 14 ∨ d = 15 by omega) with h | h | h | h | h | h <;> subst h <;> decide
set_option maxHeartbeats 8000000 in
set_option maxRecDepth 100000 in
theorem pu136_ok (n : Nat) (hn : n < 4294967296) (w : World) :
    Calls Tryz.prog 136 #[.string (hexS n), .int .i64 16, .int .i64 32] w fun e w' => e = .returned (.tuple #[.int .u64 n, .nilIface]) ∧ Below w.heap.size w w' := by
  have hemp : (hexS n).toList.isEmpty = false := by
    rw [← decide_eq_emptyBytes]
    exact decide_eq_false (fun h => by have := hexS_size n; rw [h] at this; simp at this)
  have hcv := Lib.run_convert_string_bytes (P := Tryz.prog) w 9 37 5 (hexS n) (u := .string) Tryz.underlying9 Tryz.underlying37 Tryz.underlying5
  have hB : ∀ j, j < 8 → (Lib.bytesWorld w 5 (hexS n)).cell? ⟨w.heap.size, j, none⟩ = some (.int .u8 (hexAt n j).toNat) := fun j hj => by
    rw [Lib.bytesWorld_cell w 5 (hexS n) j (by rw [hexS_size]; omega)]
    simp [hexS, hexL, List.getD, hj]
  have hbl : Below w.heap.size w (Lib.bytesWorld w 5 (hexS n)) := bytesWorld_below w 5 (hexS n)
  obtain ⟨W1, hW1⟩ : ∃ W1, W1 = Lib.bytesWorld w 5 (hexS n) := ⟨_, rfl⟩
  rw [← hW1] at hcv hB hbl
  clear hW1
  have HBl := Lib.hid hbl
  clear hbl
  have hmv : IntKind.u64.wrap (IntKind.u64.wrap 4294967296 - 1) = 4294967295 := by
    rw [IntKind.wrap_u64, IntKind.wrap_u64]
    decide
  have hsz : (hexS n).size = 8 := hexS_size n
  rw [hsz] at hcv
  obtain ⟨s, hs⟩ : ∃ s, s = hexS n := ⟨_, rfl⟩
  rw [← hs] at hcv hemp hsz ⊢
  clear hs
  go_enter Tryz.func136, Tryz.ntmps136
  go_wp2
  go_loop [12, 13, 101] (fun vu vn vi => ∃ (k : Nat) (a : Int), vu = .bool false ∧ vn = .int .u64 a ∧ vi = .int .i64 k ∧ k ≤ 8 ∧ Hid (a = (n / 16 ^ (8 - k) : Nat)))
    (fun _ _ vi => 8 - (RowKit.intOf vi).toNat)
  case atStart => exact ⟨0, 0, rfl, rfl, rfl, by omega, by show (0 : Int) = _; simp; omega⟩
  case round =>
    obtain ⟨k, a, rfl, rfl, rfl, hk, hh⟩ := hrel
    obtain ⟨acc, hacc⟩ : ∃ acc : Nat, acc = n / 16 ^ (8 - k) := ⟨_, rfl⟩
    have ha : a = acc := by rw [hh.out, hacc]
    by_cases hkn : k < 8
    · have hc := hB k hkn
      obtain ⟨d, hd⟩ : ∃ d, d = n / 16 ^ (7 - k) % 16 := ⟨_, rfl⟩
      have hd16 : d < 16 := by omega
      have hnext : acc * 16 + d = n / 16 ^ (8 - (k + 1)) := by
        have h1 := hacc
        rw [show 8 - k = (7 - k) + 1 by omega, Nat.pow_succ, ← Nat.div_div_eq_div_mul] at h1
        rw [show 8 - (k + 1) = 7 - k by omega, h1, hd]
        omega
      have hb32 : acc * 16 + d < 4294967296 := by
        rw [hnext]
        exact Nat.lt_of_le_of_lt (Nat.div_le_self _ _) hn
      have hx : hexAt n k = hexDig d := by unfold hexAt; rw [hd]
      rw [hx] at hc
      have Hnext : Hid (a * 16 + (d : Int) = (n / 16 ^ (8 - (k + 1)) : Nat)) := by
        show a * 16 + (d : Int) = _
        rw [← hnext, ha]; norm_cast
      clear hB hx hnext hd hh
      by_cases hlo : d < 10
      · rw [hexDig_lo hlo] at hc
        have i1 : a * 16 + (d : Int) ≤ 4294967295 := by omega
        have i2 : (0 : Int) ≤ a := by omega
        obtain ⟨e, he⟩ : ∃ e : Int, e = (d : Int) := ⟨_, rfl⟩
        have i3 : (0 : Int) ≤ e := by omega
        have i4 : e ≤ 9 := by omega
        rw [← he] at i1 hc Hnext
        clear hd16 hlo hb32 hacc ha he
        go_wp2_with fail
        refine ⟨⟨k + 1, a * 16 + e, rfl, (by first | rfl | (congr 1; omega)), (by first | rfl | (congr 1; omega)), by omega, Hnext⟩, by simp [RowKit.intOf]; omega⟩
      · rw [hexDig_hi hlo hd16] at hc
        have hor := or_hi hlo hd16
        have i1 : a * 16 + (d : Int) ≤ 4294967295 := by omega
        have i2 : (0 : Int) ≤ a := by omega
        obtain ⟨e, he⟩ : ∃ e : Int, e = (d : Int) := ⟨_, rfl⟩
        have i3 : (10 : Int) ≤ e := by omega
        have i4 : e ≤ 15 := by omega
        rw [← he] at i1 hc Hnext hor
        clear hd16 hlo hb32 hacc ha he
        go_wp2_with fail
        refine (lower_ok _ _).mono ?_
        rw [hor]
        rintro e' w' ⟨rfl, rfl⟩
        go_wp2_with fail
        refine (lower_ok _ _).mono ?_
        rw [hor]
        rintro e' w' ⟨rfl, rfl⟩
        go_wp2_with fail
        refine (lower_ok _ _).mono ?_
        rw [hor]
        rintro e' w' ⟨rfl, rfl⟩
        go_wp2_with fail
        refine ⟨⟨k + 1, a * 16 + e, rfl, (by first | rfl | (congr 1; omega)), (by first | rfl | (congr 1; omega)), by omega, Hnext⟩, by simp [RowKit.intOf]; omega⟩
    · obtain rfl : k = 8 := by omega
      have hacc2 : a = n := by rw [hh.out]; simp
      subst hacc2
      go_wp2
      go_ret2
      exact ⟨rfl, HBl.out⟩
theorem pu110_ok (n : Nat) (hn : n < 4294967296) (w : World) :
    Calls Tryz.prog 110 #[.string (hexS n), .int .i64 16, .int .i64 32] w fun e w' => e = .returned (.tuple #[.int .u64 n, .nilIface]) ∧ Below w.heap.size w w' := by
  have hn2 : (n : Int) < 4294967296 := by omega
  go_enter Tryz.func110, Tryz.ntmps110
  go_wp2_with fail
  refine (pu136_ok n hn _).mono ?_
  rintro e w1 ⟨rfl, hb⟩
  have HB := Lib.hid hb
  clear hb
  go_wp2_with fail
  refine bodyPost_ret (results_tmp2 rfl _ _ _) rfl ?_
  exact ⟨rfl, HB.out⟩
theorem must_ok (w : World) : Calls Tryz.prog 75 #[.bool true] w fun e w' => e = .returned (.tuple #[]) ∧ w' = w := by
  go_enter Tryz.func75, Tryz.ntmps75
  go_wp2_with fail
  go_end0
  exact ⟨rfl, rfl⟩
abbrev digitS : ByteArray := ⟨#[48, 49, 50, 51, 52, 53, 54, 55, 56, 57, 97, 98, 99, 100, 101, 102]⟩
theorem dw_nil {α : Type} (p : α → Bool) (l : List α) (h : ∀ b ∈ l, p b = true) : l.dropWhile p = [] := by
  induction l with
  | nil => rfl
  | cons x l ih => rw [List.dropWhile_cons, if_pos (h x (by simp))]; exact ih (fun b hb => h b (by simp [hb]))
theorem trim_hex (n : Nat) : Lib.trimS (hexS n).data.toList digitS.data.toList = [] := by
  have hall : ∀ b ∈ (hexL n).reverse, digitS.data.toList.contains b = true := by
    intro b hb
    rw [List.mem_reverse] at hb
    simp only [hexL, List.mem_map] at hb
    obtain ⟨j, _, rfl⟩ := hb
    have hd : n / 16 ^ (7 - j) % 16 < 16 := by omega
    unfold hexAt
    generalize n / 16 ^ (7 - j) % 16 = d at hd
    rcases (show d = 0 ∨ d = 1 ∨ d = 2 ∨ d = 3 ∨ d = 4 ∨ d = 5 ∨ d = 6 ∨ d = 7 ∨ d = 8 ∨ d = 9 ∨ d = 10 ∨ d = 11 ∨ d = 12 ∨ d = 13 ∨ d = 14 ∨ d = 15 by omega) with h | h | h | h | h | h | h | h | h | h | h | h | h | h | h | h <;> subst h <;> decide
  have h2 : (hexL n).reverse.dropWhile (digitS.data.toList.contains ·) = [] := by
    exact dw_nil _ _ hall
  unfold Lib.trimS Lib.trimRightS Lib.trimLeftS
  rw [show (hexS n).data.toList = hexL n by simp [hexS], h2]
  rfl
theorem unhex_ok (n : Nat) (hn : n < 4294967296) (w : World) :
    Calls Tryz.prog 76 #[.string (hexS n)] w fun e w' => e = .returned (.int .u32 n) ∧ Below w.heap.size w w' := by
  have hn2 : (n : Int) < 4294967296 := by omega
  have hsz : (hexS n).size = 8 := hexS_size n
  go_enter Tryz.func76, Tryz.ntmps76
  go_wp2_with fail
  refine (Tryz.strings_Trim_laid (hexS n) digitS _ (by rw [hsz]; omega) (by decide) (ascii_of_all (by decide))).mono ?_
  rintro e w1 ⟨rfl, hb⟩
  rw [trim_hex]
  have HB := Lib.hid hb
  clear hb
  go_wp2_with fail
  refine (must_ok _).mono ?_
  rintro e w2 ⟨rfl, rfl⟩
  go_wp2_with fail
  refine (pu110_ok n hn _).mono ?_
  rintro e w3 ⟨rfl, hb⟩
  have HB3 := Lib.hid (HB.out.trans (hb.mono HB.out.size))
  clear hb
  go_wp2_with fail
  go_ret
  exact ⟨rfl, HB3.out⟩
end Go.Proofs.YtohighedgdlflaaGreatDoor

/- trace.cutLeft at digits alone: nothing is left. -/
namespace Go.Proofs.YtohighedgdlflaaGreatDoor
open Go.Shelf Go.RowKit Go.Sort Go.Lib Go.Proofs.YtohighedgdlflaaGreatDoorW.PrintWords Go.Proofs.YtohighedgdlflaaGreatDoor.PR
set_option linter.unusedVariables false
set_option linter.unusedSimpArgs false
/-- A string of digits. -/
def Digits (s : ByteArray) : Prop := ∀ (j : Nat) (h : j < s.size), 48 ≤ (s[j]'h).toNat ∧ (s[j]'h).toNat < 58
abbrev tenS : ByteArray := ⟨#[48, 49, 50, 51, 52, 53, 54, 55, 56, 57]⟩
theorem tenS_at (q : Nat) (h : q < tenS.size) : (tenS[q]'h).toNat = 48 + q := by
  have h10 : q < 10 := h
  rcases (show q = 0 ∨ q = 1 ∨ q = 2 ∨ q = 3 ∨ q = 4 ∨ q = 5 ∨ q = 6 ∨ q = 7 ∨ q = 8 ∨ q = 9 by omega) with h | h | h | h | h | h | h | h | h | h <;> subst h <;> rfl
theorem iterPos_of {w : World} {k : Nat} {s : ByteArray} {p : Nat} (h : w.heap[k]? = some (.stringIter s p)) : w.iterPos k = p := by simp [World.iterPos, h]
set_option maxHeartbeats 8000000 in
set_option maxRecDepth 100000 in
theorem cutLeft_ok (s : ByteArray) (hs : Digits s) (w : World) :
    Calls Tryz.prog 112 #[.string s, .string tenS] w fun e w' => e = .returned (.string ⟨#[]⟩) ∧ Below w.heap.size w w' := by
  have HS := Lib.hid hs
  clear hs
  go_enter Tryz.func112, Tryz.ntmps112
  go_wp2_with fail
  go_loopw [5, 6, 7, 9] (fun v5 v6 v7 v9 wr => ∃ pos : Nat, pos ≤ s.size ∧ Hid (wr.heap[w.heap.size]? = some (.stringIter s pos)) ∧ Hid (Below w.heap.size w wr)) (fun _ _ _ _ wr => s.size - wr.iterPos w.heap.size)
  case atStart => exact ⟨0, by omega, World.iter_heap _ _ _, below_alloc (Below.refl _ _) _⟩
  case round =>
    obtain ⟨pos, hpos, HI, HB⟩ := hrel
    have hpos0 := iterPos_of HI.out
    by_cases hlt : pos < s.size
    · obtain ⟨hd1, hd2⟩ := HS.out pos hlt
      have hn := fun ty => run_next_ascii_at (P := Tryz.prog) wr w.heap.size s pos ty HI.out hlt (by omega)
      obtain ⟨d, hd⟩ : ∃ d : Nat, (s[pos]'hlt).toNat = 48 + d := ⟨(s[pos]'hlt).toNat - 48, by omega⟩
      rw [hd] at hn
      have hd10 : d < 10 := by omega
      have HI1 : Hid ((wr.iterAt w.heap.size s (pos + 1)).heap[w.heap.size]? = some (.stringIter s (pos + 1))) := iterAt_heap _ _ _ _ _ HI.out
      have HB1 : Hid (Below w.heap.size w (wr.iterAt w.heap.size s (pos + 1))) := below_iterAt HB.out (Nat.le_refl _) _ _
      obtain ⟨W1, hW1⟩ : ∃ W1, W1 = wr.iterAt w.heap.size s (pos + 1) := ⟨_, rfl⟩
      rw [← hW1] at hn HI1 HB1
      clear hd hd1 hd2 hW1 HI HB
      go_wp2_with fail
      go_loopw [7, 9] (fun v7 v9 wr => ∃ q : Nat, q ≤ 10 ∧ v7 = .bool (decide (d < q)) ∧ Hid (wr.heap[W1.heap.size]? = some (.stringIter tenS q)) ∧ Hid (Below W1.heap.size W1 wr)) (fun _ _ wr => 10 - wr.iterPos W1.heap.size)
      case atStart => exact ⟨0, by omega, by simp, World.iter_heap _ _ _, below_alloc (Below.refl _ _) _⟩
      case round =>
        clear hn
        obtain ⟨q, hq, rfl, HJ, HC⟩ := hrel
        have hq0 := iterPos_of HJ.out
        by_cases hql : q < 10
        · have hn2 := fun ty => run_next_ascii_at (P := Tryz.prog) wr W1.heap.size tenS q ty HJ.out hql (by rw [tenS_at q hql]; omega)
          rw [tenS_at q hql] at hn2
          have HJ1 : Hid ((wr.iterAt W1.heap.size tenS (q + 1)).heap[W1.heap.size]? = some (.stringIter tenS (q + 1))) := iterAt_heap _ _ _ _ _ HJ.out
          have HC1 : Hid (Below W1.heap.size W1 (wr.iterAt W1.heap.size tenS (q + 1))) := below_iterAt HC.out (Nat.le_refl _) _ _
          have hm1 := iterPos_of HJ1.out
          obtain ⟨W3, hW3⟩ : ∃ W3, W3 = wr.iterAt W1.heap.size tenS (q + 1) := ⟨_, rfl⟩
          rw [← hW3] at hn2 HJ1 HC1 hm1
          clear hW3
          by_cases hdq : d < q
          · have hdec : decide (d < q) = true := decide_eq_true hdq
            rw [hdec]
            go_wp2_with fail
            go_roundw
            case rel => exact ⟨q + 1, by omega, by simp; omega, HJ1, HC1⟩
            case measure => rw [hm1, hq0]; omega
          · have hdec : decide (d < q) = false := decide_eq_false hdq
            rw [hdec]
            go_wp2_with fail
            go_roundw
            case rel =>
              refine ⟨q + 1, by omega, ?_, HJ1, HC1⟩
              congr 1
              by_cases hdq2 : d = q
              · subst hdq2; simp
              · have : ¬ (48 + (d : Int)) = 48 + (q : Int) := by omega
                simp [show ¬ d < q + 1 by omega]; omega
            case measure => rw [hm1, hq0]; omega
        · obtain rfl : q = 10 := by omega
          have hn2 := fun ty => run_next_end_at (P := Tryz.prog) wr W1.heap.size tenS 10 ty HJ.out (by decide)
          have hdec : decide (d < 10) = true := decide_eq_true hd10
          rw [hdec]
          have HI2 : Hid (wr.heap[w.heap.size]? = some (.stringIter s (pos + 1))) := by
            show wr.heap[w.heap.size]? = _
            rw [HC.out.block _ (heap_lt' HI1.out)]; exact HI1.out
          have HB2 : Hid (Below w.heap.size w wr) := HB1.out.trans (HC.out.mono HB1.out.size)
          have hm2 := iterPos_of HI2.out
          go_wp2_with fail
          go_roundw
          case rel => exact ⟨pos + 1, by omega, HI2, HB2⟩
          case measure => rw [hm2, hpos0]; omega
    · have hn := fun ty => run_next_end_at (P := Tryz.prog) wr w.heap.size s pos ty HI.out hlt
      go_wp2_with fail
      go_ret
      exact ⟨rfl, HB.out⟩
end Go.Proofs.YtohighedgdlflaaGreatDoor

/- trace.forms: the table, as it lies in memory; what its write functions write. -/
namespace Go.Proofs.YtohighedgdlflaaGreatDoor
open Go.Shelf Go.RowKit Go.Sort Go.Lib Go.Proofs.YtohighedgdlflaaGreatDoorW.PrintWords Go.Proofs.YtohighedgdlflaaGreatDoor.PR
set_option linter.unusedVariables false
set_option linter.unusedSimpArgs false
set_option maxRecDepth 100000 in
set_option maxHeartbeats 1000000 in
theorem w70_ok (x0 x1 x2 x3 : Int) (a b : Nat) (ha : a < 4294967296) (hb : b < 4294967296) (w : World) :
    Calls Tryz.prog 70 #[.agg #[.int .u64 x0, .int .i64 x1, .int .i64 x2, .int .u32 x3, .int .u32 a, .int .u32 b]] w (WrR w [hexS a, hexS b]) := by
  go_enter Tryz.func70, Tryz.ntmps70
  go_wp2_with fail
  have hbl : Hid (Below w.heap.size w (w.alloc (.cells #[.int .u64 x0, .int .i64 x1, .int .i64 x2, .int .u32 x3, .int .u32 a, .int .u32 b] 35))) := below_alloc (Below.refl _ _) _
  go_region_with (first
    | (go_at_call 36; with_reducible refine (hex_ok a ha _).mono ?_; rintro e w5 ⟨rfl, hb5⟩; have HB5 := Lib.hid ((below_drew hbl.out).trans (hb5.mono (by simp))); have hc5 : w5.cell? ⟨w.heap.size, 5, none⟩ = some (.int .u32 b) := cell_later hb5 (by simp [World.cell?_alloc_new]); clear hb5)
    | (go_at_call 36; with_reducible refine (hex_ok b hb _).mono ?_; rintro e w6 ⟨rfl, hb6⟩; have HB6 := Lib.hid (HB5.out.trans (hb6.mono HB5.out.size)); clear hb6))
  all_goals
    go_wp2_with fail
    go_ret
    exact WrR.mk' _ HB6.out rfl (by simp) rfl
end Go.Proofs.YtohighedgdlflaaGreatDoor

/- trace.forms: the table, as it lies in memory; what its write functions write. -/
namespace Go.Proofs.YtohighedgdlflaaGreatDoor
open Go.Shelf Go.RowKit Go.Sort Go.Lib Go.Proofs.YtohighedgdlflaaGreatDoorW.PrintWords Go.Proofs.YtohighedgdlflaaGreatDoor.PR
set_option linter.unusedVariables false
set_option linter.unusedSimpArgs false
set_option maxRecDepth 100000 in
set_option maxHeartbeats 1000000 in
theorem w72_ok (x0 x1 x2 x3 : Int) (a b n : Nat) (ha1 : a < 7) (hb : b < 4294967296) (w : World) (hF : Frm w n) :
    Calls Tryz.prog 72 #[.agg #[.int .u64 x0, .int .i64 x1, .int .i64 x2, .int .u32 x3, .int .u32 a, .int .u32 b], .pointer (some ⟨n + 1, 0, none⟩)] w (WrR w [faultS.getD a ByteArray.empty, hexS b]) := by
  obtain ⟨s, hs⟩ : ∃ s, s = faultS.getD a ByteArray.empty := ⟨_, rfl⟩
  rw [← hs]
  have hcell : Hid (∀ W, Below (w.heap.size + 1) (w.alloc (.cells #[.int .u64 x0, .int .i64 x1, .int .i64 x2, .int .u32 x3, .int .u32 a, .int .u32 b] 35)) W → W.cell? ⟨n + 1, 0, none⟩ = some (.slice (some ⟨n, 0, none⟩) 7 7) ∧ W.cell? ⟨n, a, none⟩ = some (.string s) ∧ W.cell? ⟨w.heap.size, 4, none⟩ = some (.int .u32 a) ∧ W.cell? ⟨w.heap.size, 5, none⟩ = some (.int .u32 b)) := by
    intro W hW
    have := hF.lt
    refine ⟨?_, ?_, ?_, ?_⟩
    · rw [hW.cell (by simp; omega), (below_alloc (Below.refl w.heap.size w) _).cell (by simp; omega)]; simp [World.cell?, hF.ptr]
    · rw [hW.cell (by simp; omega), (below_alloc (Below.refl w.heap.size w) _).cell (by simp; omega), hs]
      simp only [World.cell?, hF.names]
      rcases (show a = 0 ∨ a = 1 ∨ a = 2 ∨ a = 3 ∨ a = 4 ∨ a = 5 ∨ a = 6 by omega) with h | h | h | h | h | h | h <;> subst h <;> rfl
    · rw [hW.cell (by simp)]; simp [World.cell?_alloc_new]
    · rw [hW.cell (by simp)]; simp [World.cell?_alloc_new]
  have ha2 : (0 : Int) ≤ a ∧ (a : Int) < 7 := by omega
  clear hs hF
  go_enter Tryz.func72, Tryz.ntmps72
  go_wp2_with fail
  have hbl : Hid (Below w.heap.size w (w.alloc (.cells #[.int .u64 x0, .int .i64 x1, .int .i64 x2, .int .u32 x3, .int .u32 a, .int .u32 b] 35))) := below_alloc (Below.refl _ _) _
  obtain ⟨c1, c2, c3, c4⟩ := hcell.out _ (Below.refl _ _)
  obtain ⟨c1', c2', c3', c4'⟩ := hcell.out _ (below_drew (Below.refl _ _))
  go_region_with (go_at_call 36; with_reducible refine (hex_ok b hb _).mono ?_; rintro e w5 ⟨rfl, hb5⟩; have HB5 := Lib.hid ((below_drew hbl.out).trans (hb5.mono (by simp))); obtain ⟨d1, d2, d3, d4⟩ := hcell.out _ ((below_drew (Below.refl _ _)).trans (hb5.mono (by simp))); clear hb5)
  all_goals
    go_wp2_with fail
    go_ret
    exact WrR.mk' _ HB5.out rfl (by simp) rfl
end Go.Proofs.YtohighedgdlflaaGreatDoor

/- Which observations may be: the program's answer, and the document's, are mayB. -/
namespace Go.Proofs.YtohighedgdlflaaGreatDoor
open Go.RowKit Go.Proofs.YtohighedgdlflaaGreatDoorW.PrintWords Go.Proofs.YtohighedgdlflaaGreatDoor.PR
set_option linter.unusedVariables false
set_option linter.unusedSimpArgs false
/-- By its kind. -/
def kindB (k a b : Int) : Bool :=
  if k = 1 then true else if k = 2 then true else if k = 3 then decide (1 ≤ a) && decide (a ≤ 6) else if k = 4 then decide (a < 32) && (b == 0)
  else if k = 5 then decide (b ≤ 2147483647) else if k = 6 then (a == 0) && (b == 0) else if k = 7 then b == 0 else false
def mayB (o : S35) : Bool := decide (1 ≤ o.f1) && decide (o.f1 ≤ 8) && decide (o.f0 ≤ 9223372036854775807) && kindB o.f2 o.f4 o.f5
theorem may_f (o : S35) (k : Nat) : trace_may.f (k + 2) o.f0 o.f1 o.f2 o.f3 o.f4 o.f5 = some (mayB o) := by
  obtain ⟨t, c, q, p, a, b⟩ := o
  simp only [trace_may.f, trace_may.j0, trace_may.j1, mayB, kindB]
  by_cases h1 : c < 1
  · simp [h1, show ¬ 1 ≤ c by omega]
  · by_cases h2 : 8 < c
    · simp [h1, h2, show ¬ c ≤ 8 by omega]
    · by_cases h3 : 9223372036854775807 < t
      · simp [h1, h2, h3, show ¬ t ≤ 9223372036854775807 by omega]
      · have e1 : 1 ≤ c := by omega
        have e2 : c ≤ 8 := by omega
        have e3 : t ≤ 9223372036854775807 := by omega
        simp only [h1, h2, h3, e1, e2, e3, gt_iff_lt, if_false, decide_true, decide_false, Bool.and_true, Bool.true_and, Bool.false_eq_true]
        by_cases k1 : q = 1
        · simp [k1]
        · by_cases k2 : q = 2
          · simp [k2]
          · have b1 : (q == 1) = false := by simpa using k1
            have b2 : (q == 2) = false := by simpa using k2
            simp only [k1, k2, b2, if_false, Bool.false_eq_true]
            by_cases k3 : q = 3
            · simp only [k3, if_true]
              by_cases ha : 1 ≤ a
              · simp [ha, show a ≥ 1 from ha]
              · simp [ha]
            · by_cases k4 : q = 4
              · simp only [k4]
                by_cases ha : a < 32 <;> simp [ha]
              · by_cases k5 : q = 5
                · simp [k5]
                · by_cases k6 : q = 6
                  · simp only [k6]
                    by_cases ha : a = 0 <;> simp [ha]
                  · by_cases k7 : q = 7
                    · simp [k7]
                    · simp [k3, k4, k5, k6, k7]
theorem refMay_f (o : S35) (k : Nat) : cloisterref22_May.f (k + 2) o.f0 o.f1 o.f2 o.f3 o.f4 o.f5 = some (mayB o) := by
  obtain ⟨t, c, q, p, a, b⟩ := o
  simp only [cloisterref22_May.f, cloisterref22_May.j0, cloisterref22_May.j1, mayB, kindB]
  by_cases h1 : c < 1
  · simp [h1, show ¬ 1 ≤ c by omega]
  · by_cases h2 : 8 < c
    · simp [h1, h2, show ¬ c ≤ 8 by omega]
    · by_cases h3 : 9223372036854775807 < t
      · simp [h1, h2, h3, show ¬ t ≤ 9223372036854775807 by omega]
      · have e1 : 1 ≤ c := by omega
        have e2 : c ≤ 8 := by omega
        have e3 : t ≤ 9223372036854775807 := by omega
        simp only [h1, h2, h3, e1, e2, e3, gt_iff_lt, if_false, decide_true, decide_false, Bool.and_true, Bool.true_and, Bool.false_eq_true]
        by_cases k1 : q = 1
        · simp [k1]
        · by_cases k2 : q = 2
          · simp [k2]
          · have b1 : (q == 1) = false := by simpa using k1
            have b2 : (q == 2) = false := by simpa using k2
            simp only [k1, k2, b2, if_false, Bool.false_eq_true]
            by_cases k3 : q = 3
            · simp only [k3, if_true]
              by_cases ha : 1 ≤ a
              · simp [ha, show a ≥ 1 from ha]
              · simp [ha]
            · by_cases k4 : q = 4
              · simp only [k4]
                by_cases ha : a ≤ 31
                · simp [ha, show a < 32 by omega]
                · simp [ha, show ¬ a < 32 by omega]
              · by_cases k5 : q = 5
                · simp [k5]
                · by_cases k6 : q = 6
                  · simp only [k6]
                    by_cases ha : a = 0 <;> simp [ha]
                  · by_cases k7 : q = 7
                    · simp [k7]
                    · simp [k3, k4, k5, k6, k7]
theorem may_ok (o : S35) (w : World) : Calls Tryz.prog 33 #[.agg #[.int .u64 o.f0, .int .i64 o.f1, .int .i64 o.f2, .int .u32 o.f3, .int .u32 o.f4, .int .u32 o.f5]] w fun e w' => e = .returned (.bool (mayB o)) ∧ Below w.heap.size w w' :=
  trace_may.calls 2 _ _ _ _ _ _ _ w (may_f o 0)
theorem refMay_ok (o : S35) (w : World) : Calls Tryz.prog 40 #[.agg #[.int .u64 o.f0, .int .i64 o.f1, .int .i64 o.f2, .int .u32 o.f3, .int .u32 o.f4, .int .u32 o.f5]] w fun e w' => e = .returned (.bool (mayB o)) ∧ Below w.heap.size w w' :=
  cloisterref22_May.calls 2 _ _ _ _ _ _ _ w (refMay_f o 0)
end Go.Proofs.YtohighedgdlflaaGreatDoor

/- What the calls of package wire's Writer that a trace uses come to, where there is room. -/
namespace Go.Proofs.YtohighedgdlflaaGreatDoor
open Go.RowKit Go.Proofs.YtohighedgdlflaaGreatDoorW.PrintWords Go.Proofs.YtohighedgdlflaaGreatDoor.PR
set_option linter.unusedVariables false
set_option linter.unusedSimpArgs false
theorem room_ok (g : Nat) (lim k : Int) (A : Option Addr) (n c : Nat) (w : World) (h0 : w.cell? ⟨g, 0, none⟩ = some (.int .i64 lim)) (h1 : w.cell? ⟨g, 1, none⟩ = some (.slice A n c)) (h3 : w.cell? ⟨g, 3, none⟩ = some (.int .i64 0))
   (hl : lim ≤ 67108864) (hn : (n : Int) ≤ lim) (hk0 : 0 ≤ k) (hk : k ≤ lim - n) :
    Calls Tryz.prog 103 #[.pointer (some ⟨g, 0, none⟩), .int .i64 k] w fun e w' => e = .returned (.bool true) ∧ ∃ m, w' = w.drewN m := by
  go_enter Tryz.func103, Tryz.ntmps103
  go_wp2
  go_quiet (fail)
  go_wp2
  go_ret
  exact ⟨rfl, _, rfl⟩
theorem size32 (w : World) : Calls Tryz.prog 120 #[] w fun e w' => e = .returned (.int .i64 4) ∧ w = w' := by
  have hb : bits .xor .u32 IntKind.u32.max 0 = 4294967295 := by kernel_rfl
  go_enter Tryz.func120, Tryz.ntmps120
  go_wp2
  refine wp_loop_rounds 5 ?_
  iterate 5 (rw [rounds_succ]; go_wp2)
  go_ret
  exact ⟨rfl, rfl⟩
theorem size64 (w : World) : Calls Tryz.prog 121 #[] w fun e w' => e = .returned (.int .i64 8) ∧ w = w' := by
  have hb : bits .xor .u64 IntKind.u64.max 0 = 18446744073709551615 := by kernel_rfl
  go_enter Tryz.func121, Tryz.ntmps121
  go_wp2
  refine wp_loop_rounds 9 ?_
  iterate 9 (rw [rounds_succ]; go_wp2)
  go_ret
  exact ⟨rfl, rfl⟩
theorem size8 (w : World) : Calls Tryz.prog 122 #[] w fun e w' => e = .returned (.int .i64 1) ∧ w = w' := by
  have hb : bits .xor .u8 IntKind.u8.max 0 = 255 := by kernel_rfl
  go_enter Tryz.func122, Tryz.ntmps122
  go_wp2
  refine wp_loop_rounds 2 ?_
  iterate 2 (rw [rounds_succ]; go_wp2)
  go_ret
  exact ⟨rfl, rfl⟩
/-- Writer at block g: limit, bytes so far, open map (empty), no error. -/
structure Wr (w : World) (base g : Nat) (lim : Int) (v : Value) (xs : List Int) : Prop where
  mk' ::
  base_g : base ≤ g
  cells : ∃ mb, w.heap[g]? = some (.cells #[.int .i64 lim, v, .map (some mb), .int .i64 0] 136 (0, 0)) ∧ w.heap[mb]? = some (.map #[] 0) ∧ base ≤ mb
  own : w.ownsRow base 5 1 v xs.length (nums .u8 xs)

theorem own_ne_cells {w : World} {base : Nat} {e t : TypeId} {size n g : Nat} {v : Value} {xs : List Value} {cs : Array Value} {fr : Nat × Nat} (h : w.ownsRow base e size v n xs) (hg : w.heap[g]? = some (.cells cs t fr)) (hne : e ≠ t) : some g ≠ v.ownBlock := by
  intro hk
  obtain ⟨cells, hc⟩ := own_typed h g hk.symm
  rw [hg] at hc
  injection hc with hc
  injection hc with _ hc
  exact hne hc.symm
theorem own_ne_map {w : World} {base : Nat} {e : TypeId} {size n g : Nat} {v : Value} {xs : List Value} {es : Array MapEntry} {cl : Nat} (h : w.ownsRow base e size v n xs) (hg : w.heap[g]? = some (.map es cl)) : some g ≠ v.ownBlock := by
  intro hk
  obtain ⟨cells, hc⟩ := own_typed h g hk.symm
  rw [hg] at hc
  injection hc with hc
  cases hc
theorem heap_lt {w : World} {g : Nat} {o : Obj} (h : w.heap[g]? = some o) : g < w.heap.size := (Array.getElem?_eq_some_iff.1 h).1
theorem Wr.below {w W : World} {base g : Nat} {lim : Int} {v : Value} {xs : List Int} (h : Wr w base g lim v xs) (hb : Below w.heap.size w W) : Wr W base g lim v xs := by
  obtain ⟨hbg, ⟨mb, hg, hm, hbm⟩, ho⟩ := h
  exact ⟨hbg, ⟨mb, (hb.block g (heap_lt hg)).trans hg, (hb.block mb (heap_lt hm)).trans hm, hbm⟩, pw_own_below ho hb⟩
theorem Wr.push {w w1 : World} {base g : Nat} {lim : Int} {v v1 : Value} {xs ys : List Int} (h : Wr w base g lim v xs) (hg1 : w.grownBy w1 v.ownBlock) (ho1 : w1.ownsRow base 5 1 v1 ys.length (nums .u8 ys)) : Wr (w1.setCell ⟨g, 1, none⟩ v1) base g lim v1 ys := by
  obtain ⟨hbg, ⟨mb, hg, hm, hbm⟩, ho⟩ := h
  have e1 := (hg1.block g (heap_lt hg) (own_ne_cells ho hg (by decide))).trans hg
  have e2 := (hg1.block mb (heap_lt hm) (own_ne_map ho hm)).trans hm
  have hne : mb ≠ g := by
    rintro rfl
    rw [hg] at hm
    cases hm
  refine ⟨hbg, ⟨mb, ?_, ?_, hbm⟩, ?_⟩
  · simp [World.setCell, Array.getElem?_modify, e1]
  · rw [Below.heap_setCell _ _ _ _ hne]; exact e2
  · exact own_move ho1 (fun k hk => Below.heap_setCell _ _ _ _ (fun e => own_ne_cells ho1 e1 (by decide) (by rw [hk, e])))
/-- What a store into the writer asks. -/
theorem Wr.at1 {w w1 : World} {base g : Nat} {lim : Int} {v : Value} {xs : List Int} (h : Wr w base g lim v xs) (hg1 : w.grownBy w1 v.ownBlock) : w1.cell? ⟨g, 1, none⟩ = some v ∧ w1.frozen? ⟨g, 1, none⟩ = false := by
  obtain ⟨hbg, ⟨mb, hg, hm, hbm⟩, ho⟩ := h
  have e1 := (hg1.block g (heap_lt hg) (own_ne_cells ho hg (by decide))).trans hg
  exact ⟨by simp [World.cell?, e1], by simp [World.frozen?, e1]⟩
/-- What a call on the writer has turned: its own block and its row's. -/
def Wk (w w' : World) (g : Nat) (v v' : Value) : Prop := KeepBut w w' g v.ownBlock ∧ ∀ k, v'.ownBlock = some k → v.ownBlock = some k ∨ w.heap.size ≤ k
theorem Wk.refl (w : World) (g : Nat) (v : Value) : Wk w w g v v := ⟨⟨Nat.le_refl _, fun _ _ _ _ => rfl⟩, fun _ h => .inl h⟩
theorem Wk.trans {w w1 w2 : World} {g : Nat} {v v1 v2 : Value} (h : Wk w w1 g v v1) (k : Wk w1 w2 g v1 v2) : Wk w w2 g v v2 := by
  refine ⟨⟨Nat.le_trans h.1.1 k.1.1, fun i hi hg hr => (k.1.2 i (Nat.lt_of_lt_of_le hi h.1.1) hg (fun e => ?_)).trans (h.1.2 i hi hg hr)⟩, fun i hi => ?_⟩
  · rcases h.2 i e.symm with h' | h'
    · exact hr h'.symm
    · omega
  · rcases k.2 i hi with h' | h'
    · exact h.2 i h'
    · exact .inr (Nat.le_trans h.1.1 h')
theorem Wk.below {w W : World} {g : Nat} {v : Value} (h : Below w.heap.size w W) : Wk w W g v v := ⟨⟨h.size, fun i hi _ _ => h.block i hi⟩, fun _ h => .inl h⟩
theorem Wk.push {w w1 : World} {g : Nat} {v v1 : Value} (hg1 : w.grownBy w1 v.ownBlock) (hat : v1.ownBlock = v.ownBlock ∨ ∃ b, v1.ownBlock = some b ∧ w.heap.size ≤ b) (u : Value) : Wk w (w1.setCell ⟨g, 1, none⟩ u) g v v1 := by
  refine ⟨⟨by have := hg1.size; simpa [World.setCell] using this, fun i hi hg hr => ?_⟩, fun k hk => ?_⟩
  · rw [Below.heap_setCell _ _ _ _ hg]; exact hg1.block i hi hr
  · rcases hat with hat | hat
    · exact .inl (hat ▸ hk)
    · obtain ⟨b, hb, hle⟩ := hat; rw [hb] at hk; injection hk with hk; exact .inr (by omega)
/-- A cell of another block. -/
theorem Wk.cell {w w' : World} {g : Nat} {v v' : Value} (h : Wk w w' g v v') {p : Addr} {u : Value} (hc : w.cell? p = some u) (hg : p.block ≠ g) (hr : some p.block ≠ v.ownBlock) : w'.cell? p = some u := by
  have := h.1.2 p.block (World.block_lt_of_cell? w p hc) hg hr
  rw [World.cell?_of_block (w := w) this]; exact hc
theorem nums_snoc (k : IntKind) (xs : List Int) (y : Int) : nums k (xs ++ [y]) = nums k xs ++ [.int k y] := by simp [nums]

set_option maxHeartbeats 400000 in
theorem put32 (base g : Nat) (lim x : Int) (v : Value) (xs : List Int) (w0 w : World) (hW : Wr w base g lim v xs) (hl : lim ≤ 67108864) (hn : (xs.length : Int) + 4 ≤ lim) (hx0 : 0 ≤ x) (hx1 : x < 4294967296) (hB : Below base w0 w) :
    Calls Tryz.prog 100 #[.pointer (some ⟨g, 0, none⟩), .int .u32 x] w fun e w' => e = .returned (.tuple #[]) ∧ ∃ v', Wr w' base g lim v' (xs ++ leb 4 x) ∧ Wk w w' g v v' ∧ Below base w0 w' := by
  have hW0 := Lib.hid hW
  obtain ⟨hbg, ⟨mb, hg, hm, hbm⟩, ho⟩ := hW
  obtain ⟨A, c, rfl⟩ := own_slice ho
  have h0 : w.cell? ⟨g, 0, none⟩ = some (.int .i64 lim) := by simp [World.cell?, hg]
  have h1 : w.cell? ⟨g, 1, none⟩ = some (.slice A xs.length c) := by simp [World.cell?, hg]
  have h3 : w.cell? ⟨g, 3, none⟩ = some (.int .i64 0) := by simp [World.cell?, hg]
  go_enter Tryz.func100, Tryz.ntmps100
  go_wp2_with fail
  refine (size32 _).mono ?_
  rintro e w' ⟨rfl, rfl⟩
  go_wp2_with fail
  refine (room_ok g lim 4 A xs.length c _ h0 h1 h3 hl (by omega) (by omega) (by omega)).mono ?_
  rintro e w' ⟨rfl, m, rfl⟩
  go_wp2_with fail
  clear hg hm ho h0 h1 h3 hbm
  go_loopw [5, 12] (fun v5 v12 wr => ∃ (k : Nat) (v' : Value) (zs : List Int), k ≤ 4 ∧ v12 = .int .i64 k ∧ Hid (zs = xs ++ leb k x) ∧ Hid (Wr wr base g lim v' zs) ∧ Hid (Wk w wr g (.slice A xs.length c) v') ∧ Hid (Below base w0 wr)) (fun _ i _ => 4 - (intOf i).toNat)
  case atStart => exact ⟨0, _, xs, by omega, rfl, by simp [leb, Hid], hW0.out.below (pw_below_drewN (Below.refl _ _) m), Wk.below (pw_below_drewN (Below.refl _ _) m), pw_below_drewN hB m⟩
  case round =>
    clear hW0
    obtain ⟨k, v', zs, hk, rfl, hz, hWr, hWk, hBr⟩ := hrel
    have hzl : (zs.length : Int) = xs.length + k := by rw [hz.out]; simp [leb]
    have Hzl := Lib.hid hzl
    have hzl2 : (zs.length : Int) < lim + 1 := by omega
    clear hzl
    by_cases hlt : k < 4
    · obtain ⟨A', c', rfl⟩ := own_slice hWr.out.own
      obtain ⟨mb', hg, hm, hbm'⟩ := hWr.out.cells
      have hbs : base ≤ wr.heap.size := by have := heap_lt hg; omega
      have h1 : wr.cell? ⟨g, 1, none⟩ = some (.slice A' zs.length c') := by simp [World.cell?, hg]
      have h1a : ∀ o, (wr.alloc o).cell? ⟨g, 1, none⟩ = some (.slice A' zs.length c') := fun o => pw_cell_below (below_alloc (Below.refl _ _) o) h1
      have Hg := Lib.hid hg
      have Hm := Lib.hid hm
      clear hg hm
      go_wp2_with fail
      have hwx : IntKind.u64.wrap x = x := by rw [IntKind.wrap_u64]; omega
      have h8 : IntKind.i64.wrap (8 * (k : Int)) = 8 * k := IntWalk.i64_in _ (by omega)
      go_region_law (refine step_app1 (w0 := w0) base (by simp [Region.wanted]) (.tmp 19) (.tmp 26) 37 5 (.int .u8 0) 1 rfl Tryz.underlying37 info5 rfl (by decide) (.slice A' zs.length c') zs.length (nums .u8 zs) (.int .u8 (IntKind.u8.wrap (x / 2 ^ (8 * (k : Int)).toNat))) wr.heap.size (by simp [Act.eval]) (by simp [Act.eval]) (by simp) rfl (pw_own_below hWr.out.own (below_drew (below_alloc (Below.refl _ _) _))) (below_drew (hBr.out.alloc hbs _)) (by simp; omega) (by omega) ?_; intro v1 w1 hown hb1 hg1 hat; obtain ⟨hc1, hf1⟩ := (hWr.out.below (below_drew (below_alloc (Below.refl _ _) _))).at1 hg1; have Hown := Lib.hid hown; have Hb1 := Lib.hid hb1; have Hg1 := Lib.hid hg1; have Hat := Lib.hid hat; clear hown hb1 hg1 hat; obtain ⟨g1, cap1, hv1⟩ : ∃ g1 cap1, v1 = .slice (some ⟨g1, 0, none⟩) (zs.length + 1) cap1 := (by obtain ⟨g1, cap1, h, _⟩ := Hown.out.form (by omega); exact ⟨g1, cap1, h⟩); subst hv1)
      all_goals
        go_wp2
        go_roundw
        case measure => simp [intOf]; omega
        case rel =>
          refine ⟨k + 1, .slice (some ⟨g1, 0, none⟩) (zs.length + 1) cap1, zs ++ [x / 2 ^ (8 * k) % 256], by omega, by go_num, ?_, ?_, ?_, ?_⟩
          · have := hz.out; subst this; simp [Hid, leb_succ]
          · have e8 : IntKind.u8.wrap (x / 2 ^ (8 * (k : Int)).toNat) = x / 2 ^ (8 * k) % 256 := by rw [IntKind.wrap_u8]; congr 2
            have := Hown.out
            rw [e8, ← nums_snoc] at this
            have := (hWr.out.below (below_drew (below_alloc (Below.refl _ _) _))).push (ys := zs ++ [x / 2 ^ (8 * k) % 256]) Hg1.out (by simpa using this)
            exact Lib.hid (by simpa using this)
          · exact Lib.hid (hWk.out.trans ((Wk.below (below_drew (below_alloc (Below.refl _ _) _))).trans (Wk.push Hg1.out (Hat.out.imp id fun h => ⟨_, h, Nat.le_refl _⟩) _)))
          · exact Hb1.out.setCell (p := ⟨g, 1, none⟩) hbg _
    · obtain rfl : k = 4 := by omega
      go_wp2
      go_end0
      exact ⟨rfl, v', by rw [← hz.out]; exact hWr.out, hWk.out, hBr.out⟩
set_option maxHeartbeats 400000 in
theorem put64 (base g : Nat) (lim x : Int) (v : Value) (xs : List Int) (w0 w : World) (hW : Wr w base g lim v xs) (hl : lim ≤ 67108864) (hn : (xs.length : Int) + 8 ≤ lim) (hB : Below base w0 w) :
    Calls Tryz.prog 123 #[.pointer (some ⟨g, 0, none⟩), .int .u64 x] w fun e w' => e = .returned (.tuple #[]) ∧ ∃ v', Wr w' base g lim v' (xs ++ leb 8 x) ∧ Wk w w' g v v' ∧ Below base w0 w' := by
  have hW0 := Lib.hid hW
  obtain ⟨hbg, ⟨mb, hg, hm, hbm⟩, ho⟩ := hW
  obtain ⟨A, c, rfl⟩ := own_slice ho
  have h0 : w.cell? ⟨g, 0, none⟩ = some (.int .i64 lim) := by simp [World.cell?, hg]
  have h1 : w.cell? ⟨g, 1, none⟩ = some (.slice A xs.length c) := by simp [World.cell?, hg]
  have h3 : w.cell? ⟨g, 3, none⟩ = some (.int .i64 0) := by simp [World.cell?, hg]
  go_enter Tryz.func123, Tryz.ntmps123
  go_wp2_with fail
  refine (size64 _).mono ?_
  rintro e w' ⟨rfl, rfl⟩
  go_wp2_with fail
  refine (room_ok g lim 8 A xs.length c _ h0 h1 h3 hl (by omega) (by omega) (by omega)).mono ?_
  rintro e w' ⟨rfl, m, rfl⟩
  go_wp2_with fail
  clear hg hm ho h0 h1 h3 hbm
  go_loopw [5, 12] (fun v5 v12 wr => ∃ (k : Nat) (v' : Value) (zs : List Int), k ≤ 8 ∧ v12 = .int .i64 k ∧ Hid (zs = xs ++ leb k x) ∧ Hid (Wr wr base g lim v' zs) ∧ Hid (Wk w wr g (.slice A xs.length c) v') ∧ Hid (Below base w0 wr)) (fun _ i _ => 8 - (intOf i).toNat)
  case atStart => exact ⟨0, _, xs, by omega, rfl, by simp [leb, Hid], hW0.out.below (pw_below_drewN (Below.refl _ _) m), Wk.below (pw_below_drewN (Below.refl _ _) m), pw_below_drewN hB m⟩
  case round =>
    clear hW0
    obtain ⟨k, v', zs, hk, rfl, hz, hWr, hWk, hBr⟩ := hrel
    have hzl : (zs.length : Int) = xs.length + k := by rw [hz.out]; simp [leb]
    have Hzl := Lib.hid hzl
    have hzl2 : (zs.length : Int) < lim + 1 := by omega
    clear hzl
    by_cases hlt : k < 8
    · obtain ⟨A', c', rfl⟩ := own_slice hWr.out.own
      obtain ⟨mb', hg, hm, hbm'⟩ := hWr.out.cells
      have hbs : base ≤ wr.heap.size := by have := heap_lt hg; omega
      have h1 : wr.cell? ⟨g, 1, none⟩ = some (.slice A' zs.length c') := by simp [World.cell?, hg]
      have h1a : ∀ o, (wr.alloc o).cell? ⟨g, 1, none⟩ = some (.slice A' zs.length c') := fun o => pw_cell_below (below_alloc (Below.refl _ _) o) h1
      have Hg := Lib.hid hg
      have Hm := Lib.hid hm
      clear hg hm
      go_wp2_with fail
      have h8 : IntKind.i64.wrap (8 * (k : Int)) = 8 * k := IntWalk.i64_in _ (by omega)
      go_region_law (refine step_app1 (w0 := w0) base (by simp [Region.wanted]) (.tmp 19) (.tmp 25) 37 5 (.int .u8 0) 1 rfl Tryz.underlying37 info5 rfl (by decide) (.slice A' zs.length c') zs.length (nums .u8 zs) (.int .u8 (IntKind.u8.wrap (x / 2 ^ (8 * (k : Int)).toNat))) wr.heap.size (by simp [Act.eval]) (by simp [Act.eval]) (by simp) rfl (pw_own_below hWr.out.own (below_drew (below_alloc (Below.refl _ _) _))) (below_drew (hBr.out.alloc hbs _)) (by simp; omega) (by omega) ?_; intro v1 w1 hown hb1 hg1 hat; obtain ⟨hc1, hf1⟩ := (hWr.out.below (below_drew (below_alloc (Below.refl _ _) _))).at1 hg1; have Hown := Lib.hid hown; have Hb1 := Lib.hid hb1; have Hg1 := Lib.hid hg1; have Hat := Lib.hid hat; clear hown hb1 hg1 hat; obtain ⟨g1, cap1, hv1⟩ : ∃ g1 cap1, v1 = .slice (some ⟨g1, 0, none⟩) (zs.length + 1) cap1 := (by obtain ⟨g1, cap1, h, _⟩ := Hown.out.form (by omega); exact ⟨g1, cap1, h⟩); subst hv1)
      all_goals
        go_wp2
        go_roundw
        case measure => simp [intOf]; omega
        case rel =>
          refine ⟨k + 1, .slice (some ⟨g1, 0, none⟩) (zs.length + 1) cap1, zs ++ [x / 2 ^ (8 * k) % 256], by omega, by go_num, ?_, ?_, ?_, ?_⟩
          · have := hz.out; subst this; simp [Hid, leb_succ]
          · have e8 : IntKind.u8.wrap (x / 2 ^ (8 * (k : Int)).toNat) = x / 2 ^ (8 * k) % 256 := by rw [IntKind.wrap_u8]; congr 2
            have := Hown.out
            rw [e8, ← nums_snoc] at this
            have := (hWr.out.below (below_drew (below_alloc (Below.refl _ _) _))).push (ys := zs ++ [x / 2 ^ (8 * k) % 256]) Hg1.out (by simpa using this)
            exact Lib.hid (by simpa using this)
          · exact Lib.hid (hWk.out.trans ((Wk.below (below_drew (below_alloc (Below.refl _ _) _))).trans (Wk.push Hg1.out (Hat.out.imp id fun h => ⟨_, h, Nat.le_refl _⟩) _)))
          · exact Hb1.out.setCell (p := ⟨g, 1, none⟩) hbg _
    · obtain rfl : k = 8 := by omega
      go_wp2
      go_end0
      exact ⟨rfl, v', by rw [← hz.out]; exact hWr.out, hWk.out, hBr.out⟩
set_option maxHeartbeats 400000 in
theorem put8 (base g : Nat) (lim x : Int) (v : Value) (xs : List Int) (w0 w : World) (hW : Wr w base g lim v xs) (hl : lim ≤ 67108864) (hn : (xs.length : Int) + 1 ≤ lim) (hx0 : 0 ≤ x) (hx1 : x < 256) (hB : Below base w0 w) :
    Calls Tryz.prog 124 #[.pointer (some ⟨g, 0, none⟩), .int .u8 x] w fun e w' => e = .returned (.tuple #[]) ∧ ∃ v', Wr w' base g lim v' (xs ++ leb 1 x) ∧ Wk w w' g v v' ∧ Below base w0 w' := by
  have hW0 := Lib.hid hW
  obtain ⟨hbg, ⟨mb, hg, hm, hbm⟩, ho⟩ := hW
  obtain ⟨A, c, rfl⟩ := own_slice ho
  have h0 : w.cell? ⟨g, 0, none⟩ = some (.int .i64 lim) := by simp [World.cell?, hg]
  have h1 : w.cell? ⟨g, 1, none⟩ = some (.slice A xs.length c) := by simp [World.cell?, hg]
  have h3 : w.cell? ⟨g, 3, none⟩ = some (.int .i64 0) := by simp [World.cell?, hg]
  go_enter Tryz.func124, Tryz.ntmps124
  go_wp2_with fail
  refine (size8 _).mono ?_
  rintro e w' ⟨rfl, rfl⟩
  go_wp2_with fail
  refine (room_ok g lim 1 A xs.length c _ h0 h1 h3 hl (by omega) (by omega) (by omega)).mono ?_
  rintro e w' ⟨rfl, m, rfl⟩
  go_wp2_with fail
  clear hg hm ho h0 h1 h3 hbm
  go_loopw [5, 12] (fun v5 v12 wr => ∃ (k : Nat) (v' : Value) (zs : List Int), k ≤ 1 ∧ v12 = .int .i64 k ∧ Hid (zs = xs ++ leb k x) ∧ Hid (Wr wr base g lim v' zs) ∧ Hid (Wk w wr g (.slice A xs.length c) v') ∧ Hid (Below base w0 wr)) (fun _ i _ => 1 - (intOf i).toNat)
  case atStart => exact ⟨0, _, xs, by omega, rfl, by simp [leb, Hid], hW0.out.below (pw_below_drewN (Below.refl _ _) m), Wk.below (pw_below_drewN (Below.refl _ _) m), pw_below_drewN hB m⟩
  case round =>
    clear hW0
    obtain ⟨k, v', zs, hk, rfl, hz, hWr, hWk, hBr⟩ := hrel
    have hzl : (zs.length : Int) = xs.length + k := by rw [hz.out]; simp [leb]
    have Hzl := Lib.hid hzl
    have hzl2 : (zs.length : Int) < lim + 1 := by omega
    clear hzl
    by_cases hlt : k < 1
    · obtain ⟨A', c', rfl⟩ := own_slice hWr.out.own
      obtain ⟨mb', hg, hm, hbm'⟩ := hWr.out.cells
      have hbs : base ≤ wr.heap.size := by have := heap_lt hg; omega
      have h1 : wr.cell? ⟨g, 1, none⟩ = some (.slice A' zs.length c') := by simp [World.cell?, hg]
      have h1a : ∀ o, (wr.alloc o).cell? ⟨g, 1, none⟩ = some (.slice A' zs.length c') := fun o => pw_cell_below (below_alloc (Below.refl _ _) o) h1
      have Hg := Lib.hid hg
      have Hm := Lib.hid hm
      clear hg hm
      go_wp2_with fail
      have hwx : IntKind.u64.wrap x = x := by rw [IntKind.wrap_u64]; omega
      have h8 : IntKind.i64.wrap (8 * (k : Int)) = 8 * k := IntWalk.i64_in _ (by omega)
      go_region_law (refine step_app1 (w0 := w0) base (by simp [Region.wanted]) (.tmp 19) (.tmp 26) 37 5 (.int .u8 0) 1 rfl Tryz.underlying37 info5 rfl (by decide) (.slice A' zs.length c') zs.length (nums .u8 zs) (.int .u8 (IntKind.u8.wrap (x / 2 ^ (8 * (k : Int)).toNat))) wr.heap.size (by simp [Act.eval]) (by simp [Act.eval]) (by simp) rfl (pw_own_below hWr.out.own (below_drew (below_alloc (Below.refl _ _) _))) (below_drew (hBr.out.alloc hbs _)) (by simp; omega) (by omega) ?_; intro v1 w1 hown hb1 hg1 hat; obtain ⟨hc1, hf1⟩ := (hWr.out.below (below_drew (below_alloc (Below.refl _ _) _))).at1 hg1; have Hown := Lib.hid hown; have Hb1 := Lib.hid hb1; have Hg1 := Lib.hid hg1; have Hat := Lib.hid hat; clear hown hb1 hg1 hat; obtain ⟨g1, cap1, hv1⟩ : ∃ g1 cap1, v1 = .slice (some ⟨g1, 0, none⟩) (zs.length + 1) cap1 := (by obtain ⟨g1, cap1, h, _⟩ := Hown.out.form (by omega); exact ⟨g1, cap1, h⟩); subst hv1)
      all_goals
        go_wp2
        go_roundw
        case measure => simp [intOf]; omega
        case rel =>
          refine ⟨k + 1, .slice (some ⟨g1, 0, none⟩) (zs.length + 1) cap1, zs ++ [x / 2 ^ (8 * k) % 256], by omega, by go_num, ?_, ?_, ?_, ?_⟩
          · have := hz.out; subst this; simp [Hid, leb_succ]
          · have e8 : IntKind.u8.wrap (x / 2 ^ (8 * (k : Int)).toNat) = x / 2 ^ (8 * k) % 256 := by rw [IntKind.wrap_u8]; congr 2
            have := Hown.out
            rw [e8, ← nums_snoc] at this
            have := (hWr.out.below (below_drew (below_alloc (Below.refl _ _) _))).push (ys := zs ++ [x / 2 ^ (8 * k) % 256]) Hg1.out (by simpa using this)
            exact Lib.hid (by simpa using this)
          · exact Lib.hid (hWk.out.trans ((Wk.below (below_drew (below_alloc (Below.refl _ _) _))).trans (Wk.push Hg1.out (Hat.out.imp id fun h => ⟨_, h, Nat.le_refl _⟩) _)))
          · exact Hb1.out.setCell (p := ⟨g, 1, none⟩) hbg _
    · obtain rfl : k = 1 := by omega
      go_wp2
      go_end0
      exact ⟨rfl, v', by rw [← hz.out]; exact hWr.out, hWk.out, hBr.out⟩
end Go.Proofs.YtohighedgdlflaaGreatDoor

/- The Writer's calls Word, Long, Byte, Raw, Done and NewWriter, and the row that package trace writes. -/
namespace Go.Proofs.YtohighedgdlflaaGreatDoor
open Go.RowKit Go.Proofs.YtohighedgdlflaaGreatDoorW.PrintWords Go.Proofs.YtohighedgdlflaaGreatDoor.PR
set_option linter.unusedVariables false
set_option linter.unusedSimpArgs false
theorem word_ok (base g : Nat) (lim x : Int) (v : Value) (xs : List Int) (w0 w : World) (hW : Wr w base g lim v xs) (hl : lim ≤ 67108864) (hn : (xs.length : Int) + 4 ≤ lim) (hx0 : 0 ≤ x) (hx1 : x < 4294967296) (hB : Below base w0 w) :
    Calls Tryz.prog 56 #[.pointer (some ⟨g, 0, none⟩), .int .u32 x] w fun e w' => e = .returned (.tuple #[]) ∧ ∃ v', Wr w' base g lim v' (xs ++ leb 4 x) ∧ Wk w w' g v v' ∧ Below base w0 w' := by
  go_enter Tryz.func56, Tryz.ntmps56
  go_wp2_with fail
  refine (put32 base g lim x v xs w0 _ hW hl hn hx0 hx1 hB).mono ?_
  rintro e w' ⟨rfl, h⟩
  go_wp2_with fail
  go_end0
  exact ⟨rfl, h⟩
theorem long_ok (base g : Nat) (lim x : Int) (v : Value) (xs : List Int) (w0 w : World) (hW : Wr w base g lim v xs) (hl : lim ≤ 67108864) (hn : (xs.length : Int) + 8 ≤ lim) (hB : Below base w0 w) :
    Calls Tryz.prog 101 #[.pointer (some ⟨g, 0, none⟩), .int .u64 x] w fun e w' => e = .returned (.tuple #[]) ∧ ∃ v', Wr w' base g lim v' (xs ++ leb 8 x) ∧ Wk w w' g v v' ∧ Below base w0 w' := by
  go_enter Tryz.func101, Tryz.ntmps101
  go_wp2_with fail
  refine (put64 base g lim x v xs w0 _ hW hl hn hB).mono ?_
  rintro e w' ⟨rfl, h⟩
  go_wp2_with fail
  go_end0
  exact ⟨rfl, h⟩
theorem byte_ok (base g : Nat) (lim x : Int) (v : Value) (xs : List Int) (w0 w : World) (hW : Wr w base g lim v xs) (hl : lim ≤ 67108864) (hn : (xs.length : Int) + 1 ≤ lim) (hx0 : 0 ≤ x) (hx1 : x < 256) (hB : Below base w0 w) :
    Calls Tryz.prog 102 #[.pointer (some ⟨g, 0, none⟩), .int .u8 x] w fun e w' => e = .returned (.tuple #[]) ∧ ∃ v', Wr w' base g lim v' (xs ++ leb 1 x) ∧ Wk w w' g v v' ∧ Below base w0 w' := by
  go_enter Tryz.func102, Tryz.ntmps102
  go_wp2_with fail
  refine (put8 base g lim x v xs w0 _ hW hl hn hx0 hx1 hB).mono ?_
  rintro e w' ⟨rfl, h⟩
  go_wp2_with fail
  go_end0
  exact ⟨rfl, h⟩
/-- An observation's row. -/
def rowB (o : S35) : List Int := leb 8 o.f0 ++ leb 1 (o.f1 % 256) ++ leb 1 (o.f2 % 256) ++ leb 4 o.f3 ++ leb 4 o.f4 ++ leb 4 o.f5
theorem rowB_length (o : S35) : (rowB o).length = 22 := by simp [rowB, leb_length]
/-- The kinds of an observation's fields (those that the calls below lean on). -/
def Fits (o : S35) : Prop := 0 ≤ o.f3 ∧ o.f3 < 4294967296 ∧ 0 ≤ o.f4 ∧ o.f4 < 4294967296 ∧ 0 ≤ o.f5 ∧ o.f5 < 4294967296
def obsV (o : S35) : Value := .agg #[.int .u64 o.f0, .int .i64 o.f1, .int .i64 o.f2, .int .u32 o.f3, .int .u32 o.f4, .int .u32 o.f5]
/-- Six cells of an observation at the head of a block. -/
def Ob6 (w : World) (B : Nat) (o : S35) : Prop := w.heap[B]? = some (.cells #[.int .u64 o.f0, .int .i64 o.f1, .int .i64 o.f2, .int .u32 o.f3, .int .u32 o.f4, .int .u32 o.f5] 35 (0, 0))
theorem Ob6.wk {w w' : World} {B g : Nat} {o : S35} {v v' : Value} {base n : Nat} {xs : List Value} (h : Ob6 w B o) (hk : Wk w w' g v v') (hg : B ≠ g) (ho : w.ownsRow base 5 1 v n xs) : Ob6 w' B o :=
  (hk.1.2 B (heap_lt h) hg (own_ne_cells ho h (by decide))).trans h
theorem Ob6.cells {w : World} {B : Nat} {o : S35} (h : Ob6 w B o) : w.cell? ⟨B, 0, none⟩ = some (.int .u64 o.f0) ∧ w.cell? ⟨B, 1, none⟩ = some (.int .i64 o.f1) ∧ w.cell? ⟨B, 2, none⟩ = some (.int .i64 o.f2) ∧ w.cell? ⟨B, 3, none⟩ = some (.int .u32 o.f3) ∧ w.cell? ⟨B, 4, none⟩ = some (.int .u32 o.f4) ∧ w.cell? ⟨B, 5, none⟩ = some (.int .u32 o.f5) := by
  unfold Ob6 at h
  refine ⟨?_, ?_, ?_, ?_, ?_, ?_⟩ <;> simp [World.cell?, h]
set_option maxHeartbeats 400000 in
theorem row_ok (base g : Nat) (lim : Int) (o : S35) (v : Value) (xs : List Int) (w0 w : World) (hW : Wr w base g lim v xs) (hl : lim ≤ 67108864) (hn : (xs.length : Int) + 22 ≤ lim) (ho : Fits o) (hB : Below base w0 w) :
    Calls Tryz.prog 57 #[.pointer (some ⟨g, 0, none⟩), obsV o] w fun e w' => e = .returned (.tuple #[]) ∧ ∃ v', Wr w' base g lim v' (xs ++ rowB o) ∧ Wk w w' g v v' ∧ Below base w0 w' := by
  obtain ⟨h1, h2, h3, h4, h5, h6⟩ := ho
  simp only [obsV] at *
  have hs : base ≤ w.heap.size ∧ g < w.heap.size := by obtain ⟨mb, hg, _, _⟩ := hW.cells; have := hW.base_g; have := heap_lt hg; omega
  obtain ⟨hs, hgs⟩ := hs
  obtain ⟨bx, hbx⟩ : ∃ bx, bx = (Obj.cells #[.int .u64 o.f0, .int .i64 o.f1, .int .i64 o.f2, .int .u32 o.f3, .int .u32 o.f4, .int .u32 o.f5] 35 : Obj) := ⟨_, rfl⟩
  have hbl := below_alloc (Below.refl w.heap.size w) bx
  have HW := Lib.hid (hW.below hbl)
  have HB := Lib.hid (hB.alloc hs bx)
  have HK := Lib.hid (Wk.below (g := g) (v := v) hbl)
  have HO : Ob6 (w.alloc bx) w.heap.size o := by unfold Ob6; rw [hbx]; exact heap_alloc_new w _
  have hne : w.heap.size ≠ g := by omega
  subst hbx
  clear hW hB hbl
  go_enter Tryz.func57, Tryz.ntmps57
  go_wp2_with fail
  refine (long_ok base g lim _ v xs w0 _ HW.out hl (by omega) HB.out).mono ?_
  rintro e w1 ⟨rfl, v1, hW1, hK1, hB1⟩
  replace HO := HO.wk hK1 hne HW.out.own
  replace HK := Lib.hid (HK.out.trans hK1)
  have hc := HO.cells
  obtain ⟨c0, c1, c2, c3, c4, c5⟩ := hc
  have HW1 := Lib.hid hW1; have HB1 := Lib.hid hB1; clear hW1 hB1 hK1 HW HB
  go_wp2_with fail
  refine (byte_ok base g lim (o.f1 % 256) _ _ w0 _ HW1.out hl (by simp [leb_length]; omega) (by omega) (by omega) HB1.out).mono ?_
  clear c0 c1 c2 c3 c4 c5
  rintro e w2 ⟨rfl, v2, hW2, hK2, hB2⟩
  replace HO := HO.wk hK2 hne HW1.out.own
  replace HK := Lib.hid (HK.out.trans hK2)
  obtain ⟨c0, c1, c2, c3, c4, c5⟩ := HO.cells
  have HW2 := Lib.hid hW2; have HB2 := Lib.hid hB2; clear hW2 hB2 hK2 HW1 HB1
  go_wp2_with fail
  refine (byte_ok base g lim (o.f2 % 256) _ _ w0 _ HW2.out hl (by simp [leb_length]; omega) (by omega) (by omega) HB2.out).mono ?_
  clear c0 c1 c2 c3 c4 c5
  rintro e w3 ⟨rfl, v3, hW3, hK3, hB3⟩
  replace HO := HO.wk hK3 hne HW2.out.own
  replace HK := Lib.hid (HK.out.trans hK3)
  obtain ⟨c0, c1, c2, c3, c4, c5⟩ := HO.cells
  have HW3 := Lib.hid hW3; have HB3 := Lib.hid hB3; clear hW3 hB3 hK3 HW2 HB2
  go_wp2_with fail
  refine (word_ok base g lim o.f3 _ _ w0 _ HW3.out hl (by simp [leb_length]; omega) (by omega) (by omega) HB3.out).mono ?_
  clear c0 c1 c2 c3 c4 c5
  rintro e w4 ⟨rfl, v4, hW4, hK4, hB4⟩
  replace HO := HO.wk hK4 hne HW3.out.own
  replace HK := Lib.hid (HK.out.trans hK4)
  obtain ⟨c0, c1, c2, c3, c4, c5⟩ := HO.cells
  have HW4 := Lib.hid hW4; have HB4 := Lib.hid hB4; clear hW4 hB4 hK4 HW3 HB3
  go_wp2_with fail
  refine (word_ok base g lim o.f4 _ _ w0 _ HW4.out hl (by simp [leb_length]; omega) (by omega) (by omega) HB4.out).mono ?_
  clear c0 c1 c2 c3 c4 c5
  rintro e w5 ⟨rfl, v5, hW5, hK5, hB5⟩
  replace HO := HO.wk hK5 hne HW4.out.own
  replace HK := Lib.hid (HK.out.trans hK5)
  obtain ⟨c0, c1, c2, c3, c4, c5⟩ := HO.cells
  have HW5 := Lib.hid hW5; have HB5 := Lib.hid hB5; clear hW5 hB5 hK5 HW4 HB4
  go_wp2_with fail
  refine (word_ok base g lim o.f5 _ _ w0 _ HW5.out hl (by simp [leb_length]; omega) (by omega) (by omega) HB5.out).mono ?_
  clear c0 c1 c2 c3 c4 c5
  rintro e w6 ⟨rfl, v6, hW6, hK6, hB6⟩
  replace HK := Lib.hid (HK.out.trans hK6)
  have HW6 := Lib.hid hW6; have HB6 := Lib.hid hB6; clear hW6 hB6 hK6 HW5 HB5 HO
  go_wp2_with fail
  go_end0
  exact ⟨rfl, v6, by simpa [rowB] using HW6.out, HK.out, HB6.out⟩
end Go.Proofs.YtohighedgdlflaaGreatDoor

/- What trace.Text writes. -/
namespace Go.Proofs.YtohighedgdlflaaGreatDoor
open Go.Shelf Go.RowKit Go.Sort Go.Lib Go.Proofs.YtohighedgdlflaaGreatDoorW.PrintWords Go.Proofs.YtohighedgdlflaaGreatDoor.PR
set_option linter.unusedVariables false
set_option linter.unusedSimpArgs false
def decS (n : Nat) : ByteArray := ⟨(Lib.decDigits n).toArray⟩
/-- The words behind the place. -/
def writeL (o : S35) : List ByteArray :=
  if o.f2 = 1 ∨ o.f2 = 2 then [hexS o.f4.toNat, hexS o.f5.toNat]
  else if o.f2 = 3 then [faultS.getD o.f4.toNat ByteArray.empty, hexS o.f5.toNat]
  else if o.f2 = 4 then [decS o.f4.toNat]
  else if o.f2 = 5 then [hexS o.f5.toNat ++ hexS o.f4.toNat]
  else if o.f2 = 7 then [hexS o.f4.toNat]
  else []
def headL (o : S35) : List ByteArray := [decS o.f0.toNat, decS o.f1.toNat, kindS.getD o.f2.toNat ByteArray.empty, hexS o.f3.toNat]
def wordsL (o : S35) : List ByteArray := headL o ++ writeL o
def lineB (o : S35) : List UInt8 := Lib.join ((wordsL o).map (·.data.toList)) [32] ++ [10]
def textB (l : List S35) : List UInt8 := l.flatMap lineB
def textS (l : List S35) : ByteArray := ⟨(textB l).toArray⟩
def TextR (w : World) (l : List S35) (e : Ending) (w' : World) : Prop :=
  e = .returned (.tuple #[.string (if l.all mayB = true then textS l else ⟨#[]⟩), .int .i64 (if l.all mayB = true then 0 else 220)]) ∧ Below w.heap.size w w'
theorem TextR.bad {w W : World} {l : List S35} (hb : l.all mayB = false) (h : Below w.heap.size w W) : TextR w l (.returned (.tuple #[.string ⟨#[]⟩, .int .i64 220])) W :=
  ⟨by rw [hb]; rfl, h⟩
theorem decS_size (n : Nat) : (decS n).size = Lib.nDigits n := by
  have := Lib.decDigits_length n
  simpa [decS, ByteArray.size] using this
theorem nd_small {n : Nat} (h : n < 10) : Lib.nDigits n = 1 := Lib.nDigits_small h
theorem words_len (o : S35) (h0 : o.f0 < 18446744073709551616) (h1 : o.f1 < 18446744073709551616) (h4 : o.f4 < 18446744073709551616) : (lineB o).length ≤ 200 := by
  have d0 : (decS o.f0.toNat).data.toList.length ≤ 20 := by
    rw [← Lib.size_eq, decS_size]; exact Lib.nDigits_le20 _ (by omega)
  have d1 : (decS o.f1.toNat).data.toList.length ≤ 20 := by
    rw [← Lib.size_eq, decS_size]; exact Lib.nDigits_le20 _ (by omega)
  have d4 : (decS o.f4.toNat).data.toList.length ≤ 20 := by
    rw [← Lib.size_eq, decS_size]; exact Lib.nDigits_le20 _ (by omega)
  have hx : ∀ n, (hexS n).data.toList.length = 8 := fun n => by rw [← Lib.size_eq, hexS_size]
  have hk : (kindS.getD o.f2.toNat ByteArray.empty).data.toList.length ≤ 9 := by
    rcases (show o.f2.toNat = 0 ∨ o.f2.toNat = 1 ∨ o.f2.toNat = 2 ∨ o.f2.toNat = 3 ∨ o.f2.toNat = 4 ∨ o.f2.toNat = 5 ∨ o.f2.toNat = 6 ∨ o.f2.toNat = 7 ∨ 8 ≤ o.f2.toNat by omega) with h | h | h | h | h | h | h | h | h
    all_goals first | (rw [h]; decide) | (rw [List.getD_eq_getElem?_getD, List.getElem?_eq_none (by simpa [kindS] using h)]; exact Nat.zero_le _)
  have hf : (faultS.getD o.f4.toNat ByteArray.empty).data.toList.length ≤ 9 := by
    rcases (show o.f4.toNat = 0 ∨ o.f4.toNat = 1 ∨ o.f4.toNat = 2 ∨ o.f4.toNat = 3 ∨ o.f4.toNat = 4 ∨ o.f4.toNat = 5 ∨ o.f4.toNat = 6 ∨ 7 ≤ o.f4.toNat by omega) with h | h | h | h | h | h | h | h
    all_goals first | (rw [h]; decide) | (rw [List.getD_eq_getElem?_getD, List.getElem?_eq_none (by simpa [faultS] using h)]; exact Nat.zero_le _)
  have happ : ∀ a b : Nat, (hexS a ++ hexS b).data.toList.length = 16 := fun a b => by
    rw [← Lib.size_eq, ByteArray.size_append, hexS_size, hexS_size]
  have hxa := hx o.f3.toNat
  have hxb := hx o.f4.toNat
  have hxc := hx o.f5.toNat
  have hxd := happ o.f5.toNat o.f4.toNat
  have hs : ∀ xs : List (List UInt8), (Lib.join xs [32]).length ≤ Lib.lens xs + xs.length := fun xs => by
    cases xs with
    | nil => simp [Lib.join_nil]
    | cons x r => rw [Lib.join_cons, List.length_append, Lib.joinTail_length]; simp [Lib.lens]; omega
  have := hs ((wordsL o).map (·.data.toList))
  unfold lineB
  rw [List.length_append]
  refine Nat.le_trans (Nat.add_le_add_right this _) ?_
  unfold wordsL headL writeL
  split
  · simp only [Lib.lens, List.map_cons, List.map_nil, List.cons_append, List.nil_append, List.sum_cons, List.sum_nil, List.length_cons, List.length_nil]; omega
  · split
    · simp only [Lib.lens, List.map_cons, List.map_nil, List.cons_append, List.nil_append, List.sum_cons, List.sum_nil, List.length_cons, List.length_nil]; omega
    · split
      · simp only [Lib.lens, List.map_cons, List.map_nil, List.cons_append, List.nil_append, List.sum_cons, List.sum_nil, List.length_cons, List.length_nil]; omega
      · split
        · simp only [Lib.lens, List.map_cons, List.map_nil, List.cons_append, List.nil_append, List.sum_cons, List.sum_nil, List.length_cons, List.length_nil]; omega
        · split <;> (simp only [Lib.lens, List.map_cons, List.map_nil, List.cons_append, List.nil_append, List.append_nil, List.sum_cons, List.sum_nil, List.length_cons, List.length_nil]; omega)
theorem text_len (l : List S35) (h : ∀ o ∈ l, (lineB o).length ≤ 200) : (textB l).length ≤ 200 * l.length := by
  induction l with
  | nil => simp [textB]
  | cons o l ih =>
    have h1 := h o (by simp)
    have h2 := ih (fun x hx => h x (by simp [hx]))
    simp only [textB, List.flatMap_cons, List.length_append, List.length_cons] at h2 ⊢
    omega
end Go.Proofs.YtohighedgdlflaaGreatDoor

/- Decimal digits, read again. -/
namespace Go.Proofs.YtohighedgdlflaaGreatDoor
open Go.Shelf Go.RowKit Go.Sort Go.Lib Go.Proofs.YtohighedgdlflaaGreatDoorW.PrintWords Go.Proofs.YtohighedgdlflaaGreatDoor.PR
set_option linter.unusedVariables false
set_option linter.unusedSimpArgs false
theorem pm_append (M : Nat) (ys : List UInt8) : ∀ (xs : List UInt8) (acc v : Nat), Lib.parseUintM M acc xs = .ok v → Lib.parseUintM M acc (xs ++ ys) = Lib.parseUintM M v ys
  | [], acc, v, h => by simp [Lib.parseUintM] at h; subst h; rfl
  | c :: r, acc, v, h => by
    simp only [Lib.parseUintM, List.cons_append] at h ⊢
    split at h
    · split at h
      · cases h
      · split at h
        · cases h
        · rename_i h1 h2 h3
          rw [if_pos h1, if_neg h2, if_neg h3]
          exact pm_append M ys r _ v h
    · cases h
theorem dec_step {u : Nat} (h : ¬ u < 10) : Lib.decDigits u = Lib.decDigits (u / 10) ++ [UInt8.ofNat (48 + u % 10)] := by
  rw [Lib.decDigits, dif_neg h]
theorem dec_small {u : Nat} (h : u < 10) : Lib.decDigits u = [UInt8.ofNat (48 + u)] := by
  rw [Lib.decDigits, dif_pos h]
theorem pm_dec : ∀ (u : Nat), u < 18446744073709551616 → Lib.parseUintM 18446744073709551615 0 (Lib.decDigits u) = .ok u := by
  intro u
  induction u using Nat.strongRecOn with
  | ind u ih =>
    intro hu
    by_cases h : u < 10
    · rw [dec_small h]
      have hc : (UInt8.ofNat (48 + u)).toNat = 48 + u := by simp; omega
      simp only [Lib.parseUintM, hc]
      rw [if_pos (by omega), if_neg (by omega), if_neg (by omega)]
      congr 1; omega
    · rw [dec_step h, pm_append _ _ _ _ _ (ih (u / 10) (by omega) (by omega))]
      have hc : (UInt8.ofNat (48 + u % 10)).toNat = 48 + u % 10 := by simp; omega
      simp only [Lib.parseUintM, hc]
      rw [if_pos (by omega), if_neg (by omega), if_neg (by omega)]
      congr 1; omega
theorem dec_ne (u : Nat) : Lib.decDigits u ≠ [] := by
  intro h
  have := Lib.decDigits_length u
  rw [h] at this
  have := Lib.nDigits_pos u
  simp at *; omega
theorem pb_dec (u : Nat) (hu : u < 18446744073709551616) : Lib.parseUintB 64 (decS u).data.toList = .ok u := by
  unfold Lib.parseUintB
  rw [show (decS u).data.toList = Lib.decDigits u by simp [decS], if_neg (dec_ne u)]
  exact pm_dec u hu
theorem u8n {k : Nat} (h : k < 256) : (UInt8.ofNat k).toNat = k := by simp; omega
theorem dec_mem : ∀ (u : Nat), ∀ b ∈ Lib.decDigits u, 48 ≤ b.toNat ∧ b.toNat < 58 := by
  intro u
  induction u using Nat.strongRecOn with
  | ind u ih =>
    intro b hb
    by_cases h : u < 10
    · rw [dec_small h] at hb
      rw [List.mem_singleton] at hb
      rw [hb, u8n (by omega)]; omega
    · rw [dec_step h] at hb
      rcases List.mem_append.1 hb with h1 | h1
      · exact ih (u / 10) (by omega) b h1
      · rw [List.mem_singleton] at h1
        rw [h1, u8n (by omega)]; omega
theorem dec_head : ∀ (u : Nat), u ≠ 0 → ∀ c, (Lib.decDigits u)[0]? = some c → c.toNat ≠ 48 := by
  intro u
  induction u using Nat.strongRecOn with
  | ind u ih =>
    intro hu c hc
    by_cases h : u < 10
    · rw [dec_small h] at hc
      simp only [List.getElem?_cons_zero, Option.some.injEq] at hc
      rw [← hc, u8n (by omega)]; omega
    · rw [dec_step h, List.getElem?_append_left (by rw [Lib.decDigits_length]; exact Lib.nDigits_pos _)] at hc
      exact ih (u / 10) (by omega) (by omega) c hc
theorem dec_digits (u : Nat) : Digits (decS u) := by
  intro j h
  have : (decS u)[j]'h ∈ Lib.decDigits u := by
    have h2 : j < (Lib.decDigits u).length := by rw [Lib.decDigits_length, ← decS_size]; exact h
    have h3 : (decS u)[j]'h = (Lib.decDigits u)[j] := rfl
    rw [h3]; exact List.getElem_mem h2
  exact dec_mem u _ this
theorem cutRight_ok (w : World) : Calls Tryz.prog 111 #[.string ⟨#[]⟩, .string tenS] w fun e w' => e = .returned (.string ⟨#[]⟩) ∧ w' = w := by
  go_enter Tryz.func111, Tryz.ntmps111
  go_wp2_with fail
  go_loop [0] (fun v0 => v0 = .string ⟨#[]⟩) (fun _ => 0)
  case atStart => rfl
  case round =>
    obtain rfl := hrel
    go_wp2_with fail
    go_ret
    exact ⟨rfl, rfl⟩
theorem decimal_0 (m : Nat) (w : World) :
    Calls Tryz.prog 79 #[.string ⟨#[48]⟩, .int .u64 m] w fun e w' => e = .returned (.int .u64 0) ∧ Below w.heap.size w w' := by
  have HSZ : Hid ((⟨#[48]⟩ : ByteArray).size = 1) := rfl
  have HD : Hid (Digits ⟨#[48]⟩) := by
    intro j h
    obtain rfl : j = 0 := by have : j < 1 := h; omega
    have h48 : ((⟨#[48]⟩ : ByteArray)[0]'h) = 48 := rfl
    rw [h48]; decide
  have HP : Hid (Lib.parseUintB 64 (⟨#[48]⟩ : ByteArray).data.toList = .ok 0) := by
    have := pb_dec 0 (by decide)
    rwa [show decS 0 = ⟨#[48]⟩ by unfold decS; rw [dec_small (by decide)]; rfl] at this
  have hm : (0 : Int) ≤ m := by omega
  have hslc : ∀ W : World, (Instr.slice 9 (.string digitS) none (some (.int .i64 10)) none).run Tryz.prog W = .ok (.string tenS) W := fun W => by kernel_rfl
  have HB0 := Lib.hid (Below.refl w.heap.size w)
  go_enter Tryz.func79, Tryz.ntmps79
  go_wp2_with fail
  go_region_held3 (fun W => Hid (Below w.heap.size w W))
    (first
      | exact HB0
      | exact Lib.hid (below_drew HB0.out)
      | exact HB5)
    (first
      | (go_at_call 112; with_reducible refine (cutLeft_ok _ HD.out _).mono ?_; rintro e w5 ⟨rfl, hb5⟩; have HB5 := Lib.hid ((below_drew HB0.out).trans (hb5.mono (by simp))))
      | (go_at_call 111; with_reducible refine (cutRight_ok _).mono ?_; rintro e w6 ⟨rfl, rfl⟩)
      | (go_at_call 75; with_reducible refine (must_ok _).mono ?_; rintro e w7 ⟨rfl, rfl⟩))
  go_wp2_with fail
  refine (Tryz.strconv_ParseUint_10_at64_ok _ (by first | (rw [HSZ.out]; omega) | decide) _ HP.out _).mono ?_
  rintro e w8 ⟨rfl, hw8⟩
  have HB8 : Hid (Below w.heap.size w w8) := by
    rcases hw8 with rfl | rfl
    · exact HB5
    · exact HB5.out.trans ((bytesWorld_below _ _ _).mono HB5.out.size)
  clear hw8
  go_wp2_with fail
  refine (must_ok _).mono ?_
  rintro e w9 ⟨rfl, rfl⟩
  go_wp2_with fail
  go_ret
  exact ⟨rfl, HB8.out⟩
theorem decimal_ok (u m : Nat) (hu : u < 18446744073709551616) (hm : u ≤ m) (w : World) :
    Calls Tryz.prog 79 #[.string (decS u), .int .u64 m] w fun e w' => e = .returned (.int .u64 u) ∧ Below w.heap.size w w' := by
  by_cases hu0 : u = 0
  · subst hu0
    have := decimal_0 m w
    rwa [show (⟨#[48]⟩ : ByteArray) = decS 0 by unfold decS; rw [dec_small (by decide)]; rfl] at this
  have hsz : (decS u).size = Lib.nDigits u := decS_size u
  have hn1 := Lib.nDigits_pos u
  have hn20 := Lib.nDigits_le20 u hu
  have HSZ := Lib.hid hsz
  have HD := Lib.hid (dec_digits u)
  have HP := Lib.hid (pb_dec u hu)
  have h0 : 0 < (decS u).size := by omega
  have hne : ((((decS u)[0]'h0).toNat : Int) != 48) = true := by
    have h1 := dec_head u hu0 ((decS u)[0]'h0) (by
      have h2 : 0 < (Lib.decDigits u).length := by rw [Lib.decDigits_length]; omega
      rw [List.getElem?_eq_getElem h2]; rfl)
    simp; omega
  have hemp : (decS u).toList.isEmpty = false := by
    rw [← decide_eq_emptyBytes]
    exact decide_eq_false (fun h => by rw [h] at hsz; simp at hsz; omega)
  have hs1 : 0 < (decS u).size := h0
  generalize decS u = s at *
  have hm2 : (u : Int) ≤ m := by omega
  clear hsz hm hu
  have hslc : ∀ W : World, (Instr.slice 9 (.string digitS) none (some (.int .i64 10)) none).run Tryz.prog W = .ok (.string tenS) W := fun W => by kernel_rfl
  have HB0 := Lib.hid (Below.refl w.heap.size w)
  go_enter Tryz.func79, Tryz.ntmps79
  go_wp2_with fail
  have cL : ∀ d os, Calls Tryz.prog 112 #[.string s, .string tenS] (grow (redrawn w d) os) fun e w'' => e = .returned (.string ⟨#[]⟩) ∧ ∃ p : Regrown, w'' = grow (redrawn w p.d) p.os := fun d os => Calls.regrown_of (cutLeft_ok s HD.out _)
  have cR : ∀ d os, Calls Tryz.prog 111 #[.string ⟨#[]⟩, .string tenS] (grow (redrawn w d) os) fun e w'' => e = .returned (.string ⟨#[]⟩) ∧ ∃ p : Regrown, w'' = grow (redrawn w p.d) p.os := fun d os => Calls.regrown_of ((cutRight_ok _).mono fun _ _ ⟨h1, h2⟩ => ⟨h1, h2 ▸ Below.refl _ _⟩)
  have cM : ∀ d os, Calls Tryz.prog 75 #[.bool true] (grow (redrawn w d) os) fun e w'' => e = .returned (.tuple #[]) ∧ ∃ p : Regrown, w'' = grow (redrawn w p.d) p.os := fun d os => Calls.regrown_of ((must_ok _).mono fun _ _ ⟨h1, h2⟩ => ⟨h1, h2 ▸ Below.refl _ _⟩)
  refine wp_region_quiet_below (by kernel_rfl) (by kernel_rfl) ?_
  repeat (quiet_step (first | with_reducible exact cL _ _ | with_reducible exact cR _ _ | with_reducible exact cM _ _))
  refine wpQuiet_nil ?_
  intro _ hw'
  obtain ⟨⟨dq, osq⟩, hw''⟩ := hw'
  subst hw''
  have HB5 := Lib.hid (below_regrown w dq osq)
  go_wp2_with fail
  refine (Tryz.strconv_ParseUint_10_at64_ok _ (by first | (rw [HSZ.out]; omega) | decide) _ HP.out _).mono ?_
  rintro e w8 ⟨rfl, hw8⟩
  have HB8 : Hid (Below w.heap.size w w8) := by
    rcases hw8 with rfl | rfl
    · exact HB5
    · exact HB5.out.trans ((bytesWorld_below _ _ _).mono HB5.out.size)
  clear hw8
  go_wp2_with fail
  refine (must_ok _).mono ?_
  rintro e w9 ⟨rfl, rfl⟩
  go_wp2_with fail
  go_ret
  exact ⟨rfl, HB8.out⟩
end Go.Proofs.YtohighedgdlflaaGreatDoor

/- slices.DeleteFunc at Parse's predicate: the empty words go. -/
namespace Go.Proofs.YtohighedgdlflaaGreatDoor
open Go.Shelf Go.RowKit Go.Sort Go.Lib Go.Proofs.YtohighedgdlflaaGreatDoorW.PrintWords Go.Proofs.YtohighedgdlflaaGreatDoor.PR
set_option linter.unusedVariables false
set_option linter.unusedSimpArgs false
def emp (x : ByteArray) : Bool := x.toList.isEmpty
theorem p2_ok (x : ByteArray) (W : World) : FnGives Tryz.prog 67 #[] #[.string x] (.bool (emp x)) W := by
  show Calls Tryz.prog 67 #[.string x] W _
  cases hx : x.toList.isEmpty with
  | true =>
    go_enter Tryz.func67, Tryz.ntmps67
    go_wp2_with fail
    go_ret
    exact ⟨by unfold emp; rw [hx]; rfl, 0, rfl⟩
  | false =>
    go_enter Tryz.func67, Tryz.ntmps67
    go_wp2_with fail
    go_ret
    exact ⟨by unfold emp; rw [hx]; rfl, 0, rfl⟩
theorem del_ok (g cap : Nat) (d : Array ByteArray) (w : World) (hH : Holds Value.string w g 0 d) (hg : g < w.heap.size) (hsz : d.size ≤ 9223372036854775807) (hcap : d.size ≤ cap) :
    Calls Tryz.prog 66 #[.slice (some ⟨g, 0, none⟩) d.size cap, .func (.func 67) #[] #[]] w fun e w' => e = .returned (.slice (some ⟨g, 0, none⟩) (d.toList.filter fun x => !emp x).length cap) ∧ Below g w w' ∧ ∀ (j : Nat) x, (d.toList.filter fun x => !emp x)[j]? = some x → w'.cell? ⟨g, j, none⟩ = some (.string x) := by
  have eg : ∀ args w, (callFunc 67 args).run Tryz.prog w = .ok (.enter 67 args) w := enters_of Tryz.func67 (by kernel_rfl) rfl
  have hcon := AnyE.slices_DeleteFunc Tryz.del66 Value.string (fun _ => rfl) emp 67 #[] eg ByteArray.empty Tryz.zeroValue9 g 0 cap d w
    (fun W x _ => p2_ok x W) (fun n os dk x _ => p2_ok x _) hH hsz hcap
  refine hcon.mono ?_
  rintro e w' ⟨rfl, q, rfl⟩
  obtain ⟨r, hr⟩ : ∃ r, r = (d.toList.filter fun x => !emp x) := ⟨_, rfl⟩
  have hrl : r.length ≤ d.size := by rw [hr]; simpa using List.length_filter_le (fun x => !emp x) d.toList
  rw [← hr]
  refine ⟨rfl, below_putRow (Below.refl _ _) (Nat.le_refl _), fun j x hx => ?_⟩
  have hj : j < r.length := by
    rcases Nat.lt_or_ge j r.length with h' | h'
    · exact h'
    · rw [List.getElem?_eq_none h'] at hx; simp at hx
  have h := cell?_putRow Value.string (Sort.ahead w q) g 0 d (r ++ List.replicate (d.size - r.length) ByteArray.empty).toArray hH (by simp; omega) j (by simp; omega)
  rw [Nat.zero_add] at h
  rw [h]
  congr 2
  rw [getElem!_pos _ j (by simp; omega)]
  have hx2 : r[j] = x := by rw [List.getElem?_eq_getElem hj] at hx; exact Option.some.inj hx
  simp [List.getElem_append_left hj, hx2]
end Go.Proofs.YtohighedgdlflaaGreatDoor
