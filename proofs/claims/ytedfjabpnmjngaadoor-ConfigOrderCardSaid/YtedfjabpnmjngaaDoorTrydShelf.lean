/-
  DERIVED: THE SHELF's CONTRACTS AT THIS DUMP, IN PLAIN WORDS (tools/lay-plain.mjs out of 'TrydShelf.lean', which tools/lay-shelf.mjs wrote): THE SAME DECLARATIONS UNDER THE SAME NAMES: 'import', 'namespace', 'open', 'def', 'theorem' AND NOTHING ELSE: no command of the shelf's: FOR A HAND-IN. Each laying: the table of numbers ('.._ren') and one theorem, a field a fact of the dump's own or the kernel's comparison; each contract: ONE APPLICATION.
-/
import Derived.Shelf.Strings.Builder1
import Derived.Shelf.Strings.Builder2
import Derived.Shelf.Strings.OnBuilder
import Derived.Shelf.Strconv.Atoi
import Derived.Shelf.Strconv.Itoa0
import Derived.Shelf.Strconv.Itoa1
import Derived.Shelf.LaysM
import Derived.Shelf.Strconv.Itoa2
import Derived.Shelf.Strconv.Itoa3
import Derived.Shelf.Strconv.AtoiErrFast
import Derived.Shelf.Strconv.ParseIntEmpty
import Derived.Shelf.Strconv.AtoiFail
import Derived.Shelf.Strconv.Clone
import Derived.Shelf.Strconv.SyntaxError
import Derived.Shelf.LaysC
import Derived.Shelf.Strconv.ToError
import Derived.Shelf.Strconv.Lower
import Derived.Shelf.Strconv.ParseUint10
import Derived.Shelf.Strconv.ParseUint10Empty
import Derived.Shelf.Strconv.ParseUint10Any
import Derived.Shelf.Strconv.ParseInt10
import Derived.Shelf.Strconv.AtoiLong
import Derived.Shelf.Strconv.AtoiInnerAll
import Derived.Shelf.Strconv.RangeError
import Derived.Shelf.Strconv.ToErrorRange
import Derived.Shelf.Strconv.AtoiAll
import Derived.Shelf.Strings.Search1
import Derived.Shelf.Strings.Search2
import Derived.Shelf.Strings.Search3
import Derived.Shelf.Strings.Count
import Derived.Shelf.Strings.Shaped
import Derived.Shelf.Strings.Split
import Derived.Shelf.Unicode.DecodeSlow
import Derived.Shelf.Unicode.DecodeAny
import Derived.Shelf.Strings.FieldsFuncAny
import Derived.Shelf.Strings.FieldsFuncGrows
import Derived.Test.YtedfjabpnmjngaaDoorProg
set_option linter.unusedSimpArgs false
set_option linter.unusedVariables false
namespace Go.Proofs
open Go.Shelf
open Go.RowKit in
open Go.RowKit in
open Go.RowKit in
open Go.RowKit in
open Go.RowKit in
def Tryd.lays156_ren : Go.Shelf.Ren := ⟨fun | 156 => 38 | 165 => 44 | 166 => 45 | 169 => 46 | 240 => 54 | 241 => 55 | 276 => 70 | 277 => 71 | n => n, fun | 31 => 24 | 9 => 9 | 3 => 3 | 4 => 4 | 0 => 0 | 20 => 20 | 72 => 78 | 76 => 71 | 70 => 76 | 37 => 37 | 75 => 70 | 127 => 86 | 164 => 101 | 5 => 5 | 80 => 80 | n => n, fun | n => n⟩
theorem Tryd.lays156 : Go.Proofs.Lays.n156 Tryd.prog Tryd.lays156_ren := {
  mixed := by kernel_rfl
  f156 := Tryd.func38.trans (congrArg some (by kernel_rfl))
  f165 := Tryd.func44.trans (congrArg some (by kernel_rfl))
  f166 := Tryd.func45.trans (congrArg some (by kernel_rfl))
  f169 := Tryd.func46.trans (congrArg some (by kernel_rfl))
  f240 := Tryd.func54.trans (congrArg some (by kernel_rfl))
  f241 := Tryd.func55.trans (congrArg some (by kernel_rfl))
  f276 := Tryd.func70.trans (congrArg some (by kernel_rfl))
  f277 := Tryd.func71.trans (congrArg some (by kernel_rfl))
  t0 := Tryd.underlying0
  a0 := Tryd.isAgg0
  z0 := Tryd.sizeOf0
  v0 := Tryd.zeroValue0
  t3 := Tryd.underlying3
  a3 := Tryd.isAgg3
  z3 := Tryd.sizeOf3
  v3 := Tryd.zeroValue3
  t4 := Tryd.underlying4
  a4 := Tryd.isAgg4
  z4 := Tryd.sizeOf4
  v4 := Tryd.zeroValue4
  t9 := Tryd.underlying9
  a9 := Tryd.isAgg9
  z9 := Tryd.sizeOf9
  v9 := Tryd.zeroValue9
  t20 := Tryd.underlying20
  a20 := Tryd.isAgg20
  z20 := Tryd.sizeOf20
  v20 := Tryd.zeroValue20
  t31 := Tryd.underlying24
  a31 := Tryd.isAgg24
  z31 := Tryd.sizeOf24
  v31 := Tryd.zeroValue24
  t37 := Tryd.underlying37
  a37 := Tryd.isAgg37
  z37 := Tryd.sizeOf37
  v37 := Tryd.zeroValue37
  t70 := Tryd.underlying76
  a70 := Tryd.isAgg76
  z70 := Tryd.sizeOf76
  v70 := Tryd.zeroValue76
  t72 := Tryd.underlying78
  a72 := Tryd.isAgg78
  z72 := Tryd.sizeOf78
  v72 := Tryd.zeroValue78
  t75 := Tryd.underlying70
  a75 := Tryd.isAgg70
  z75 := Tryd.sizeOf70
  v75 := Tryd.zeroValue70
  t76 := Tryd.underlying71
  a76 := Tryd.isAgg71
  z76 := Tryd.sizeOf71
  v76 := Tryd.zeroValue71
  t127 := Tryd.underlying86
  a127 := Tryd.isAgg86
  z127 := Tryd.sizeOf86
  v127 := Tryd.zeroValue86
  t164 := Tryd.underlying101
  a164 := Tryd.isAgg101
  z164 := Tryd.sizeOf101
  v164 := Tryd.zeroValue101 }
theorem Tryd.Builder_Extra_156 : Builder.Extra Tryd.prog Tryd.lays156_ren := {
  sizeBuilder := by kernel_rfl
  liesBuilder := by kernel_rfl
  t5 := Tryd.underlying5
  a5 := Tryd.isAgg5
  z5 := Tryd.sizeOf5
  v5 := Tryd.zeroValue5
  infoByte := by kernel_rfl
  cellsByte := by kernel_rfl
  sizeByte := by kernel_rfl
  neB5 := by decide }
open Go.RowKit in
open Go.RowKit in
/-- strings.Join: "Join concatenates the elements of its first argument to create a single string. The separator string sep is placed between elements in the resulting string.": HOWEVER MANY ELEMENTS. Below the heap's end the world is as it was. (LAID: no walk: one application.) -/
theorem Tryd.strings_Join (bk o c : Nat) (xs : List ByteArray) (sep : ByteArray) (w : World) (hcells : ∀ (j : Nat) x, xs[j]? = some x → w.cell? ⟨bk, o + j, none⟩ = some (.string x)) (hbk : bk < w.heap.size) (hN : xs.length ≤ 140737488355328) (hcap : xs.length ≤ c) (hlen : (Lib.join (xs.map (·.data.toList)) sep.data.toList).length ≤ 140737488355328) :
    Calls Tryd.prog 38 #[.slice (some ⟨bk, o, none⟩) xs.length c, .string sep] w fun e w' => e = .returned (.string ⟨(Lib.join (xs.map (·.data.toList)) sep.data.toList).toArray⟩) ∧ Below w.heap.size w w' := Any.strings_Join Tryd.lays156 Tryd.Builder_Extra_156 bk o c xs sep w hcells hbk hN hcap hlen
open Go.RowKit in
def Tryd.lays172_ren : Go.Shelf.Ren := ⟨fun | 172 => 43 | 244 => 52 | 245 => 53 | 247 => 65 | 279 => 66 | 280 => 67 | 281 => 68 | 282 => 69 | 287 => 79 | 316 => 80 | 171 => 25 | 205 => 81 | 321 => 84 | 322 => 85 | 243 => 39 | 246 => 47 | 283 => 56 | 284 => 57 | 285 => 58 | 286 => 59 | 129 => 73 | 317 => 72 | 318 => 74 | 319 => 75 | 320 => 76 | 337 => 82 | 338 => 83 | n => n, fun | 9 => 9 | 3 => 3 | 75 => 70 | 76 => 71 | 4 => 4 | 5 => 5 | 167 => 95 | 37 => 37 | 0 => 0 | 85 => 96 | 2 => 2 | 168 => 98 | 53 => 88 | 175 => 116 | 46 => 94 | 210 => 120 | 127 => 86 | 145 => 127 | 143 => 125 | 21 => 21 | 171 => 87 | 173 => 91 | 212 => 105 | 51 => 106 | 20 => 20 | 213 => 107 | 232 => 128 | 233 => 129 | 80 => 80 | n => n, fun | 15 => 4 | 16 => 5 | 17 => 1 | 18 => 6 | 19 => 7 | n => n⟩
theorem Tryd.lays172 : Go.Proofs.Lays.n172 Tryd.prog Tryd.lays172_ren := {
  mixed := by kernel_rfl
  f129 := Tryd.func73.trans (congrArg some (by kernel_rfl))
  f171 := Tryd.func25.trans (congrArg some (by kernel_rfl))
  f172 := Tryd.func43.trans (congrArg some (by kernel_rfl))
  f205 := Tryd.func81.trans (congrArg some (by kernel_rfl))
  f243 := Tryd.func39.trans (congrArg some (by kernel_rfl))
  f244 := Tryd.func52.trans (congrArg some (by kernel_rfl))
  f245 := Tryd.func53.trans (congrArg some (by kernel_rfl))
  f246 := Tryd.func47.trans (congrArg some (by kernel_rfl))
  f247 := Tryd.func65.trans (congrArg some (by kernel_rfl))
  f279 := Tryd.func66.trans (congrArg some (by kernel_rfl))
  f280 := Tryd.func67.trans (congrArg some (by kernel_rfl))
  f281 := Tryd.func68.trans (congrArg some (by kernel_rfl))
  f282 := Tryd.func69.trans (congrArg some (by kernel_rfl))
  f283 := Tryd.func56.trans (congrArg some (by kernel_rfl))
  f284 := Tryd.func57.trans (congrArg some (by kernel_rfl))
  f285 := Tryd.func58.trans (congrArg some (by kernel_rfl))
  f286 := Tryd.func59.trans (congrArg some (by kernel_rfl))
  f287 := Tryd.func79.trans (congrArg some (by kernel_rfl))
  f316 := Tryd.func80.trans (congrArg some (by kernel_rfl))
  f317 := Tryd.func72.trans (congrArg some (by kernel_rfl))
  f318 := Tryd.func74.trans (congrArg some (by kernel_rfl))
  f319 := Tryd.func75.trans (congrArg some (by kernel_rfl))
  f320 := Tryd.func76.trans (congrArg some (by kernel_rfl))
  f321 := Tryd.func84.trans (congrArg some (by kernel_rfl))
  f322 := Tryd.func85.trans (congrArg some (by kernel_rfl))
  f337 := Tryd.func82.trans (congrArg some (by kernel_rfl))
  f338 := Tryd.func83.trans (congrArg some (by kernel_rfl))
  t0 := Tryd.underlying0
  a0 := Tryd.isAgg0
  z0 := Tryd.sizeOf0
  v0 := Tryd.zeroValue0
  t2 := Tryd.underlying2
  a2 := Tryd.isAgg2
  z2 := Tryd.sizeOf2
  v2 := Tryd.zeroValue2
  t3 := Tryd.underlying3
  a3 := Tryd.isAgg3
  z3 := Tryd.sizeOf3
  v3 := Tryd.zeroValue3
  t4 := Tryd.underlying4
  a4 := Tryd.isAgg4
  z4 := Tryd.sizeOf4
  v4 := Tryd.zeroValue4
  t5 := Tryd.underlying5
  a5 := Tryd.isAgg5
  z5 := Tryd.sizeOf5
  v5 := Tryd.zeroValue5
  t9 := Tryd.underlying9
  a9 := Tryd.isAgg9
  z9 := Tryd.sizeOf9
  v9 := Tryd.zeroValue9
  t20 := Tryd.underlying20
  a20 := Tryd.isAgg20
  z20 := Tryd.sizeOf20
  v20 := Tryd.zeroValue20
  t21 := Tryd.underlying21
  a21 := Tryd.isAgg21
  z21 := Tryd.sizeOf21
  v21 := Tryd.zeroValue21
  t37 := Tryd.underlying37
  a37 := Tryd.isAgg37
  z37 := Tryd.sizeOf37
  v37 := Tryd.zeroValue37
  t46 := Tryd.underlying94
  a46 := Tryd.isAgg94
  z46 := Tryd.sizeOf94
  v46 := Tryd.zeroValue94
  t51 := Tryd.underlying106
  a51 := Tryd.isAgg106
  z51 := Tryd.sizeOf106
  v51 := Tryd.zeroValue106
  t53 := Tryd.underlying88
  a53 := Tryd.isAgg88
  z53 := Tryd.sizeOf88
  v53 := Tryd.zeroValue88
  t75 := Tryd.underlying70
  a75 := Tryd.isAgg70
  z75 := Tryd.sizeOf70
  v75 := Tryd.zeroValue70
  t76 := Tryd.underlying71
  a76 := Tryd.isAgg71
  z76 := Tryd.sizeOf71
  v76 := Tryd.zeroValue71
  t85 := Tryd.underlying96
  a85 := Tryd.isAgg96
  z85 := Tryd.sizeOf96
  v85 := Tryd.zeroValue96
  t127 := Tryd.underlying86
  a127 := Tryd.isAgg86
  z127 := Tryd.sizeOf86
  v127 := Tryd.zeroValue86
  t143 := Tryd.underlying125
  a143 := Tryd.isAgg125
  z143 := Tryd.sizeOf125
  v143 := Tryd.zeroValue125
  t145 := Tryd.underlying127
  a145 := Tryd.isAgg127
  z145 := Tryd.sizeOf127
  v145 := Tryd.zeroValue127
  t167 := Tryd.underlying95
  a167 := Tryd.isAgg95
  z167 := Tryd.sizeOf95
  v167 := Tryd.zeroValue95
  t168 := Tryd.underlying98
  a168 := Tryd.isAgg98
  z168 := Tryd.sizeOf98
  v168 := Tryd.zeroValue98
  t171 := Tryd.underlying87
  a171 := Tryd.isAgg87
  z171 := Tryd.sizeOf87
  v171 := Tryd.zeroValue87
  t173 := Tryd.underlying91
  a173 := Tryd.isAgg91
  z173 := Tryd.sizeOf91
  v173 := Tryd.zeroValue91
  t175 := Tryd.underlying116
  a175 := Tryd.isAgg116
  z175 := Tryd.sizeOf116
  v175 := Tryd.zeroValue116
  t210 := Tryd.underlying120
  a210 := Tryd.isAgg120
  z210 := Tryd.sizeOf120
  v210 := Tryd.zeroValue120
  t212 := Tryd.underlying105
  a212 := Tryd.isAgg105
  z212 := Tryd.sizeOf105
  v212 := Tryd.zeroValue105
  t213 := Tryd.underlying107
  a213 := Tryd.isAgg107
  z213 := Tryd.sizeOf107
  t232 := Tryd.underlying128
  a232 := Tryd.isAgg128
  z232 := Tryd.sizeOf128
  v232 := Tryd.zeroValue128
  t233 := Tryd.underlying129
  a233 := Tryd.isAgg129
  z233 := Tryd.sizeOf129
  v233 := Tryd.zeroValue129
  g15 := by kernel_rfl
  g16 := by kernel_rfl
  g17 := by kernel_rfl
  g18 := by kernel_rfl
  g19 := by kernel_rfl }
open Go.RowKit in
/-- strconv.Atoi: "Atoi is equivalent to ParseInt(s, 10, 0), converted to type int.": AT A DECIMAL NUMERAL OF AT MOST 18 BYTES: its value, and a nil error. The world behind the call: the one new row that the library's '[]byte(s)' lays. (LAID: no walk: one application.) -/
theorem Tryd.strconv_Atoi (s : ByteArray) (n : Int) (hl : s.size ≤ 18) (h : Lib.atoi s.data.toList = some n) (w : World) :
    Calls Tryd.prog 43 #[.string s] w fun e w' => e = .returned (.tuple #[.int .i64 n, .nilIface]) ∧ ∃ t, w' = Lib.bytesWorld w 5 t := Any.strconv_Atoi Tryd.lays172 s n hl h w
open Go.Lib in
open Go.Lib in
open Go.Lib in
open Go.Lib in
open Go.RowKit Go.Sort Go.Lib in
open Go.RowKit Go.Sort Go.Lib in
open Go.RowKit Go.Sort Go.Lib in
open Go.RowKit Go.Sort Go.Lib in
open Go.RowKit Go.Sort Go.Lib in
def Tryd.laysM171_ren : Go.Shelf.Ren := ⟨fun | 171 => 25 | 243 => 39 | 246 => 47 | 283 => 56 | 284 => 57 | 285 => 58 | 286 => 59 | 129 => 73 | 317 => 72 | 318 => 74 | 319 => 75 | 320 => 76 | 337 => 82 | 338 => 83 | n => n, fun | 3 => 3 | 9 => 9 | 2 => 2 | 4 => 4 | 171 => 87 | 0 => 0 | 53 => 88 | 37 => 37 | 5 => 5 | 173 => 91 | 212 => 105 | 51 => 106 | 20 => 20 | 213 => 107 | 46 => 94 | 232 => 128 | 233 => 129 | n => n, fun | 17 => 1 | 18 => 6 | 19 => 7 | n => n⟩
theorem Tryd.laysM171 : Go.Proofs.LaysM.n171 Tryd.prog Tryd.laysM171_ren := {
  mixed := by kernel_rfl
  f129 := Tryd.func73.trans (congrArg some (by kernel_rfl))
  f171 := Tryd.func25.trans (congrArg some (by kernel_rfl))
  f243 := Tryd.func39.trans (congrArg some (by kernel_rfl))
  f246 := Tryd.func47.trans (congrArg some (by kernel_rfl))
  f283 := Tryd.func56.trans (congrArg some (by kernel_rfl))
  f284 := Tryd.func57.trans (congrArg some (by kernel_rfl))
  f285 := Tryd.func58.trans (congrArg some (by kernel_rfl))
  f286 := Tryd.func59.trans (congrArg some (by kernel_rfl))
  f317 := Tryd.func72.trans (congrArg some (by kernel_rfl))
  f318 := Tryd.func74.trans (congrArg some (by kernel_rfl))
  f319 := Tryd.func75.trans (congrArg some (by kernel_rfl))
  f320 := Tryd.func76.trans (congrArg some (by kernel_rfl))
  f337 := Tryd.func82.trans (congrArg some (by kernel_rfl))
  f338 := Tryd.func83.trans (congrArg some (by kernel_rfl))
  t0 := Tryd.underlying0
  a0 := Tryd.isAgg0
  z0 := Tryd.sizeOf0
  v0 := Tryd.zeroValue0
  t2 := Tryd.underlying2
  a2 := Tryd.isAgg2
  z2 := Tryd.sizeOf2
  v2 := Tryd.zeroValue2
  t3 := Tryd.underlying3
  a3 := Tryd.isAgg3
  z3 := Tryd.sizeOf3
  v3 := Tryd.zeroValue3
  t4 := Tryd.underlying4
  a4 := Tryd.isAgg4
  z4 := Tryd.sizeOf4
  v4 := Tryd.zeroValue4
  t5 := Tryd.underlying5
  a5 := Tryd.isAgg5
  z5 := Tryd.sizeOf5
  v5 := Tryd.zeroValue5
  t9 := Tryd.underlying9
  a9 := Tryd.isAgg9
  z9 := Tryd.sizeOf9
  v9 := Tryd.zeroValue9
  t20 := Tryd.underlying20
  a20 := Tryd.isAgg20
  z20 := Tryd.sizeOf20
  v20 := Tryd.zeroValue20
  t37 := Tryd.underlying37
  a37 := Tryd.isAgg37
  z37 := Tryd.sizeOf37
  v37 := Tryd.zeroValue37
  t46 := Tryd.underlying94
  a46 := Tryd.isAgg94
  z46 := Tryd.sizeOf94
  v46 := Tryd.zeroValue94
  t51 := Tryd.underlying106
  a51 := Tryd.isAgg106
  z51 := Tryd.sizeOf106
  v51 := Tryd.zeroValue106
  t53 := Tryd.underlying88
  a53 := Tryd.isAgg88
  z53 := Tryd.sizeOf88
  v53 := Tryd.zeroValue88
  t171 := Tryd.underlying87
  a171 := Tryd.isAgg87
  z171 := Tryd.sizeOf87
  v171 := Tryd.zeroValue87
  t173 := Tryd.underlying91
  a173 := Tryd.isAgg91
  z173 := Tryd.sizeOf91
  v173 := Tryd.zeroValue91
  t212 := Tryd.underlying105
  a212 := Tryd.isAgg105
  z212 := Tryd.sizeOf105
  v212 := Tryd.zeroValue105
  t213 := Tryd.underlying107
  a213 := Tryd.isAgg107
  z213 := Tryd.sizeOf107
  t232 := Tryd.underlying128
  a232 := Tryd.isAgg128
  z232 := Tryd.sizeOf128
  v232 := Tryd.zeroValue128
  t233 := Tryd.underlying129
  a233 := Tryd.isAgg129
  z233 := Tryd.sizeOf129
  v233 := Tryd.zeroValue129
  g17 := by kernel_rfl
  g18 := by kernel_rfl
  g19 := by kernel_rfl
  i0 := by kernel_rfl
  i2 := by kernel_rfl
  i3 := by kernel_rfl
  i4 := by kernel_rfl
  i5 := by kernel_rfl
  i9 := by kernel_rfl
  i20 := by kernel_rfl
  i37 := by kernel_rfl
  i46 := by kernel_rfl
  i51 := by kernel_rfl
  i53 := by kernel_rfl
  i171 := by kernel_rfl
  i173 := by kernel_rfl
  i212 := by kernel_rfl
  i232 := by kernel_rfl
  i233 := by kernel_rfl
  m17 := by kernel_rfl
  m18 := by kernel_rfl
  m19 := by kernel_rfl }
open Go.RowKit Go.Sort Go.Lib in
/-- strconv.Itoa: "Itoa is equivalent to FormatInt(int64(i), 10).": i's DECIMAL NUMERAL ('Lib.itoa': a '-' where i is negative, then the digits), FOR EVERY int. The world behind the call: the world before it, new blocks behind the heap (the library's 'var a [24]byte'), draws. (LAID: no walk: one application.) -/
theorem Tryd.strconv_Itoa (n : Int) (h0 : -9223372036854775808 ≤ n) (h1 : n ≤ 9223372036854775807) (w : World) (htab : Lib.TabIs Tryd.prog w "internal/strconv.uint64pow10" .u64 Lib.pow10Tab) :
    Calls Tryd.prog 25 #[.int .i64 n] w fun e w' => e = .returned (.string ⟨(Lib.itoa n).toArray⟩) ∧ ∃ k os, w' = grow (w.drewN k) os := Any.strconv_Itoa Tryd.laysM171 n h0 h1 w htab
open Go.RowKit Go.Sort Go.Lib in
open Go.RowKit in
open Go.RowKit in
open Go.RowKit in
open Go.RowKit in
open Go.RowKit in
open Go.RowKit in
open Go.RowKit in
open Go.RowKit in
open Go.RowKit in
open Go.RowKit in
open Go.RowKit in
open Go.RowKit in
open Go.RowKit in
open Go.RowKit in
open Go.RowKit in
open Go.RowKit in
open Go.RowKit in
open Go.RowKit in
open Go.RowKit in
open Go.RowKit Go.Lib in
open Go.RowKit Go.Lib in
open Go.RowKit Go.Lib in
open Go.RowKit Go.Lib in
open Go.RowKit Go.Lib in
open Go.RowKit Go.Lib in
open Go.RowKit Go.Lib in
open Go.RowKit Go.Lib in
open Go.RowKit Go.Lib in
open Go.RowKit Go.Lib in
def Tryd.lays146_ren : Go.Shelf.Ren := ⟨fun | 146 => 15 | 221 => 30 | 268 => 40 | 138 => 41 | 143 => 42 | 195 => 48 | 197 => 49 | 218 => 50 | 219 => 51 | 260 => 60 | 217 => 61 | 225 => 62 | 224 => 63 | 267 => 64 | 266 => 77 | 314 => 78 | n => n, fun | 9 => 9 | 31 => 24 | 3 => 3 | 4 => 4 | 0 => 0 | 105 => 82 | 21 => 21 | 5 => 5 | 46 => 94 | 119 => 110 | 139 => 113 | 138 => 112 | 146 => 114 | 51 => 106 | n => n, fun | 1 => 0 | 3 => 2 | 4 => 3 | n => n⟩
theorem Tryd.lays146 : Go.Proofs.Lays.n146 Tryd.prog Tryd.lays146_ren := {
  mixed := by kernel_rfl
  f138 := Tryd.func41.trans (congrArg some (by kernel_rfl))
  f143 := Tryd.func42.trans (congrArg some (by kernel_rfl))
  f146 := Tryd.func15.trans (congrArg some (by kernel_rfl))
  f195 := Tryd.func48.trans (congrArg some (by kernel_rfl))
  f197 := Tryd.func49.trans (congrArg some (by kernel_rfl))
  f217 := Tryd.func61.trans (congrArg some (by kernel_rfl))
  f218 := Tryd.func50.trans (congrArg some (by kernel_rfl))
  f219 := Tryd.func51.trans (congrArg some (by kernel_rfl))
  f221 := Tryd.func30.trans (congrArg some (by kernel_rfl))
  f224 := Tryd.func63.trans (congrArg some (by kernel_rfl))
  f225 := Tryd.func62.trans (congrArg some (by kernel_rfl))
  f260 := Tryd.func60.trans (congrArg some (by kernel_rfl))
  f266 := Tryd.func77.trans (congrArg some (by kernel_rfl))
  f267 := Tryd.func64.trans (congrArg some (by kernel_rfl))
  f268 := Tryd.func40.trans (congrArg some (by kernel_rfl))
  f314 := Tryd.func78.trans (congrArg some (by kernel_rfl))
  t0 := Tryd.underlying0
  a0 := Tryd.isAgg0
  z0 := Tryd.sizeOf0
  v0 := Tryd.zeroValue0
  t3 := Tryd.underlying3
  a3 := Tryd.isAgg3
  z3 := Tryd.sizeOf3
  v3 := Tryd.zeroValue3
  t4 := Tryd.underlying4
  a4 := Tryd.isAgg4
  z4 := Tryd.sizeOf4
  v4 := Tryd.zeroValue4
  t5 := Tryd.underlying5
  a5 := Tryd.isAgg5
  z5 := Tryd.sizeOf5
  v5 := Tryd.zeroValue5
  t9 := Tryd.underlying9
  a9 := Tryd.isAgg9
  z9 := Tryd.sizeOf9
  v9 := Tryd.zeroValue9
  t21 := Tryd.underlying21
  a21 := Tryd.isAgg21
  z21 := Tryd.sizeOf21
  v21 := Tryd.zeroValue21
  t31 := Tryd.underlying24
  a31 := Tryd.isAgg24
  z31 := Tryd.sizeOf24
  v31 := Tryd.zeroValue24
  t46 := Tryd.underlying94
  a46 := Tryd.isAgg94
  z46 := Tryd.sizeOf94
  v46 := Tryd.zeroValue94
  t51 := Tryd.underlying106
  a51 := Tryd.isAgg106
  z51 := Tryd.sizeOf106
  v51 := Tryd.zeroValue106
  t105 := Tryd.underlying82
  a105 := Tryd.isAgg82
  z105 := Tryd.sizeOf82
  v105 := Tryd.zeroValue82
  t119 := Tryd.underlying110
  a119 := Tryd.isAgg110
  z119 := Tryd.sizeOf110
  t138 := Tryd.underlying112
  a138 := Tryd.isAgg112
  z138 := Tryd.sizeOf112
  v138 := Tryd.zeroValue112
  t139 := Tryd.underlying113
  a139 := Tryd.isAgg113
  z139 := Tryd.sizeOf113
  v139 := Tryd.zeroValue113
  t146 := Tryd.underlying114
  a146 := Tryd.isAgg114
  z146 := Tryd.sizeOf114
  v146 := Tryd.zeroValue114
  g1 := by kernel_rfl
  g3 := by kernel_rfl
  g4 := by kernel_rfl }
open Go.RowKit Go.Lib in
/-- strings.Split. (LAID: no walk: one application.) -/
theorem Tryd.strings_Split (s sep : ByteArray) (m : Int) (w : World) (hs : s.size < 4294967281) (hm : w.cell? ⟨0, 0, none⟩ = some (.int .i64 m)) (h1 : 1 ≤ sep.size) :
    Calls Tryd.prog 15 #[.string s, .string sep] w fun e w' =>
      e = .returned (.slice (some ⟨w.heap.size, 0, none⟩) (Lib.countB s sep + 1) (Lib.countB s sep + 1)) ∧ w' = w.alloc (.cells ((Lib.splitB sep 0 (Lib.countB s sep) s).map Value.string).toArray 9) := Any.strings_Split Tryd.lays146 (by kernel_rfl) s sep m w hs hm h1
open Go.RowKit Go.Lib in
def Tryd.lays229_ren : Go.Shelf.Ren := ⟨fun | 229 => 33 | n => n, fun | 9 => 9 | 40 => 62 | 31 => 24 | 152 => 73 | 3 => 3 | 0 => 0 | 4 => 4 | 21 => 21 | 154 => 75 | n => n, fun | n => n⟩
theorem Tryd.lays229 : Go.Proofs.Lays.n229 Tryd.prog Tryd.lays229_ren := {
  mixed := by kernel_rfl
  f229 := Tryd.func33.trans (congrArg some (by kernel_rfl))
  t0 := Tryd.underlying0
  a0 := Tryd.isAgg0
  z0 := Tryd.sizeOf0
  v0 := Tryd.zeroValue0
  t3 := Tryd.underlying3
  a3 := Tryd.isAgg3
  z3 := Tryd.sizeOf3
  v3 := Tryd.zeroValue3
  t4 := Tryd.underlying4
  a4 := Tryd.isAgg4
  z4 := Tryd.sizeOf4
  v4 := Tryd.zeroValue4
  t9 := Tryd.underlying9
  a9 := Tryd.isAgg9
  z9 := Tryd.sizeOf9
  v9 := Tryd.zeroValue9
  t21 := Tryd.underlying21
  a21 := Tryd.isAgg21
  z21 := Tryd.sizeOf21
  v21 := Tryd.zeroValue21
  t31 := Tryd.underlying24
  a31 := Tryd.isAgg24
  z31 := Tryd.sizeOf24
  v31 := Tryd.zeroValue24
  t40 := Tryd.underlying62
  a40 := Tryd.isAgg62
  z40 := Tryd.sizeOf62
  v40 := Tryd.zeroValue62
  t152 := Tryd.underlying73
  a152 := Tryd.isAgg73
  z152 := Tryd.sizeOf73
  v152 := Tryd.zeroValue73
  t154 := Tryd.underlying75
  a154 := Tryd.isAgg75
  z154 := Tryd.sizeOf75
  v154 := Tryd.zeroValue75 }
open Go.RowKit Go.Lib in
open Go.RowKit Go.Lib in
theorem Tryd.strings_FieldsFunc_grows (g : Nat) (lb : Array Value) (eg : ∀ args w, (callFunc g args).run Tryd.prog w = .ok (.enter g args) w) (p : Nat → Bool) (s : ByteArray) (w : World) (hs : s.size ≤ 4294967296) (hp : PredGrows Tryd.prog g lb p w) :
    Calls Tryd.prog 33 #[.string s, .func (.func g) #[] lb] w fun e w' => ∃ A, e = .returned (.slice (some ⟨A, 0, none⟩) (Lib.goFieldsP p s).length (Lib.goFieldsP p s).length) ∧ w.heap.size ≤ A ∧
      w'.ownsRow w.heap.size 9 1 (.slice (some ⟨A, 0, none⟩) (Lib.goFieldsP p s).length (Lib.goFieldsP p s).length) (Lib.goFieldsP p s).length ((Lib.goFieldsP p s).map Value.string) ∧ Below w.heap.size w w' := Any.strings_FieldsFunc_grows Tryd.lays229 g lb eg p s w hs hp (by kernel_rfl) (by kernel_rfl)
end Go.Proofs
