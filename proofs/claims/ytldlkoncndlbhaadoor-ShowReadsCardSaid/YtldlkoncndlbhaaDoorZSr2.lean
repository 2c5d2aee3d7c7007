/- YtldlkoncndlbhaaDoorZSr2: texts of the seat (Shelf, Glob, PRax0, PRax1, Rune, UtfLib, MapBool, Plain, QuotePlain, Txt), one behind the other, without what this claim's theorem does not rest on. -/
import Derived.Test.YtldlkoncndlbhaaDoorZSr1
import Derived.Shelf.Strings.Builder1
import Derived.Shelf.Strings.BuilderF
import Derived.Shelf.Strings.BuilderK
import Derived.Shelf.Strings.BuilderRune
import Derived.Shelf.Utf8.AppendRunePlain
import Derived.Shelf.Strconv.Atoi
import Derived.Shelf.Strconv.Itoa0
import Derived.Shelf.Strconv.Itoa1
import Derived.Shelf.LaysM
import Derived.Shelf.Strconv.Itoa2
import Derived.Shelf.Strconv.Itoa3
import Derived.Shelf.Strconv.AtoiErrFast
import Derived.Shelf.Strconv.ParseIntEmpty
import Derived.Shelf.Strconv.AtoiFail
import Derived.Shelf.Strconv.Clone
import Derived.Shelf.Strconv.SyntaxError
import Derived.Shelf.LaysC
import Derived.Shelf.Strconv.ToError
import Derived.Shelf.Strconv.Lower
import Derived.Shelf.Strconv.ParseUint10
import Derived.Shelf.Strconv.ParseUint10Empty
import Derived.Shelf.Strconv.ParseUint10Any
import Derived.Shelf.Strconv.ParseInt10
import Derived.Shelf.Strconv.AtoiLong
import Derived.Shelf.Strconv.AtoiInnerAll
import Derived.Shelf.Strconv.RangeError
import Derived.Shelf.Strconv.ToErrorRange
import Derived.Shelf.Strconv.AtoiAll
import Derived.Shelf.Strconv.ErrVarAll
import Derived.Shelf.Unicode.Decode
import Derived.Shelf.Unicode.DecodeSlow
import Derived.Shelf.Unicode.DecodeAny
import Derived.Shelf.Slices.Turned
import Derived.Shelf.Unicode.ValidAny
import Derived.Test.YtldlkoncndlbhaaDoorProg
import Derived.WalkKit
import Derived.KernelRfl
import Derived.WalkLawsBesides
import Derived.Lib.LaidTab
import Derived.Lib.ItoaNum
import Derived.Below
import Derived.Deep.Draws
import Derived.Deep.AppendLies
import Derived.Maps.AppendAt
import Derived.OwnWalk
import Derived.Laws.BytesArg
import Derived.Laws.MakeOwn
import Derived.Laws.OwnMore
import Derived.Deep.OwnRows
import Derived.Tactics
import Derived.Lib.ConvBytes
import Derived.Laws.Slices
import Derived.RowKit3
import Derived.Deep.LoopGhost
import Derived.Deep.QuietTactic
import Derived.BigQuiet
import Derived.WideLaws
import Derived.Deep.DeepCutAuto
import Derived.Deep.CutBlock
import Derived.Deep.RegionHeld3
import Derived.Laws.Rows
import Derived.Lib.AppendStr
import Derived.ArgAppend
import Derived.Laws.IdiomCopy
import Derived.OrdersHeld
import Derived.Laws.BitsLemmas
import Derived.RowKit
import Derived.Lib.ValidU
import Derived.Lib.DecodeN
import Derived.Lib.MapLaws
import Derived.Maps.OwnOps
import Derived.Maps.OwnSet
import Derived.Maps.Views
import Derived.Maps.Keyed
import Derived.Lib.RuneBytes

namespace Go.Proofs
open Go.Shelf
def Tryd.lays169_ren : Go.Shelf.Ren := ⟨fun | 169 => 26 | n => n, fun | 70 => 49 | 9 => 9 | 0 => 0 | 72 => 51 | 37 => 30 | 127 => 76 | 3 => 3 | 5 => 5 | n => n, fun | n => n⟩
theorem Tryd.lays169 : Go.Proofs.Lays.n169 Tryd.prog Tryd.lays169_ren := {
  mixed := by kernel_rfl
  f169 := Tryd.func26.trans (congrArg some (by kernel_rfl))
  t0 := Tryd.underlying0
  a0 := Tryd.isAgg0
  z0 := Tryd.sizeOf0
  v0 := Tryd.zeroValue0
  t3 := Tryd.underlying3
  a3 := Tryd.isAgg3
  z3 := Tryd.sizeOf3
  v3 := Tryd.zeroValue3
  t9 := Tryd.underlying9
  a9 := Tryd.isAgg9
  z9 := Tryd.sizeOf9
  v9 := Tryd.zeroValue9
  t37 := Tryd.underlying30
  a37 := Tryd.isAgg30
  z37 := Tryd.sizeOf30
  v37 := Tryd.zeroValue30
  t70 := Tryd.underlying49
  a70 := Tryd.isAgg49
  z70 := Tryd.sizeOf49
  v70 := Tryd.zeroValue49
  t72 := Tryd.underlying51
  a72 := Tryd.isAgg51
  z72 := Tryd.sizeOf51
  v72 := Tryd.zeroValue51
  t127 := Tryd.underlying76
  a127 := Tryd.isAgg76
  z127 := Tryd.sizeOf76
  v127 := Tryd.zeroValue76 }
theorem Tryd.Builder_Extra_169 : Builder.Extra Tryd.prog Tryd.lays169_ren := {
  sizeBuilder := by kernel_rfl
  liesBuilder := by kernel_rfl
  t5 := Tryd.underlying5
  a5 := Tryd.isAgg5
  z5 := Tryd.sizeOf5
  v5 := Tryd.zeroValue5
  infoByte := by kernel_rfl
  cellsByte := by kernel_rfl
  sizeByte := by kernel_rfl
  neB5 := by decide }
open Go.RowKit in
theorem Tryd.Builder_String_any (B b : Nat) (l : List UInt8) (w : World) (h : Lib.IsBuilder 51 5 B b (Lib.byteCells l) w) (hBw : B ≤ w.heap.size) :
    Calls Tryd.prog 26 #[.pointer (some ⟨b, 0, none⟩)] w fun e w' => e = .returned (.string ⟨l.toArray⟩) ∧ Below B w w' := Any.Builder_String_any Tryd.lays169 Tryd.Builder_Extra_169 B b l w h hBw
def Tryd.lays242_ren : Go.Shelf.Ren := ⟨fun | 242 => 44 | 278 => 55 | n => n, fun | 37 => 30 | 21 => 21 | 51 => 90 | 4 => 4 | 5 => 5 | 46 => 61 | n => n, fun | n => n⟩
theorem Tryd.lays242 : Go.Proofs.Lays.n242 Tryd.prog Tryd.lays242_ren := {
  mixed := by kernel_rfl
  f242 := Tryd.func44.trans (congrArg some (by kernel_rfl))
  f278 := Tryd.func55.trans (congrArg some (by kernel_rfl))
  t4 := Tryd.underlying4
  a4 := Tryd.isAgg4
  z4 := Tryd.sizeOf4
  v4 := Tryd.zeroValue4
  t5 := Tryd.underlying5
  a5 := Tryd.isAgg5
  z5 := Tryd.sizeOf5
  v5 := Tryd.zeroValue5
  t21 := Tryd.underlying21
  a21 := Tryd.isAgg21
  z21 := Tryd.sizeOf21
  v21 := Tryd.zeroValue21
  t37 := Tryd.underlying30
  a37 := Tryd.isAgg30
  z37 := Tryd.sizeOf30
  v37 := Tryd.zeroValue30
  t46 := Tryd.underlying61
  a46 := Tryd.isAgg61
  z46 := Tryd.sizeOf61
  v46 := Tryd.zeroValue61
  t51 := Tryd.underlying90
  a51 := Tryd.isAgg90
  z51 := Tryd.sizeOf90
  v51 := Tryd.zeroValue90 }
open Go.RowKit in
theorem Tryd.utf8_AppendRune_plain (B : Nat) (v : Value) (n : Nat) (xs : List Value) (r : Int) (hr0 : -2147483648 ≤ r) (hr1 : r ≤ 2147483647) (w : World) (hown : w.ownsRow B 5 1 v n xs) (hlen : n + 4 ≤ 140737488355328) (hBw : B ≤ w.heap.size) :
    Calls Tryd.prog 44 #[v, .int .i32 r] w fun e w' => ∃ v', e = .returned v' ∧ w'.ownsRow B 5 1 v' (n + (Lib.runeCells r).length) (xs ++ Lib.runeCells r) ∧ ∃ o, (w.alloc o).grownBy w' v.ownBlock := Any.utf8_AppendRune_plain Tryd.lays242 (by kernel_rfl) B v n xs r hr0 hr1 w hown hlen hBw
def Tryd.laysM171_ren : Go.Shelf.Ren := ⟨fun | 171 => 53 | 243 => 61 | 246 => 66 | 283 => 70 | 284 => 71 | 285 => 72 | 286 => 73 | 129 => 80 | 317 => 79 | 318 => 81 | 319 => 82 | 320 => 83 | 337 => 87 | 338 => 88 | n => n, fun | 3 => 3 | 9 => 9 | 2 => 2 | 4 => 4 | 171 => 103 | 0 => 0 | 53 => 98 | 37 => 30 | 5 => 5 | 173 => 106 | 212 => 115 | 51 => 90 | 20 => 20 | 213 => 116 | 46 => 61 | 232 => 128 | 233 => 129 | n => n, fun | 17 => 2 | 18 => 5 | 19 => 6 | n => n⟩
theorem Tryd.laysM171 : Go.Proofs.LaysM.n171 Tryd.prog Tryd.laysM171_ren := {
  mixed := by kernel_rfl
  f129 := Tryd.func80.trans (congrArg some (by kernel_rfl))
  f171 := Tryd.func53.trans (congrArg some (by kernel_rfl))
  f243 := Tryd.func61.trans (congrArg some (by kernel_rfl))
  f246 := Tryd.func66.trans (congrArg some (by kernel_rfl))
  f283 := Tryd.func70.trans (congrArg some (by kernel_rfl))
  f284 := Tryd.func71.trans (congrArg some (by kernel_rfl))
  f285 := Tryd.func72.trans (congrArg some (by kernel_rfl))
  f286 := Tryd.func73.trans (congrArg some (by kernel_rfl))
  f317 := Tryd.func79.trans (congrArg some (by kernel_rfl))
  f318 := Tryd.func81.trans (congrArg some (by kernel_rfl))
  f319 := Tryd.func82.trans (congrArg some (by kernel_rfl))
  f320 := Tryd.func83.trans (congrArg some (by kernel_rfl))
  f337 := Tryd.func87.trans (congrArg some (by kernel_rfl))
  f338 := Tryd.func88.trans (congrArg some (by kernel_rfl))
  t0 := Tryd.underlying0
  a0 := Tryd.isAgg0
  z0 := Tryd.sizeOf0
  v0 := Tryd.zeroValue0
  t2 := Tryd.underlying2
  a2 := Tryd.isAgg2
  z2 := Tryd.sizeOf2
  v2 := Tryd.zeroValue2
  t3 := Tryd.underlying3
  a3 := Tryd.isAgg3
  z3 := Tryd.sizeOf3
  v3 := Tryd.zeroValue3
  t4 := Tryd.underlying4
  a4 := Tryd.isAgg4
  z4 := Tryd.sizeOf4
  v4 := Tryd.zeroValue4
  t5 := Tryd.underlying5
  a5 := Tryd.isAgg5
  z5 := Tryd.sizeOf5
  v5 := Tryd.zeroValue5
  t9 := Tryd.underlying9
  a9 := Tryd.isAgg9
  z9 := Tryd.sizeOf9
  v9 := Tryd.zeroValue9
  t20 := Tryd.underlying20
  a20 := Tryd.isAgg20
  z20 := Tryd.sizeOf20
  v20 := Tryd.zeroValue20
  t37 := Tryd.underlying30
  a37 := Tryd.isAgg30
  z37 := Tryd.sizeOf30
  v37 := Tryd.zeroValue30
  t46 := Tryd.underlying61
  a46 := Tryd.isAgg61
  z46 := Tryd.sizeOf61
  v46 := Tryd.zeroValue61
  t51 := Tryd.underlying90
  a51 := Tryd.isAgg90
  z51 := Tryd.sizeOf90
  v51 := Tryd.zeroValue90
  t53 := Tryd.underlying98
  a53 := Tryd.isAgg98
  z53 := Tryd.sizeOf98
  v53 := Tryd.zeroValue98
  t171 := Tryd.underlying103
  a171 := Tryd.isAgg103
  z171 := Tryd.sizeOf103
  v171 := Tryd.zeroValue103
  t173 := Tryd.underlying106
  a173 := Tryd.isAgg106
  z173 := Tryd.sizeOf106
  v173 := Tryd.zeroValue106
  t212 := Tryd.underlying115
  a212 := Tryd.isAgg115
  z212 := Tryd.sizeOf115
  v212 := Tryd.zeroValue115
  t213 := Tryd.underlying116
  a213 := Tryd.isAgg116
  z213 := Tryd.sizeOf116
  t232 := Tryd.underlying128
  a232 := Tryd.isAgg128
  z232 := Tryd.sizeOf128
  v232 := Tryd.zeroValue128
  t233 := Tryd.underlying129
  a233 := Tryd.isAgg129
  z233 := Tryd.sizeOf129
  v233 := Tryd.zeroValue129
  g17 := by kernel_rfl
  g18 := by kernel_rfl
  g19 := by kernel_rfl
  i0 := by kernel_rfl
  i2 := by kernel_rfl
  i3 := by kernel_rfl
  i4 := by kernel_rfl
  i5 := by kernel_rfl
  i9 := by kernel_rfl
  i20 := by kernel_rfl
  i37 := by kernel_rfl
  i46 := by kernel_rfl
  i51 := by kernel_rfl
  i53 := by kernel_rfl
  i171 := by kernel_rfl
  i173 := by kernel_rfl
  i212 := by kernel_rfl
  i232 := by kernel_rfl
  i233 := by kernel_rfl
  m17 := by kernel_rfl
  m18 := by kernel_rfl
  m19 := by kernel_rfl }
open Go.RowKit Go.Sort Go.Lib in
theorem Tryd.strconv_Itoa (n : Int) (h0 : -9223372036854775808 ≤ n) (h1 : n ≤ 9223372036854775807) (w : World) (htab : Lib.TabIs Tryd.prog w "internal/strconv.uint64pow10" .u64 Lib.pow10Tab) :
    Calls Tryd.prog 53 #[.int .i64 n] w fun e w' => e = .returned (.string ⟨(Lib.itoa n).toArray⟩) ∧ ∃ k os, w' = grow (w.drewN k) os := Any.strconv_Itoa Tryd.laysM171 n h0 h1 w htab
def Tryd.laysC172_ren : Go.Shelf.Ren := ⟨fun | 172 => 64 | 244 => 68 | 245 => 69 | 247 => 74 | 279 => 75 | 280 => 76 | 281 => 77 | 282 => 78 | 287 => 84 | 316 => 85 | 171 => 53 | 205 => 86 | 321 => 89 | 322 => 90 | 243 => 61 | 246 => 66 | 283 => 70 | 284 => 71 | 285 => 72 | 286 => 73 | 129 => 80 | 317 => 79 | 318 => 81 | 319 => 82 | 320 => 83 | 337 => 87 | 338 => 88 | n => n, fun | 9 => 9 | 3 => 3 | 75 => 56 | 76 => 58 | 4 => 4 | 5 => 5 | 167 => 108 | 37 => 30 | 0 => 0 | 85 => 109 | 2 => 2 | 168 => 111 | 53 => 98 | 175 => 118 | 46 => 61 | 210 => 121 | 127 => 76 | 145 => 127 | 143 => 125 | 21 => 21 | 171 => 103 | 173 => 106 | 212 => 115 | 51 => 90 | 20 => 20 | 213 => 116 | 232 => 128 | 233 => 129 | 80 => 53 | n => n, fun | 15 => 3 | 16 => 4 | 17 => 2 | 18 => 5 | 19 => 6 | n => n⟩
theorem Tryd.laysC172 : Go.Proofs.LaysC.n172 Tryd.prog Tryd.laysC172_ren := {
  mixed := by kernel_rfl
  f129 := Tryd.func80.trans (congrArg some (by kernel_rfl))
  f171 := Tryd.func53.trans (congrArg some (by kernel_rfl))
  f172 := Tryd.func64.trans (congrArg some (by kernel_rfl))
  f205 := Tryd.func86.trans (congrArg some (by kernel_rfl))
  f243 := Tryd.func61.trans (congrArg some (by kernel_rfl))
  f244 := Tryd.func68.trans (congrArg some (by kernel_rfl))
  f245 := Tryd.func69.trans (congrArg some (by kernel_rfl))
  f246 := Tryd.func66.trans (congrArg some (by kernel_rfl))
  f247 := Tryd.func74.trans (congrArg some (by kernel_rfl))
  f279 := Tryd.func75.trans (congrArg some (by kernel_rfl))
  f280 := Tryd.func76.trans (congrArg some (by kernel_rfl))
  f281 := Tryd.func77.trans (congrArg some (by kernel_rfl))
  f282 := Tryd.func78.trans (congrArg some (by kernel_rfl))
  f283 := Tryd.func70.trans (congrArg some (by kernel_rfl))
  f284 := Tryd.func71.trans (congrArg some (by kernel_rfl))
  f285 := Tryd.func72.trans (congrArg some (by kernel_rfl))
  f286 := Tryd.func73.trans (congrArg some (by kernel_rfl))
  f287 := Tryd.func84.trans (congrArg some (by kernel_rfl))
  f316 := Tryd.func85.trans (congrArg some (by kernel_rfl))
  f317 := Tryd.func79.trans (congrArg some (by kernel_rfl))
  f318 := Tryd.func81.trans (congrArg some (by kernel_rfl))
  f319 := Tryd.func82.trans (congrArg some (by kernel_rfl))
  f320 := Tryd.func83.trans (congrArg some (by kernel_rfl))
  f321 := Tryd.func89.trans (congrArg some (by kernel_rfl))
  f322 := Tryd.func90.trans (congrArg some (by kernel_rfl))
  f337 := Tryd.func87.trans (congrArg some (by kernel_rfl))
  f338 := Tryd.func88.trans (congrArg some (by kernel_rfl))
  t0 := Tryd.underlying0
  a0 := Tryd.isAgg0
  z0 := Tryd.sizeOf0
  v0 := Tryd.zeroValue0
  t2 := Tryd.underlying2
  a2 := Tryd.isAgg2
  z2 := Tryd.sizeOf2
  v2 := Tryd.zeroValue2
  t3 := Tryd.underlying3
  a3 := Tryd.isAgg3
  z3 := Tryd.sizeOf3
  v3 := Tryd.zeroValue3
  t4 := Tryd.underlying4
  a4 := Tryd.isAgg4
  z4 := Tryd.sizeOf4
  v4 := Tryd.zeroValue4
  t5 := Tryd.underlying5
  a5 := Tryd.isAgg5
  z5 := Tryd.sizeOf5
  v5 := Tryd.zeroValue5
  t9 := Tryd.underlying9
  a9 := Tryd.isAgg9
  z9 := Tryd.sizeOf9
  v9 := Tryd.zeroValue9
  t20 := Tryd.underlying20
  a20 := Tryd.isAgg20
  z20 := Tryd.sizeOf20
  v20 := Tryd.zeroValue20
  t21 := Tryd.underlying21
  a21 := Tryd.isAgg21
  z21 := Tryd.sizeOf21
  v21 := Tryd.zeroValue21
  t37 := Tryd.underlying30
  a37 := Tryd.isAgg30
  z37 := Tryd.sizeOf30
  v37 := Tryd.zeroValue30
  t46 := Tryd.underlying61
  a46 := Tryd.isAgg61
  z46 := Tryd.sizeOf61
  v46 := Tryd.zeroValue61
  t51 := Tryd.underlying90
  a51 := Tryd.isAgg90
  z51 := Tryd.sizeOf90
  v51 := Tryd.zeroValue90
  t53 := Tryd.underlying98
  a53 := Tryd.isAgg98
  z53 := Tryd.sizeOf98
  v53 := Tryd.zeroValue98
  t75 := Tryd.underlying56
  a75 := Tryd.isAgg56
  z75 := Tryd.sizeOf56
  v75 := Tryd.zeroValue56
  t76 := Tryd.underlying58
  a76 := Tryd.isAgg58
  z76 := Tryd.sizeOf58
  v76 := Tryd.zeroValue58
  t85 := Tryd.underlying109
  a85 := Tryd.isAgg109
  z85 := Tryd.sizeOf109
  v85 := Tryd.zeroValue109
  t127 := Tryd.underlying76
  a127 := Tryd.isAgg76
  z127 := Tryd.sizeOf76
  v127 := Tryd.zeroValue76
  t143 := Tryd.underlying125
  a143 := Tryd.isAgg125
  z143 := Tryd.sizeOf125
  v143 := Tryd.zeroValue125
  t145 := Tryd.underlying127
  a145 := Tryd.isAgg127
  z145 := Tryd.sizeOf127
  v145 := Tryd.zeroValue127
  t167 := Tryd.underlying108
  a167 := Tryd.isAgg108
  z167 := Tryd.sizeOf108
  v167 := Tryd.zeroValue108
  t168 := Tryd.underlying111
  a168 := Tryd.isAgg111
  z168 := Tryd.sizeOf111
  v168 := Tryd.zeroValue111
  t171 := Tryd.underlying103
  a171 := Tryd.isAgg103
  z171 := Tryd.sizeOf103
  v171 := Tryd.zeroValue103
  t173 := Tryd.underlying106
  a173 := Tryd.isAgg106
  z173 := Tryd.sizeOf106
  v173 := Tryd.zeroValue106
  t175 := Tryd.underlying118
  a175 := Tryd.isAgg118
  z175 := Tryd.sizeOf118
  v175 := Tryd.zeroValue118
  t210 := Tryd.underlying121
  a210 := Tryd.isAgg121
  z210 := Tryd.sizeOf121
  v210 := Tryd.zeroValue121
  t212 := Tryd.underlying115
  a212 := Tryd.isAgg115
  z212 := Tryd.sizeOf115
  v212 := Tryd.zeroValue115
  t213 := Tryd.underlying116
  a213 := Tryd.isAgg116
  z213 := Tryd.sizeOf116
  t232 := Tryd.underlying128
  a232 := Tryd.isAgg128
  z232 := Tryd.sizeOf128
  v232 := Tryd.zeroValue128
  t233 := Tryd.underlying129
  a233 := Tryd.isAgg129
  z233 := Tryd.sizeOf129
  v233 := Tryd.zeroValue129
  g15 := by kernel_rfl
  g16 := by kernel_rfl
  g17 := by kernel_rfl
  g18 := by kernel_rfl
  g19 := by kernel_rfl
  t80 := Tryd.underlying53
  a80 := Tryd.isAgg53
  z80 := Tryd.sizeOf53
  v80 := Tryd.zeroValue53
  i0 := by kernel_rfl
  i2 := by kernel_rfl
  i3 := by kernel_rfl
  i4 := by kernel_rfl
  i5 := by kernel_rfl
  i9 := by kernel_rfl
  i20 := by kernel_rfl
  i21 := by kernel_rfl
  i37 := by kernel_rfl
  i46 := by kernel_rfl
  i51 := by kernel_rfl
  i53 := by kernel_rfl
  i75 := by kernel_rfl
  i76 := by kernel_rfl
  i80 := by kernel_rfl
  i85 := by kernel_rfl
  i127 := by kernel_rfl
  i143 := by kernel_rfl
  i145 := by kernel_rfl
  i167 := by kernel_rfl
  i168 := by kernel_rfl
  i171 := by kernel_rfl
  i173 := by kernel_rfl
  i175 := by kernel_rfl
  i210 := by kernel_rfl
  i212 := by kernel_rfl
  i232 := by kernel_rfl
  i233 := by kernel_rfl
  m15 := by kernel_rfl
  m16 := by kernel_rfl
  m17 := by kernel_rfl
  m18 := by kernel_rfl
  m19 := by kernel_rfl
  c0 := by kernel_rfl
  c2 := by kernel_rfl
  c3 := by kernel_rfl
  c4 := by kernel_rfl
  c5 := by kernel_rfl
  c9 := by kernel_rfl
  c20 := by kernel_rfl
  c21 := by kernel_rfl
  c37 := by kernel_rfl
  c46 := by kernel_rfl
  c51 := by kernel_rfl
  c53 := by kernel_rfl
  c75 := by kernel_rfl
  c76 := by kernel_rfl
  c80 := by kernel_rfl
  c85 := by kernel_rfl
  c127 := by kernel_rfl
  c143 := by kernel_rfl
  c145 := by kernel_rfl
  c167 := by kernel_rfl
  c168 := by kernel_rfl
  c171 := by kernel_rfl
  c173 := by kernel_rfl
  c175 := by kernel_rfl
  c210 := by kernel_rfl
  c212 := by kernel_rfl
  c213 := by kernel_rfl
  c232 := by kernel_rfl
  c233 := by kernel_rfl }
open Go.RowKit in
theorem Tryd.strconv_Atoi_ok (s : ByteArray) (hmax : s.size ≤ 9223372036854775806) (v : Int) (h : Lib.atoiAll s.data.toList = .ok v) (w : World) :
    Calls Tryd.prog 64 #[.string s] w fun e w' => e = .returned (.tuple #[.int .i64 v, .nilIface]) ∧ (w' = w ∨ ∃ t, w' = Lib.bytesWorld w 5 t) := Any.strconv_Atoi_ok Tryd.laysC172 s hmax v h w
open Go.RowKit in
theorem Tryd.strconv_Atoi_range_var (s : ByteArray) (hlim : s.size ≤ 281474976710656) (h : Lib.atoiAll s.data.toList = .range) (tp : TypeId) (p : Value) (w : World) (hvar : w.var? Tryd.prog "strconv.ErrRange" = some #[.iface tp p]) :
    Calls Tryd.prog 64 #[.string s] w fun e w' => ∃ N, e = .returned (.tuple #[.int .i64 (Lib.atoiSat s.data.toList), .iface 111 (.pointer (some ⟨N, 0, none⟩))]) ∧ w.heap.size ≤ N ∧ w'.heap[N]? = some (.cells #[.string ⟨#[65, 116, 111, 105]⟩, .string s, .iface tp p] 121 (0, 0)) ∧ Below w.heap.size w w' := Any.strconv_Atoi_range_var Tryd.laysC172 s hlim h tp p w hvar
def Tryd.lays197_ren : Go.Shelf.Ren := ⟨fun | 197 => 57 | 260 => 63 | n => n, fun | 9 => 9 | 21 => 21 | 3 => 3 | 4 => 4 | 5 => 5 | 105 => 92 | 119 => 84 | 0 => 0 | 46 => 61 | 139 => 87 | 138 => 86 | n => n, fun | 3 => 0 | 4 => 1 | n => n⟩
theorem Tryd.lays197 : Go.Proofs.Lays.n197 Tryd.prog Tryd.lays197_ren := {
  mixed := by kernel_rfl
  f197 := Tryd.func57.trans (congrArg some (by kernel_rfl))
  f260 := Tryd.func63.trans (congrArg some (by kernel_rfl))
  t0 := Tryd.underlying0
  a0 := Tryd.isAgg0
  z0 := Tryd.sizeOf0
  v0 := Tryd.zeroValue0
  t3 := Tryd.underlying3
  a3 := Tryd.isAgg3
  z3 := Tryd.sizeOf3
  v3 := Tryd.zeroValue3
  t4 := Tryd.underlying4
  a4 := Tryd.isAgg4
  z4 := Tryd.sizeOf4
  v4 := Tryd.zeroValue4
  t5 := Tryd.underlying5
  a5 := Tryd.isAgg5
  z5 := Tryd.sizeOf5
  v5 := Tryd.zeroValue5
  t9 := Tryd.underlying9
  a9 := Tryd.isAgg9
  z9 := Tryd.sizeOf9
  v9 := Tryd.zeroValue9
  t21 := Tryd.underlying21
  a21 := Tryd.isAgg21
  z21 := Tryd.sizeOf21
  v21 := Tryd.zeroValue21
  t46 := Tryd.underlying61
  a46 := Tryd.isAgg61
  z46 := Tryd.sizeOf61
  v46 := Tryd.zeroValue61
  t105 := Tryd.underlying92
  a105 := Tryd.isAgg92
  z105 := Tryd.sizeOf92
  v105 := Tryd.zeroValue92
  t119 := Tryd.underlying84
  a119 := Tryd.isAgg84
  z119 := Tryd.sizeOf84
  t138 := Tryd.underlying86
  a138 := Tryd.isAgg86
  z138 := Tryd.sizeOf86
  v138 := Tryd.zeroValue86
  t139 := Tryd.underlying87
  a139 := Tryd.isAgg87
  z139 := Tryd.sizeOf87
  v139 := Tryd.zeroValue87
  g3 := by kernel_rfl
  g4 := by kernel_rfl }
open Go.RowKit Go.Lib in
theorem Tryd.utf8_DecodeRuneInString (s : ByteArray) (w : World) (hT : Lib.Utf8Tabs 0 1 w) :
    Calls Tryd.prog 57 #[.string s] w fun e w' => e = .returned (.tuple #[.int .i32 (Lib.decodeGo s).1, .int .i64 (Lib.decodeGo s).2]) ∧ Below w.heap.size w w' := Any.utf8_DecodeRuneInString Tryd.lays197 s w hT
def Tryd.lays110_ren : Go.Shelf.Ren := ⟨fun | 110 => 60 | 109 => 65 | n => n, fun | 31 => 36 | 9 => 9 | 4 => 4 | 3 => 3 | 0 => 0 | n => n, fun | n => n⟩
theorem Tryd.lays110 : Go.Proofs.Lays.n110 Tryd.prog Tryd.lays110_ren := {
  mixed := by kernel_rfl
  f109 := Tryd.func65.trans (congrArg some (by kernel_rfl))
  f110 := Tryd.func60.trans (congrArg some (by kernel_rfl))
  t0 := Tryd.underlying0
  a0 := Tryd.isAgg0
  z0 := Tryd.sizeOf0
  v0 := Tryd.zeroValue0
  t3 := Tryd.underlying3
  a3 := Tryd.isAgg3
  z3 := Tryd.sizeOf3
  v3 := Tryd.zeroValue3
  t4 := Tryd.underlying4
  a4 := Tryd.isAgg4
  z4 := Tryd.sizeOf4
  v4 := Tryd.zeroValue4
  t9 := Tryd.underlying9
  a9 := Tryd.isAgg9
  z9 := Tryd.sizeOf9
  v9 := Tryd.zeroValue9
  t31 := Tryd.underlying36
  a31 := Tryd.isAgg36
  z31 := Tryd.sizeOf36
  v31 := Tryd.zeroValue36 }
open Go.Lib in
theorem Tryd.slices_Contains_string (b off n c : Nat) (zs : List ByteArray) (x : ByteArray) (w : World) (hz : n ≤ zs.length) (hbig : n ≤ 9223372036854775807) (hc : ∀ j, j < zs.length → w.cell? ⟨b, off + j, none⟩ = some (.string (zs.getD j ByteArray.empty))) :
    Calls Tryd.prog 60 #[.slice (some ⟨b, off, none⟩) n c, .string x] w fun e w' => e = .returned (.bool (Lib.containsS (zs.take n) x)) ∧ w' = w := Any.slices_Contains_string Tryd.lays110 b off n c zs x w hz hbig hc
open Go.Lib in
theorem Tryd.slices_Contains_string_empty (a : Option Addr) (c : Nat) (x : ByteArray) (w : World) :
    Calls Tryd.prog 60 #[.slice a 0 c, .string x] w fun e w' => e = .returned (.bool false) ∧ w' = w := Any.slices_Contains_string_empty Tryd.lays110 a c x w
def Tryd.lays196_ren : Go.Shelf.Ren := ⟨fun | 196 => 37 | 259 => 52 | n => n, fun | 9 => 9 | 4 => 4 | 3 => 3 | 5 => 5 | 12 => 12 | 119 => 84 | 0 => 0 | 46 => 61 | 139 => 87 | 138 => 86 | 53 => 98 | n => n, fun | 3 => 0 | 4 => 1 | n => n⟩
theorem Tryd.lays196 : Go.Proofs.Lays.n196 Tryd.prog Tryd.lays196_ren := {
  mixed := by kernel_rfl
  f196 := Tryd.func37.trans (congrArg some (by kernel_rfl))
  f259 := Tryd.func52.trans (congrArg some (by kernel_rfl))
  t0 := Tryd.underlying0
  a0 := Tryd.isAgg0
  z0 := Tryd.sizeOf0
  v0 := Tryd.zeroValue0
  t3 := Tryd.underlying3
  a3 := Tryd.isAgg3
  z3 := Tryd.sizeOf3
  v3 := Tryd.zeroValue3
  t4 := Tryd.underlying4
  a4 := Tryd.isAgg4
  z4 := Tryd.sizeOf4
  v4 := Tryd.zeroValue4
  t5 := Tryd.underlying5
  a5 := Tryd.isAgg5
  z5 := Tryd.sizeOf5
  v5 := Tryd.zeroValue5
  t9 := Tryd.underlying9
  a9 := Tryd.isAgg9
  z9 := Tryd.sizeOf9
  v9 := Tryd.zeroValue9
  t12 := Tryd.underlying12
  a12 := Tryd.isAgg12
  z12 := Tryd.sizeOf12
  v12 := Tryd.zeroValue12
  t46 := Tryd.underlying61
  a46 := Tryd.isAgg61
  z46 := Tryd.sizeOf61
  v46 := Tryd.zeroValue61
  t53 := Tryd.underlying98
  a53 := Tryd.isAgg98
  z53 := Tryd.sizeOf98
  v53 := Tryd.zeroValue98
  t119 := Tryd.underlying84
  a119 := Tryd.isAgg84
  z119 := Tryd.sizeOf84
  t138 := Tryd.underlying86
  a138 := Tryd.isAgg86
  z138 := Tryd.sizeOf86
  v138 := Tryd.zeroValue86
  t139 := Tryd.underlying87
  a139 := Tryd.isAgg87
  z139 := Tryd.sizeOf87
  v139 := Tryd.zeroValue87
  g3 := by kernel_rfl
  g4 := by kernel_rfl }
open Go.RowKit Go.Lib in
theorem Tryd.utf8_ValidString (s : ByteArray) (w : World) (hs : s.size ≤ 9223372036854775807) (hT : Lib.Utf8Tabs 0 1 w) :
    Calls Tryd.prog 37 #[.string s] w fun e w' => e = .returned (.bool (Lib.validD s.data.toList)) ∧ Below w.heap.size w w' := Any.utf8_ValidString Tryd.lays196 s w hs hT
end Go.Proofs
namespace Go.Proofs.YtldlkoncndlbhaaDoor
open Go.RowKit Go.Proofs.YtldlkoncndlbhaaDoorW.PrintWords
def Glob (w : World) : Prop := Lib.TabIs Tryd.prog w "internal/strconv.uint64pow10" .u64 Lib.pow10Tab ∧ Lib.Utf8Tabs 0 1 w
theorem g_pow : Tryd.prog.globalNamed "internal/strconv.uint64pow10" = some 2 := by kernel_rfl
theorem var_below {n : String} {g : Nat} {cs : Array Value} {w w' : World} (hb : Below w.heap.size w w') (hg : Tryd.prog.globalNamed n = some g) (hne : 0 < cs.size) (hv : w.var? Tryd.prog n = some cs) : w'.var? Tryd.prog n = some cs := by
  refine var?_below hb hg ?_ hv
  have h := World.var?_cell hg hv 0
  rw [Array.getElem?_eq_getElem hne] at h
  exact World.block_lt_of_cell? w _ h
theorem Glob.below {w w' : World} (h : Glob w) (hb : Below w.heap.size w w') : Glob w' := ⟨var_below hb g_pow (by decide +kernel) h.1, Utf8Tabs_below h.2 hb⟩
end Go.Proofs.YtldlkoncndlbhaaDoor
-- Laid by wip/mk/mk.py of this session (the kit's printer with this session's contracts for library functions).
namespace Go.Proofs.YtldlkoncndlbhaaDoor.PRa
open Go.RowKit Go.Proofs.YtldlkoncndlbhaaDoorW.PrintWords Go.Proofs.YtldlkoncndlbhaaDoorW.PrintLast Go.Proofs.YtldlkoncndlbhaaDoorW.PrintMore
attribute [local go_sem] max2_int min2_int max_two min_two max_three min_three max_four min_four   -- for this text's walks alone
set_option linter.unusedVariables false
set_option linter.unusedSimpArgs false
def errW : Option Int → Value
  | none => .nilIface
  | some c => .iface 0 (.int .i64 c)
-- the values' own types
end Go.Proofs.YtldlkoncndlbhaaDoor.PRa
-- Laid by wip/mk/mk.py of this session (the kit's printer with this session's contracts for library functions).
namespace Go.Proofs.YtldlkoncndlbhaaDoor.PRa
open Go.RowKit Go.Proofs.YtldlkoncndlbhaaDoorW.PrintWords Go.Proofs.YtldlkoncndlbhaaDoorW.PrintLast Go.Proofs.YtldlkoncndlbhaaDoorW.PrintMore
attribute [local go_sem] max2_int min2_int max_two min_two max_three min_three max_four min_four   -- for this text's walks alone
set_option linter.unusedVariables false
set_option linter.unusedSimpArgs false
/-! ### haulierref02_Rune: function 36 -/
mutual
def haulierref02_Rune.j2 : Nat → List Int → Int → Int → Int → Option (Int)
  | 0, _, _, _, _ => none
  | k + 1, x0, x3, x4, x6 => if x3 = 0 then (haulierref02_Rune.j3 k x0 x3 x4 x6 true) else (haulierref02_Rune.j3 k x0 x3 x4 x6 (decide ((x0.length : Int) < x3)))
def haulierref02_Rune.j3 : Nat → List Int → Int → Int → Int → Bool → Option (Int)
  | 0, _, _, _, _, _ => none
  | k + 1, x0, x3, x4, x6, x49 => if x49 = true then (some 0) else (haulierref02_Rune.l0 k x0 x3 x4 x6 1)
def haulierref02_Rune.l0 : Nat → List Int → Int → Int → Int → Int → Option (Int)
  | 0, _, _, _, _, _ => none
  | k + 1, x0, x3, x4, x6, x7 => if x7 < x3 then (if 0 ≤ x7 then (if x7 < (x0.length : Int) then (if ((rd x0 x7) / 64) = 2 then (haulierref02_Rune.l0 k x0 x3 x4 (Go.bits .or .i64 (wrap64 (x6 * 64)) (wrap64 (Go.bits .and .u8 (rd x0 x7) 63))) (wrap64 (x7 + 1))) else (some 0)) else (none)) else (none)) else (if x6 < x4 then (some 0) else (if x6 > 1114111 then (some 0) else (if x6 ≥ 55296 then (if x6 < 57344 then (some 0) else (some x3)) else (some x3))))
def haulierref02_Rune.j0 : Nat → List Int → Int → Int → Int → Int → Bool → Option (Int)
  | 0, _, _, _, _, _, _ => none
  | k + 1, x0, x3, x4, x5, x6, x15 => if x15 = true then (haulierref02_Rune.j2 k x0 2 128 (Go.bits .and .i64 x5 31)) else (if x5 ≥ 224 then (haulierref02_Rune.j1 k x0 x3 x4 x5 x6 (decide (x5 < 240))) else (haulierref02_Rune.j1 k x0 x3 x4 x5 x6 false))
def haulierref02_Rune.j1 : Nat → List Int → Int → Int → Int → Int → Bool → Option (Int)
  | 0, _, _, _, _, _, _ => none
  | k + 1, x0, x3, x4, x5, x6, x24 => if x24 = true then (haulierref02_Rune.j2 k x0 3 2048 (Go.bits .and .i64 x5 15)) else (if x5 ≥ 240 then (if x5 < 245 then (haulierref02_Rune.j2 k x0 4 65536 (Go.bits .and .i64 x5 7)) else (haulierref02_Rune.j2 k x0 x3 x4 x6)) else (haulierref02_Rune.j2 k x0 x3 x4 x6))
end
def haulierref02_Rune.f (k : Nat) (l0 : List Int) : Option (Int) := if 0 < (l0.length : Int) then (if (wrap64 (rd l0 0)) < 128 then (some 1) else (if (wrap64 (rd l0 0)) ≥ 194 then (haulierref02_Rune.j0 k l0 0 0 (wrap64 (rd l0 0)) 0 (decide ((wrap64 (rd l0 0)) < 224))) else (haulierref02_Rune.j0 k l0 0 0 (wrap64 (rd l0 0)) 0 false))) else (none)
end Go.Proofs.YtldlkoncndlbhaaDoor.PRa
namespace Go.Proofs.YtldlkoncndlbhaaDoor.Utf
open Go.RowKit Go.Proofs.YtldlkoncndlbhaaDoor.PRa Go.Proofs.YtldlkoncndlbhaaDoorW.PrintWords Go.Proofs.YtldlkoncndlbhaaDoorW.PrintLast Go.Proofs.YtldlkoncndlbhaaDoorW.PrintMore
/-- A byte that goes on. -/
def cont (b : UInt8) : Bool := b.toNat / 64 == 2
def two (a b : UInt8) : Nat := (a.toNat % 32) * 64 + b.toNat % 64
def three (a b c : UInt8) : Nat := (a.toNat % 16) * 4096 + (b.toNat % 64) * 64 + c.toNat % 64
def four (a b c d : UInt8) : Nat := (a.toNat % 8) * 262144 + (b.toNat % 64) * 4096 + (c.toNat % 64) * 64 + d.toNat % 64
def w2 : List UInt8 → Nat
  | b :: _ => if cont b then 2 else 0
  | _ => 0
def w3 (a : UInt8) : List UInt8 → Nat
  | b :: c :: _ => if cont b ∧ cont c ∧ 2048 ≤ three a b c ∧ ¬ (55296 ≤ three a b c ∧ three a b c < 57344) then 3 else 0
  | _ => 0
def w4 (a : UInt8) : List UInt8 → Nat
  | b :: c :: d :: _ => if cont b ∧ cont c ∧ cont d ∧ 65536 ≤ four a b c d ∧ four a b c d ≤ 1114111 then 4 else 0
  | _ => 0
def lead (a : UInt8) (r : List UInt8) : Nat :=
  if a.toNat < 128 then 1
  else if 194 ≤ a.toNat ∧ a.toNat < 224 then w2 r
  else if 224 ≤ a.toNat ∧ a.toNat < 240 then w3 a r
  else if 240 ≤ a.toNat ∧ a.toNat < 245 then w4 a r
  else 0
/-- How many bytes the encoding of a rune has that begins here; 0: none does. -/
def wid : List UInt8 → Nat
  | [] => 0
  | a :: r => lead a r
theorem w2_le (r : List UInt8) : w2 r ≤ r.length + 1 := by
  unfold w2
  split
  · rw [List.length_cons]; split <;> omega
  · omega
theorem w3_le (a : UInt8) (r : List UInt8) : w3 a r ≤ r.length + 1 := by
  unfold w3
  split
  · rw [List.length_cons, List.length_cons]; split <;> omega
  · omega
theorem w4_le (a : UInt8) (r : List UInt8) : w4 a r ≤ r.length + 1 := by
  unfold w4
  split
  · rw [List.length_cons, List.length_cons, List.length_cons]; split <;> omega
  · omega
theorem wid_le (l : List UInt8) : wid l ≤ l.length := by
  cases l with
  | nil => exact Nat.le_refl _
  | cons a r =>
    show lead a r ≤ r.length + 1
    have h2 := w2_le r
    have h3 := w3_le a r
    have h4 := w4_le a r
    unfold lead
    repeat' split
    all_goals omega
/-- Is it UTF-8 to its end? -/
def utf (l : List UInt8) : Bool := if _h : l = [] then true else if _h2 : wid l = 0 then false else utf (l.drop (wid l))
termination_by l.length
decreasing_by
  rw [List.length_drop]
  have : 0 < l.length := List.length_pos_iff.2 _h
  omega
end Go.Proofs.YtldlkoncndlbhaaDoor.Utf
namespace Go.Proofs.YtldlkoncndlbhaaDoor.Utf
open Go.Lib
set_option linter.unusedSimpArgs false
theorem dec_cons (a : UInt8) (r : List UInt8) : decodeL (a :: r) = decodeN (r.length + 1) a.toNat (r.getD 0 0).toNat (r.getD 1 0).toNat (r.getD 2 0).toNat := by
  rw [decodeL_N]
  rfl
theorem dec_bad (l : List UInt8) (hne : l ≠ []) (h : wid l = 0) : decodeL l = (65533, 1) := by
  cases l with
  | nil => exact absurd rfl hne
  | cons a r =>
    rw [dec_cons]
    have h : lead a r = 0 := h
    have ha := a.toNat_lt
    unfold lead at h
    unfold decodeN
    match r, h with
    | [], h =>
      simp only [w2, w3, w4, List.length_nil] at h ⊢
      split at h
      · omega
      · rename_i h1
        rw [if_neg h1, if_neg (by omega), if_neg (by omega), if_neg (by omega)]
    | [b], h =>
      simp only [w2, w3, w4, List.length_cons, List.length_nil, List.getD_cons_zero, cont, two, three, four] at h ⊢
      repeat' split at h
      all_goals (repeat' split)
      all_goals first | rfl | (exfalso; simp at * <;> omega)
    | [b, c], h =>
      simp only [w2, w3, w4, List.length_cons, List.length_nil, List.getD_cons_zero, List.getD_cons_succ, cont, two, three, four] at h ⊢
      repeat' split at h
      all_goals (repeat' split)
      all_goals first | rfl | (exfalso; simp at * <;> omega)
    | b :: c :: d :: r, h =>
      simp only [w2, w3, w4, List.length_cons, List.getD_cons_zero, List.getD_cons_succ, cont, two, three, four] at h ⊢
      repeat' split at h
      all_goals (repeat' split)
      all_goals first | rfl | (exfalso; simp at * <;> omega)
theorem dec_good (l : List UInt8) (h : wid l ≠ 0) : (decodeL l).2 = wid l ∧ ((decodeL l).1 = 65533 → wid l = 3) := by
  cases l with
  | nil => exact absurd rfl h
  | cons a r =>
    rw [dec_cons]
    have ha := a.toNat_lt
    rw [show wid (a :: r) = lead a r from rfl] at h ⊢
    unfold lead at h ⊢
    unfold decodeN
    match r, h with
    | [], h =>
      simp only [w2, w3, w4, List.length_nil] at h ⊢
      split at h
      · rename_i h1
        rw [if_pos h1, if_pos h1]
        exact ⟨rfl, fun e => by simp at e; omega⟩
      · simp at h
    | [b], h =>
      simp only [w2, w3, w4, List.length_cons, List.length_nil, List.getD_cons_zero, cont, two, three, four] at h ⊢
      repeat' split at h
      all_goals (repeat' split)
      all_goals first | exact absurd rfl h | (refine ⟨?_, ?_⟩ <;> simp at * <;> omega)
    | [b, c], h =>
      simp only [w2, w3, w4, List.length_cons, List.length_nil, List.getD_cons_zero, List.getD_cons_succ, cont, two, three, four] at h ⊢
      repeat' split at h
      all_goals (repeat' split)
      all_goals first | exact absurd rfl h | (refine ⟨?_, ?_⟩ <;> simp at * <;> omega)
    | b :: c :: d :: r, h =>
      simp only [w2, w3, w4, List.length_cons, List.getD_cons_zero, List.getD_cons_succ, cont, two, three, four] at h ⊢
      repeat' split at h
      all_goals (repeat' split)
      all_goals first | exact absurd rfl h | (refine ⟨?_, ?_⟩ <;> simp at * <;> omega)
theorem validGo_utf : ∀ (n : Nat) (l : List UInt8), l.length ≤ n → validGoD n l = utf l
  | 0, l, h => by
    obtain rfl : l = [] := List.eq_nil_of_length_eq_zero (by omega)
    unfold utf
    rfl
  | n + 1, l, h => by
    unfold validGoD utf
    by_cases hne : l = []
    · rw [if_pos hne, dif_pos hne]
    · rw [if_neg hne, dif_neg hne]
      by_cases hw : wid l = 0
      · rw [dif_pos hw, dec_bad l hne hw, if_pos ⟨rfl, rfl⟩]
      · obtain ⟨h2, h3⟩ := dec_good l hw
        have hpos : 0 < l.length := List.length_pos_iff.2 hne
        rw [dif_neg hw, if_neg (fun e => by have := h3 e.1; omega), h2]
        exact validGo_utf n _ (by rw [List.length_drop]; omega)
theorem valid_utf (l : List UInt8) : validD l = utf l := validGo_utf _ _ (Nat.le_refl _)
end Go.Proofs.YtldlkoncndlbhaaDoor.Utf
namespace Go.Proofs.YtldlkoncndlbhaaDoor.Mb
open Go Go.Maps
theorem plainElem_bool_inv {H : Type} {P : Program} {e : TypeId} (he : P.underlying e = some .bool) {v : Value} {z : DataW H × List MemPlace} (h : plainElem P e v = some z) : ∃ x, v = .bool x ∧ z = (.lit (.bool x), []) := by
  unfold plainElem at h
  rw [he] at h
  cases v <;> simp at h
  subst h
  exact ⟨_, rfl, rfl⟩
def litS (s : ByteArray) : Lit := .string s.data.toList
theorem litS_key (s : ByteArray) : WideAt.IsKeyLit (litS s) := by unfold litS WideAt.IsKeyLit; trivial
theorem litS_inj {s t : ByteArray} (h : litS s = litS t) : s = t := by
  unfold litS at h
  injection h with h
  exact ByteArray.ext (Array.toList_inj.1 h)
/-- What was put under these names, one by one. -/
def seenSet (l : List ByteArray) : DataW Unit := setOf (.lit (.bool true)) (l.map litS)
theorem seenSet_nil : seenSet [] = .map [] := rfl
theorem seenSet_snoc (l : List ByteArray) (x : ByteArray) : seenSet (l ++ [x]) = (seenSet l).put (litS x) (.lit (.bool true)) := by
  unfold seenSet
  rw [List.map_append]
  exact setOf_snoc _ _ _
/-- Is it among these? -/
def hasName (s : ByteArray) (l : List ByteArray) : Bool := l.any fun t => t.data.toList == s.data.toList
theorem hasName_iff (s : ByteArray) (l : List ByteArray) : hasName s l = true ↔ s ∈ l := by
  unfold hasName
  rw [List.any_eq_true]
  constructor
  · rintro ⟨t, h, e⟩
    have := ByteArray.ext (Array.toList_inj.1 (eq_of_beq e))
    exact this ▸ h
  · intro h
    exact ⟨s, h, beq_self_eq_true _⟩
theorem hasName_nil (s : ByteArray) : hasName s [] = false := rfl
theorem hasName_cons (s x : ByteArray) (l : List ByteArray) : hasName s (x :: l) = (x.data.toList == s.data.toList || hasName s l) := rfl
theorem atKey_fold (s : ByteArray) : ∀ (l : List ByteArray) (m : DataW Unit), IsMap m → (l.foldl (fun m x => m.put (litS x) (.lit (.bool true))) m).atKey (litS s) (.lit (.bool false)) = if hasName s l = true then .lit (.bool true) else m.atKey (litS s) (.lit (.bool false))
  | [], _, _ => by simp [hasName_nil]
  | x :: l, m, h => by
    rw [List.foldl_cons, atKey_fold s l _ (h.put _ _)]
    by_cases h1 : hasName s l = true
    · rw [if_pos h1, if_pos (by rw [hasName_cons, h1, Bool.or_true])]
    · rw [if_neg h1]
      by_cases h2 : s = x
      · subst h2
        rw [if_pos (by rw [hasName_cons, beq_self_eq_true, Bool.true_or]), atKey_put_same h (litS_key _)]
      · have h3 : (x.data.toList == s.data.toList) = false := by
          rw [beq_eq_false_iff_ne]
          exact fun e => h2 (ByteArray.ext (Array.toList_inj.1 e)).symm
        rw [if_neg (by rw [hasName_cons, h3, Bool.false_or]; exact h1), atKey_put_other (fun e => h2 (litS_inj e))]
theorem atKey_seen (s : ByteArray) (l : List ByteArray) : (seenSet l).atKey (litS s) (.lit (.bool false)) = .lit (.bool (hasName s l)) := by
  unfold seenSet setOf
  rw [List.foldl_map, atKey_fold s l _ isMap_empty]
  by_cases h : hasName s l = true
  · rw [if_pos h, h]
  · rw [if_neg h, Bool.eq_false_iff.2 h]
    rfl
/-- The look-up, for the walk. -/
theorem wpList_lookup_seen {P : Program} (w : World) {ops : Array Oper} {rest : List Oper} {o : Oper} {a : Act} {Q : Exit → Act → World → Prop}
    (hg : o.guard = none) (m x : Operand) (t : TypeId) (hop : o.op = Op.lookup t m x false)
    (k e : TypeId) (hk : P.underlying k = some .string) (ht : P.underlying t = some (.map k e)) (he : P.underlying e = some .bool) (hz : (zeroValue e).run P w = .ok (.bool false) w) (b n : Nat) (l : List ByteArray)
    (hm : a.eval m = .map (some b)) (hown : w.ownsMap P k (plainElem P e) b n (seenSet l)) (s : ByteArray) (hx : a.eval x = .string s) (hs : s.size ≤ maxLen)
    (hK : wpList P ops Q rest (a.put o.dst (.bool (hasName s l))) w) :
    wpList P ops Q (o :: rest) a w := by
  refine wpList_plain hg fun K' hK' => ?_
  obtain ⟨v, ps, hrun, hv⟩ := hown.lookup (string_keyed hk) ht hz (plainElem_bool he false) (WideMaps.keyOf_string_mk hk hs)
  obtain ⟨c, rfl, hc⟩ := plainElem_bool_inv he hv
  have h1 := congrArg Prod.fst hc
  have h2 : (Lit.string s.data.toList) = litS s := rfl
  rw [h2, atKey_seen] at h1
  injection h1 with h1
  injection h1 with h1
  subst h1
  unfold Oper.wp
  simp [execOp, hop, hm, hx, hrun, Result.andThen]
  exact hK' _ _ hK
end Go.Proofs.YtldlkoncndlbhaaDoor.Mb
set_option linter.unusedVariables false
set_option linter.unusedSimpArgs false
namespace Go.Proofs.YtldlkoncndlbhaaDoor.Pl
open Go.RowKit Go.Proofs.YtldlkoncndlbhaaDoor.Utf Go.Proofs.YtldlkoncndlbhaaDoor.Mb Go.Maps Go.Proofs.YtldlkoncndlbhaaDoorW.PrintWords Go.Proofs.YtldlkoncndlbhaaDoorW.PrintLast Go.Proofs.YtldlkoncndlbhaaDoorW.PrintMore
/-- Is each name UTF-8, and none there twice? -/
def namesGo : List ByteArray → List ByteArray → Bool
  | _, [] => true
  | done, n :: r => if hasName n done = true then false else if utf n.data.toList = true then namesGo (done ++ [n]) r else false
/-- What 'plain' answers. -/
def plainB (a0 : Int) (a1 : Bool) (a2 : Int) (a3 : ByteArray) (l4 : List ByteArray) (l5 : List Int) : Bool :=
  if namesGo [] l4 = true then
    if a0 = 1 then l4.length == 0 && l5.length == 0 && !a1 && a2 == 0 && a3.toList.isEmpty
    else if a0 = 2 then l4.length == 0 && l5.length == 0 && a2 == 0 && a3.toList.isEmpty
    else if a0 = 3 then l4.length == 0 && l5.length == 0 && !a1 && a3.toList.isEmpty && decide (-4611686018427387903 ≤ a2 ∧ a2 ≤ 4611686018427387903)
    else if a0 = 4 then l4.length == 0 && l5.length == 0 && !a1 && a2 == 0 && utf a3.data.toList
    else if a0 = 5 then l4.length == 0 && !a1 && a2 == 0 && a3.toList.isEmpty
    else if a0 = 6 then l4.length == l5.length && !a1 && a2 == 0 && a3.toList.isEmpty
    else false
  else false
theorem plainB_of (a0 : Int) (a1 : Bool) (a2 : Int) (a3 : ByteArray) (l4 : List ByteArray) (l5 : List Int) (h : namesGo [] l4 = true) : plainB a0 a1 a2 a3 l4 l5 =
    (if a0 = 1 then l4.length == 0 && l5.length == 0 && !a1 && a2 == 0 && a3.toList.isEmpty
    else if a0 = 2 then l4.length == 0 && l5.length == 0 && a2 == 0 && a3.toList.isEmpty
    else if a0 = 3 then l4.length == 0 && l5.length == 0 && !a1 && a3.toList.isEmpty && decide (-4611686018427387903 ≤ a2 ∧ a2 ≤ 4611686018427387903)
    else if a0 = 4 then l4.length == 0 && l5.length == 0 && !a1 && a2 == 0 && utf a3.data.toList
    else if a0 = 5 then l4.length == 0 && !a1 && a2 == 0 && a3.toList.isEmpty
    else if a0 = 6 then l4.length == l5.length && !a1 && a2 == 0 && a3.toList.isEmpty
    else false) := if_pos h
/-- num.Fits. -/
theorem fits_walk (n : Int) (w : World) : Calls Tryd.prog 38 #[.int .i64 n] w fun e w' => e = .returned (.bool (decide (-4611686018427387903 ≤ n ∧ n ≤ 4611686018427387903))) ∧ w' = w := by
  go_enter Tryd.func38, Tryd.ntmps38
  go_wp2
  all_goals go_ret
  · rename_i h
    refine ⟨?_, rfl⟩
    show Ending.returned (Value.bool _) = _
    by_cases h2 : n ≤ 4611686018427387903
    · rw [decide_eq_true h2, decide_eq_true (show -4611686018427387903 ≤ n ∧ n ≤ 4611686018427387903 from ⟨h, h2⟩)]
    · rw [decide_eq_false h2, decide_eq_false (show ¬ (-4611686018427387903 ≤ n ∧ n ≤ 4611686018427387903) from fun e => h2 e.2)]
  · rename_i h
    refine ⟨?_, rfl⟩
    show Ending.returned (Value.bool _) = _
    rw [decide_eq_false (show ¬ -4611686018427387903 ≤ n by omega)]
    rfl
theorem zero4 (w : World) : (zeroValue 4).run Tryd.prog w = .ok (.bool false) w := by kernel_rfl
theorem ownsMap_below {B : Nat} {H : Type} {P : Program} {k : TypeId} {R : Value → Option (DataW H × List MemPlace)} {b n : Nat} {D : DataW H} {w w' : World} (h : w.ownsMap P k R b n D) (hb : Below B w w') (hB : b < B) : w'.ownsMap P k R b n D := by
  obtain ⟨es, clock, hh, F, hs, hD⟩ := h
  exact ⟨es, clock, (hb.block b hB).trans hh, F, hs, hD⟩
theorem namesGo_step (l : List ByteArray) (k : Nat) (s : ByteArray) (h : l[k]? = some s) : namesGo (l.take k) (l.drop k) = if hasName s (l.take k) = true then false else if utf s.data.toList = true then namesGo (l.take (k + 1)) (l.drop (k + 1)) else false := by
  have hk : k < l.length := (List.getElem?_eq_some_iff.1 h).1
  have hs : l[k] = s := (List.getElem?_eq_some_iff.1 h).2
  rw [List.drop_eq_getElem_cons hk, hs, namesGo, List.take_succ_eq_append_getElem hk, hs]
theorem take_snoc (l : List ByteArray) (k : Nat) (s : ByteArray) (h : l[k]? = some s) : l.take (k + 1) = l.take k ++ [s] := by
  have hk : k < l.length := (List.getElem?_eq_some_iff.1 h).1
  have hs : l[k] = s := (List.getElem?_eq_some_iff.1 h).2
  rw [List.take_succ_eq_append_getElem hk, hs]
theorem string_at {w : World} {A : Option Addr} {l : List ByteArray} (h : Kd.string.C w A l.length l) (k : Nat) (hk : k < l.length) : ∃ ad s, A = some ad ∧ l[k]? = some s ∧ w.cell? (ad.add k) = some (.string s) := by
  obtain ⟨ad, e, hc⟩ := Kd.at_string h (k : Int) (by omega) (by omega)
  have hr : rdOf ByteArray.empty l (k : Int) = l[k] := by unfold rdOf; simp [List.getD, hk]
  refine ⟨ad, l[k], e, List.getElem?_eq_getElem hk, ?_⟩
  rw [← hr]
  simpa using hc
set_option maxHeartbeats 4000000 in
set_option maxRecDepth 100000 in
theorem plain_walk (a0 : Int) (a1 : Bool) (a2 : Int) (a3 : ByteArray) (A4 : Option Addr) (c4 : Nat) (l4 : List ByteArray) (A5 : Option Addr) (c5 : Nat) (l5 : List Int) (w : World)
    (hr4 : Kd.string.C w A4 l4.length l4) (hc4 : l4.length ≤ c4) (hs4 : ∀ s ∈ l4, s.size ≤ 140737488355328) (hs3 : a3.size ≤ 140737488355328) (hl4 : l4.length ≤ 140737488355328) (hT : Lib.Utf8Tabs 0 1 w) :
    Calls Tryd.prog 22 #[.agg #[.int .i64 a0, .bool a1, .int .i64 a2, .string a3, .slice A4 l4.length c4, .slice A5 l5.length c5]] w fun e w' => e = .returned (.bool (plainB a0 a1 a2 a3 l4 l5)) ∧ Below w.heap.size w w' := by
  have hmm := @run_makeMap Tryd.prog
  go_enter Tryd.func22, Tryd.ntmps22
  go_wp2
  have hbox : (w.alloc (Obj.cells #[.int .i64 a0, .bool a1, .int .i64 a2, .string a3, .slice A4 l4.length c4, .slice A5 l5.length c5] 39)).heap[w.heap.size]? = some (Obj.cells #[.int .i64 a0, .bool a1, .int .i64 a2, .string a3, .slice A4 l4.length c4, .slice A5 l5.length c5] 39) := Array.getElem?_push_size
  have hw1 := below_alloc (Below.refl w.heap.size w) (Obj.cells #[.int .i64 a0, .bool a1, .int .i64 a2, .string a3, .slice A4 l4.length c4, .slice A5 l5.length c5] 39)
  have hsz : (w.alloc (Obj.cells #[.int .i64 a0, .bool a1, .int .i64 a2, .string a3, .slice A4 l4.length c4, .slice A5 l5.length c5] 39)).heap.size = w.heap.size + 1 := Array.size_push _
  generalize hW1 : w.alloc (Obj.cells #[.int .i64 a0, .bool a1, .int .i64 a2, .string a3, .slice A4 l4.length c4, .slice A5 l5.length c5] 39) = w1 at *
  replace hr4 := Kd.C_below hr4 hw1
  replace hT := Utf8Tabs_below hT hw1
  go_loopw [11] (fun i wr => ∃ k : Nat, k ≤ l4.length ∧ i = .int .i64 k ∧ wr.ownsMap Tryd.prog 9 (plainElem Tryd.prog 4) (w.heap.size + 1) k (seenSet (l4.take k)) ∧ Below (w.heap.size + 1) w1 wr ∧ w.heap.size + 1 < wr.heap.size ∧ Aside0 (namesGo (l4.take k) (l4.drop k) = namesGo [] l4))
    (fun i _ => l4.length - (intOf i).toNat)
  case atStart => exact ⟨0, Nat.zero_le _, rfl, by rw [List.take_zero, seenSet_nil, ← hsz]; exact World.ownsMap_made _ _ _ _, by rw [← hsz]; exact below_alloc (Below.refl _ _) _, by rw [← hsz]; show _ < (w1.heap.push _).size; rw [Array.size_push]; omega, ⟨by rw [List.take_zero, List.drop_zero]⟩⟩
  case round =>
    obtain ⟨k, hk, rfl, hown, hbw, hsw, hgo⟩ := hrel
    by_cases hlt : k < l4.length
    · obtain ⟨ad, s, rfl, hs, hc⟩ := string_at hr4 k hlt
      have hcx : wr.cell? (ad.add k) = some (.string s) := (hbw.cell (by have := World.block_lt_of_cell? w1 _ hc; omega)).trans hc
      have hss : s.size ≤ 140737488355328 := hs4 s (List.mem_of_getElem? hs)
      have hgs := namesGo_step l4 k s hs
      have hlt1 : ((k : Int) < (l4.length : Int)) = True := eq_true (by omega)
      by_cases hin : hasName s (l4.take k) = true
      · rw [if_pos hin] at hgs
        go_wp2_with (first
          | (at_lookup; refine wpList_lookup_seen _ rfl _ _ 72 rfl 9 4 Tryd.underlying9 Tryd.underlying72 Tryd.underlying4 (zero4 _) (w.heap.size + 1) k _ rfl hown s rfl (by unfold maxLen; omega) ?_)
          | go_in)
        go_ret
        exact ⟨by rw [plainB, ← hgo.out, hgs]; rfl, hw1.trans (hbw.mono (by omega))⟩
      · rw [if_neg hin] at hgs
        have hin := Bool.eq_false_iff.2 hin
        have hT2 := Utf8Tabs_below hT (show Below w1.heap.size w1 wr by rw [hsz]; exact hbw)
        have hvu := valid_utf s.data.toList
        by_cases hu : utf s.data.toList = true
        · rw [if_pos hu] at hgs
          rw [hu] at hvu
          go_wp2_with (first
            | (at_lookup; refine wpList_lookup_seen _ rfl _ _ 72 rfl 9 4 Tryd.underlying9 Tryd.underlying72 Tryd.underlying4 (zero4 _) (w.heap.size + 1) k _ rfl hown s rfl (by unfold maxLen; omega) ?_)
            | (go_at_call 37; refine (Tryd.utf8_ValidString s wr (by omega) hT2).mono ?_; rintro e w2 ⟨rfl, hb2⟩)
            | (at_mapUpdate; refine wpList_mapUpdate_own _ rfl _ _ _ 72 rfl 9 4 (string_keyed Tryd.underlying9) Tryd.underlying72 (plainElem Tryd.prog 4) (w.heap.size + 1) k _ rfl (ownsMap_below hown hb2 hsw) (by unfold maxLen; omega) _ _ _ rfl rfl (WideMaps.keyOf_string_mk Tryd.underlying9 (show s.size ≤ maxLen by unfold maxLen; omega)) _ [] (plainElem_bool Tryd.underlying4 true) ?_; intro w3 hown3 hgrow3)
            | go_in)
          go_roundw
          case rel =>
            refine ⟨k + 1, by omega, by go_num, ?_, ?_, ?_, ⟨?_⟩⟩
            · rw [take_snoc l4 k s hs, seenSet_snoc]
              exact hown3
            · exact (hbw.trans (hb2.mono (by omega))).grown hgrow3 (by have := hb2.size; omega) (fun j e => by cases e; exact Nat.le_refl _)
            · have := hgrow3.size
              have := hb2.size
              omega
            · rw [← hgs]
              exact hgo.out
          case measure => simp [intOf]; omega
        · rw [if_neg hu] at hgs
          rw [Bool.eq_false_iff.2 hu] at hvu
          go_wp2_with (first
            | (at_lookup; refine wpList_lookup_seen _ rfl _ _ 72 rfl 9 4 Tryd.underlying9 Tryd.underlying72 Tryd.underlying4 (zero4 _) (w.heap.size + 1) k _ rfl hown s rfl (by unfold maxLen; omega) ?_)
            | (go_at_call 37; refine (Tryd.utf8_ValidString s wr (by omega) hT2).mono ?_; rintro e w2 ⟨rfl, hb2⟩)
            | go_in)
          go_ret
          exact ⟨by rw [plainB, ← hgo.out, hgs]; rfl, hw1.trans ((hbw.trans (hb2.mono (by omega))).mono (by omega))⟩
    · obtain rfl : k = l4.length := by omega
      have hnm : namesGo [] l4 = true := by rw [← hgo.out, List.drop_length, namesGo]
      have hcell : ∀ j v, (#[.int .i64 a0, .bool a1, .int .i64 a2, .string a3, .slice A4 l4.length c4, .slice A5 l5.length c5] : Array Value)[j]? = some v → wr.cell? ⟨w.heap.size, j, none⟩ = some v := fun j v h => (hbw.cell (Nat.lt_succ_self _)).trans (by rw [World.cell?, hbox]; exact h)
      have hc0 := hcell 0 _ rfl
      have hc1 := hcell 1 _ rfl
      have hc2 := hcell 2 _ rfl
      have hc3 := hcell 3 _ rfl
      have hc4' := hcell 4 _ rfl
      have hc5 := hcell 5 _ rfl
      have hT2 := Utf8Tabs_below hT (show Below w1.heap.size w1 wr by rw [hsz]; exact hbw)
      have hvu := valid_utf a3.data.toList
      have hpl := plainB_of a0 a1 a2 a3 l4 l5 hnm
      clear hcell hbox hown hgo
      by_cases k1 : a0 = 1
      · rw [if_pos k1] at hpl
        subst k1
        go_wp2
        all_goals go_ret
        all_goals
          refine ⟨?_, hw1.trans (by first | exact hbw.mono (by omega) | exact (hbw.trans (hb2.mono (by omega))).mono (by omega))⟩
          show Ending.returned (Value.bool _) = Ending.returned (Value.bool _)
          rw [hpl] <;> first | done | (simp; done) | (simp [*]; done) | (simp; intros; omega) | (simp_all; done) | (simp_all; intros; omega)
      by_cases k2 : a0 = 2
      · rw [if_neg k1, if_pos k2] at hpl
        subst k2
        go_wp2
        all_goals go_ret
        all_goals
          refine ⟨?_, hw1.trans (by first | exact hbw.mono (by omega) | exact (hbw.trans (hb2.mono (by omega))).mono (by omega))⟩
          show Ending.returned (Value.bool _) = Ending.returned (Value.bool _)
          rw [hpl] <;> first | done | (simp; done) | (simp [*]; done) | (simp; intros; omega) | (simp_all; done) | (simp_all; intros; omega)
      by_cases k3 : a0 = 3
      · rw [if_neg k1, if_neg k2, if_pos k3] at hpl
        subst k3
        go_wp2_with (first | (go_at_call 38; refine (fits_walk a2 wr).mono ?_; rintro e w2 ⟨rfl, rfl⟩) | go_in)
        all_goals go_ret
        all_goals
          refine ⟨?_, hw1.trans (by first | exact hbw.mono (by omega) | exact (hbw.trans (hb2.mono (by omega))).mono (by omega))⟩
          show Ending.returned (Value.bool _) = Ending.returned (Value.bool _)
          rw [hpl] <;> first | done | (simp; done) | (simp [*]; done) | (simp; intros; omega) | (simp_all; done) | (simp_all; intros; omega)
      by_cases k4 : a0 = 4
      · rw [if_neg k1, if_neg k2, if_neg k3, if_pos k4] at hpl
        subst k4
        go_wp2_with (first | (go_at_call 37; refine (Tryd.utf8_ValidString a3 wr (by omega) hT2).mono ?_; rintro e w2 ⟨rfl, hb2⟩; rw [hvu]) | go_in)
        all_goals go_ret
        all_goals
          refine ⟨?_, hw1.trans (by first | exact hbw.mono (by omega) | exact (hbw.trans (hb2.mono (by omega))).mono (by omega))⟩
          show Ending.returned (Value.bool _) = Ending.returned (Value.bool _)
          rw [hpl] <;> first | done | (simp; done) | (simp [*]; done) | (simp; intros; omega) | (simp_all; done) | (simp_all; intros; omega)
      by_cases k5 : a0 = 5
      · rw [if_neg k1, if_neg k2, if_neg k3, if_neg k4, if_pos k5] at hpl
        subst k5
        go_wp2
        all_goals go_ret
        all_goals
          refine ⟨?_, hw1.trans (by first | exact hbw.mono (by omega) | exact (hbw.trans (hb2.mono (by omega))).mono (by omega))⟩
          show Ending.returned (Value.bool _) = Ending.returned (Value.bool _)
          rw [hpl] <;> first | done | (simp; done) | (simp [*]; done) | (simp; intros; omega) | (simp_all; done) | (simp_all; intros; omega)
      by_cases k6 : a0 = 6
      · rw [if_neg k1, if_neg k2, if_neg k3, if_neg k4, if_neg k5, if_pos k6] at hpl
        subst k6
        go_wp2
        all_goals go_ret
        all_goals
          refine ⟨?_, hw1.trans (by first | exact hbw.mono (by omega) | exact (hbw.trans (hb2.mono (by omega))).mono (by omega))⟩
          show Ending.returned (Value.bool _) = Ending.returned (Value.bool _)
          rw [hpl] <;> first | done | (simp; done) | (simp [*]; done) | (simp; intros; omega) | (simp_all; done) | (simp_all; intros; omega)
      rw [if_neg k1, if_neg k2, if_neg k3, if_neg k4, if_neg k5, if_neg k6] at hpl
      have m1 : (a0 == 1) = false := beq_eq_false_iff_ne.2 k1
      have m2 : (a0 == 2) = false := beq_eq_false_iff_ne.2 k2
      have m3 : (a0 == 3) = false := beq_eq_false_iff_ne.2 k3
      have m4 : (a0 == 4) = false := beq_eq_false_iff_ne.2 k4
      have m5 : (a0 == 5) = false := beq_eq_false_iff_ne.2 k5
      have m6 : (a0 == 6) = false := beq_eq_false_iff_ne.2 k6
      clear k1 k2 k3 k4 k5 k6
      go_wp2
      all_goals go_ret
      all_goals
        refine ⟨?_, hw1.trans (by first | exact hbw.mono (by omega) | exact (hbw.trans (hb2.mono (by omega))).mono (by omega))⟩
        show Ending.returned (Value.bool _) = Ending.returned (Value.bool _)
        rw [hpl] <;> first | done | (simp; done) | (simp [*]; done) | (simp; intros; omega) | (simp_all; done) | (simp_all; intros; omega)
end Go.Proofs.YtldlkoncndlbhaaDoor.Pl
namespace Go.Proofs.YtldlkoncndlbhaaDoor.Utf
open Go.Lib
set_option linter.unusedSimpArgs false
/-- A hexadecimal digit. -/
def hexOf (n : Nat) : UInt8 := UInt8.ofNat (if n < 10 then 48 + n else 87 + n)
/-- What is written for the rune that begins here. -/
def piece (l : List UInt8) : List UInt8 :=
  if wid l = 0 then [239, 191, 189]
  else if l.head? = some 34 ∨ l.head? = some 92 then [92, l.headD 0]
  else if (l.headD 0).toNat < 32 then [92, 117, 48, 48, hexOf ((l.headD 0).toNat / 16), hexOf ((l.headD 0).toNat % 16)]
  else l.take (wid l)
/-- How far it goes. -/
def adv (l : List UInt8) : Nat := if wid l = 0 then 1 else wid l
theorem adv_pos (l : List UInt8) : 0 < adv l := by unfold adv; split <;> omega
def inner (l : List UInt8) : List UInt8 := if _h : l = [] then [] else piece l ++ inner (l.drop (adv l))
termination_by l.length
decreasing_by
  rw [List.length_drop]
  have : 0 < l.length := List.length_pos_iff.2 _h
  have := adv_pos l
  omega
def inQuotes (l : List UInt8) : List UInt8 := 34 :: inner l ++ [34]
theorem u8_ext {a b : UInt8} (h : a.toNat = b.toNat) : a = b := UInt8.toNat.inj h
theorem cont_iff (b : UInt8) : cont b = true ↔ b.toNat / 64 = 2 := by unfold cont; exact beq_iff_eq
theorem wid_shape (l : List UInt8) (h : wid l ≠ 0) :
    (∃ a r, l = a :: r ∧ a.toNat < 128 ∧ wid l = 1) ∨ (∃ a b r, l = a :: b :: r ∧ 194 ≤ a.toNat ∧ a.toNat < 224 ∧ b.toNat / 64 = 2 ∧ wid l = 2)
    ∨ (∃ a b c r, l = a :: b :: c :: r ∧ 224 ≤ a.toNat ∧ a.toNat < 240 ∧ b.toNat / 64 = 2 ∧ c.toNat / 64 = 2 ∧ 2048 ≤ three a b c ∧ ¬ (55296 ≤ three a b c ∧ three a b c < 57344) ∧ wid l = 3)
    ∨ (∃ a b c d r, l = a :: b :: c :: d :: r ∧ 240 ≤ a.toNat ∧ a.toNat < 245 ∧ b.toNat / 64 = 2 ∧ c.toNat / 64 = 2 ∧ d.toNat / 64 = 2 ∧ 65536 ≤ four a b c d ∧ four a b c d ≤ 1114111 ∧ wid l = 4) := by
  cases l with
  | nil => exact absurd rfl h
  | cons a r =>
    generalize hw : wid (a :: r) = n at h ⊢
    have hl : lead a r = n := hw
    unfold lead at hl
    split at hl
    · exact .inl ⟨a, r, rfl, by assumption, hl.symm⟩
    · split at hl
      · rename_i h1 h2
        match r, hl with
        | [], hl => exact absurd hl.symm h
        | b :: r, hl =>
          simp only [w2] at hl
          split at hl
          · rename_i h3
            exact .inr (.inl ⟨a, b, r, rfl, h2.1, h2.2, (cont_iff b).1 h3, hl.symm⟩)
          · exact absurd hl.symm h
      · split at hl
        · rename_i h1 h2 h3
          match r, hl with
          | [], hl => exact absurd hl.symm h
          | [b], hl => exact absurd hl.symm h
          | b :: c :: r, hl =>
            simp only [w3] at hl
            split at hl
            · rename_i h4
              exact .inr (.inr (.inl ⟨a, b, c, r, rfl, h3.1, h3.2, (cont_iff b).1 h4.1, (cont_iff c).1 h4.2.1, h4.2.2.1, h4.2.2.2, hl.symm⟩))
            · exact absurd hl.symm h
        · split at hl
          · rename_i h1 h2 h3 h5
            match r, hl with
            | [], hl => exact absurd hl.symm h
            | [b], hl => exact absurd hl.symm h
            | [b, c], hl => exact absurd hl.symm h
            | b :: c :: d :: r, hl =>
              simp only [w4] at hl
              split at hl
              · rename_i h4
                exact .inr (.inr (.inr ⟨a, b, c, d, r, rfl, h5.1, h5.2, (cont_iff b).1 h4.1, (cont_iff c).1 h4.2.1, (cont_iff d).1 h4.2.2.1, h4.2.2.2.1, h4.2.2.2.2, hl.symm⟩))
              · exact absurd hl.symm h
          · exact absurd hl.symm h
/-- What the decoder reads where a rune begins. -/
theorem dec_one (a : UInt8) (r : List UInt8) (h : a.toNat < 128) : decodeL (a :: r) = (a.toNat, 1) := by
  rw [dec_cons]
  unfold decodeN
  rw [if_pos h]
theorem dec_two (a b : UInt8) (r : List UInt8) (h0 : 194 ≤ a.toNat) (h1 : a.toNat < 224) (hb : b.toNat / 64 = 2) : decodeL (a :: b :: r) = (two a b, 2) := by
  rw [dec_cons]
  simp only [List.getD_cons_zero, List.getD_cons_succ, List.length_cons]
  unfold decodeN two
  rw [if_neg (by omega), if_pos ⟨by omega, by omega, hb⟩, if_pos (by omega)]
theorem dec_three (a b c : UInt8) (r : List UInt8) (h0 : 224 ≤ a.toNat) (h1 : a.toNat < 240) (hb : b.toNat / 64 = 2) (hc : c.toNat / 64 = 2) (h2 : 2048 ≤ three a b c) (h3 : ¬ (55296 ≤ three a b c ∧ three a b c < 57344)) : decodeL (a :: b :: c :: r) = (three a b c, 3) := by
  rw [dec_cons]
  simp only [List.getD_cons_zero, List.getD_cons_succ, List.length_cons]
  unfold three at h2 h3 ⊢
  unfold decodeN
  rw [if_neg (by omega), if_neg (by omega), if_pos ⟨by omega, ⟨by omega, hb⟩, by omega, hc⟩, if_pos ⟨by omega, by omega⟩]
theorem dec_four (a b c d : UInt8) (r : List UInt8) (h0 : 240 ≤ a.toNat) (h1 : a.toNat < 245) (hb : b.toNat / 64 = 2) (hc : c.toNat / 64 = 2) (hd : d.toNat / 64 = 2) (h2 : 65536 ≤ four a b c d) (h3 : four a b c d ≤ 1114111) : decodeL (a :: b :: c :: d :: r) = (four a b c d, 4) := by
  rw [dec_cons]
  simp only [List.getD_cons_zero, List.getD_cons_succ, List.length_cons]
  unfold four at h2 h3 ⊢
  unfold decodeN
  rw [if_neg (by omega), if_neg (by omega), if_neg (by omega), if_pos ⟨by omega, ⟨by omega, hb⟩, ⟨by omega, hc⟩, by omega, hd⟩, if_pos ⟨by omega, by omega⟩]
theorem enc_byte (n : Int) (a : UInt8) (h : n = a.toNat) : n.toNat.toUInt8 = a := by
  subst h
  exact u8_ext (by simp)
/-- What the decoder read, encoded, is what stood there. -/
theorem enc_dec (l : List UInt8) (h : wid l ≠ 0) : encodeRune ((decodeL l).1 : Int) = l.take (wid l) := by
  rcases wid_shape l h with ⟨a, r, rfl, h1, hw⟩ | ⟨a, b, r, rfl, h0, h1, hb, hw⟩ | ⟨a, b, c, r, rfl, h0, h1, hb, hc, h2, h3, hw⟩ | ⟨a, b, c, d, r, rfl, h0, h1, hb, hc, hd, h2, h3, hw⟩
  · rw [hw, dec_one a r h1, encodeRune, encodeRuneZ_one (by omega) (by dsimp only; omega)]
    simp only [List.map_cons, List.map_nil, List.take_succ_cons, List.take_zero]
    rw [enc_byte _ a rfl]
  · have ha := a.toNat_lt
    have hb' := b.toNat_lt
    rw [hw, dec_two a b r h0 h1 hb, encodeRune]
    dsimp only
    unfold two
    rw [encodeRuneZ_two (by omega) (by omega)]
    simp only [List.map_cons, List.map_nil, List.take_succ_cons, List.take_zero]
    rw [enc_byte _ a (by omega), enc_byte _ b (by omega)]
  · have ha := a.toNat_lt
    have hb' := b.toNat_lt
    have hc' := c.toNat_lt
    rw [hw, dec_three a b c r h0 h1 hb hc h2 h3, encodeRune]
    dsimp only
    unfold three at h2 h3 ⊢
    rw [encodeRuneZ_three (by omega)]
    simp only [List.map_cons, List.map_nil, List.take_succ_cons, List.take_zero]
    rw [enc_byte _ a (by omega), enc_byte _ b (by omega), enc_byte _ c (by omega)]
  · have ha := a.toNat_lt
    have hb' := b.toNat_lt
    have hc' := c.toNat_lt
    have hd' := d.toNat_lt
    rw [hw, dec_four a b c d r h0 h1 hb hc hd h2 h3, encodeRune]
    dsimp only
    unfold four at h2 h3 ⊢
    rw [encodeRuneZ_four (by omega) (by omega)]
    simp only [List.map_cons, List.map_nil, List.take_succ_cons, List.take_zero]
    rw [enc_byte _ a (by omega), enc_byte _ b (by omega), enc_byte _ c (by omega), enc_byte _ d (by omega)]
theorem dec_adv (l : List UInt8) (hne : l ≠ []) : (decodeL l).2 = adv l := by
  unfold adv
  by_cases h : wid l = 0
  · rw [if_pos h, dec_bad l hne h]
  · rw [if_neg h, (dec_good l h).1]
/-- Below 128 it is the first byte. -/
theorem dec_small (l : List UInt8) (hne : l ≠ []) (h : (decodeL l).1 < 128) : ∃ a r, l = a :: r ∧ wid l = 1 ∧ (decodeL l).1 = a.toNat := by
  by_cases hw : wid l = 0
  · rw [dec_bad l hne hw] at h
    simp at h
  · rcases wid_shape l hw with ⟨a, r, rfl, h1, hw⟩ | ⟨a, b, r, rfl, h0, h1, hb, hw⟩ | ⟨a, b, c, r, rfl, h0, h1, hb, hc, h2, h3, hw⟩ | ⟨a, b, c, d, r, rfl, h0, h1, hb, hc, hd, h2, h3, hw⟩
    · exact ⟨a, r, rfl, hw, by rw [dec_one a r h1]⟩
    · rw [dec_two a b r h0 h1 hb] at h
      unfold two at h
      dsimp only at h
      omega
    · rw [dec_three a b c r h0 h1 hb hc h2 h3] at h
      dsimp only at h
      omega
    · rw [dec_four a b c d r h0 h1 hb hc hd h2 h3] at h
      dsimp only at h
      omega
/-- A first byte below 128 is what the decoder reads. -/
theorem dec_head (a : UInt8) (r : List UInt8) (h : a.toNat < 128) : (decodeL (a :: r)).1 = a.toNat ∧ wid (a :: r) = 1 := by
  refine ⟨by rw [dec_one a r h], ?_⟩
  show lead a r = 1
  unfold lead
  rw [if_pos h]
theorem piece_mark (l : List UInt8) (hne : l ≠ []) (h : (decodeL l).1 = 34 ∨ (decodeL l).1 = 92) : piece l = [92] ++ encodeRune ((decodeL l).1 : Int) := by
  obtain ⟨a, r, rfl, hw, hc⟩ := dec_small l hne (by omega)
  rw [enc_dec _ (by omega), hw]
  unfold piece
  have ha : a = 34 ∨ a = 92 := h.elim (fun e => .inl (u8_ext (by rw [← hc, e]; rfl))) (fun e => .inr (u8_ext (by rw [← hc, e]; rfl)))
  rw [if_neg (by omega), if_pos (ha.elim (fun e => .inl (by rw [e]; rfl)) (fun e => .inr (by rw [e]; rfl)))]
  rfl
theorem piece_low (l : List UInt8) (hne : l ≠ []) (h0 : ¬ ((decodeL l).1 = 34 ∨ (decodeL l).1 = 92)) (h : (decodeL l).1 < 32) : piece l = [92, 117, 48, 48] ++ [hexOf ((decodeL l).1 / 16)] ++ [hexOf ((decodeL l).1 % 16)] := by
  obtain ⟨a, r, rfl, hw, hc⟩ := dec_small l hne (by omega)
  unfold piece
  rw [hc] at h0 h ⊢
  rw [if_neg (by omega), if_neg (fun e => h0 (e.elim (fun e => .inl (by rw [Option.some.inj e]; rfl)) (fun e => .inr (by rw [Option.some.inj e]; rfl))))]
  exact if_pos h
theorem piece_plain (l : List UInt8) (hne : l ≠ []) (h0 : ¬ ((decodeL l).1 = 34 ∨ (decodeL l).1 = 92)) (h : ¬ (decodeL l).1 < 32) : piece l = encodeRune ((decodeL l).1 : Int) := by
  unfold piece
  by_cases hw : wid l = 0
  · rw [if_pos hw, dec_bad l hne hw]
    decide
  · rw [if_neg hw, enc_dec l hw]
    cases l with
    | nil => exact absurd rfl hne
    | cons a r =>
      by_cases ha : a.toNat < 128
      · obtain ⟨hd, _⟩ := dec_head a r ha
        rw [hd] at h0 h
        rw [if_neg (fun e => h0 (e.elim (fun e => .inl (by rw [Option.some.inj e]; rfl)) (fun e => .inr (by rw [Option.some.inj e]; rfl))))]
        exact if_neg h
      · rw [if_neg (fun e => ha (e.elim (fun e => by rw [Option.some.inj e]; decide) (fun e => by rw [Option.some.inj e]; decide))), if_neg (fun e => ha (by rw [List.headD_cons] at e; omega))]
end Go.Proofs.YtldlkoncndlbhaaDoor.Utf
namespace Go.Proofs.YtldlkoncndlbhaaDoor.Tx
open Go.RowKit Go.Proofs.YtldlkoncndlbhaaDoor.Utf Go.Proofs.YtldlkoncndlbhaaDoor.Pl Go.Proofs.YtldlkoncndlbhaaDoor.PSh Go.Proofs.YtldlkoncndlbhaaDoorW.PrintWords Go.Proofs.YtldlkoncndlbhaaDoorW.PrintLast Go.Proofs.YtldlkoncndlbhaaDoorW.PrintMore
/-- So many texts, a comma between. -/
def joined (g : Nat → List UInt8) : Nat → List UInt8
  | 0 => []
  | i + 1 => joined g i ++ ((if i = 0 then [] else [44]) ++ g i)
/-- A value's text, of its kids' texts. -/
def txtOf (g : Int → List UInt8) (x : S39) : List UInt8 :=
  if x.f0 = 1 then [110, 117, 108, 108]
  else if x.f0 = 2 then (if x.f1 = true then [116, 114, 117, 101] else [102, 97, 108, 115, 101])
  else if x.f0 = 3 then Lib.itoa x.f2
  else if x.f0 = 4 then inQuotes x.f3.data.toList
  else if x.f0 = 5 then [91] ++ joined (fun i => g (rd x.f5 (i : Int))) x.f5.length ++ [93]
  else [123] ++ joined (fun i => inQuotes (rdOf ByteArray.empty x.f4 (i : Int)).data.toList ++ [58] ++ g (rd x.f5 (i : Int))) x.f5.length ++ [125]
/-- The text of the value at a place. -/
def txt (l : List S39) : Nat → Int → List UInt8
  | 0, _ => []
  | f + 1, a => txtOf (txt l f) (rd_T39 l a)
theorem txt_succ (l : List S39) (f : Nat) (a : Int) : txt l (f + 1) a = txtOf (txt l f) (rd_T39 l a) := rfl
theorem txtOf_1 (g : Int → List UInt8) (x : S39) (h : x.f0 = 1) : txtOf g x = [110, 117, 108, 108] := by unfold txtOf; rw [if_pos h]
theorem txtOf_2 (g : Int → List UInt8) (x : S39) (h : x.f0 = 2) : txtOf g x = if x.f1 = true then [116, 114, 117, 101] else [102, 97, 108, 115, 101] := by unfold txtOf; rw [if_neg (by omega), if_pos h]
theorem txtOf_3 (g : Int → List UInt8) (x : S39) (h : x.f0 = 3) : txtOf g x = Lib.itoa x.f2 := by unfold txtOf; rw [if_neg (by omega), if_neg (by omega), if_pos h]
theorem txtOf_4 (g : Int → List UInt8) (x : S39) (h : x.f0 = 4) : txtOf g x = inQuotes x.f3.data.toList := by unfold txtOf; rw [if_neg (by omega), if_neg (by omega), if_neg (by omega), if_pos h]
theorem txtOf_5 (g : Int → List UInt8) (x : S39) (h : x.f0 = 5) : txtOf g x = [91] ++ joined (fun i => g (rd x.f5 (i : Int))) x.f5.length ++ [93] := by unfold txtOf; rw [if_neg (by omega), if_neg (by omega), if_neg (by omega), if_neg (by omega), if_pos h]
theorem txtOf_6 (g : Int → List UInt8) (x : S39) (h : x.f0 = 6) : txtOf g x = [123] ++ joined (fun i => inQuotes (rdOf ByteArray.empty x.f4 (i : Int)).data.toList ++ [58] ++ g (rd x.f5 (i : Int))) x.f5.length ++ [125] := by unfold txtOf; rw [if_neg (by omega), if_neg (by omega), if_neg (by omega), if_neg (by omega), if_neg (by omega)]
def plainOf (x : S39) : Bool := plainB x.f0 x.f1 x.f2 x.f3 x.f4 x.f5
/-- A tree: each value such as there may be, each kid ahead of it. -/
def Tree (l : List S39) : Prop := ∀ a : Int, 0 ≤ a → a < l.length → plainOf (rd_T39 l a) = true ∧ ∀ i : Nat, i < (rd_T39 l a).f5.length → 0 ≤ rd (rd_T39 l a).f5 (i : Int) ∧ rd (rd_T39 l a).f5 (i : Int) < a
/-- Of a size that can be written. -/
def Sized (l : List S39) : Prop := ∀ a : Int, 0 ≤ a → a < l.length → (rd_T39 l a).f3.size ≤ 17592186044416 ∧ (rd_T39 l a).f5.length ≤ 140737488355328 ∧ ∀ i : Nat, i < (rd_T39 l a).f4.length → (rdOf ByteArray.empty (rd_T39 l a).f4 (i : Int)).size ≤ 17592186044416
theorem joined_le (g : Nat → List UInt8) : ∀ n i, i ≤ n → (joined g i).length ≤ (joined g n).length
  | 0, i, h => by obtain rfl : i = 0 := by omega
                  exact Nat.le_refl _
  | n + 1, i, h => by
    by_cases e : i = n + 1
    · subst e; exact Nat.le_refl _
    · have := joined_le g n i (by omega)
      rw [joined, List.length_append]
      omega
theorem joined_succ (g : Nat → List UInt8) (i : Nat) : joined g (i + 1) = joined g i ++ ((if i = 0 then [] else [44]) ++ g i) := rfl
/-- What 'plain' says of the kinds. -/
theorem plain_kind {x : S39} (h : plainOf x = true) : x.f0 = 1 ∨ x.f0 = 2 ∨ (x.f0 = 3 ∧ -4611686018427387903 ≤ x.f2 ∧ x.f2 ≤ 4611686018427387903) ∨ x.f0 = 4 ∨ x.f0 = 5 ∨ (x.f0 = 6 ∧ x.f4.length = x.f5.length) := by
  unfold plainOf plainB at h
  split at h
  · by_cases k1 : x.f0 = 1
    · exact .inl k1
    rw [if_neg k1] at h
    by_cases k2 : x.f0 = 2
    · exact .inr (.inl k2)
    rw [if_neg k2] at h
    by_cases k3 : x.f0 = 3
    · rw [if_pos k3] at h
      simp only [Bool.and_eq_true, decide_eq_true_eq] at h
      exact .inr (.inr (.inl ⟨k3, h.2⟩))
    rw [if_neg k3] at h
    by_cases k4 : x.f0 = 4
    · exact .inr (.inr (.inr (.inl k4)))
    rw [if_neg k4] at h
    by_cases k5 : x.f0 = 5
    · exact .inr (.inr (.inr (.inr (.inl k5))))
    rw [if_neg k5] at h
    by_cases k6 : x.f0 = 6
    · rw [if_pos k6] at h
      simp only [Bool.and_eq_true, beq_iff_eq] at h
      exact .inr (.inr (.inr (.inr (.inr ⟨k6, h.1.1.1⟩))))
    · rw [if_neg k6] at h
      cases h
  · cases h
end Go.Proofs.YtldlkoncndlbhaaDoor.Tx
