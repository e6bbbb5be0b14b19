/-
  Contracts of the library, laid over this program (written by the kit's shelf command).
  Memory by blocks: what a call may have changed (Chg); a slice that owns its block (RowAt); one law for append onto it.
  value.Number, heap.Position; the library's variables as their initialisers lay them.
  append onto an owned row, the result spelled as a slice.
  Rows of structs: stores into an owned row, elements of several cells.
  Representations with footprints: how a value of plain data lies in memory, which blocks are its own; fields, elements; what an operation through a pointer leaves alone.
  Rows behind a place: opened, lengthened; plain kinds of data.
  Steps: cells that stay; scalar fields stored; one element appended to a row behind a place.
  A row behind a place, about to be lengthened; places of elements as pointers.
-/
import Derived.Shelf.Strings.Builder1
import Derived.Shelf.Small.Wraps
import Derived.Shelf.Strings.BuilderF
import Derived.Shelf.Strings.BuilderK
import Derived.Shelf.Strings.BuilderRune
import Derived.Shelf.Strconv.Itoa0
import Derived.Shelf.Strconv.Itoa1
import Derived.Shelf.LaysM
import Derived.Shelf.Strconv.Itoa2
import Derived.Shelf.Strconv.Itoa3
import Derived.Shelf.Strconv.Itoa4
import Derived.Shelf.Strconv.ParseIntEmpty
import Derived.Shelf.Strconv.Clone
import Derived.Shelf.Strconv.SyntaxError
import Derived.Shelf.LaysC
import Derived.Shelf.Strconv.ToError
import Derived.Shelf.Strconv.Lower
import Derived.Shelf.Strconv.ParseUint10
import Derived.Shelf.Strconv.ParseUint10Empty
import Derived.Shelf.Strconv.ParseUint10Any
import Derived.Shelf.Strconv.ParseInt10
import Derived.Shelf.Strconv.RangeError
import Derived.Shelf.Strconv.ToErrorRange
import Derived.Shelf.Strconv.ParseUintEmpty
import Derived.Shelf.Strconv.ParseUint10b64
import Derived.Shelf.Strconv.ParseUint10b32
import Derived.Shelf.Strconv.ParseUint10b16
import Derived.Shelf.Strconv.ParseUint10b8
import Derived.Shelf.Strconv.ParseUint10At
import Derived.Shelf.Strconv.ParseInt10At64
import Derived.Shelf.Strconv.ParseInt10At32
import Derived.Shelf.Strconv.ParseInt10At16
import Derived.Shelf.Strconv.ParseInt10At8
import Derived.Shelf.Strconv.ParseInt10All
import Derived.Shelf.Strconv.ParseIntPublic10
import Derived.Shelf.Strconv.ErrVarParseInt
import Derived.Shelf.Unicode.ValidAny
import Derived.Ground.NamesProg
import Derived.Test.YtjianickjahdnaaDoorProg
import Derived.WalkKit
import Derived.WalkSpells
import Derived.Deep.AppendSrc
import Derived.Deep.Quiet
import Derived.Deep.RegionHeld3
import Derived.Lib.LaidTab
import Derived.Lib.SmallJoins
namespace Go.Proofs.YtjianickjahdnaaDoor
open Go Go.Proofs Go.Shelf
def sh_lays169_ren : Go.Shelf.Ren := ⟨fun | 169 => 49 | n => n, fun | 70 => 93 | 9 => 9 | 0 => 0 | 72 => 95 | 37 => 68 | 127 => 119 | 3 => 3 | 5 => 5 | n => n, fun | n => n⟩
theorem sh_lays169 : Go.Proofs.Lays.n169 Tryd.prog sh_lays169_ren := {
  mixed := by kernel_rfl
  f169 := Tryd.func49.trans (congrArg some (by kernel_rfl))
  t0 := Tryd.underlying0
  a0 := Tryd.isAgg0
  z0 := Tryd.sizeOf0
  v0 := Tryd.zeroValue0
  t3 := Tryd.underlying3
  a3 := Tryd.isAgg3
  z3 := Tryd.sizeOf3
  v3 := Tryd.zeroValue3
  t9 := Tryd.underlying9
  a9 := Tryd.isAgg9
  z9 := Tryd.sizeOf9
  v9 := Tryd.zeroValue9
  t37 := Tryd.underlying68
  a37 := Tryd.isAgg68
  z37 := Tryd.sizeOf68
  v37 := Tryd.zeroValue68
  t70 := Tryd.underlying93
  a70 := Tryd.isAgg93
  z70 := Tryd.sizeOf93
  v70 := Tryd.zeroValue93
  t72 := Tryd.underlying95
  a72 := Tryd.isAgg95
  z72 := Tryd.sizeOf95
  v72 := Tryd.zeroValue95
  t127 := Tryd.underlying119
  a127 := Tryd.isAgg119
  z127 := Tryd.sizeOf119
  v127 := Tryd.zeroValue119 }
def sh_laysM173_ren : Go.Shelf.Ren := ⟨fun | 173 => 55 | 246 => 66 | 283 => 72 | 284 => 73 | 285 => 74 | 286 => 75 | 129 => 82 | 317 => 81 | 318 => 83 | 319 => 84 | 320 => 85 | 337 => 90 | 338 => 91 | n => n, fun | 2 => 2 | 3 => 3 | 9 => 9 | 4 => 4 | 171 => 126 | 0 => 0 | 53 => 108 | 37 => 68 | 5 => 5 | 173 => 129 | 212 => 138 | 51 => 125 | 20 => 20 | 213 => 139 | 46 => 117 | 232 => 149 | 233 => 150 | n => n, fun | 17 => 2 | 18 => 5 | 19 => 6 | n => n⟩
theorem sh_laysM173 : Go.Proofs.LaysM.n173 Tryd.prog sh_laysM173_ren := {
  mixed := by kernel_rfl
  f129 := Tryd.func82.trans (congrArg some (by kernel_rfl))
  f173 := Tryd.func55.trans (congrArg some (by kernel_rfl))
  f246 := Tryd.func66.trans (congrArg some (by kernel_rfl))
  f283 := Tryd.func72.trans (congrArg some (by kernel_rfl))
  f284 := Tryd.func73.trans (congrArg some (by kernel_rfl))
  f285 := Tryd.func74.trans (congrArg some (by kernel_rfl))
  f286 := Tryd.func75.trans (congrArg some (by kernel_rfl))
  f317 := Tryd.func81.trans (congrArg some (by kernel_rfl))
  f318 := Tryd.func83.trans (congrArg some (by kernel_rfl))
  f319 := Tryd.func84.trans (congrArg some (by kernel_rfl))
  f320 := Tryd.func85.trans (congrArg some (by kernel_rfl))
  f337 := Tryd.func90.trans (congrArg some (by kernel_rfl))
  f338 := Tryd.func91.trans (congrArg some (by kernel_rfl))
  t0 := Tryd.underlying0
  a0 := Tryd.isAgg0
  z0 := Tryd.sizeOf0
  v0 := Tryd.zeroValue0
  t2 := Tryd.underlying2
  a2 := Tryd.isAgg2
  z2 := Tryd.sizeOf2
  v2 := Tryd.zeroValue2
  t3 := Tryd.underlying3
  a3 := Tryd.isAgg3
  z3 := Tryd.sizeOf3
  v3 := Tryd.zeroValue3
  t4 := Tryd.underlying4
  a4 := Tryd.isAgg4
  z4 := Tryd.sizeOf4
  v4 := Tryd.zeroValue4
  t5 := Tryd.underlying5
  a5 := Tryd.isAgg5
  z5 := Tryd.sizeOf5
  v5 := Tryd.zeroValue5
  t9 := Tryd.underlying9
  a9 := Tryd.isAgg9
  z9 := Tryd.sizeOf9
  v9 := Tryd.zeroValue9
  t20 := Tryd.underlying20
  a20 := Tryd.isAgg20
  z20 := Tryd.sizeOf20
  v20 := Tryd.zeroValue20
  t37 := Tryd.underlying68
  a37 := Tryd.isAgg68
  z37 := Tryd.sizeOf68
  v37 := Tryd.zeroValue68
  t46 := Tryd.underlying117
  a46 := Tryd.isAgg117
  z46 := Tryd.sizeOf117
  v46 := Tryd.zeroValue117
  t51 := Tryd.underlying125
  a51 := Tryd.isAgg125
  z51 := Tryd.sizeOf125
  v51 := Tryd.zeroValue125
  t53 := Tryd.underlying108
  a53 := Tryd.isAgg108
  z53 := Tryd.sizeOf108
  v53 := Tryd.zeroValue108
  t171 := Tryd.underlying126
  a171 := Tryd.isAgg126
  z171 := Tryd.sizeOf126
  v171 := Tryd.zeroValue126
  t173 := Tryd.underlying129
  a173 := Tryd.isAgg129
  z173 := Tryd.sizeOf129
  v173 := Tryd.zeroValue129
  t212 := Tryd.underlying138
  a212 := Tryd.isAgg138
  z212 := Tryd.sizeOf138
  v212 := Tryd.zeroValue138
  t213 := Tryd.underlying139
  a213 := Tryd.isAgg139
  z213 := Tryd.sizeOf139
  t232 := Tryd.underlying149
  a232 := Tryd.isAgg149
  z232 := Tryd.sizeOf149
  v232 := Tryd.zeroValue149
  t233 := Tryd.underlying150
  a233 := Tryd.isAgg150
  z233 := Tryd.sizeOf150
  v233 := Tryd.zeroValue150
  g17 := by kernel_rfl
  g18 := by kernel_rfl
  g19 := by kernel_rfl
  i0 := by kernel_rfl
  i2 := by kernel_rfl
  i3 := by kernel_rfl
  i4 := by kernel_rfl
  i5 := by kernel_rfl
  i9 := by kernel_rfl
  i20 := by kernel_rfl
  i37 := by kernel_rfl
  i46 := by kernel_rfl
  i51 := by kernel_rfl
  i53 := by kernel_rfl
  i171 := by kernel_rfl
  i173 := by kernel_rfl
  i212 := by kernel_rfl
  i232 := by kernel_rfl
  i233 := by kernel_rfl
  m17 := by kernel_rfl
  m18 := by kernel_rfl
  m19 := by kernel_rfl }
def sh_laysC174_ren : Go.Shelf.Ren := ⟨fun | 174 => 56 | 247 => 67 | 245 => 68 | 287 => 76 | 279 => 77 | 280 => 78 | 281 => 79 | 282 => 80 | 321 => 86 | 322 => 87 | 316 => 88 | 171 => 46 | 205 => 89 | 243 => 60 | 246 => 66 | 283 => 72 | 284 => 73 | 285 => 74 | 286 => 75 | 129 => 82 | 317 => 81 | 318 => 83 | 319 => 84 | 320 => 85 | 337 => 90 | 338 => 91 | n => n, fun | 9 => 9 | 3 => 3 | 2 => 2 | 75 => 97 | 85 => 106 | 4 => 4 | 167 => 131 | 5 => 5 | 53 => 108 | 175 => 132 | 46 => 117 | 168 => 134 | 37 => 68 | 0 => 0 | 210 => 143 | 21 => 21 | 127 => 119 | 145 => 148 | 143 => 146 | 171 => 126 | 173 => 129 | 212 => 138 | 51 => 125 | 20 => 20 | 213 => 139 | 232 => 149 | 233 => 150 | 80 => 100 | n => n, fun | 15 => 3 | 16 => 4 | 17 => 2 | 18 => 5 | 19 => 6 | n => n⟩
theorem sh_laysC174 : Go.Proofs.LaysC.n174 Tryd.prog sh_laysC174_ren := {
  mixed := by kernel_rfl
  f129 := Tryd.func82.trans (congrArg some (by kernel_rfl))
  f171 := Tryd.func46.trans (congrArg some (by kernel_rfl))
  f174 := Tryd.func56.trans (congrArg some (by kernel_rfl))
  f205 := Tryd.func89.trans (congrArg some (by kernel_rfl))
  f243 := Tryd.func60.trans (congrArg some (by kernel_rfl))
  f245 := Tryd.func68.trans (congrArg some (by kernel_rfl))
  f246 := Tryd.func66.trans (congrArg some (by kernel_rfl))
  f247 := Tryd.func67.trans (congrArg some (by kernel_rfl))
  f279 := Tryd.func77.trans (congrArg some (by kernel_rfl))
  f280 := Tryd.func78.trans (congrArg some (by kernel_rfl))
  f281 := Tryd.func79.trans (congrArg some (by kernel_rfl))
  f282 := Tryd.func80.trans (congrArg some (by kernel_rfl))
  f283 := Tryd.func72.trans (congrArg some (by kernel_rfl))
  f284 := Tryd.func73.trans (congrArg some (by kernel_rfl))
  f285 := Tryd.func74.trans (congrArg some (by kernel_rfl))
  f286 := Tryd.func75.trans (congrArg some (by kernel_rfl))
  f287 := Tryd.func76.trans (congrArg some (by kernel_rfl))
  f316 := Tryd.func88.trans (congrArg some (by kernel_rfl))
  f317 := Tryd.func81.trans (congrArg some (by kernel_rfl))
  f318 := Tryd.func83.trans (congrArg some (by kernel_rfl))
  f319 := Tryd.func84.trans (congrArg some (by kernel_rfl))
  f320 := Tryd.func85.trans (congrArg some (by kernel_rfl))
  f321 := Tryd.func86.trans (congrArg some (by kernel_rfl))
  f322 := Tryd.func87.trans (congrArg some (by kernel_rfl))
  f337 := Tryd.func90.trans (congrArg some (by kernel_rfl))
  f338 := Tryd.func91.trans (congrArg some (by kernel_rfl))
  t0 := Tryd.underlying0
  a0 := Tryd.isAgg0
  z0 := Tryd.sizeOf0
  v0 := Tryd.zeroValue0
  t2 := Tryd.underlying2
  a2 := Tryd.isAgg2
  z2 := Tryd.sizeOf2
  v2 := Tryd.zeroValue2
  t3 := Tryd.underlying3
  a3 := Tryd.isAgg3
  z3 := Tryd.sizeOf3
  v3 := Tryd.zeroValue3
  t4 := Tryd.underlying4
  a4 := Tryd.isAgg4
  z4 := Tryd.sizeOf4
  v4 := Tryd.zeroValue4
  t5 := Tryd.underlying5
  a5 := Tryd.isAgg5
  z5 := Tryd.sizeOf5
  v5 := Tryd.zeroValue5
  t9 := Tryd.underlying9
  a9 := Tryd.isAgg9
  z9 := Tryd.sizeOf9
  v9 := Tryd.zeroValue9
  t20 := Tryd.underlying20
  a20 := Tryd.isAgg20
  z20 := Tryd.sizeOf20
  v20 := Tryd.zeroValue20
  t21 := Tryd.underlying21
  a21 := Tryd.isAgg21
  z21 := Tryd.sizeOf21
  v21 := Tryd.zeroValue21
  t37 := Tryd.underlying68
  a37 := Tryd.isAgg68
  z37 := Tryd.sizeOf68
  v37 := Tryd.zeroValue68
  t46 := Tryd.underlying117
  a46 := Tryd.isAgg117
  z46 := Tryd.sizeOf117
  v46 := Tryd.zeroValue117
  t51 := Tryd.underlying125
  a51 := Tryd.isAgg125
  z51 := Tryd.sizeOf125
  v51 := Tryd.zeroValue125
  t53 := Tryd.underlying108
  a53 := Tryd.isAgg108
  z53 := Tryd.sizeOf108
  v53 := Tryd.zeroValue108
  t75 := Tryd.underlying97
  a75 := Tryd.isAgg97
  z75 := Tryd.sizeOf97
  v75 := Tryd.zeroValue97
  t85 := Tryd.underlying106
  a85 := Tryd.isAgg106
  z85 := Tryd.sizeOf106
  v85 := Tryd.zeroValue106
  t127 := Tryd.underlying119
  a127 := Tryd.isAgg119
  z127 := Tryd.sizeOf119
  v127 := Tryd.zeroValue119
  t143 := Tryd.underlying146
  a143 := Tryd.isAgg146
  z143 := Tryd.sizeOf146
  v143 := Tryd.zeroValue146
  t145 := Tryd.underlying148
  a145 := Tryd.isAgg148
  z145 := Tryd.sizeOf148
  v145 := Tryd.zeroValue148
  t167 := Tryd.underlying131
  a167 := Tryd.isAgg131
  z167 := Tryd.sizeOf131
  v167 := Tryd.zeroValue131
  t168 := Tryd.underlying134
  a168 := Tryd.isAgg134
  z168 := Tryd.sizeOf134
  v168 := Tryd.zeroValue134
  t171 := Tryd.underlying126
  a171 := Tryd.isAgg126
  z171 := Tryd.sizeOf126
  v171 := Tryd.zeroValue126
  t173 := Tryd.underlying129
  a173 := Tryd.isAgg129
  z173 := Tryd.sizeOf129
  v173 := Tryd.zeroValue129
  t175 := Tryd.underlying132
  a175 := Tryd.isAgg132
  z175 := Tryd.sizeOf132
  v175 := Tryd.zeroValue132
  t210 := Tryd.underlying143
  a210 := Tryd.isAgg143
  z210 := Tryd.sizeOf143
  v210 := Tryd.zeroValue143
  t212 := Tryd.underlying138
  a212 := Tryd.isAgg138
  z212 := Tryd.sizeOf138
  v212 := Tryd.zeroValue138
  t213 := Tryd.underlying139
  a213 := Tryd.isAgg139
  z213 := Tryd.sizeOf139
  t232 := Tryd.underlying149
  a232 := Tryd.isAgg149
  z232 := Tryd.sizeOf149
  v232 := Tryd.zeroValue149
  t233 := Tryd.underlying150
  a233 := Tryd.isAgg150
  z233 := Tryd.sizeOf150
  v233 := Tryd.zeroValue150
  g15 := by kernel_rfl
  g16 := by kernel_rfl
  g17 := by kernel_rfl
  g18 := by kernel_rfl
  g19 := by kernel_rfl
  t80 := Tryd.underlying100
  a80 := Tryd.isAgg100
  z80 := Tryd.sizeOf100
  v80 := Tryd.zeroValue100
  i0 := by kernel_rfl
  i2 := by kernel_rfl
  i3 := by kernel_rfl
  i4 := by kernel_rfl
  i5 := by kernel_rfl
  i9 := by kernel_rfl
  i20 := by kernel_rfl
  i21 := by kernel_rfl
  i37 := by kernel_rfl
  i46 := by kernel_rfl
  i51 := by kernel_rfl
  i53 := by kernel_rfl
  i75 := by kernel_rfl
  i80 := by kernel_rfl
  i85 := by kernel_rfl
  i127 := by kernel_rfl
  i143 := by kernel_rfl
  i145 := by kernel_rfl
  i167 := by kernel_rfl
  i168 := by kernel_rfl
  i171 := by kernel_rfl
  i173 := by kernel_rfl
  i175 := by kernel_rfl
  i210 := by kernel_rfl
  i212 := by kernel_rfl
  i232 := by kernel_rfl
  i233 := by kernel_rfl
  m15 := by kernel_rfl
  m16 := by kernel_rfl
  m17 := by kernel_rfl
  m18 := by kernel_rfl
  m19 := by kernel_rfl
  c0 := by kernel_rfl
  c2 := by kernel_rfl
  c3 := by kernel_rfl
  c4 := by kernel_rfl
  c5 := by kernel_rfl
  c9 := by kernel_rfl
  c20 := by kernel_rfl
  c21 := by kernel_rfl
  c37 := by kernel_rfl
  c46 := by kernel_rfl
  c51 := by kernel_rfl
  c53 := by kernel_rfl
  c75 := by kernel_rfl
  c80 := by kernel_rfl
  c85 := by kernel_rfl
  c127 := by kernel_rfl
  c143 := by kernel_rfl
  c145 := by kernel_rfl
  c167 := by kernel_rfl
  c168 := by kernel_rfl
  c171 := by kernel_rfl
  c173 := by kernel_rfl
  c175 := by kernel_rfl
  c210 := by kernel_rfl
  c212 := by kernel_rfl
  c213 := by kernel_rfl
  c232 := by kernel_rfl
  c233 := by kernel_rfl }
def sh_laysM171_ren : Go.Shelf.Ren := ⟨fun | 171 => 46 | 243 => 60 | 246 => 66 | 283 => 72 | 284 => 73 | 285 => 74 | 286 => 75 | 129 => 82 | 317 => 81 | 318 => 83 | 319 => 84 | 320 => 85 | 337 => 90 | 338 => 91 | n => n, fun | 3 => 3 | 9 => 9 | 2 => 2 | 4 => 4 | 171 => 126 | 0 => 0 | 53 => 108 | 37 => 68 | 5 => 5 | 173 => 129 | 212 => 138 | 51 => 125 | 20 => 20 | 213 => 139 | 46 => 117 | 232 => 149 | 233 => 150 | n => n, fun | 17 => 2 | 18 => 5 | 19 => 6 | n => n⟩
theorem sh_laysM171 : Go.Proofs.LaysM.n171 Tryd.prog sh_laysM171_ren := {
  mixed := by kernel_rfl
  f129 := Tryd.func82.trans (congrArg some (by kernel_rfl))
  f171 := Tryd.func46.trans (congrArg some (by kernel_rfl))
  f243 := Tryd.func60.trans (congrArg some (by kernel_rfl))
  f246 := Tryd.func66.trans (congrArg some (by kernel_rfl))
  f283 := Tryd.func72.trans (congrArg some (by kernel_rfl))
  f284 := Tryd.func73.trans (congrArg some (by kernel_rfl))
  f285 := Tryd.func74.trans (congrArg some (by kernel_rfl))
  f286 := Tryd.func75.trans (congrArg some (by kernel_rfl))
  f317 := Tryd.func81.trans (congrArg some (by kernel_rfl))
  f318 := Tryd.func83.trans (congrArg some (by kernel_rfl))
  f319 := Tryd.func84.trans (congrArg some (by kernel_rfl))
  f320 := Tryd.func85.trans (congrArg some (by kernel_rfl))
  f337 := Tryd.func90.trans (congrArg some (by kernel_rfl))
  f338 := Tryd.func91.trans (congrArg some (by kernel_rfl))
  t0 := Tryd.underlying0
  a0 := Tryd.isAgg0
  z0 := Tryd.sizeOf0
  v0 := Tryd.zeroValue0
  t2 := Tryd.underlying2
  a2 := Tryd.isAgg2
  z2 := Tryd.sizeOf2
  v2 := Tryd.zeroValue2
  t3 := Tryd.underlying3
  a3 := Tryd.isAgg3
  z3 := Tryd.sizeOf3
  v3 := Tryd.zeroValue3
  t4 := Tryd.underlying4
  a4 := Tryd.isAgg4
  z4 := Tryd.sizeOf4
  v4 := Tryd.zeroValue4
  t5 := Tryd.underlying5
  a5 := Tryd.isAgg5
  z5 := Tryd.sizeOf5
  v5 := Tryd.zeroValue5
  t9 := Tryd.underlying9
  a9 := Tryd.isAgg9
  z9 := Tryd.sizeOf9
  v9 := Tryd.zeroValue9
  t20 := Tryd.underlying20
  a20 := Tryd.isAgg20
  z20 := Tryd.sizeOf20
  v20 := Tryd.zeroValue20
  t37 := Tryd.underlying68
  a37 := Tryd.isAgg68
  z37 := Tryd.sizeOf68
  v37 := Tryd.zeroValue68
  t46 := Tryd.underlying117
  a46 := Tryd.isAgg117
  z46 := Tryd.sizeOf117
  v46 := Tryd.zeroValue117
  t51 := Tryd.underlying125
  a51 := Tryd.isAgg125
  z51 := Tryd.sizeOf125
  v51 := Tryd.zeroValue125
  t53 := Tryd.underlying108
  a53 := Tryd.isAgg108
  z53 := Tryd.sizeOf108
  v53 := Tryd.zeroValue108
  t171 := Tryd.underlying126
  a171 := Tryd.isAgg126
  z171 := Tryd.sizeOf126
  v171 := Tryd.zeroValue126
  t173 := Tryd.underlying129
  a173 := Tryd.isAgg129
  z173 := Tryd.sizeOf129
  v173 := Tryd.zeroValue129
  t212 := Tryd.underlying138
  a212 := Tryd.isAgg138
  z212 := Tryd.sizeOf138
  v212 := Tryd.zeroValue138
  t213 := Tryd.underlying139
  a213 := Tryd.isAgg139
  z213 := Tryd.sizeOf139
  t232 := Tryd.underlying149
  a232 := Tryd.isAgg149
  z232 := Tryd.sizeOf149
  v232 := Tryd.zeroValue149
  t233 := Tryd.underlying150
  a233 := Tryd.isAgg150
  z233 := Tryd.sizeOf150
  v233 := Tryd.zeroValue150
  g17 := by kernel_rfl
  g18 := by kernel_rfl
  g19 := by kernel_rfl
  i0 := by kernel_rfl
  i2 := by kernel_rfl
  i3 := by kernel_rfl
  i4 := by kernel_rfl
  i5 := by kernel_rfl
  i9 := by kernel_rfl
  i20 := by kernel_rfl
  i37 := by kernel_rfl
  i46 := by kernel_rfl
  i51 := by kernel_rfl
  i53 := by kernel_rfl
  i171 := by kernel_rfl
  i173 := by kernel_rfl
  i212 := by kernel_rfl
  i232 := by kernel_rfl
  i233 := by kernel_rfl
  m17 := by kernel_rfl
  m18 := by kernel_rfl
  m19 := by kernel_rfl }
def sh_lays121_ren : Go.Shelf.Ren := ⟨fun | 121 => 54 | 214 => 65 | n => n, fun | 4 => 4 | 9 => 9 | n => n, fun | n => n⟩
theorem sh_lays121 : Go.Proofs.Lays.n121 Tryd.prog sh_lays121_ren := {
  mixed := by kernel_rfl
  f121 := Tryd.func54.trans (congrArg some (by kernel_rfl))
  f214 := Tryd.func65.trans (congrArg some (by kernel_rfl))
  t4 := Tryd.underlying4
  a4 := Tryd.isAgg4
  z4 := Tryd.sizeOf4
  v4 := Tryd.zeroValue4
  t9 := Tryd.underlying9
  a9 := Tryd.isAgg9
  z9 := Tryd.sizeOf9
  v9 := Tryd.zeroValue9 }
def sh_lays196_ren : Go.Shelf.Ren := ⟨fun | 196 => 47 | 259 => 61 | n => n, fun | 9 => 9 | 4 => 4 | 3 => 3 | 5 => 5 | 12 => 12 | 119 => 113 | 0 => 0 | 46 => 117 | 139 => 116 | 138 => 115 | 53 => 108 | n => n, fun | 3 => 0 | 4 => 1 | n => n⟩
theorem sh_lays196 : Go.Proofs.Lays.n196 Tryd.prog sh_lays196_ren := {
  mixed := by kernel_rfl
  f196 := Tryd.func47.trans (congrArg some (by kernel_rfl))
  f259 := Tryd.func61.trans (congrArg some (by kernel_rfl))
  t0 := Tryd.underlying0
  a0 := Tryd.isAgg0
  z0 := Tryd.sizeOf0
  v0 := Tryd.zeroValue0
  t3 := Tryd.underlying3
  a3 := Tryd.isAgg3
  z3 := Tryd.sizeOf3
  v3 := Tryd.zeroValue3
  t4 := Tryd.underlying4
  a4 := Tryd.isAgg4
  z4 := Tryd.sizeOf4
  v4 := Tryd.zeroValue4
  t5 := Tryd.underlying5
  a5 := Tryd.isAgg5
  z5 := Tryd.sizeOf5
  v5 := Tryd.zeroValue5
  t9 := Tryd.underlying9
  a9 := Tryd.isAgg9
  z9 := Tryd.sizeOf9
  v9 := Tryd.zeroValue9
  t12 := Tryd.underlying12
  a12 := Tryd.isAgg12
  z12 := Tryd.sizeOf12
  v12 := Tryd.zeroValue12
  t46 := Tryd.underlying117
  a46 := Tryd.isAgg117
  z46 := Tryd.sizeOf117
  v46 := Tryd.zeroValue117
  t53 := Tryd.underlying108
  a53 := Tryd.isAgg108
  z53 := Tryd.sizeOf108
  v53 := Tryd.zeroValue108
  t119 := Tryd.underlying113
  a119 := Tryd.isAgg113
  z119 := Tryd.sizeOf113
  t138 := Tryd.underlying115
  a138 := Tryd.isAgg115
  z138 := Tryd.sizeOf115
  v138 := Tryd.zeroValue115
  t139 := Tryd.underlying116
  a139 := Tryd.isAgg116
  z139 := Tryd.sizeOf116
  v139 := Tryd.zeroValue116
  g3 := by kernel_rfl
  g4 := by kernel_rfl }
theorem sh_Builder_Extra_169 : Builder.Extra Tryd.prog sh_lays169_ren := {
  sizeBuilder := by kernel_rfl
  liesBuilder := by kernel_rfl
  t5 := Tryd.underlying5
  a5 := Tryd.isAgg5
  z5 := Tryd.sizeOf5
  v5 := Tryd.zeroValue5
  infoByte := by kernel_rfl
  cellsByte := by kernel_rfl
  sizeByte := by kernel_rfl
  neB5 := by decide }
open Go.RowKit in
theorem sh_Builder_String_any_k (B b : Nat) (l : List UInt8) (w : World) (h : Lib.IsBuilderF 95 5 B b (Lib.byteCells l) w) (hBw : B ≤ w.heap.size) :
    Calls Tryd.prog 49 #[.pointer (some ⟨b, 0, none⟩)] w fun e w' => e = .returned (.string ⟨l.toArray⟩) ∧ (Lib.IsBuilderF 95 5 B b (Lib.byteCells l) w' ∧ Below B w w' ∧ Lib.OthersKept 5 (some b) w w') := Any.Builder_String_any_k sh_lays169 sh_Builder_Extra_169 B b l w h hBw
open Go.RowKit Go.Sort Go.Lib in
theorem sh_strconv_FormatInt_10 (n : Int) (h0 : -9223372036854775808 ≤ n) (h1 : n ≤ 9223372036854775807) (w : World) (htab : Lib.TabIs Tryd.prog w "internal/strconv.uint64pow10" .u64 Lib.pow10Tab) :
    Calls Tryd.prog 55 #[.int .i64 n, .int .i64 10] w fun e w' => e = .returned (.string ⟨(Lib.itoa n).toArray⟩) ∧ ∃ k os, w' = grow (w.drewN k) os := Any.strconv_FormatInt_10 sh_laysM173 n h0 h1 w htab
open Go.RowKit in
theorem sh_strconv_ParseInt_10_at64_ok (s : ByteArray) (hmax : s.size ≤ 9223372036854775806) (v : Int) (h : Lib.parseIntB 64 s.data.toList = .ok v) (w : World) :
    Calls Tryd.prog 56 #[.string s, .int .i64 10, .int .i64 64] w fun e w' => e = .returned (.tuple #[.int .i64 v, .nilIface]) ∧ (w' = w ∨ ∃ t, w' = Lib.bytesWorld w 5 t) := Any.strconv_ParseInt_10_at64_ok sh_laysC174 s hmax v h w
open Go.RowKit in
theorem sh_strconv_ParseInt_10_at64_syntax_var (s : ByteArray) (hlim : s.size ≤ 281474976710656) (h : Lib.parseIntB 64 s.data.toList = .«syntax») (tp : TypeId) (p : Value) (w : World) (hvar : w.var? Tryd.prog "strconv.ErrSyntax" = some #[.iface tp p]) :
    Calls Tryd.prog 56 #[.string s, .int .i64 10, .int .i64 64] w fun e w' => ∃ N, e = .returned (.tuple #[.int .i64 (0), .iface 134 (.pointer (some ⟨N, 0, none⟩))]) ∧ w.heap.size ≤ N ∧ w'.heap[N]? = some (.cells #[.string ⟨#[80, 97, 114, 115, 101, 73, 110, 116]⟩, .string s, .iface tp p] 143 (0, 0)) ∧ Below w.heap.size w w' := Any.strconv_ParseInt_10_at64_syntax_var sh_laysC174 s hlim h tp p w hvar
open Go.RowKit in
theorem sh_strconv_ParseInt_10_at64_range_var (s : ByteArray) (hlim : s.size ≤ 281474976710656) (h : Lib.parseIntB 64 s.data.toList = .range) (tp : TypeId) (p : Value) (w : World) (hvar : w.var? Tryd.prog "strconv.ErrRange" = some #[.iface tp p]) :
    Calls Tryd.prog 56 #[.string s, .int .i64 10, .int .i64 64] w fun e w' => ∃ N, e = .returned (.tuple #[.int .i64 (Lib.intSat 64 s.data.toList), .iface 134 (.pointer (some ⟨N, 0, none⟩))]) ∧ w.heap.size ≤ N ∧ w'.heap[N]? = some (.cells #[.string ⟨#[80, 97, 114, 115, 101, 73, 110, 116]⟩, .string s, .iface tp p] 143 (0, 0)) ∧ Below w.heap.size w w' := Any.strconv_ParseInt_10_at64_range_var sh_laysC174 s hlim h tp p w hvar
open Go.RowKit Go.Sort Go.Lib in
theorem sh_strconv_Itoa (n : Int) (h0 : -9223372036854775808 ≤ n) (h1 : n ≤ 9223372036854775807) (w : World) (htab : Lib.TabIs Tryd.prog w "internal/strconv.uint64pow10" .u64 Lib.pow10Tab) :
    Calls Tryd.prog 46 #[.int .i64 n] w fun e w' => e = .returned (.string ⟨(Lib.itoa n).toArray⟩) ∧ ∃ k os, w' = grow (w.drewN k) os := Any.strconv_Itoa sh_laysM171 n h0 h1 w htab
open Go.RowKit in
theorem sh_strconv_FormatBool (b : Bool) (w : World) :
    Calls Tryd.prog 54 #[.bool b] w fun e w' => e = .returned (.string ⟨(Lib.formatBool b).toArray⟩) ∧ w' = w := Any.strconv_FormatBool sh_lays121 b w
end Go.Proofs.YtjianickjahdnaaDoor
namespace Go.Proofs.YtjianickjahdnaaDoor
set_option linter.unusedVariables false
open Go.RowKit

/-- What has changed: at most the blocks of S, and new ones. -/
structure Chg (S : Nat → Prop) (w w' : World) : Prop where
  os : w'.os = w.os
  tape : w'.tape = w.tape
  output : w'.output = w.output
  size : w.heap.size ≤ w'.heap.size
  block : ∀ k, k < w.heap.size → ¬ S k → w'.heap[k]? = w.heap[k]?
theorem Chg.refl (S : Nat → Prop) (w : World) : Chg S w w := ⟨rfl, rfl, rfl, Nat.le_refl _, fun _ _ _ => rfl⟩
theorem Chg.trans {S S' S'' : Nat → Prop} {a b c : World} (h : Chg S a b) (k : Chg S' b c) (h1 : ∀ i, i < a.heap.size → S i → S'' i) (h2 : ∀ i, i < a.heap.size → S' i → S'' i) : Chg S'' a c :=
  ⟨k.os.trans h.os, k.tape.trans h.tape, k.output.trans h.output, Nat.le_trans h.size k.size,
    fun i hi hn => (k.block i (Nat.lt_of_lt_of_le hi h.size) (fun x => hn (h2 i hi x))).trans (h.block i hi (fun x => hn (h1 i hi x)))⟩
theorem Chg.trans' {S : Nat → Prop} {a b c : World} (h : Chg S a b) (k : Chg S b c) : Chg S a c := h.trans k (fun _ _ x => x) (fun _ _ x => x)
theorem Chg.mono {S S' : Nat → Prop} {a b : World} (h : Chg S a b) (h1 : ∀ i, i < a.heap.size → S i → S' i) : Chg S' a b :=
  ⟨h.os, h.tape, h.output, h.size, fun i hi hn => h.block i hi (fun x => hn (h1 i hi x))⟩
theorem Chg.drewR {S : Nat → Prop} {a b : World} (h : Chg S a b) : Chg S a b.drew := ⟨h.os, h.tape, h.output, h.size, h.block⟩
theorem Chg.drewNR {S : Nat → Prop} {a b : World} (h : Chg S a b) (n : Nat) : Chg S a (b.drewN n) := ⟨h.os, h.tape, h.output, h.size, h.block⟩
theorem Chg.ofDrew {S : Nat → Prop} {a b : World} (h : Chg S a.drew b) : Chg S a b := ⟨h.os, h.tape, h.output, h.size, h.block⟩
theorem Chg.ofDrewN {S : Nat → Prop} {a b : World} {n : Nat} (h : Chg S (a.drewN n) b) : Chg S a b := ⟨h.os, h.tape, h.output, h.size, h.block⟩
theorem Chg.drewN (S : Nat → Prop) (w : World) (n : Nat) : Chg S w (w.drewN n) := (Chg.refl S w).drewNR n
theorem Chg.alloc (S : Nat → Prop) (w : World) (o : Obj) : Chg S w (w.alloc o) :=
  ⟨rfl, rfl, rfl, by simp, fun k hk _ => Below.heap_alloc _ _ _ hk⟩
theorem Chg.allocR {S : Nat → Prop} {a b : World} (h : Chg S a b) (o : Obj) : Chg S a (b.alloc o) :=
  h.trans (Chg.alloc S b o) (fun _ _ x => x) (fun _ _ x => x)
theorem Chg.setCell (w : World) (p : Addr) (u : Value) : Chg (· = p.block) w (w.setCell p u) :=
  ⟨rfl, rfl, rfl, by simp [World.setCell], fun k _ hn => Below.heap_setCell _ _ _ _ hn⟩
theorem Chg.setCellR {S : Nat → Prop} {a b : World} (h : Chg S a b) (p : Addr) (u : Value) (hp : p.block < a.heap.size → S p.block) : Chg S a (b.setCell p u) :=
  h.trans (Chg.setCell b p u) (fun _ _ x => x) (fun i hi x => by subst x; exact hp hi)
theorem Chg.grown {w w' : World} {row : Option Nat} (h : w.grownBy w' row) : Chg (fun k => row = some k) w w' :=
  ⟨h.os, h.tape, h.output, h.size, fun k hk hn => h.block k hk (fun e => hn e.symm)⟩
theorem Chg.below {S : Nat → Prop} {B : Nat} {w w' : World} (h : Chg S w w') (hB : B ≤ w.heap.size) (hS : ∀ k, S k → B ≤ k) : Below B w w' :=
  ⟨h.os, h.tape, h.output, h.size, fun k hk => h.block k (by omega) (fun x => by have := hS k x; omega)⟩
theorem Chg.ofBelow {B : Nat} {w w' : World} (h : Below B w w') : Chg (fun k => B ≤ k) w w' :=
  ⟨h.os, h.tape, h.output, h.size, fun k _ hn => h.block k (by omega)⟩

theorem lt_of_block {w : World} {k : Nat} {o : Obj} (hk : w.heap[k]? = some o) : k < w.heap.size := (Array.getElem?_eq_some_iff.1 hk).1
/-- A block that a change left alone. -/
theorem Chg.keep {S : Nat → Prop} {w w' : World} (h : Chg S w w') {k : Nat} {o : Obj} (hk : w.heap[k]? = some o) (hn : ¬ S k) : w'.heap[k]? = some o := by
  rw [h.block k (lt_of_block hk) hn]; exact hk
theorem Chg.cell {w w' : World} (h : Chg (fun _ => False) w w') {a : Addr} {v : Value} (hc : w.cell? a = some v) : w'.cell? a = some v := by
  have hb : a.block < w.heap.size := World.block_lt_of_cell? w _ hc
  rw [World.cell?_of_block (h.block a.block hb (fun x => x))]; exact hc
theorem cell_of_block {w : World} {b T : Nat} {c : Array Value} {f : Nat × Nat} {i : Nat} {v : Value} (h : w.heap[b]? = some (.cells c T f)) (hc : c[i]? = some v) : w.cell? ⟨b, i, none⟩ = some v := by
  simp [World.cell?, h, hc]
theorem frozen_of_block {w : World} {b T : Nat} {c : Array Value} {i : Nat} (h : w.heap[b]? = some (.cells c T (0, 0))) : w.frozen? ⟨b, i, none⟩ = false := by
  simp [World.frozen?, h]
theorem setCell_block {w : World} {b T i : Nat} {c : Array Value} {f : Nat × Nat} (v : Value) (h : w.heap[b]? = some (.cells c T f)) :
    (w.setCell ⟨b, i, none⟩ v).heap[b]? = some (.cells (c.setIfInBounds i v) T f) := by
  simp [World.setCell, Array.getElem?_modify, h]
theorem setCell_other {w : World} {b i k : Nat} {o : Obj} (v : Value) (h : w.heap[k]? = some o) (hn : k ≠ b) : (w.setCell ⟨b, i, none⟩ v).heap[k]? = some o := by
  rw [Below.heap_setCell _ _ _ _ hn]; exact h
theorem alloc_block (w : World) (o : Obj) : (w.alloc o).heap[w.heap.size]? = some o := heap_alloc_new w o
theorem alloc_old {w : World} {b : Nat} {o : Obj} (p : Obj) (h : w.heap[b]? = some o) : (w.alloc p).heap[b]? = some o := by
  rw [Below.heap_alloc _ _ _ (lt_of_block h)]; exact h
theorem drew_block {w : World} {b : Nat} {o : Obj} (h : w.heap[b]? = some o) : w.drew.heap[b]? = some o := h
theorem drewN_block {w : World} {b : Nat} {o : Obj} (n : Nat) (h : w.heap[b]? = some o) : (w.drewN n).heap[b]? = some o := h

/-- Cells written from an offset on. -/
def putAt (c : Array Value) : Nat → List Value → Array Value
  | _, [] => c
  | o, v :: vs => putAt (c.setIfInBounds o v) (o + 1) vs
theorem putAt_size (vs : List Value) : ∀ (c : Array Value) (o : Nat), (putAt c o vs).size = c.size := by
  induction vs with
  | nil => intro c o; rfl
  | cons v vs ih => intro c o; rw [putAt, ih]; simp
theorem putAt_toList (vs : List Value) : ∀ (c : Array Value) (o : Nat), o + vs.length ≤ c.size → (putAt c o vs).toList = c.toList.take o ++ vs ++ c.toList.drop (o + vs.length) := by
  induction vs with
  | nil => intro c o _; simp [putAt]
  | cons v vs ih =>
    intro c o h
    simp only [List.length_cons] at h
    rw [putAt, ih _ _ (by simp; omega)]
    have h1 : (c.setIfInBounds o v).toList = c.toList.set o v := by simp
    rw [h1]
    have h2 : (c.toList.set o v).take (o + 1) = c.toList.take o ++ [v] := by
      rw [List.take_succ_eq_append_getElem (by simp; omega)]
      simp [List.take_set_of_le]
    have h3 : (c.toList.set o v).drop (o + 1 + vs.length) = c.toList.drop (o + 1 + vs.length) := by
      rw [List.drop_set_of_lt (by omega)]
    rw [h2, h3]
    simp [Nat.add_comm, Nat.add_left_comm]
theorem setCells_block {b T : Nat} {f : Nat × Nat} (vs : List Value) : ∀ {w : World} {c : Array Value} (o : Nat), w.heap[b]? = some (.cells c T f) →
    (w.setCells b o vs).heap[b]? = some (.cells (putAt c o vs) T f) := by
  induction vs with
  | nil => intro w c o h; exact h
  | cons v vs ih => intro w c o h; exact ih (o + 1) (setCell_block v h)
theorem Chg.setCells {b : Nat} (vs : List Value) : ∀ (w : World) (o : Nat), Chg (· = b) w (w.setCells b o vs) := by
  induction vs with
  | nil => intro w o; exact .refl _ _
  | cons v vs ih => intro w o; exact (Chg.setCell w ⟨b, o, none⟩ v).trans' (ih _ _)

/-- The slice v has n elements (size cells each), the cells xs, and owns its block. -/
def RowAt (w : World) (e size : Nat) (v : Value) (n : Nat) (xs : List Value) : Prop :=
  xs.length = n * size ∧
  ((v = .slice none 0 0 ∧ n = 0) ∨
   ∃ g off cap cur, v = .slice (some ⟨g, off, none⟩) n cap ∧ w.heap[g]? = some (.cells cur e (0, 0)) ∧ n ≤ cap ∧ cap ≤ maxLen ∧ off + cap * size ≤ cur.size ∧
     (cur.toList.drop off).take (n * size) = xs)
section
variable {w w' : World} {e size : Nat} {v : Value} {n : Nat} {xs : List Value}
theorem RowAt.nil (w : World) (e size : Nat) : RowAt w e size (.slice none 0 0) 0 [] := ⟨by simp, .inl ⟨rfl, rfl⟩⟩
theorem RowAt.keep (h : RowAt w e size v n xs) (hk : ∀ k o, v.ownBlock = some k → w.heap[k]? = some o → w'.heap[k]? = some o) : RowAt w' e size v n xs := by
  refine ⟨h.1, ?_⟩
  rcases h.2 with hn | ⟨g, off, cap, cur, rfl, hg, rest⟩
  · exact .inl hn
  · exact .inr ⟨g, off, cap, cur, rfl, hk g _ rfl hg, rest⟩
theorem RowAt.chg {S : Nat → Prop} (h : RowAt w e size v n xs) (hc : Chg S w w') (hn : ∀ k, v.ownBlock = some k → ¬ S k) : RowAt w' e size v n xs :=
  h.keep fun k _ hk ho => hc.keep ho (hn k hk)
theorem RowAt.alloc (h : RowAt w e size v n xs) (o : Obj) : RowAt (w.alloc o) e size v n xs := h.keep fun _ _ _ ho => alloc_old o ho
theorem RowAt.drew (h : RowAt w e size v n xs) : RowAt w.drew e size v n xs := h.keep fun _ _ _ ho => ho
theorem RowAt.drewN (h : RowAt w e size v n xs) (m : Nat) : RowAt (w.drewN m) e size v n xs := h.keep fun _ _ _ ho => ho
theorem RowAt.lt (h : RowAt w e size v n xs) : ∀ k, v.ownBlock = some k → k < w.heap.size := by
  intro k hk
  rcases h.2 with ⟨rfl, _⟩ | ⟨g, off, cap, cur, rfl, hg, _⟩
  · simp [Value.ownBlock] at hk
  · simp [Value.ownBlock] at hk; subst hk; exact lt_of_block hg
theorem RowAt.slice (h : RowAt w e size v n xs) : ∃ a cap, v = .slice a n cap ∧ n ≤ cap ∧ cap ≤ maxLen := by
  rcases h.2 with ⟨rfl, rfl⟩ | ⟨g, off, cap, cur, rfl, hg, h1, h2, _⟩
  · exact ⟨none, 0, rfl, Nat.le_refl _, by simp⟩
  · exact ⟨_, _, rfl, h1, h2⟩
theorem RowAt.cells (h : RowAt w e size v n xs) {a : Addr} {m cap : Nat} (hv : v = .slice (some a) m cap) :
    ∀ j u, xs[j]? = some u → w.cell? (a.add j) = some u := by
  intro j u hu
  rcases h.2 with ⟨rfl, _⟩ | ⟨g, off, cap', cur, rfl, hg, _, _, _, ht⟩
  · simp at hv
  · simp only [Value.slice.injEq, Option.some.injEq] at hv
    obtain ⟨rfl, _, _⟩ := hv
    have hadd : (⟨g, off, none⟩ : Addr).add j = ⟨g, off + j, none⟩ := by unfold Addr.add; split <;> simp_all
    rw [hadd]
    refine cell_of_block hg ?_
    rw [← ht, List.getElem?_take] at hu
    split at hu
    · simpa using hu
    · cases hu
theorem RowAt.cellAt {g off m cap : Nat} (h : RowAt w e size (.slice (some ⟨g, off, none⟩) m cap) n xs) (j : Nat) (u : Value) (hu : xs[j]? = some u) : w.cell? ⟨g, off + j, none⟩ = some u := by
  have := h.cells rfl j u hu
  rwa [show (⟨g, off, none⟩ : Addr).add j = ⟨g, off + j, none⟩ from by unfold Addr.add; split <;> simp_all] at this
end

/-- append onto an owned row, whatever is appended. -/
theorem run_append_row {P : Program} (w : World) (t tx ty e : TypeId) (i : TypeInfo) (z : Value) (size bytes : Nat) (ht : P.underlying t = some (.slice e)) (hi : P.info? e = some i) (hz : i.zero = some z)
    (hsize : i.size = size) (hby : i.bytes = bytes) (hzs : z.cells.size = size) (hsz : 0 < size)
    (v : Value) (n : Nat) (xs : List Value) (hown : RowAt w e size v n xs) (x : Value) (m : Nat) (news : List Value) (hs : Src P size tx x m news w)
    (h63 : n + m ≤ maxLen) (hbytes : (n + m) * bytes ≤ 140737488355328) :
    ∃ v' w', (Builtin.append_ #[t, tx] ty #[v, x]).run P w = .ok v' w' ∧ RowAt w' e size v' (n + m) (xs ++ news) ∧ Chg (fun k => v.ownBlock = some k) w w' ∧
      (∀ k, v'.ownBlock = some k → v.ownBlock = some k ∨ w.heap.size ≤ k) := by
  subst hsize
  subst hby
  have hlen : (xs ++ news).length = (n + m) * i.size := by rw [List.length_append, hown.1, hs.newsLen, Nat.add_mul]
  have grow : ∀ (base : Option Addr) (cap : Nat), v = .slice base n cap → cap < n + m → (Builtin.firstCells i.size n (.slice base n cap)).run P w.drew = .ok xs.toArray w.drew →
      ∃ v' w', (Builtin.append_ #[t, tx] ty #[v, x]).run P w = .ok v' w' ∧ RowAt w' e i.size v' (n + m) (xs ++ news) ∧ Chg (fun k => v.ownBlock = some k) w w' ∧
      (∀ k, v'.ownBlock = some k → v.ownBlock = some k ∨ w.heap.size ≤ k) := by
    intro base cap hv hcap hold
    have hr := run_append_grow_src (P := P) w t tx ty e i z ht hi hz base n cap xs hold x m news hs hcap (by simp only [maxLen] at h63; omega) (growslice_fits hcap hbytes)
    have hge := grownCap_ge w (n + m) cap e
    have hcm : grownCap w (n + m) cap e ≤ maxLen := grownCap_le_maxLen w (n + m) cap e h63
    refine ⟨_, _, by rw [hv]; exact hr, ⟨hlen, .inr ⟨w.heap.size, 0, _, _, rfl, heap_alloc_new w.drew _, hge, hcm, ?_, ?_⟩⟩, ?_, ?_⟩
    · simp only [Array.size_append, List.size_toArray, size_zeroCells, hzs, hlen, ← Nat.add_mul]
      rw [show n + m + (grownCap w (n + m) cap e - (n + m)) = grownCap w (n + m) cap e from by omega]
      omega
    · simp only [Array.toList_append, List.drop_zero]
      rw [← hlen]
      exact List.take_left
    · exact ((Chg.refl _ w).drewR).allocR _
    · intro k hk
      simp only [Value.ownBlock, Option.some.injEq] at hk
      exact .inr (by omega)
  rcases hown.2 with ⟨rfl, rfl⟩ | ⟨g, off, cap, cur, rfl, hg, hnc, hcm, hcs, htake⟩
  · have hx : xs = [] := List.eq_nil_of_length_eq_zero (by simpa using hown.1)
    subst hx
    by_cases hm : m = 0
    · subst hm
      have hn : news = [] := List.eq_nil_of_length_eq_zero (by simpa using hs.newsLen)
      subst hn
      refine ⟨.slice none 0 0, w, ?_, RowAt.nil w e i.size, .refl _ _, fun k hk => .inl hk⟩
      have hc := hs.cells
      rcases hs.kind with ⟨e', hk⟩ | hk <;> simp [Builtin.append_, run_underlying ht, run_underlying hk, sizeOf, typeInfo, hi, hs.len, hc]
    · exact grow none 0 rfl (by omega) (run_firstCells_none w.drew i.size 0 0 0)
  · by_cases hroom : n + m ≤ cap
    · have hmul : n * i.size + m * i.size ≤ cap * i.size := by rw [← Nat.add_mul]; exact Nat.mul_le_mul_right _ hroom
      have hfit : off + n * i.size + news.length ≤ cur.size := by rw [hs.newsLen]; omega
      have hr := run_append_room_src (P := P) w t tx ty e i ht hi g off n cap x m news hs hroom
        (fun j hj => by rw [cell_of_block hg (Array.getElem?_eq_getElem (by omega))]; rfl) (fun j _ => frozen_of_block hg)
      refine ⟨_, _, hr, ⟨hlen, .inr ⟨g, off, cap, _, rfl, setCells_block news _ hg, hroom, hcm, ?_, ?_⟩⟩, ?_, fun k hk => .inl hk⟩
      · rw [putAt_size]; exact hcs
      · rw [putAt_toList _ _ _ hfit, List.append_assoc, List.drop_append_of_le_length (by simp; omega)]
        rw [← List.append_assoc, List.drop_take, show off + n * i.size - off = n * i.size from by omega, htake, ← hlen]
        exact List.take_left
      · exact (Chg.setCells news w _).mono (fun k _ hk => by simp only [Value.ownBlock, hk])
    · refine grow (some ⟨g, off, none⟩) cap rfl (by omega) ?_
      refine run_firstCells_some w.drew i.size n ⟨g, off, none⟩ n cap xs hown.1 ?_
      intro j u hu
      have := hown.cells rfl j u hu
      simpa using this

theorem wpList_append_row {P : Program} (w : World) {ops : Array Oper} {rest : List Oper} {o : Oper} {a : Act} {Q : Exit → Act → World → Prop} (hgd : o.guard = none) (s x : Operand) (t tx : TypeId)
    (ho : o.op = .call { callee := .builtin .append, args := #[s, x], argTypes := #[t, tx] })
    (e : TypeId) (i : TypeInfo) (z : Value) (size bytes : Nat) (ht : P.underlying t = some (.slice e)) (hi : P.info? e = some i) (hz : i.zero = some z)
    (hsize : i.size = size) (hby : i.bytes = bytes) (hzs : z.cells.size = size) (hsz : 0 < size)
    (v : Value) (n : Nat) (xs : List Value) (hsv : a.eval s = v) (hown : RowAt w e size v n xs)
    (xv : Value) (m : Nat) (news : List Value) (hx : a.eval x = xv) (hs : Src P size tx xv m news w)
    (h63 : n + m ≤ maxLen) (hbytes : (n + m) * bytes ≤ 140737488355328)
    (h : ∀ v' w', RowAt w' e size v' (n + m) (xs ++ news) → Chg (fun k => v.ownBlock = some k) w w' → (∀ k, v'.ownBlock = some k → v.ownBlock = some k ∨ w.heap.size ≤ k) → wpList P ops Q rest (a.put o.dst v') w') :
    wpList P ops Q (o :: rest) a w := by
  refine wpList_plain hgd fun K hK => ?_
  obtain ⟨v', w', hr, h2, h3, h4⟩ := run_append_row (P := P) w t tx o.type e i z size bytes ht hi hz hsize hby hzs hsz v n xs hown xv m news hs h63 hbytes
  unfold Oper.wp execOp
  simp only [ho, resolve, invoke, builtin, Sem.run_bind, Sem.run_pure, Result.andThen_ok, List.map_toArray, List.map_cons, List.map_nil, hsv, hx, hr]
  exact hK _ _ (h v' w' h2 h3 h4)

/-- The same, in a region that draws its order. -/
theorem step_append_row {P : Program} {w : World} {ops : Array Oper} {o : Oper} {a : Act} {K : Act → World → Prop} {Q : Exit → Act → World → Prop} {E : Prop} (hgd : o.guard = none) (s x : Operand) (t tx : TypeId)
    (ho : o.op = .call { callee := .builtin .append, args := #[s, x], argTypes := #[t, tx] })
    (e : TypeId) (i : TypeInfo) (z : Value) (size bytes : Nat) (ht : P.underlying t = some (.slice e)) (hi : P.info? e = some i) (hz : i.zero = some z)
    (hsize : i.size = size) (hby : i.bytes = bytes) (hzs : z.cells.size = size) (hsz : 0 < size)
    (v : Value) (n : Nat) (xs : List Value) (hsv : a.eval s = v) (hown : RowAt w e size v n xs)
    (xv : Value) (m : Nat) (news : List Value) (hx : a.eval x = xv) (hs : Src P size tx xv m news w)
    (h63 : n + m ≤ maxLen) (hbytes : (n + m) * bytes ≤ 140737488355328)
    (h : ∀ v' w', RowAt w' e size v' (n + m) (xs ++ news) → Chg (fun k => v.ownBlock = some k) w w' → (∀ k, v'.ownBlock = some k → v.ownBlock = some k ∨ w.heap.size ≤ k) → K (a.put o.dst v') w') :
    if Region.wanted o (yielded ops a.tmps) = true then Oper.wp P o a w K Q else E := by
  have hw : Region.wanted o (yielded ops a.tmps) = true := by simp [Region.wanted, hgd]
  rw [if_pos hw]
  obtain ⟨v', w', hr, h2, h3, h4⟩ := run_append_row (P := P) w t tx o.type e i z size bytes ht hi hz hsize hby hzs hsz v n xs hown xv m news hs h63 hbytes
  unfold Oper.wp execOp
  simp only [ho, resolve, invoke, builtin, Sem.run_bind, Sem.run_pure, Result.andThen_ok, List.map_toArray, List.map_cons, List.map_nil, hsv, hx, hr]
  exact h v' w' h2 h3 h4

end Go.Proofs.YtjianickjahdnaaDoor
namespace Go.Proofs.YtjianickjahdnaaDoor
open Go.RowKit
set_option linter.unusedVariables false
set_option linter.unusedSimpArgs false

/-- What the library's variables hold: the powers of ten, the errors of strconv. -/
structure Tabs (w : World) : Prop where
  pow : Lib.TabIs Tryd.prog w "internal/strconv.uint64pow10" .u64 Lib.pow10Tab
  syn : ∃ tp p, w.var? Tryd.prog "strconv.ErrSyntax" = some #[.iface tp p]
  rng : ∃ tp p, w.var? Tryd.prog "strconv.ErrRange" = some #[.iface tp p]
theorem var_still {P : Program} {w w' : World} {n : String} {cs : Array Value} (h : w.var? P n = some cs) (hc : Chg (fun _ => False) w w') : w'.var? P n = some cs := by
  unfold World.var? at h ⊢
  cases hg : P.globalNamed n with
  | none => rw [hg] at h; simp at h
  | some g =>
    rw [hg] at h
    simp only [Option.bind_some] at h ⊢
    cases hb : w.heap[g]? with
    | none => rw [hb] at h; simp at h
    | some o => rw [hc.keep hb (fun x => x)]; rw [hb] at h; exact h
theorem Tabs.still {w w' : World} (h : Tabs w) (hc : Chg (fun _ => False) w w') : Tabs w' := by
  obtain ⟨t1, p1, h1⟩ := h.syn
  obtain ⟨t2, p2, h2⟩ := h.rng
  exact ⟨var_still h.pow hc, ⟨t1, p1, var_still h1 hc⟩, ⟨t2, p2, var_still h2 hc⟩⟩
theorem chg_of_below {w w' : World} (h : Below w.heap.size w w') : Chg (fun _ => False) w w' := ⟨h.os, h.tape, h.output, h.size, fun k hk _ => h.block k hk⟩
theorem chg_grow (w : World) (k : Nat) (os : Array _root_.Go.Obj) : Chg (fun _ => False) w (Sort.grow (w.drewN k) os) :=
  ⟨rfl, rfl, rfl, by simp [Sort.grow], fun j hj _ => by
    show ((w.drewN k).heap ++ os)[j]? = w.heap[j]?
    have e : (w.drewN k).heap = w.heap := rfl
    rw [e, Array.getElem?_append_left hj]⟩
/-- The number with a decimal text. -/
def numM (s : ByteArray) : Option Int :=
  match Lib.parseIntB 64 s.data.toList with
  | .ok v => if Lib.itoa v = s.data.toList then some v else none
  | _ => none
theorem parse_in {l : List UInt8} {v : Int} (h : Lib.parseIntB 64 l = .ok v) : -9223372036854775808 ≤ v ∧ v ≤ 9223372036854775807 := by
  unfold Lib.parseIntB at h
  split at h
  · cases h
  · simp only at h
    split at h
    · cases h
    · cases h
    · rename_i u _
      split at h
      · cases h
      · split at h
        · cases h
        · rename_i h1 h2
          simp only [Lib.NumEnd.ok.injEq] at h
          have e63 : (2 : Nat) ^ (64 - 1) = 9223372036854775808 := by decide
          rw [e63] at h1 h2
          split at h
          · rename_i hn
            have : ¬ 9223372036854775808 < u := fun x => h2 ⟨hn, x⟩
            omega
          · rename_i hn
            have : ¬ 9223372036854775808 ≤ u := fun x => h1 ⟨hn, x⟩
            omega
theorem fmt_any (v : Int) (w : World) (h0 : -9223372036854775808 ≤ v ∧ v ≤ 9223372036854775807) (HT : Tabs w) :
    Calls Tryd.prog 55 #[.int .i64 v, .int .i64 10] w fun e w' => e = .returned (.string ⟨(Lib.itoa v).toArray⟩) ∧ Chg (fun _ => False) w w' :=
  (sh_strconv_FormatInt_10 v h0.1 h0.2 w HT.pow).mono fun e w' ⟨he, k, os, hw⟩ => ⟨he, by rw [hw]; exact chg_grow w k os⟩
theorem str_eq_list {l : List UInt8} {s : ByteArray} : (⟨l.toArray⟩ : ByteArray) = s ↔ l = s.data.toList := by
  constructor
  · intro h; rw [← h]
  · intro h; rw [h]
theorem toList_inj {a b : ByteArray} (h : a.toList = b.toList) : a = b := by
  have ha : ∀ x : ByteArray, x.toList = x.data.toList := fun x => ByteArray.toList_eq x
  rw [ha, ha] at h
  cases a; cases b
  simp at h ⊢
  exact h
set_option maxHeartbeats 1600000 in
set_option maxRecDepth 100000 in
theorem number_any (s : ByteArray) (w : World) (hs : s.size ≤ 1000000) (HT : Tabs w) :
    Calls Tryd.prog 41 #[.string s] w fun e w' => e = .returned (match numM s with | some v => .tuple #[.int .i64 v, .int .i64 0] | none => .tuple #[.int .i64 0, .int .i64 6]) ∧ Chg (fun _ => False) w w' := by
  have HTT := Lib.hid HT
  have HS := Lib.hid hs
  cases hp : Lib.parseIntB 64 s.data.toList with
  | ok v =>
    have hin := parse_in hp
    have HP := Lib.hid (sh_strconv_ParseInt_10_at64_ok s (by omega) v hp w)
    have HF := Lib.hid (fun (W : World) (h : Tabs W) => fmt_any v W hin h)
    have hp' := hp
    clear hp hin HT hs
    by_cases he : Lib.itoa v = s.data.toList
    · have hm : numM s = some v := by unfold numM; rw [hp']; exact if_pos he
      rw [hm]
      clear hm hp'
      have heq : (⟨(Lib.itoa v).toArray⟩ : ByteArray) = s := str_eq_list.2 he
      have HE := Lib.hid he
      rw [heq] at HF
      clear he heq
      have ne : (s.toList != s.toList) = false := by simp
      go_enter Tryd.func41, Tryd.ntmps41
      go_upto_region 2 with (go_at_call 56; refine HP.out.mono ?_; rintro e wp ⟨rfl, hwp⟩)
      have HCP : Hid (Chg (fun _ => False) w wp) := Lib.hid (by
        rcases hwp with rfl | ⟨t, rfl⟩
        · exact Chg.refl _ _
        · exact chg_of_below (Joins.below_bytesWorld _ _ _ _ (Nat.le_refl _)))
      clear hwp
      go_wp2_with (go_at_call 55; refine (HF.out _ (HTT.out.still HCP.out)).mono ?_; rintro e wf ⟨rfl, hcf⟩)
      go_ret2
      exact ⟨rfl, HCP.out.trans' hcf⟩
    · have hm : numM s = none := by unfold numM; rw [hp']; exact if_neg he
      rw [hm]
      clear hm hp'
      have hne : ¬ (⟨(Lib.itoa v).toArray⟩ : ByteArray) = s := fun x => he (str_eq_list.1 x)
      have HE := Lib.hid he
      generalize (⟨(Lib.itoa v).toArray⟩ : ByteArray) = t at *
      have ne : (t.toList != s.toList) = true := bne_iff_ne.2 (fun x => hne (toList_inj x))
      have ne2 : (t.toList == s.toList) = false := beq_false_of_ne (fun x => hne (toList_inj x))
      have ne3 : ¬ t.toList = s.toList := fun x => hne (toList_inj x)
      clear he hne
      go_enter Tryd.func41, Tryd.ntmps41
      go_upto_region 2 with (go_at_call 56; refine HP.out.mono ?_; rintro e wp ⟨rfl, hwp⟩)
      have HCP : Hid (Chg (fun _ => False) w wp) := Lib.hid (by
        rcases hwp with rfl | ⟨t, rfl⟩
        · exact Chg.refl _ _
        · exact chg_of_below (Joins.below_bytesWorld _ _ _ _ (Nat.le_refl _)))
      clear hwp
      go_wp2_with (go_at_call 55; refine (HF.out _ (HTT.out.still HCP.out)).mono ?_; rintro e wf ⟨rfl, hcf⟩)
      go_ret2
      exact ⟨rfl, HCP.out.trans' hcf⟩
  | «syntax» =>
    have hm : numM s = none := by unfold numM; rw [hp]
    rw [hm]
    clear hm
    obtain ⟨tp, p, hv⟩ := HT.syn
    have HP := Lib.hid (sh_strconv_ParseInt_10_at64_syntax_var s (by omega) hp tp p w hv)
    clear hp hv HT hs
    go_enter Tryd.func41, Tryd.ntmps41
    go_wp2_with (go_at_call 56; refine HP.out.mono ?_; rintro e wp ⟨NN, rfl, -, -, hb⟩; have HCP := Lib.hid (chg_of_below hb); clear hb)
    go_ret2
    exact ⟨rfl, HCP.out⟩
  | range =>
    have hm : numM s = none := by unfold numM; rw [hp]
    rw [hm]
    clear hm
    obtain ⟨tp, p, hv⟩ := HT.rng
    have HP := Lib.hid (sh_strconv_ParseInt_10_at64_range_var s (by omega) hp tp p w hv)
    clear hp hv HT hs
    generalize Lib.intSat 64 s.data.toList = sat at *
    go_enter Tryd.func41, Tryd.ntmps41
    go_wp2_with (go_at_call 56; refine HP.out.mono ?_; rintro e wp ⟨NN, rfl, -, -, hb⟩; have HCP := Lib.hid (chg_of_below hb); clear hb)
    go_ret2
    exact ⟨rfl, HCP.out⟩
/-- The index that a key denotes, or -1. -/
def posM (s : ByteArray) : Int := match numM s with
  | some v => if 0 ≤ v ∧ v < 10000 then v else -1
  | none => -1
set_option maxHeartbeats 1600000 in
set_option maxRecDepth 100000 in
theorem position_any (s : ByteArray) (w : World) (hs : s.size ≤ 1000000) (HT : Tabs w) :
    Calls Tryd.prog 21 #[.string s] w fun e w' => e = .returned (.int .i64 (posM s)) ∧ Chg (fun _ => False) w w' := by
  have hn := number_any s w hs HT
  cases hm : numM s with
  | none =>
    have hq : posM s = -1 := by unfold posM; rw [hm]
    rw [hq]
    clear hq
    rw [hm] at hn
    have HN := Lib.hid hn
    clear hn hm HT
    go_enter Tryd.func21, Tryd.ntmps21
    go_wp2_with (go_at_call 41; refine HN.out.mono ?_; rintro e wp ⟨rfl, hcp⟩)
    go_ret
    exact ⟨rfl, hcp⟩
  | some v =>
    have hq : posM s = if 0 ≤ v ∧ v < 10000 then v else -1 := by unfold posM; rw [hm]
    rw [hq]
    clear hq
    rw [hm] at hn
    have HN := Lib.hid hn
    clear hn hm HT
    by_cases h0 : 0 ≤ v
    · by_cases h1 : v < 10000
      · rw [if_pos ⟨h0, h1⟩]
        go_enter Tryd.func21, Tryd.ntmps21
        go_wp2_with (go_at_call 41; refine HN.out.mono ?_; rintro e wp ⟨rfl, hcp⟩)
        go_ret
        exact ⟨rfl, hcp⟩
      · rw [if_neg (fun x => h1 x.2)]
        go_enter Tryd.func21, Tryd.ntmps21
        go_wp2_with (go_at_call 41; refine HN.out.mono ?_; rintro e wp ⟨rfl, hcp⟩)
        go_ret
        exact ⟨rfl, hcp⟩
    · rw [if_neg (fun x => h0 x.1)]
      go_enter Tryd.func21, Tryd.ntmps21
      go_wp2_with (go_at_call 41; refine HN.out.mono ?_; rintro e wp ⟨rfl, hcp⟩)
      go_ret
      exact ⟨rfl, hcp⟩
end Go.Proofs.YtjianickjahdnaaDoor
namespace Go.Proofs.YtjianickjahdnaaDoor
open Go.RowKit
set_option linter.unusedVariables false

theorem wpList_append_slice {P : Program} (w : World) {ops : Array Oper} {rest : List Oper} {o : Oper} {a : Act} {Q : Exit → Act → World → Prop} (hgd : o.guard = none) (s x : Operand) (t tx : TypeId)
    (ho : o.op = .call { callee := .builtin .append, args := #[s, x], argTypes := #[t, tx] })
    (e : TypeId) (i : TypeInfo) (z : Value) (size bytes : Nat) (ht : P.underlying t = some (.slice e)) (hi : P.info? e = some i) (hz : i.zero = some z)
    (hsize : i.size = size) (hby : i.bytes = bytes) (hzs : z.cells.size = size) (hsz : 0 < size)
    (v : Value) (n : Nat) (xs : List Value) (hsv : a.eval s = v) (hown : RowAt w e size v n xs)
    (xv : Value) (m : Nat) (news : List Value) (hx : a.eval x = xv) (hs : Src P size tx xv m news w)
    (h63 : n + m ≤ maxLen) (hbytes : (n + m) * bytes ≤ 140737488355328)
    (h : ∀ a1 n1 c1 w', RowAt w' e size (.slice a1 n1 c1) (n + m) (xs ++ news) → Chg (fun k => v.ownBlock = some k) w w' → (∀ k, (Value.slice a1 n1 c1).ownBlock = some k → v.ownBlock = some k ∨ w.heap.size ≤ k) → wpList P ops Q rest (a.put o.dst (.slice a1 n1 c1)) w') :
    wpList P ops Q (o :: rest) a w := by
  refine wpList_append_row w hgd s x t tx ho e i z size bytes ht hi hz hsize hby hzs hsz v n xs hsv hown xv m news hx hs h63 hbytes ?_
  intro v' w' h1 h2 h3
  obtain ⟨a1, c1, rfl, _⟩ := h1.slice
  exact h a1 _ c1 w' h1 h2 h3
end Go.Proofs.YtjianickjahdnaaDoor
namespace Go.Proofs.YtjianickjahdnaaDoor
open Go.RowKit
set_option linter.unusedVariables false

section
variable {w : World} {e size : Nat} {g off n m cap : Nat} {xs : List Value}
theorem RowAt.store (h : RowAt w e size (.slice (some ⟨g, off, none⟩) n cap) m xs) (j : Nat) (hj : j < xs.length) (u : Value) : RowAt (w.setCell ⟨g, off + j, none⟩ u) e size (.slice (some ⟨g, off, none⟩) n cap) m (xs.set j u) := by
  rcases h.2 with ⟨hv, _⟩ | ⟨g', off', cap', cur, hv, hg, h1, h2, h3, h4⟩
  · simp at hv
  · simp only [Value.slice.injEq, Option.some.injEq, Addr.mk.injEq] at hv
    obtain ⟨⟨rfl, rfl, _⟩, rfl, rfl⟩ := hv
    refine ⟨by simpa using h.1, .inr ⟨g, off, cap, _, rfl, setCell_block u hg, h1, h2, by simpa using h3, ?_⟩⟩
    have hmul : n * size ≤ cap * size := Nat.mul_le_mul_right _ h1
    have hlen := h.1
    rw [← h4]
    simp only [Array.toList_setIfInBounds]
    rw [List.drop_set, if_neg (by omega), show off + j - off = j from by omega, List.take_set]
theorem RowAt.frozenAt (h : RowAt w e size (.slice (some ⟨g, off, none⟩) n cap) m xs) (j : Nat) : w.frozen? ⟨g, off + j, none⟩ = false := by
  rcases h.2 with ⟨hv, _⟩ | ⟨g', off', cap', cur, hv, hg, _⟩
  · simp at hv
  · simp only [Value.slice.injEq, Option.some.injEq, Addr.mk.injEq] at hv
    obtain ⟨⟨rfl, rfl, _⟩, rfl, rfl⟩ := hv
    exact frozen_of_block hg
theorem RowAt.addr {v : Value} (h : RowAt w e size v m xs) (hm : 0 < m) : ∃ g off cap, v = .slice (some ⟨g, off, none⟩) m cap ∧ m ≤ cap ∧ cap ≤ maxLen := by
  rcases h.2 with ⟨_, h0⟩ | ⟨g, off, cap, cur, rfl, _, h1, h2, _⟩
  · omega
  · exact ⟨g, off, cap, rfl, h1, h2⟩
end

section
variable {α : Type} (f : α → List Value) (k : Nat)
theorem flat_length (hf : ∀ a, (f a).length = k) (l : List α) : (l.flatMap f).length = l.length * k := by
  induction l with
  | nil => simp
  | cons a l ih => rw [List.flatMap_cons, List.length_append, ih, hf, List.length_cons, Nat.add_mul]; omega
theorem flat_get (hf : ∀ a, (f a).length = k) : ∀ (l : List α) (i j : Nat) (hi : i < l.length) (hj : j < k), (l.flatMap f)[i * k + j]? = (f l[i])[j]?
  | [], i, j, hi, _ => by simp at hi
  | a :: l, 0, j, _, hj => by rw [List.flatMap_cons, Nat.zero_mul, Nat.zero_add, List.getElem?_append_left (by rw [hf]; exact hj)]; rfl
  | a :: l, i + 1, j, hi, hj => by
    rw [List.flatMap_cons, List.getElem?_append_right (by rw [hf, Nat.add_mul]; omega), hf, show (i + 1) * k + j - k = i * k + j from by rw [Nat.add_mul]; omega, flat_get hf l i j (by simpa using hi) hj]
    rfl
theorem flat_set (hf : ∀ a, (f a).length = k) : ∀ (l : List α) (i j : Nat) (hi : i < l.length) (hj : j < k) (u : Value) (a' : α), f a' = (f l[i]).set j u → (l.flatMap f).set (i * k + j) u = (l.set i a').flatMap f
  | [], i, j, hi, _, _, _, _ => by simp at hi
  | a :: l, 0, j, _, hj, u, a', h => by
    rw [List.flatMap_cons, Nat.zero_mul, Nat.zero_add, List.set_append_left _ _ (by rw [hf]; exact hj), List.set_cons_zero, List.flatMap_cons, h]; rfl
  | a :: l, i + 1, j, hi, hj, u, a', h => by
    rw [List.flatMap_cons, List.set_append_right _ _ (by rw [hf, Nat.add_mul]; omega), hf, show (i + 1) * k + j - k = i * k + j from by rw [Nat.add_mul]; omega, flat_set hf l i j (by simpa using hi) hj u a' h, List.set_cons_succ, List.flatMap_cons]
end
end Go.Proofs.YtjianickjahdnaaDoor
namespace Go.Proofs.YtjianickjahdnaaDoor
open Go.RowKit
set_option linter.unusedVariables false

/-- The block of a slice, as a list. -/
def ownL (v : Value) : List Nat := v.ownBlock.toList
theorem mem_ownL {v : Value} {k : Nat} : k ∈ ownL v ↔ v.ownBlock = some k := by simp [ownL, Option.mem_toList, eq_comm]
theorem ownL_nil : ownL (.slice none 0 0) = [] := rfl
theorem ownL_some (g off : Nat) (sp : Option Nat) (n c : Nat) : ownL (.slice (some ⟨g, off, sp⟩) n c) = [g] := rfl

/-- How data of a type lie in memory: n cells; own w cs a F: the cells cs read as a, the blocks F lie behind them. -/
structure Rep (α : Type) where
  n : Nat
  own : World → List Value → α → List Nat → Prop
  len : ∀ {w cs a F}, own w cs a F → cs.length = n
  lt : ∀ {w cs a F}, own w cs a F → ∀ k ∈ F, k < w.heap.size
  keep : ∀ {w w' cs a F}, own w cs a F → (∀ k ∈ F, ∀ o, w.heap[k]? = some o → w'.heap[k]? = some o) → own w' cs a F

theorem Chg.keepAll {S : Nat → Prop} {w w' : World} (h : Chg S w w') {F : List Nat} (hn : ∀ k ∈ F, ¬ S k) : ∀ k ∈ F, ∀ o, w.heap[k]? = some o → w'.heap[k]? = some o :=
  fun k hk _ ho => h.keep ho (hn k hk)
theorem Rep.chg {α : Type} (A : Rep α) {S : Nat → Prop} {w w' : World} {cs : List Value} {a : α} {F : List Nat} (h : A.own w cs a F) (hc : Chg S w w') (hn : ∀ k ∈ F, ¬ S k) : A.own w' cs a F :=
  A.keep h (hc.keepAll hn)

/-- Data without blocks of their own. -/
def Rep.flat {α : Type} (n : Nat) (f : α → List Value) (hf : ∀ a, (f a).length = n) : Rep α where
  n := n
  own := fun _ cs a F => cs = f a ∧ F = []
  len := fun h => by rw [h.1]; exact hf _
  lt := fun h k hk => by rw [h.2] at hk; cases hk
  keep := fun h _ => h

/-- Elements one behind the other. -/
inductive Each {α : Type} (A : Rep α) (w : World) : List (List Value) → List α → List (List Nat) → Prop
  | nil : Each A w [] [] []
  | cons {x a F xs l Fs} : A.own w x a F → Each A w xs l Fs → Each A w (x :: xs) (a :: l) (F :: Fs)
section
variable {α : Type} {A : Rep α} {w w' : World} {xs : List (List Value)} {l : List α} {Fs : List (List Nat)}
theorem Each.length (h : Each A w xs l Fs) : xs.length = l.length ∧ Fs.length = l.length := by
  induction h with
  | nil => exact ⟨rfl, rfl⟩
  | cons _ _ ih => simp [ih.1, ih.2]
theorem Each.flat (h : Each A w xs l Fs) : xs.flatten.length = l.length * A.n := by
  induction h with
  | nil => simp
  | cons h1 _ ih => rw [List.flatten_cons, List.length_append, ih, A.len h1, List.length_cons, Nat.add_mul]; omega
theorem Each.lt (h : Each A w xs l Fs) : ∀ k ∈ Fs.flatten, k < w.heap.size := by
  induction h with
  | nil => intro k hk; simp at hk
  | cons h1 _ ih =>
    intro k hk
    rw [List.flatten_cons, List.mem_append] at hk
    rcases hk with hk | hk
    · exact A.lt h1 k hk
    · exact ih k hk
theorem Each.keep (h : Each A w xs l Fs) : (∀ k ∈ Fs.flatten, ∀ o, w.heap[k]? = some o → w'.heap[k]? = some o) → Each A w' xs l Fs := by
  induction h with
  | nil => intro _; exact .nil
  | cons h1 _ ih =>
    intro hk
    exact .cons (A.keep h1 fun k hm => hk k (by rw [List.flatten_cons]; exact List.mem_append_left _ hm)) (ih fun k hm => hk k (by rw [List.flatten_cons]; exact List.mem_append_right _ hm))
theorem Each.append {ys : List (List Value)} {m : List α} {Gs : List (List Nat)} (h : Each A w xs l Fs) (h2 : Each A w ys m Gs) : Each A w (xs ++ ys) (l ++ m) (Fs ++ Gs) := by
  induction h with
  | nil => exact h2
  | cons h1 _ ih => exact .cons h1 ih
/-- The i-th element, and how it is replaced. -/
theorem Each.at (h : Each A w xs l Fs) : ∀ i (hi : i < l.length), ∃ x F xa xb Fa Fb, A.own w x l[i] F ∧ xs = xa ++ x :: xb ∧ xa.length = i ∧ Fs = Fa ++ F :: Fb ∧
    (∀ w' y a' G, (∀ k ∈ Fa.flatten ++ Fb.flatten, ∀ o, w.heap[k]? = some o → w'.heap[k]? = some o) → A.own w' y a' G → Each A w' (xa ++ y :: xb) (l.set i a') (Fa ++ G :: Fb)) := by
  induction h with
  | nil => intro i hi; simp at hi
  | @cons x a F xs l Fs h1 h2 ih =>
    intro i hi
    cases i with
    | zero =>
      refine ⟨x, F, [], xs, [], Fs, h1, rfl, rfl, rfl, fun w' y a' G hk hy => .cons hy (h2.keep fun k hm => hk k (by simpa using hm))⟩
    | succ i =>
      obtain ⟨y, G, xa, xb, Fa, Fb, q1, rfl, q3, rfl, q5⟩ := ih i (by simpa using hi)
      refine ⟨y, G, x :: xa, xb, F :: Fa, Fb, q1, rfl, by simp [q3], rfl, fun w' z a' H hk hz => ?_⟩
      refine .cons (A.keep h1 fun k hm => hk k (by simp [hm])) (q5 w' z a' H (fun k hm => hk k ?_) hz)
      simp only [List.flatten_cons, List.append_assoc, List.mem_append] at hm ⊢
      exact .inr hm
end

/-- A slice that owns its block, the elements with what is behind them. -/
def Rep.row {α : Type} (A : Rep α) (e : TypeId) : Rep (List α) where
  n := 1
  own := fun w cs l F => ∃ v xs Fs, cs = [v] ∧ RowAt w e A.n v l.length xs.flatten ∧ Each A w xs l Fs ∧ F = ownL v ++ Fs.flatten
  len := fun ⟨_, _, _, h, _⟩ => by rw [h]; rfl
  lt := fun ⟨v, xs, Fs, _, h2, h3, h4⟩ k hk => by
    rw [h4, List.mem_append] at hk
    rcases hk with hk | hk
    · exact h2.lt k (mem_ownL.1 hk)
    · exact h3.lt k hk
  keep := fun ⟨v, xs, Fs, h1, h2, h3, h4⟩ hk => ⟨v, xs, Fs, h1, h2.keep fun k o hv ho => hk k (by rw [h4]; exact List.mem_append_left _ (mem_ownL.2 hv)) o ho,
    h3.keep fun k hm => hk k (by rw [h4]; exact List.mem_append_right _ hm), h4⟩

theorem each_flat {α : Type} {n : Nat} {f : α → List Value} {hf : ∀ a, (f a).length = n} {w : World} : ∀ {xs : List (List Value)} {l : List α} {Fs : List (List Nat)}, Each (Rep.flat n f hf) w xs l Fs → xs.flatten = l.flatMap f ∧ Fs.flatten = []
  | _, _, _, .nil => ⟨rfl, rfl⟩
  | _, _, _, .cons h1 h2 => by
    obtain ⟨a, b⟩ := each_flat h2
    rw [List.flatten_cons, List.flatten_cons, List.flatMap_cons, a, b, h1.1, h1.2]
    exact ⟨rfl, rfl⟩
theorem flat_each {α : Type} {n : Nat} {f : α → List Value} (hf : ∀ a, (f a).length = n) {w : World} : ∀ (l : List α), Each (Rep.flat n f hf) w (l.map f) l (l.map fun _ => [])
  | [] => .nil
  | a :: l => .cons ⟨rfl, rfl⟩ (flat_each hf l)
/-- A slice of flat data. -/
theorem row_flat {α : Type} {n : Nat} {f : α → List Value} {hf : ∀ a, (f a).length = n} {e : TypeId} {w : World} {cs : List Value} {l : List α} {F : List Nat} :
    ((Rep.flat n f hf).row e).own w cs l F ↔ ∃ v, cs = [v] ∧ RowAt w e n v l.length (l.flatMap f) ∧ F = ownL v := by
  constructor
  · rintro ⟨v, xs, Fs, h1, h2, h3, h4⟩
    obtain ⟨a, b⟩ := each_flat h3
    rw [a] at h2
    exact ⟨v, h1, h2, by rw [h4, b, List.append_nil]⟩
  · rintro ⟨v, h1, h2, h3⟩
    refine ⟨v, l.map f, l.map fun _ => [], h1, ?_, flat_each hf l, ?_⟩
    · rw [← List.flatMap_def]; exact h2
    · rw [h3]
      have : (l.map fun _ => ([] : List Nat)).flatten = [] := by induction l <;> simp_all
      rw [this, List.append_nil]

/-- A field of a type: at cell k. -/
structure FieldOf {α β : Type} (A : Rep α) (B : Rep β) (k : Nat) (get : α → β) (set : α → β → α) : Prop where
  fits : k + B.n ≤ A.n
  split : ∀ {w cs a F}, A.own w cs a F → ∃ F1 F2 F3, F = F1 ++ F2 ++ F3 ∧ B.own w ((cs.drop k).take B.n) (get a) F2 ∧
    ∀ w' ys y G, (∀ x ∈ F1 ++ F3, ∀ o, w.heap[x]? = some o → w'.heap[x]? = some o) → B.own w' ys y G → A.own w' (cs.take k ++ ys ++ cs.drop (k + B.n)) (set a y) (F1 ++ G ++ F3)

/-- Data of a type at a place within a block; the blocks behind them are apart, and apart from this one. -/
structure Here {α : Type} (A : Rep α) (w : World) (b o : Nat) (a : α) (F : List Nat) : Prop where
  box : ∃ c T, w.heap[b]? = some (.cells c T (0, 0)) ∧ A.own w ((c.toList.drop o).take A.n) a F
  nb : b ∉ F
  nd : F.Nodup

/-- What an operation on n cells at ⟨b, o⟩ (the blocks F behind them before, F' behind) changes at most. -/
structure Step (w w' : World) (b o n : Nat) (F F' : List Nat) : Prop where
  chg : Chg (fun k => k = b ∨ k ∈ F) w w'
  new : ∀ k ∈ F', k ∈ F ∨ w.heap.size ≤ k
  rest : ∀ c T, w.heap[b]? = some (.cells c T (0, 0)) → ∃ c', w'.heap[b]? = some (.cells c' T (0, 0)) ∧ c'.size = c.size ∧ ∀ j, j < o ∨ o + n ≤ j → c'[j]? = c[j]?

section
variable {w w' w'' : World} {b o n : Nat} {F F' F'' : List Nat}
theorem Step.refl (w : World) (b o n : Nat) (F : List Nat) : Step w w b o n F F := ⟨.refl _ _, fun _ h => .inl h, fun c T h => ⟨c, h, rfl, fun _ _ => rfl⟩⟩
theorem Step.trans (h : Step w w' b o n F F') (k : Step w' w'' b o n F' F'') : Step w w'' b o n F F'' := by
  refine ⟨h.chg.trans k.chg (fun _ _ x => x) ?_, ?_, ?_⟩
  · rintro i hi (x | x)
    · exact .inl x
    · rcases h.new i x with y | y
      · exact .inr y
      · omega
  · intro i x
    rcases k.new i x with y | y
    · exact h.new i y
    · exact .inr (Nat.le_trans h.chg.size y)
  · intro c T hc
    obtain ⟨c', h1, h2, h3⟩ := h.rest c T hc
    obtain ⟨c'', k1, k2, k3⟩ := k.rest c' T h1
    exact ⟨c'', k1, k2.trans h2, fun j hj => (k3 j hj).trans (h3 j hj)⟩
theorem Step.ofChg (h : Chg (fun _ => False) w w') : Step w w' b o n F F :=
  ⟨h.mono (fun _ _ x => x.elim), fun _ x => .inl x, fun c T hc => ⟨c, h.keep hc (fun x => x), rfl, fun _ _ => rfl⟩⟩
theorem Step.drew (h : Step w.drew w' b o n F F') : Step w w' b o n F F' := ⟨h.chg.ofDrew, h.new, h.rest⟩
theorem Step.drewR (h : Step w w' b o n F F') : Step w w'.drew b o n F F' := ⟨h.chg.drewR, h.new, h.rest⟩
theorem Step.sub {G : List Nat} (h : Step w w' b o n F F') (hs : ∀ k ∈ F, k ∈ G) (hn : ∀ k ∈ F', k ∈ G ∨ w.heap.size ≤ k → True) {G' : List Nat} (hg : ∀ k ∈ G', k ∈ F' ∨ k ∈ G) : Step w w' b o n G G' := by
  refine ⟨h.chg.mono (fun i _ x => x.imp id (hs i)), fun k hk => ?_, h.rest⟩
  rcases hg k hk with x | x
  · exact (h.new k x).imp (hs k) id
  · exact .inl x
end

section
variable {α β : Type} {A : Rep α} {B : Rep β} {w w' : World} {b o : Nat} {a : α} {F : List Nat}
theorem Here.size (h : Here A w b o a F) : ∃ c T, w.heap[b]? = some (.cells c T (0, 0)) ∧ A.own w ((c.toList.drop o).take A.n) a F ∧ o + A.n ≤ c.size ∨ A.n = 0 := by
  obtain ⟨c, T, h1, h2⟩ := h.box
  have := A.len h2
  simp only [List.length_take, List.length_drop, Array.length_toList] at this
  exact ⟨c, T, by by_cases h0 : A.n = 0; exact .inr h0; exact .inl ⟨h1, h2, by omega⟩⟩
theorem Here.chg {S : Nat → Prop} (h : Here A w b o a F) (hc : Chg S w w') (hb : ¬ S b) (hn : ∀ k ∈ F, ¬ S k) : Here A w' b o a F := by
  obtain ⟨c, T, h1, h2⟩ := h.box
  exact ⟨⟨c, T, hc.keep h1 hb, A.chg h2 hc hn⟩, h.nb, h.nd⟩
theorem Here.still (h : Here A w b o a F) (hc : Chg (fun _ => False) w w') : Here A w' b o a F := h.chg hc (fun x => x) (fun _ _ x => x)
theorem Here.drew (h : Here A w b o a F) : Here A w.drew b o a F := h.still ((Chg.refl _ w).drewR)
theorem Here.alloc (h : Here A w b o a F) (ob : Obj) : Here A (w.alloc ob) b o a F := h.still (Chg.alloc _ w ob)
theorem Here.lt (h : Here A w b o a F) : b < w.heap.size ∧ ∀ k ∈ F, k < w.heap.size := by
  obtain ⟨c, T, h1, h2⟩ := h.box
  exact ⟨lt_of_block h1, A.lt h2⟩
/-- Another thing, apart from what an operation changed. -/
theorem Here.apart {γ : Type} {C : Rep γ} {b' o' : Nat} {x : γ} {G F' : List Nat} {n : Nat} (h : Here C w b' o' x G) (hs : Step w w' b o n F F') (h1 : b' ≠ b) (h2 : b' ∉ F) (h3 : b ∉ G) (h4 : ∀ k ∈ G, k ∉ F) : Here C w' b' o' x G :=
  h.chg hs.chg (fun x => x.elim h1 h2) (fun k hk x => x.elim (fun e => h3 (e ▸ hk)) (h4 k hk))

theorem take_drop_get {l : List Value} {o n j : Nat} (hj : j < n) : ((l.drop o).take n)[j]? = l[o + j]? := by
  rw [List.getElem?_take, if_pos hj, List.getElem?_drop]
/-- The cells of what lies at a place. -/
theorem Here.cell (h : Here A w b o a F) : ∃ cs, A.own w cs a F ∧ ∀ j u, cs[j]? = some u → w.cell? ⟨b, o + j, none⟩ = some u := by
  obtain ⟨c, T, h1, h2⟩ := h.box
  refine ⟨_, h2, fun j u hu => cell_of_block h1 ?_⟩
  have hj : j < A.n := by
    have h3 := (List.getElem?_eq_some_iff.1 hu).1
    rw [A.len h2] at h3; exact h3
  rw [take_drop_get hj] at hu
  simpa using hu
theorem Here.frozen (h : Here A w b o a F) (j : Nat) : w.frozen? ⟨b, j, none⟩ = false := by
  obtain ⟨c, T, h1, h2⟩ := h.box
  exact frozen_of_block h1

/-- The n cells at o of an array replaced. -/
theorem drop_take_split (l : List Value) (o n : Nat) : l = l.take o ++ (l.drop o).take n ++ l.drop (o + n) := by
  rw [List.append_assoc, ← List.drop_drop, List.take_append_drop, List.take_append_drop]

theorem ext_rest {c c' : Array Value} {o k m n : Nat} (hs : c'.size = c.size) (hk : k + m ≤ n) (hn : o + n ≤ c.size) (h : ∀ j, j < o + k ∨ o + k + m ≤ j → c'[j]? = c[j]?) :
    (c'.toList.drop o).take n = ((c.toList.drop o).take n).take k ++ (c'.toList.drop (o + k)).take m ++ ((c.toList.drop o).take n).drop (k + m) := by
  have e : ∀ (j : Nat), c'.toList[j]? = c'[j]? := fun j => by simp
  have e' : ∀ (j : Nat), c.toList[j]? = c[j]? := fun j => by simp
  refine List.ext_getElem? fun j => ?_
  by_cases h1 : j < k
  · rw [List.getElem?_append_left (by simp; omega), List.getElem?_append_left (by simp; omega), take_drop_get (by omega), List.getElem?_take, if_pos h1, take_drop_get (by omega), e, e', h _ (by omega)]
  · by_cases h2 : j < k + m
    · rw [List.getElem?_append_left (by simp; omega), List.getElem?_append_right (by simp; omega), take_drop_get (by omega)]
      have hl : (List.take k (List.take n (List.drop o c.toList))).length = k := by simp; omega
      rw [hl, take_drop_get (by omega), show o + k + (j - k) = o + j from by omega]
    · have hl : (List.take k (List.take n (List.drop o c.toList)) ++ List.take m (List.drop (o + k) c'.toList)).length = k + m := by simp; omega
      rw [List.getElem?_append_right (by rw [hl]; omega), hl, List.getElem?_drop, show k + m + (j - (k + m)) = j from by omega]
      by_cases h3 : j < n
      · rw [take_drop_get h3, take_drop_get h3, e, e', h _ (by omega)]
      · rw [List.getElem?_take, if_neg h3, List.getElem?_take, if_neg h3]

/-- A field: it lies there, and when it has been changed the whole lies there. -/
theorem Here.fieldX {k : Nat} {get : α → β} {set : α → β → α} (fl : FieldOf A B k get set) (hA : 0 < A.n) (h : Here A w b o a F) :
    ∃ G, Here B w b (o + k) (get a) G ∧ (∀ x ∈ G, x ∈ F) ∧ ∀ w' y G', Here B w' b (o + k) y G' → Step w w' b (o + k) B.n G G' → ∃ F', Here A w' b o (set a y) F' ∧ Step w w' b o A.n F F' ∧ ∀ x ∈ F', x ∈ G' ∨ (x ∈ F ∧ x ∉ G) := by
  obtain ⟨c, T, h1, h2⟩ := h.box
  obtain ⟨F1, F2, F3, rfl, h4, h5⟩ := fl.split h2
  have hl := A.len h2
  have hfit := fl.fits
  simp only [List.length_take, List.length_drop, Array.length_toList] at hl
  have hnd := h.nd
  have hnb := h.nb
  simp only [List.nodup_append, List.mem_append, not_or] at hnd hnb
  have hcs : (List.take B.n (List.drop k (List.take A.n (List.drop o c.toList)))) = (c.toList.drop (o + k)).take B.n := by
    refine List.ext_getElem? fun j => ?_
    by_cases hj : j < B.n
    · rw [take_drop_get hj, take_drop_get hj, take_drop_get (by omega)]; congr 1; omega
    · rw [List.getElem?_take, if_neg hj, List.getElem?_take, if_neg hj]
  rw [hcs] at h4
  refine ⟨F2, ⟨⟨c, T, h1, h4⟩, hnb.1.2, hnd.1.2.1⟩, fun x hx => by simp [hx], ?_⟩
  intro w' y G' hy hs
  obtain ⟨c', q1, q2, q3⟩ := hs.rest c T h1
  obtain ⟨c2, T2, r1, r2⟩ := hy.box
  rw [q1] at r1
  simp only [Option.some.injEq, Obj.cells.injEq] at r1
  obtain ⟨rfl, rfl, _⟩ := r1
  have hkeep : ∀ x ∈ F1 ++ F3, ∀ ob, w.heap[x]? = some ob → w'.heap[x]? = some ob := by
    intro x hx ob ho
    rw [List.mem_append] at hx
    refine hs.chg.keep ho ?_
    rintro (e | e)
    · subst e; exact hx.elim hnb.1.1 hnb.2
    · rcases hx with hx | hx
      · exact hnd.1.2.2 x hx x e rfl
      · exact hnd.2.2 x (.inr e) x hx rfl
  have hown := h5 w' _ y G' hkeep r2
  refine ⟨F1 ++ G' ++ F3, ⟨⟨c', T, q1, ?_⟩, ?_, ?_⟩, ⟨?_, ?_, ?_⟩, ?_⟩
  · rw [ext_rest (m := B.n) q2 hfit (by omega) q3]; exact hown
  · simp only [List.mem_append, not_or]; exact ⟨⟨hnb.1.1, hy.nb⟩, hnb.2⟩
  · have hlt := A.lt h2
    have hG : ∀ x ∈ G', x ∉ F1 ∧ x ∉ F3 := by
      intro x hx
      rcases hs.new x hx with e | e
      · exact ⟨fun z => hnd.1.2.2 x z x e rfl, fun z => hnd.2.2 x (.inr e) x z rfl⟩
      · exact ⟨fun z => by have := hlt x (by simp [z]); omega, fun z => by have := hlt x (by simp [z]); omega⟩
    simp only [List.nodup_append, List.mem_append]
    refine ⟨⟨hnd.1.1, hy.nd, fun x hx z hz e => (hG z hz).1 (e ▸ hx)⟩, hnd.2.1, ?_⟩
    rintro x (hx | hx) z hz rfl
    · exact hnd.2.2 x (.inl hx) x hz rfl
    · exact (hG x hx).2 hz
  · exact hs.chg.mono fun i _ x => x.imp id (fun e => by simp [e])
  · intro x hx
    simp only [List.mem_append] at hx ⊢
    rcases hx with (hx | hx) | hx
    · exact .inl (.inl (.inl hx))
    · exact (hs.new x hx).imp (fun e => .inl (.inr e)) id
    · exact .inl (.inr hx)
  · intro d U hd
    rw [h1] at hd
    simp only [Option.some.injEq, Obj.cells.injEq] at hd
    obtain ⟨rfl, rfl, _⟩ := hd
    exact ⟨c', q1, q2, fun j hj => q3 j (by omega)⟩
  · intro x hx
    simp only [List.mem_append] at hx ⊢
    rcases hx with (hx | hx) | hx
    · exact .inr ⟨.inl (.inl hx), fun z => hnd.1.2.2 x hx x z rfl⟩
    · exact .inl hx
    · exact .inr ⟨.inr hx, fun z => hnd.2.2 x (.inr z) x hx rfl⟩
theorem Here.field {k : Nat} {get : α → β} {set : α → β → α} (fl : FieldOf A B k get set) (hA : 0 < A.n) (h : Here A w b o a F) :
    ∃ G, Here B w b (o + k) (get a) G ∧ (∀ x ∈ G, x ∈ F) ∧ ∀ w' y G', Here B w' b (o + k) y G' → Step w w' b (o + k) B.n G G' → ∃ F', Here A w' b o (set a y) F' ∧ Step w w' b o A.n F F' := by
  obtain ⟨G, h1, h2, h3⟩ := h.fieldX fl hA
  refine ⟨G, h1, h2, fun w' y G' hy hs => ?_⟩
  obtain ⟨F', p, q, _⟩ := h3 w' y G' hy hs
  exact ⟨F', p, q⟩

/-- A value stored into the one cell of a thing: what was behind it may have changed before. -/
theorem Here.put {x y : β} {G G' : List Nat} {w2 : World} {v : Value} (h : Here B w b o x G) (hn : B.n = 1) (hc : Chg (fun k => k ∈ G) w w2) (hy : B.own w2 [v] y G') (nd : G'.Nodup) (new : ∀ k ∈ G', k ∈ G ∨ w.heap.size ≤ k) :
    Here B (w2.setCell ⟨b, o, none⟩ v) b o y G' ∧ Step w (w2.setCell ⟨b, o, none⟩ v) b o 1 G G' := by
  obtain ⟨c, T, h1, h2⟩ := h.box
  have hl := B.len h2
  rw [hn] at hl h2
  simp only [List.length_take, List.length_drop, Array.length_toList] at hl
  have hb : b < w.heap.size := lt_of_block h1
  have nb : b ∉ G' := fun hx => (new b hx).elim h.nb (fun e => by omega)
  have h3 := setCell_block (i := o) v (hc.keep h1 h.nb)
  refine ⟨⟨⟨_, T, h3, ?_⟩, nb, nd⟩, ⟨?_, new, ?_⟩⟩
  · rw [hn]
    have : (((c.setIfInBounds o v).toList.drop o).take 1) = [v] := by
      have e1 : (c.setIfInBounds o v).toList = c.toList.set o v := by simp
      rw [e1]
      refine List.ext_getElem? fun j => ?_
      match j with
      | 0 => rw [take_drop_get (by omega), Nat.add_zero, List.getElem?_set_self (by simp; omega)]; rfl
      | j + 1 => rw [List.getElem?_take, if_neg (by omega)]; rfl
    rw [this]
    exact B.chg hy (Chg.setCell w2 ⟨b, o, none⟩ v) (fun k hk e => nb (by have e' : k = b := e; rwa [e'] at hk))
  · exact (hc.mono (S' := fun k => k = b ∨ k ∈ G) (fun _ _ x => .inr x)).setCellR _ _ (fun _ => .inl rfl)
  · intro d U hd
    have h4 := hc.keep hd h.nb
    refine ⟨_, setCell_block (i := o) v h4, by simp, fun j hj => ?_⟩
    rw [Array.getElem?_setIfInBounds, if_neg (by omega)]
/-- A scalar stored. -/
theorem Here.set {f : β → List Value} {hf : ∀ a, (f a).length = 1} {x y : β} {G : List Nat} {v : Value} (h : Here (Rep.flat 1 f hf) w b o x G) (hv : f y = [v]) :
    Here (Rep.flat 1 f hf) (w.setCell ⟨b, o, none⟩ v) b o y G ∧ Step w (w.setCell ⟨b, o, none⟩ v) b o 1 G G := by
  obtain ⟨c, T, h1, h2⟩ := h.box
  have hG := h2.2
  exact h.put rfl (.refl _ _) ⟨hv.symm, hG⟩ h.nd (fun _ x => .inl x)

/-- The elements of a row. -/
theorem Here.elemX {e : TypeId} {l : List α} (h : Here (A.row e) w b o l F) (hl : 0 < l.length) :
    ∃ g off cap, w.cell? ⟨b, o, none⟩ = some (.slice (some ⟨g, off, none⟩) l.length cap) ∧ l.length ≤ cap ∧ cap ≤ maxLen ∧ g ≠ b ∧ g ∈ F ∧
      ∀ i (hi : i < l.length), ∃ G, Here A w g (off + i * A.n) l[i] G ∧ (∀ x ∈ G, x ∈ F) ∧
        ∀ w' y G', Here A w' g (off + i * A.n) y G' → Step w w' g (off + i * A.n) A.n G G' → ∃ F', Here (A.row e) w' b o (l.set i y) F' ∧ Step w w' b o 1 F F' ∧ ∀ x ∈ F', x ∈ G' ∨ (x ∈ F ∧ x ∉ G) := by
  obtain ⟨c, T, h1, v, xs, Fs, hv, hrow, hE, rfl⟩ := h.box
  obtain ⟨g, off, cap, rfl, k1, k2⟩ := hrow.addr hl
  have hcell : c.toList[o]? = some (.slice (some ⟨g, off, none⟩) l.length cap) := by
    have := congrArg (fun l => l[0]?) hv
    simp only [List.getElem?_cons_zero] at this
    rw [take_drop_get (by show 0 < 1; decide)] at this
    simpa using this
  have hnd := h.nd
  have hnb := h.nb
  rw [ownL_some] at hnd hnb ⊢
  simp only [List.singleton_append, List.nodup_cons, List.mem_cons, not_or] at hnd hnb ⊢
  refine ⟨g, off, cap, cell_of_block h1 (by simpa using hcell), k1, k2, fun e => hnb.1 e.symm, .inl rfl, ?_⟩
  intro i hi
  obtain ⟨x, G, xa, xb, Fa, Fb, q1, rfl, q3, rfl, q5⟩ := hE.at i hi
  obtain ⟨_, hr⟩ := hrow
  have hflat := hE.flat
  rcases hr with ⟨hv', _⟩ | ⟨g', off', cap', cur, hv', hg, _, _, hsz, hcur⟩
  · simp at hv'
  simp only [Value.slice.injEq, Option.some.injEq, Addr.mk.injEq, true_and] at hv'
  obtain ⟨⟨rfl, rfl, _⟩, rfl⟩ := hv'
  have hxl := A.len q1
  have hxa : xa.flatten.length = i * A.n := by
    have := (hE.length).1
    clear hcur hflat
    have h0 : ∀ (ys : List (List Value)) (zs : List α) (Gs : List (List Nat)), Each A w ys zs Gs → ∀ m, (ys.take m).flatten.length = (ys.take m).length * A.n := by
      intro ys zs Gs hh
      induction hh with
      | nil => intro m; simp
      | cons a1 _ ih => 
        intro m
        cases m with
        | zero => simp
        | succ m => rw [List.take_succ_cons, List.flatten_cons, List.length_append, ih m, A.len a1, List.length_cons, Nat.add_mul]; omega
    have h1 := h0 _ _ _ hE i
    rw [← q3, List.take_left] at h1
    rw [h1, q3]
  have hmul : (i + 1) * A.n ≤ l.length * A.n := Nat.mul_le_mul_right _ hi
  have hmul2 : l.length * A.n ≤ cap * A.n := Nat.mul_le_mul_right _ k1
  rw [Nat.add_mul, Nat.one_mul] at hmul
  have hx : (cur.toList.drop (off + i * A.n)).take A.n = x := by
    have e1 := congrArg (fun z => (z.drop (i * A.n)).take A.n) hcur
    simp only [List.flatten_append, List.flatten_cons] at e1
    rw [← hxa, List.drop_left, hxa, ← hxl, List.take_left, hxl] at e1
    rw [← e1]
    refine List.ext_getElem? fun j => ?_
    by_cases hj : j < A.n
    · rw [take_drop_get hj, take_drop_get hj, take_drop_get (by omega)]; congr 1; omega
    · rw [List.getElem?_take, if_neg hj, List.getElem?_take, if_neg hj]
  have hmem : ∀ z, z ∈ G → z ∈ (Fa ++ G :: Fb).flatten := fun z hz => by simp [hz]
  have hG : G.Nodup ∧ (∀ z ∈ G, z ∉ Fa.flatten ++ Fb.flatten) ∧ (Fa.flatten ++ Fb.flatten).Nodup := by
    have := hnd.2
    simp only [List.flatten_append, List.flatten_cons, List.nodup_append, List.mem_append] at this ⊢
    exact ⟨this.2.1.1, fun z hz hh => hh.elim (fun y => this.2.2 z y z (.inl hz) rfl) (fun y => this.2.1.2.2 z hz z y rfl), this.1, this.2.1.2.1, fun a ha b hb => this.2.2 a ha b (.inr hb)⟩
  refine ⟨G, ⟨⟨cur, e, hg, by rw [hx]; exact q1⟩, fun hh => hnd.1 (hmem _ hh), hG.1⟩, fun z hz => .inr (hmem z hz), ?_⟩
  intro w' y G' hy hs
  obtain ⟨cur', p1, p2, p3⟩ := hs.rest cur e hg
  obtain ⟨d, U, r1, r2⟩ := hy.box
  rw [p1] at r1
  simp only [Option.some.injEq, Obj.cells.injEq] at r1
  obtain ⟨rfl, rfl, _⟩ := r1
  have hgF : g ∉ Fa.flatten ++ Fb.flatten := fun hh => hnd.1 (by simp only [List.flatten_append, List.flatten_cons, List.mem_append] at hh ⊢; exact hh.imp id .inr)
  have hbg : b ≠ g := hnb.1
  have hbF : b ∉ (Fa ++ G :: Fb).flatten := hnb.2
  have hlt := hE.lt
  have hglt := lt_of_block hg
  have hblt := lt_of_block h1
  have hkeep : ∀ k ∈ Fa.flatten ++ Fb.flatten, ∀ ob, w.heap[k]? = some ob → w'.heap[k]? = some ob := by
    intro k hk ob ho
    refine hs.chg.keep ho ?_
    rintro (x | x)
    · exact hgF (x ▸ hk)
    · exact hG.2.1 k x hk
  have hE' := q5 w' _ y G' hkeep r2
  have hboxb : w'.heap[b]? = some (.cells c T (0, 0)) := hs.chg.keep h1 (fun x => x.elim hbg (fun y => hbF (hmem _ y)))
  have hG' : ∀ z ∈ G', z ∉ Fa.flatten ++ Fb.flatten := by
    intro z hz hh
    rcases hs.new z hz with x | x
    · exact hG.2.1 z x hh
    · have := hlt z (by simp only [List.flatten_append, List.flatten_cons, List.mem_append] at hh ⊢; exact hh.imp id .inr)
      omega
  refine ⟨g :: (Fa ++ G' :: Fb).flatten, ⟨⟨c, T, hboxb, .slice (some ⟨g, off, none⟩) l.length cap, _, _, hv, ?_, hE', by simp [ownL_some]⟩, ?_, ?_⟩, ⟨?_, ?_, ?_⟩, ?_⟩
  · refine ⟨by rw [hE'.flat], .inr ⟨g, off, cap, cur', by simp, p1, by simpa using k1, k2, by rw [p2]; exact hsz, ?_⟩⟩
    rw [List.length_set]
    have e1 := ext_rest (k := i * A.n) (m := A.n) (n := l.length * A.n) (o := off) p2 hmul (by omega) p3
    rw [e1, hcur]
    simp only [List.flatten_append, List.flatten_cons]
    rw [List.take_left' hxa, ← List.append_assoc, List.append_assoc]
    congr 1
    congr 1
    rw [← List.drop_drop, List.append_assoc, ← hxa, List.drop_left, ← hxl, List.drop_left]
  · simp only [List.mem_cons, not_or]
    refine ⟨hbg, fun hh => ?_⟩
    simp only [List.flatten_append, List.flatten_cons, List.mem_append] at hh hbF
    rcases hh with hh | hh | hh
    · exact hbF (.inl hh)
    · rcases hs.new b hh with x | x
      · exact hbF (.inr (.inl x))
      · omega
    · exact hbF (.inr (.inr hh))
  · simp only [List.nodup_cons]
    refine ⟨fun hh => ?_, ?_⟩
    · simp only [List.flatten_append, List.flatten_cons, List.mem_append] at hh hgF
      rcases hh with hh | hh | hh
      · exact hgF (.inl hh)
      · exact hy.nb hh
      · exact hgF (.inr hh)
    · have h3 := hG.2.2
      simp only [List.flatten_append, List.flatten_cons, List.nodup_append, List.mem_append] at h3 ⊢
      refine ⟨h3.1, ⟨hy.nd, h3.2.1, fun a ha b hb e => hG' a ha (List.mem_append_right _ (e ▸ hb))⟩, ?_⟩
      rintro a ha b (hb | hb) e
      · exact hG' b hb (List.mem_append_left _ (e ▸ ha))
      · exact h3.2.2 a ha b hb e
  · refine hs.chg.mono fun k hk x => ?_
    rcases x with x | x
    · exact .inr (by simp [x])
    · exact .inr (List.mem_cons_of_mem _ (hmem k x))
  · intro k hk
    simp only [List.flatten_append, List.flatten_cons, List.mem_append, List.mem_cons] at hk ⊢
    rcases hk with hk | hk | hk | hk
    · exact .inl (.inl hk)
    · exact .inl (.inr (.inl hk))
    · rcases hs.new k hk with x | x
      · exact .inl (.inr (.inr (.inl x)))
      · exact .inr x
    · exact .inl (.inr (.inr (.inr hk)))
  · intro d U hd
    exact ⟨d, hs.chg.keep hd (fun x => x.elim hbg (fun y => hbF (hmem _ y))), rfl, fun _ _ => rfl⟩
  · intro k hk
    have hgG : g ∉ G := fun x => hnd.1 (hmem g x)
    simp only [List.flatten_append, List.flatten_cons, List.mem_append, List.mem_cons] at hk ⊢
    rcases hk with hk | hk | hk | hk
    · exact .inr ⟨.inl hk, hk ▸ hgG⟩
    · exact .inr ⟨.inr (.inl hk), fun z => hG.2.1 k z (List.mem_append_left _ hk)⟩
    · exact .inl hk
    · exact .inr ⟨.inr (.inr (.inr hk)), fun z => hG.2.1 k z (List.mem_append_right _ hk)⟩
theorem Here.elem {e : TypeId} {l : List α} (h : Here (A.row e) w b o l F) (hl : 0 < l.length) :
    ∃ g off cap, w.cell? ⟨b, o, none⟩ = some (.slice (some ⟨g, off, none⟩) l.length cap) ∧ l.length ≤ cap ∧ cap ≤ maxLen ∧ g ≠ b ∧ g ∈ F ∧
      ∀ i (hi : i < l.length), ∃ G, Here A w g (off + i * A.n) l[i] G ∧ (∀ x ∈ G, x ∈ F) ∧
        ∀ w' y G', Here A w' g (off + i * A.n) y G' → Step w w' g (off + i * A.n) A.n G G' → ∃ F', Here (A.row e) w' b o (l.set i y) F' ∧ Step w w' b o 1 F F' := by
  obtain ⟨g, off, cap, h1, h2, h3, h4, h5, h6⟩ := h.elemX hl
  refine ⟨g, off, cap, h1, h2, h3, h4, h5, fun i hi => ?_⟩
  obtain ⟨G, k1, k2, k3⟩ := h6 i hi
  refine ⟨G, k1, k2, fun w' y G' hy hs => ?_⟩
  obtain ⟨F', p, q, _⟩ := k3 w' y G' hy hs
  exact ⟨F', p, q⟩
end
end Go.Proofs.YtjianickjahdnaaDoor
namespace Go.Proofs.YtjianickjahdnaaDoor
open Go.RowKit
set_option linter.unusedVariables false

def Rep.str : Rep ByteArray := Rep.flat 1 (fun s => [.string s]) (fun _ => rfl)
def Rep.bool : Rep Bool := Rep.flat 1 (fun s => [.bool s]) (fun _ => rfl)
def Rep.int (k : IntKind) : Rep Int := Rep.flat 1 (fun s => [.int k s]) (fun _ => rfl)
theorem flatMap_one {α β : Type} (f : α → β) (l : List α) : (l.flatMap fun a => [f a]) = l.map f := by induction l <;> simp_all

/-- A row opened: its value, the cells of its elements, what is behind them. -/
structure RowOpen {α : Type} (A : Rep α) (e : TypeId) (w : World) (v : Value) (l : List α) (F : List Nat) (xs : List (List Value)) (Fs : List (List Nat)) : Prop where
  row : RowAt w e A.n v l.length xs.flatten
  each : Each A w xs l Fs
  fp : F = ownL v ++ Fs.flatten
section
variable {α : Type} {A : Rep α} {e : TypeId} {w w1 w2 : World} {v v2 : Value} {b o : Nat} {l m : List α} {F : List Nat} {xs ys : List (List Value)} {Fs Gs : List (List Nat)}
theorem Rep.opened (h : (A.row e).own w [v] l F) : ∃ xs Fs, RowOpen A e w v l F xs Fs := by
  obtain ⟨v', xs, Fs, hv, h1, h2, h3⟩ := h
  simp only [List.cons.injEq, and_true] at hv
  subst hv
  exact ⟨xs, Fs, h1, h2, h3⟩
theorem RowOpen.own (h : RowOpen A e w v l F xs Fs) : (A.row e).own w [v] l F := ⟨v, xs, Fs, rfl, h.row, h.each, h.fp⟩
theorem RowOpen.keep (h : RowOpen A e w v l F xs Fs) {S : Nat → Prop} (hc : Chg S w w1) (hn : ∀ k ∈ F, ¬ S k) : RowOpen A e w1 v l F xs Fs := by
  refine ⟨h.row.chg hc (fun k hk => hn k ?_), h.each.keep (hc.keepAll fun k hk => hn k ?_), h.fp⟩
  · rw [h.fp]; exact List.mem_append_left _ (mem_ownL.2 hk)
  · rw [h.fp]; exact List.mem_append_right _ hk
theorem RowOpen.still (h : RowOpen A e w v l F xs Fs) (hc : Chg (fun _ => False) w w1) : RowOpen A e w1 v l F xs Fs := h.keep hc (fun _ _ x => x)
theorem Here.openRow (h : Here (A.row e) w b o l F) : ∃ v xs Fs, w.cell? ⟨b, o, none⟩ = some v ∧ RowOpen A e w v l F xs Fs := by
  obtain ⟨cs, h1, h2⟩ := h.cell
  obtain ⟨v, xs, Fs, rfl, h3, h4, h5⟩ := h1
  exact ⟨v, xs, Fs, h2 0 v rfl, h3, h4, h5⟩
theorem own_le_one (v : Value) : (ownL v).Nodup := by
  unfold ownL
  cases v.ownBlock <;> simp
/-- Elements put behind: they lie in blocks of this call. -/
theorem RowOpen.pushAll (h : RowOpen A e w v l F xs Fs) (hH : Here (A.row e) w b o l F) (h1 : Chg (fun _ => False) w w1) (hx : Each A w1 ys m Gs) (hG : ∀ k ∈ Gs.flatten, w.heap.size ≤ k) (hGn : Gs.flatten.Nodup)
    (hr : RowAt w2 e A.n v2 (l.length + m.length) (xs.flatten ++ ys.flatten)) (hc : Chg (fun k => v.ownBlock = some k) w1 w2) (hold : ∀ k, v2.ownBlock = some k → v.ownBlock = some k ∨ w1.heap.size ≤ k) :
    ∃ F', Here (A.row e) (w2.setCell ⟨b, o, none⟩ v2) b o (l ++ m) F' ∧ Step w (w2.setCell ⟨b, o, none⟩ v2) b o 1 F F' := by
  have hfp := h.fp
  have hlt := (hH.lt).2
  have hnd := hH.nd
  rw [hfp] at hlt hnd
  simp only [List.nodup_append, List.mem_append] at hlt hnd
  have hvlt : ∀ k, v.ownBlock = some k → k < w.heap.size := fun k hk => hlt k (.inl (mem_ownL.2 hk))
  have hsz := h1.size
  have hx2 := hx.keep (w' := w2) (hc.keepAll fun k hk e => by have := hG k hk; have := hvlt k e; omega)
  have he2 := (h.each.keep (h1.keepAll fun _ _ x => x)).keep (w' := w2) (hc.keepAll fun k hk e => hnd.2.2 k (mem_ownL.2 e) k hk rfl)
  have hGlt := hx.lt
  refine ⟨_, hH.put (G' := ownL v2 ++ (Fs ++ Gs).flatten) rfl ?_ ⟨v2, xs ++ ys, Fs ++ Gs, rfl, ?_, he2.append hx2, rfl⟩ ?_ ?_⟩
  · rw [hfp]
    exact h1.trans hc (fun _ _ x => x.elim) (fun i _ x => List.mem_append_left _ (mem_ownL.2 x))
  · rw [List.length_append, List.flatten_append]; exact hr
  · simp only [List.flatten_append, List.nodup_append, List.mem_append]
    refine ⟨own_le_one _, ⟨hnd.2.1, hGn, ?_⟩, ?_⟩
    · rintro a ha b hb rfl
      have := hlt a (.inr ha); have := hG a hb; omega
    · rintro a ha b hb rfl
      have ha' := hold a (mem_ownL.1 ha)
      rcases hb with hb | hb
      · rcases ha' with x | x
        · exact hnd.2.2 a (mem_ownL.2 x) a hb rfl
        · have := hlt a (.inr hb); omega
      · rcases ha' with x | x
        · have := hvlt a x; have := hG a hb; omega
        · have := hGlt a hb; omega
  · intro k hk
    rw [hfp]
    simp only [List.flatten_append, List.mem_append] at hk ⊢
    rcases hk with hk | hk | hk
    · rcases hold k (mem_ownL.1 hk) with x | x
      · exact .inl (.inl (mem_ownL.2 x))
      · exact .inr (Nat.le_trans hsz x)
    · exact .inl (.inr hk)
    · exact .inr (hG k hk)
theorem RowOpen.push {x : List Value} {a : α} {G : List Nat} (h : RowOpen A e w v l F xs Fs) (hH : Here (A.row e) w b o l F) (h1 : Chg (fun _ => False) w w1) (hx : A.own w1 x a G) (hG : ∀ k ∈ G, w.heap.size ≤ k) (hGn : G.Nodup)
    (hr : RowAt w2 e A.n v2 (l.length + 1) (xs.flatten ++ x)) (hc : Chg (fun k => v.ownBlock = some k) w1 w2) (hold : ∀ k, v2.ownBlock = some k → v.ownBlock = some k ∨ w1.heap.size ≤ k) :
    ∃ F', Here (A.row e) (w2.setCell ⟨b, o, none⟩ v2) b o (l ++ [a]) F' ∧ Step w (w2.setCell ⟨b, o, none⟩ v2) b o 1 F F' :=
  h.pushAll (ys := [x]) (m := [a]) (Gs := [G]) hH h1 (.cons hx .nil) (by simpa using hG) (by simpa using hGn) (by simpa using hr) hc hold
/-- The cells of an element. -/
theorem RowOpen.at (h : RowOpen A e w v l F xs Fs) (hl : 0 < l.length) : ∃ g off cap, v = .slice (some ⟨g, off, none⟩) l.length cap ∧ l.length ≤ cap ∧ cap ≤ maxLen ∧ g < w.heap.size ∧ g ∈ F ∧
    ∀ i (hi : i < l.length), ∃ x G, A.own w x l[i] G ∧ (∀ k ∈ G, k ∈ F) ∧ ∀ j u, x[j]? = some u → w.cell? ⟨g, off + i * A.n + j, none⟩ = some u := by
  obtain ⟨g, off, cap, rfl, k1, k2⟩ := h.row.addr hl
  refine ⟨g, off, cap, rfl, k1, k2, h.row.lt g rfl, by rw [h.fp]; simp [ownL_some], ?_⟩
  intro i hi
  obtain ⟨x, G, xa, xb, Fa, Fb, q1, q2, q3, q4, _⟩ := h.each.at i hi
  refine ⟨x, G, q1, fun k hk => by rw [h.fp, q4]; simp [hk], fun j u hu => ?_⟩
  have hj : j < A.n := by
    have := (List.getElem?_eq_some_iff.1 hu).1
    rw [A.len q1] at this; exact this
  have hxa : xa.flatten.length = i * A.n := by
    have h0 : ∀ (ys : List (List Value)) (zs : List α) (Gs : List (List Nat)), Each A w ys zs Gs → ∀ m, (ys.take m).flatten.length = (ys.take m).length * A.n := by
      intro ys zs Gs hh
      induction hh with
      | nil => intro m; simp
      | cons a1 _ ih =>
        intro m
        cases m with
        | zero => simp
        | succ m => rw [List.take_succ_cons, List.flatten_cons, List.length_append, ih m, A.len a1, List.length_cons, Nat.add_mul]; omega
    have h1 := h0 _ _ _ h.each i
    rw [q2, ← q3, List.take_left] at h1
    rw [h1, q3]
  rw [Nat.add_assoc]
  refine h.row.cellAt (i * A.n + j) u ?_
  rw [q2, List.flatten_append, List.flatten_cons, List.getElem?_append_right (by omega), hxa, show i * A.n + j - i * A.n = j from by omega, List.getElem?_append_left (by rw [A.len q1]; exact hj)]
  exact hu
theorem RowOpen.val (h : RowOpen A e w v l F xs Fs) : ∃ a cap, v = .slice a l.length cap ∧ l.length ≤ cap ∧ cap ≤ maxLen := h.row.slice
end
section
variable {α : Type} {n : Nat} {f : α → List Value} {hf : ∀ a, (f a).length = n} {e : TypeId} {w : World} {v : Value} {l : List α} {F : List Nat} {xs : List (List Value)} {Fs : List (List Nat)}
theorem RowOpen.flat (h : RowOpen (Rep.flat n f hf) e w v l F xs Fs) : RowAt w e n v l.length (l.flatMap f) ∧ xs.flatten = l.flatMap f ∧ F = ownL v := by
  obtain ⟨a, b⟩ := each_flat h.each
  have := h.row
  rw [a] at this
  exact ⟨this, a, by rw [h.fp, b, List.append_nil]⟩
end
theorem ofRow_flat {α : Type} {n : Nat} {f : α → List Value} {hf : ∀ a, (f a).length = n} {e : TypeId} {w : World} {v : Value} {l : List α} (h : RowAt w e n v l.length (l.flatMap f)) : ((Rep.flat n f hf).row e).own w [v] l (ownL v) :=
  row_flat.2 ⟨v, rfl, h, rfl⟩
/-- A thing of one's own, just made. -/
theorem Here.made {α : Type} {A : Rep α} (w : World) (T : TypeId) (cs : List Value) (a : α) (F : List Nat) (h : A.own w cs a F) (hnd : F.Nodup) : Here A (w.alloc (.cells cs.toArray T)) w.heap.size 0 a F := by
  have hl := A.len h
  refine ⟨⟨cs.toArray, T, alloc_block w _, ?_⟩, fun hh => absurd (A.lt h _ hh) (by omega), hnd⟩
  simp only [List.drop_zero, ← hl, List.take_length]
  exact A.chg h (Chg.alloc (fun _ => False) w _) (fun _ _ x => x)
end Go.Proofs.YtjianickjahdnaaDoor
namespace Go.Proofs.YtjianickjahdnaaDoor
open Go.RowKit
set_option linter.unusedVariables false

/-- A number of elements that is far from every bound; the numeral is out of the walk's sight. -/
structure Few (n : Nat) : Prop where
  lt : n < 1000000000
theorem Few.of {n : Nat} (m : Nat) (h : n ≤ m) (hm : m < 1000000000) : Few n := ⟨by omega⟩

theorem Chg.cellS {S : Nat → Prop} {w w' : World} (h : Chg S w w') {a : Addr} {v : Value} (hc : w.cell? a = some v) (hn : ¬ S a.block) : w'.cell? a = some v := by
  have hb : a.block < w.heap.size := World.block_lt_of_cell? w _ hc
  rw [World.cell?_of_block (h.block a.block hb hn)]; exact hc
section
variable {w w' : World} {b o n : Nat} {F F' : List Nat}
/-- A cell that an operation left alone. -/
theorem Step.cell (h : Step w w' b o n F F') {b' j : Nat} {u : Value} (hu : w.cell? ⟨b', j, none⟩ = some u) (hF : b' ∉ F) (hj : b' = b → (j < o ∨ o + n ≤ j)) (hbox : ∃ c T, w.heap[b]? = some (.cells c T (0, 0))) : w'.cell? ⟨b', j, none⟩ = some u := by
  by_cases hb : b' = b
  · subst hb
    obtain ⟨c, T, hc⟩ := hbox
    obtain ⟨c', h1, h2, h3⟩ := h.rest c T hc
    refine cell_of_block h1 ?_
    rw [h3 j (hj rfl)]
    have : w.cell? ⟨b', j, none⟩ = c[j]? := by simp [World.cell?, hc]
    rw [← this]; exact hu
  · exact h.chg.cellS hu (fun x => x.elim hb hF)
theorem Step.cellNe (h : Step w w' b o n F F') {b' j : Nat} {u : Value} (hu : w.cell? ⟨b', j, none⟩ = some u) (hF : b' ∉ F) (hb : b' ≠ b) : w'.cell? ⟨b', j, none⟩ = some u := h.chg.cellS hu (fun x => x.elim hb hF)
/-- A step at some of the cells is a step at more of them. -/
theorem Step.wide (h : Step w w' b o n F F') {o' n' : Nat} (h1 : o' ≤ o) (h2 : o + n ≤ o' + n') : Step w w' b o' n' F F' :=
  ⟨h.chg, h.new, fun c T hc => by
    obtain ⟨c', k1, k2, k3⟩ := h.rest c T hc
    exact ⟨c', k1, k2, fun j hj => k3 j (by omega)⟩⟩
end
section
variable {α β : Type} {A : Rep α} {B : Rep β} {w w' : World} {b o : Nat} {a : α} {F : List Nat}
theorem Here.boxed (h : Here A w b o a F) : ∃ c T, w.heap[b]? = some (.cells c T (0, 0)) := by
  obtain ⟨c, T, h1, _⟩ := h.box
  exact ⟨c, T, h1⟩
/-- A scalar field stored. -/
theorem Here.setField {k : Nat} {get : α → β} {set : α → β → α} {f : β → List Value} {hf : ∀ a, (f a).length = 1} (h : Here A w b o a F) (fl : FieldOf A (Rep.flat 1 f hf) k get set) {y : β} {v : Value} (hv : f y = [v]) :
    ∃ F', Here A (w.setCell ⟨b, o + k, none⟩ v) b o (set a y) F' ∧ Step w (w.setCell ⟨b, o + k, none⟩ v) b o A.n F F' := by
  have := fl.fits
  obtain ⟨G, h1, _, h3⟩ := h.field fl (by show 0 < A.n; have h0 : (Rep.flat 1 f hf).n = 1 := rfl; omega)
  obtain ⟨p, q⟩ := h1.set hv
  exact h3 _ y G p q
theorem Here.cells {cs : List Value} {n : Nat} {f : β → List Value} {hf : ∀ a, (f a).length = n} {y : β} (h : Here (Rep.flat n f hf) w b o y F) (j : Nat) (u : Value) (hu : (f y)[j]? = some u) : w.cell? ⟨b, o + j, none⟩ = some u := by
  obtain ⟨cs, ⟨rfl, _⟩, h2⟩ := h.cell
  exact h2 j u hu
end
/-- The number of cells, the zero and the bytes of an element's type, as the append laws ask them. -/
def Elem (P : Program) (e : TypeId) (size bytes : Nat) : Prop := ∃ i z, P.info? e = some i ∧ i.zero = some z ∧ i.size = size ∧ i.bytes = bytes ∧ z.cells.size = size
theorem elem_of {P : Program} {e : TypeId} {size bytes : Nat} (h : (P.info? e).map (fun i => (i.zero.map (fun z => z.cells.size), i.size, i.bytes)) = some (some size, size, bytes)) : Elem P e size bytes := by
  unfold Elem
  match hm : P.info? e, h with
  | some i, h =>
    simp only [Option.map_some, Option.some.injEq, Prod.mk.injEq] at h
    obtain ⟨h1, h2, h3⟩ := h
    match hz : i.zero, h1 with
    | some z, h1 => exact ⟨i, z, rfl, hz, h2, h3, by simpa [hz] using h1⟩
/-- One element of several cells appended; it lies in block g. Outside a region that draws. -/
theorem list_append_elem {P : Program} {W : World} {ops : Array Oper} {rest : List Oper} {o : Oper} {a : Act} {Q : Exit → Act → World → Prop} (hgd : o.guard = none) (s x : Operand) (t : TypeId)
    (ho : o.op = .call { callee := .builtin .append, args := #[s, x], argTypes := #[t, t] })
    (e : TypeId) (size bytes : Nat) (ht : P.underlying t = some (.slice e)) (hE : Elem P e size bytes) (hsz : 0 < size)
    (v : Value) (n : Nat) (xs : List Value) (hsv : a.eval s = v) (hown : RowAt W e size v n xs) (news : List Value) (hnl : news.length = size) (g T : Nat) (f : Nat × Nat)
    (hx : a.eval x = .slice (some ⟨g, 0, none⟩) 1 1) (hg : W.heap[g]? = some (.cells news.toArray T f)) (h1 : ∀ u ∈ news, u.oneCell' = true)
    (h63 : n + 1 ≤ maxLen) (hbytes : (n + 1) * bytes ≤ 140737488355328)
    (h : ∀ a1 n1 c1 w', RowAt w' e size (.slice a1 n1 c1) (n + 1) (xs ++ news) → Chg (fun k => v.ownBlock = some k) W w' → (∀ k, (Value.slice a1 n1 c1).ownBlock = some k → v.ownBlock = some k ∨ W.heap.size ≤ k) → wpList P ops Q rest (a.put o.dst (.slice a1 n1 c1)) w') :
    wpList P ops Q (o :: rest) a W := by
  obtain ⟨i, z, hi, hz, hsize, hby, hzs⟩ := hE
  refine wpList_append_slice W hgd s x t t ho e i z size bytes ht hi hz hsize hby hzs hsz v n xs hsv hown _ 1 news hx (Src.ofSlice _ ht _ 1 1 news (by omega) ?_ h1) h63 hbytes h
  intro j u hu
  have hadd : (⟨g, 0, none⟩ : Addr).add j = ⟨g, j, none⟩ := by unfold Addr.add; split <;> simp_all
  rw [hadd]
  exact cell_of_block hg (by simpa using hu)
/-- The same inside a region that draws its order. -/
theorem step_append_elem {P : Program} {W : World} {ops : Array Oper} {o : Oper} {a : Act} {K : Act → World → Prop} {Q : Exit → Act → World → Prop} {E : Prop} (hgd : o.guard = none) (s x : Operand) (t : TypeId)
    (ho : o.op = .call { callee := .builtin .append, args := #[s, x], argTypes := #[t, t] })
    (e : TypeId) (size bytes : Nat) (ht : P.underlying t = some (.slice e)) (hE : Elem P e size bytes) (hsz : 0 < size)
    (v : Value) (n : Nat) (xs : List Value) (hsv : a.eval s = v) (hown : RowAt W e size v n xs) (news : List Value) (hnl : news.length = size) (g T : Nat) (f : Nat × Nat)
    (hx : a.eval x = .slice (some ⟨g, 0, none⟩) 1 1) (hg : W.heap[g]? = some (.cells news.toArray T f)) (h1 : ∀ u ∈ news, u.oneCell' = true)
    (h63 : n + 1 ≤ maxLen) (hbytes : (n + 1) * bytes ≤ 140737488355328)
    (h : ∀ a1 n1 c1 w', RowAt w' e size (.slice a1 n1 c1) (n + 1) (xs ++ news) → Chg (fun k => v.ownBlock = some k) W w' → (∀ k, (Value.slice a1 n1 c1).ownBlock = some k → v.ownBlock = some k ∨ W.heap.size ≤ k) → K (a.put o.dst (.slice a1 n1 c1)) w') :
    if Region.wanted o (yielded ops a.tmps) = true then Oper.wp P o a W K Q else E := by
  obtain ⟨i, z, hi, hz, hsize, hby, hzs⟩ := hE
  refine step_append_row hgd s x t t ho e i z size bytes ht hi hz hsize hby hzs hsz v n xs hsv hown _ 1 news hx (Src.ofSlice _ ht _ 1 1 news (by omega) ?_ h1) h63 hbytes ?_
  · intro j u hu
    have hadd : (⟨g, 0, none⟩ : Addr).add j = ⟨g, j, none⟩ := by unfold Addr.add; split <;> simp_all
    rw [hadd]
    exact cell_of_block hg (by simpa using hu)
  · intro v' w' h1 h2 h3
    obtain ⟨a1, c1, rfl, _⟩ := h1.slice
    exact h a1 _ c1 w' h1 h2 h3

/-- A thing that was made behind the world w0: what was there in w0 is as it was. -/
structure Own {α : Type} (A : Rep α) (w0 w : World) (b o : Nat) (a : α) (F : List Nat) : Prop where
  here : Here A w b o a F
  chg : Chg (fun _ => False) w0 w
  lo : w0.heap.size ≤ b
  los : ∀ k ∈ F, w0.heap.size ≤ k
section
variable {α : Type} {A : Rep α} {w0 w w' : World} {b o n : Nat} {a a' : α} {F F' : List Nat}
theorem Own.step (h : Own A w0 w b o a F) (hh : Here A w' b o a' F') (hs : Step w w' b o n F F') : Own A w0 w' b o a' F' :=
  ⟨hh, h.chg.trans hs.chg (fun _ _ x => x) (fun i hi x => by have := h.lo; rcases x with x | x; omega; have := h.los i x; omega), h.lo, fun k hk => (hs.new k hk).elim (h.los k) (fun x => by have := h.chg.size; omega)⟩
theorem Own.still (h : Own A w0 w b o a F) (hc : Chg (fun _ => False) w w') : Own A w0 w' b o a F := ⟨h.here.still hc, h.chg.trans' hc, h.lo, h.los⟩
theorem Own.made (w : World) (T : TypeId) (cs : List Value) (a : α) (h : A.own w cs a []) : Own A w (w.alloc (.cells cs.toArray T)) w.heap.size 0 a [] :=
  ⟨Here.made w T cs a [] h List.nodup_nil, Chg.alloc _ _ _, Nat.le_refl _, fun k hk => by cases hk⟩
theorem Own.from (h : Own A w0 w b o a F) {w1 : World} (hc : Chg (fun _ => False) w1 w0) : Own A w1 w b o a F :=
  ⟨h.here, hc.trans' h.chg, Nat.le_trans hc.size h.lo, fun k hk => Nat.le_trans hc.size (h.los k hk)⟩
end
end Go.Proofs.YtjianickjahdnaaDoor
namespace Go.Proofs.YtjianickjahdnaaDoor
open Go.RowKit
set_option linter.unusedVariables false

/-- All that a walk asks of 'x.f = append(x.f, ..)'. -/
theorem Here.appending {α : Type} {A : Rep α} {e : TypeId} {w : World} {b o : Nat} {l : List α} {F : List Nat} (h : Here (A.row e) w b o l F) :
    ∃ a cap xs Fs, w.cell? ⟨b, o, none⟩ = some (.slice a l.length cap) ∧ RowOpen A e w (.slice a l.length cap) l F xs Fs ∧ l.length ≤ cap ∧ cap ≤ maxLen ∧ w.frozen? ⟨b, o, none⟩ = false ∧
      ∀ w1 w3, Chg (fun _ => False) w w1 → Chg (fun k => (Value.slice a l.length cap).ownBlock = some k) w1 w3 → w3.cell? ⟨b, o, none⟩ = some (.slice a l.length cap) ∧ w3.frozen? ⟨b, o, none⟩ = false := by
  obtain ⟨v, xs, Fs, hc, hopen⟩ := h.openRow
  obtain ⟨a, cap, rfl, h1, h2⟩ := hopen.val
  refine ⟨a, cap, xs, Fs, hc, hopen, h1, h2, h.frozen o, fun w1 w3 hc1 hc3 => ?_⟩
  obtain ⟨c, T, hb⟩ := h.boxed
  have hn : ¬ (Value.slice a l.length cap).ownBlock = some b := fun hk => h.nb (by rw [hopen.fp]; exact List.mem_append_left _ (mem_ownL.2 hk))
  have h3 := hc3.keep (hc1.keep hb (fun x => x)) hn
  refine ⟨cell_of_block h3 ?_, frozen_of_block h3⟩
  have : w.cell? ⟨b, o, none⟩ = c[o]? := by simp [World.cell?, hb]
  rw [← this]; exact hc
/-- The place of an element, as a pointer. -/
def rowPtr (v : Value) (n : Nat) : Option Nat → Option Addr
  | none => none
  | some i => match v with | .slice (some ⟨g, off, none⟩) _ _ => some ⟨g, off + i * n, none⟩ | _ => none
theorem rowPtr_none (v : Value) (n : Nat) : rowPtr v n none = none := rfl
theorem rowPtr_some (g off m cap n i : Nat) : rowPtr (.slice (some ⟨g, off, none⟩) m cap) n (some i) = some ⟨g, off + i * n, none⟩ := rfl

/-- A thing behind an operation on it. -/
def Post {α : Type} (A : Rep α) (w : World) (b o : Nat) (a' : α) (F : List Nat) (w' : World) : Prop := ∃ F', Here A w' b o a' F' ∧ Step w w' b o A.n F F'
section
variable {α β : Type} {A : Rep α} {B : Rep β} {w w' w0 w2 : World} {b o k : Nat} {a a' a2 : α} {F : List Nat} {e : TypeId}
theorem Here.same (H : Here A w b o a F) (hc : Chg (fun _ => False) w w') : Post A w b o a F w' := ⟨F, H.still hc, Step.ofChg hc⟩
theorem Post.pre (hc : Chg (fun _ => False) w0 w) (hp : Post A w b o a' F w') : Post A w0 b o a' F w' := by
  obtain ⟨F', h1, h2⟩ := hp
  exact ⟨F', h1, (Step.ofChg hc).trans h2⟩
theorem Post.after (hp : Post A w b o a' F w') (hc : Chg (fun _ => False) w' w2) : Post A w b o a' F w2 := by
  obtain ⟨F', h1, h2⟩ := hp
  exact ⟨F', h1.still hc, h2.trans (Step.ofChg hc)⟩
theorem Post.drew (hp : Post A w.drew b o a' F w') : Post A w b o a' F w' := Post.pre ((Chg.refl _ w).drewR) hp
theorem Post.then (hp : Post A w b o a' F w') (hq : ∀ F', Here A w' b o a' F' → Post A w' b o a2 F' w2) : Post A w b o a2 F w2 := by
  obtain ⟨F', h1, h2⟩ := hp
  obtain ⟨F2, h3, h4⟩ := hq F' h1
  exact ⟨F2, h3, h2.trans h4⟩
theorem Post.own (hp : Post A w b o a' F w') (H : Own A w0 w b o a F) : ∃ F', Own A w0 w' b o a' F' := by
  obtain ⟨F', h1, h2⟩ := hp
  exact ⟨F', H.step h1 h2⟩
/-- An element of a row in a field: where it lies, and the way back. -/
theorem Here.rowElem {get : α → List β} {set : α → List β → α} (fl : FieldOf A (B.row e) k get set) (hA : 0 < A.n) (H : Here A w b o a F) {g off m cap i : Nat} (hv : w.cell? ⟨b, o + k, none⟩ = some (.slice (some ⟨g, off, none⟩) m cap)) (hi : i < (get a).length) :
    ∃ G, Here B w g (off + i * B.n) (get a)[i] G ∧ g ≠ b ∧ b ∉ G ∧ (∀ x ∈ G, x ∈ F) ∧ ∀ w' y G', Here B w' g (off + i * B.n) y G' → Step w w' g (off + i * B.n) B.n G G' → Post A w b o (set a ((get a).set i y)) F w' ∧ ∀ j u, w.cell? ⟨b, j, none⟩ = some u → w'.cell? ⟨b, j, none⟩ = some u := by
  obtain ⟨G1, h1, h2, h3⟩ := H.field fl hA
  obtain ⟨g', off', cap', q1, _, _, q4, q5, q6⟩ := h1.elem (by omega)
  rw [q1] at hv
  simp only [Option.some.injEq, Value.slice.injEq, Addr.mk.injEq, and_true] at hv
  obtain ⟨⟨rfl, rfl⟩, rfl, rfl⟩ := hv
  obtain ⟨G, r1, r2, r3⟩ := q6 i hi
  have hbG : b ∉ G := fun x => h1.nb (r2 b x)
  refine ⟨G, r1, q4, hbG, fun x hx => h2 x (r2 x hx), fun w' y G' hy hs => ?_⟩
  obtain ⟨F1, s1, s2⟩ := r3 w' y G' hy hs
  exact ⟨h3 _ _ _ s1 s2, fun j u hu => hs.cellNe hu hbG (fun e => q4 e.symm)⟩
theorem Here.rowAt {get : α → List β} {set : α → List β → α} (fl : FieldOf A (B.row e) k get set) (hA : 0 < A.n) (H : Here A w b o a F) (hl : 0 < (get a).length) : ∃ g off cap, w.cell? ⟨b, o + k, none⟩ = some (.slice (some ⟨g, off, none⟩) (get a).length cap) := by
  obtain ⟨G1, h1, h2, h3⟩ := H.field fl hA
  obtain ⟨g', off', cap', q1, _⟩ := h1.elem hl
  exact ⟨g', off', cap', q1⟩
/-- A row in a field, about to be lengthened by one; and the way back. -/
theorem Here.fieldAppending {get : α → List β} {set : α → List β → α} (fl : FieldOf A (B.row e) k get set) (hA : 0 < A.n) (H : Here A w b o a F) :
    ∃ p cap xs Fs Fr, w.cell? ⟨b, o + k, none⟩ = some (.slice p (get a).length cap) ∧ RowOpen B e w (.slice p (get a).length cap) (get a) Fr xs Fs ∧ w.frozen? ⟨b, o + k, none⟩ = false ∧
      (∀ w1 w3, Chg (fun _ => False) w w1 → Chg (fun j => (Value.slice p (get a).length cap).ownBlock = some j) w1 w3 → w3.cell? ⟨b, o + k, none⟩ = some (.slice p (get a).length cap) ∧ w3.frozen? ⟨b, o + k, none⟩ = false) ∧
      ∀ w1 w3 x y G v2, Chg (fun _ => False) w w1 → B.own w1 x y G → (∀ j ∈ G, w.heap.size ≤ j) → G.Nodup → RowAt w3 e B.n v2 ((get a).length + 1) (xs.flatten ++ x) →
        Chg (fun j => (Value.slice p (get a).length cap).ownBlock = some j) w1 w3 → (∀ j, v2.ownBlock = some j → (Value.slice p (get a).length cap).ownBlock = some j ∨ w1.heap.size ≤ j) →
        Post A w b o (set a (get a ++ [y])) F (w3.setCell ⟨b, o + k, none⟩ v2) := by
  obtain ⟨G1, h1, h2, h3⟩ := H.field fl hA
  obtain ⟨p, cap, xs, Fs, q1, q2, _, _, q5, q6⟩ := h1.appending
  refine ⟨p, cap, xs, Fs, G1, q1, q2, q5, q6, fun w1 w3 x y G v2 k1 k2 k3 k4 k5 k6 k7 => ?_⟩
  obtain ⟨F', r1, r2⟩ := q2.push h1 k1 k2 k3 k4 k5 k6 k7
  exact h3 _ _ _ r1 r2
/-- A row in a field set to nil. -/
theorem Here.setNil {get : α → List β} {set : α → List β → α} (fl : FieldOf A (B.row e) k get set) (hA : 0 < A.n) (H : Here A w b o a F) : Post A w b o (set a []) F (w.setCell ⟨b, o + k, none⟩ (.slice none 0 0)) := by
  obtain ⟨G1, h1, h2, h3⟩ := H.field fl hA
  obtain ⟨p, q⟩ := h1.put (w2 := w) (v := .slice none 0 0) (y := ([] : List β)) (G' := []) rfl (.refl _ _) ⟨_, [], [], rfl, RowAt.nil _ _ _, .nil, rfl⟩ (by simp) (by simp)
  exact h3 _ _ _ p q
/-- A row of one's own stored into a field: it lies in blocks that were made behind w. -/
theorem Here.setRow {get : α → List β} {set : α → List β → α} (fl : FieldOf A (B.row e) k get set) (hA : 0 < A.n) (H : Here A w b o a F) {w1 : World} {v : Value} {l : List β} {G : List Nat} (hc : Chg (fun _ => False) w w1) (hv : (B.row e).own w1 [v] l G) (hG : ∀ j ∈ G, w.heap.size ≤ j) (hn : G.Nodup) :
    Post A w b o (set a l) F (w1.setCell ⟨b, o + k, none⟩ v) := by
  obtain ⟨G1, h1, h2, h3⟩ := H.field fl hA
  obtain ⟨p, q⟩ := h1.put (w2 := w1) (v := v) (y := l) (G' := G) rfl (hc.mono (fun _ _ x => x.elim)) hv hn (fun j hj => .inr (hG j hj))
  exact h3 _ _ _ p q
theorem Here.setPost {γ : Type} {f : γ → List Value} {hf : ∀ a, (f a).length = 1} {get : α → γ} {set : α → γ → α} (H : Here A w b o a F) (fl : FieldOf A (Rep.flat 1 f hf) k get set) {y : γ} {v : Value} (hv : f y = [v]) : Post A w b o (set a y) F (w.setCell ⟨b, o + k, none⟩ v) := H.setField fl hv
end
end Go.Proofs.YtjianickjahdnaaDoor
