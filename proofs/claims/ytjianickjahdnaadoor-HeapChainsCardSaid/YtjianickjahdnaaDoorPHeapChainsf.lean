/-
  Contracts of the library, laid over this program (written by the kit's shelf command).
  value.Number, heap.Position; the library's variables as their initialisers lay them.
  Rows of flat data in fields, changed in place or made anew; zeros appended to a row.
  slices.Delete of values, of properties.
  heap.resize.
-/
import Derived.Shelf.Strings.Builder1
import Derived.Shelf.Small.Wraps
import Derived.Shelf.Strings.BuilderF
import Derived.Shelf.Strings.BuilderK
import Derived.Shelf.Strings.BuilderRune
import Derived.Shelf.Strconv.Itoa0
import Derived.Shelf.Strconv.Itoa1
import Derived.Shelf.LaysM
import Derived.Shelf.Strconv.Itoa2
import Derived.Shelf.Strconv.Itoa3
import Derived.Shelf.Strconv.Itoa4
import Derived.Shelf.Strconv.ParseIntEmpty
import Derived.Shelf.Strconv.Clone
import Derived.Shelf.Strconv.SyntaxError
import Derived.Shelf.LaysC
import Derived.Shelf.Strconv.ToError
import Derived.Shelf.Strconv.Lower
import Derived.Shelf.Strconv.ParseUint10
import Derived.Shelf.Strconv.ParseUint10Empty
import Derived.Shelf.Strconv.ParseUint10Any
import Derived.Shelf.Strconv.ParseInt10
import Derived.Shelf.Strconv.RangeError
import Derived.Shelf.Strconv.ToErrorRange
import Derived.Shelf.Strconv.ParseUintEmpty
import Derived.Shelf.Strconv.ParseUint10b64
import Derived.Shelf.Strconv.ParseUint10b32
import Derived.Shelf.Strconv.ParseUint10b16
import Derived.Shelf.Strconv.ParseUint10b8
import Derived.Shelf.Strconv.ParseUint10At
import Derived.Shelf.Strconv.ParseInt10At64
import Derived.Shelf.Strconv.ParseInt10At32
import Derived.Shelf.Strconv.ParseInt10At16
import Derived.Shelf.Strconv.ParseInt10At8
import Derived.Shelf.Strconv.ParseInt10All
import Derived.Shelf.Strconv.ParseIntPublic10
import Derived.Shelf.Strconv.ErrVarParseInt
import Derived.Shelf.Unicode.ValidAny
import Derived.Ground.NamesProg
import Derived.Test.YtjianickjahdnaaDoorProg
import Derived.Test.YtjianickjahdnaaDoorPHeapChainsa
import Derived.Lib.LaidTab
import Derived.Lib.SmallJoins
import Derived.Test.YtjianickjahdnaaDoorPHeapChainse
import Derived.IntWalk
import Derived.Test.YtjianickjahdnaaDoorPHeapChainsd
import Derived.Deep.RegionLaw
namespace Go.Proofs.YtjianickjahdnaaDoor
open Go Go.Proofs Go.Shelf
def sh_lays169_ren : Go.Shelf.Ren := ⟨fun | 169 => 49 | n => n, fun | 70 => 93 | 9 => 9 | 0 => 0 | 72 => 95 | 37 => 68 | 127 => 119 | 3 => 3 | 5 => 5 | n => n, fun | n => n⟩
theorem sh_lays169 : Go.Proofs.Lays.n169 Tryd.prog sh_lays169_ren := {
  mixed := by kernel_rfl
  f169 := Tryd.func49.trans (congrArg some (by kernel_rfl))
  t0 := Tryd.underlying0
  a0 := Tryd.isAgg0
  z0 := Tryd.sizeOf0
  v0 := Tryd.zeroValue0
  t3 := Tryd.underlying3
  a3 := Tryd.isAgg3
  z3 := Tryd.sizeOf3
  v3 := Tryd.zeroValue3
  t9 := Tryd.underlying9
  a9 := Tryd.isAgg9
  z9 := Tryd.sizeOf9
  v9 := Tryd.zeroValue9
  t37 := Tryd.underlying68
  a37 := Tryd.isAgg68
  z37 := Tryd.sizeOf68
  v37 := Tryd.zeroValue68
  t70 := Tryd.underlying93
  a70 := Tryd.isAgg93
  z70 := Tryd.sizeOf93
  v70 := Tryd.zeroValue93
  t72 := Tryd.underlying95
  a72 := Tryd.isAgg95
  z72 := Tryd.sizeOf95
  v72 := Tryd.zeroValue95
  t127 := Tryd.underlying119
  a127 := Tryd.isAgg119
  z127 := Tryd.sizeOf119
  v127 := Tryd.zeroValue119 }
def sh_laysM173_ren : Go.Shelf.Ren := ⟨fun | 173 => 55 | 246 => 66 | 283 => 72 | 284 => 73 | 285 => 74 | 286 => 75 | 129 => 82 | 317 => 81 | 318 => 83 | 319 => 84 | 320 => 85 | 337 => 90 | 338 => 91 | n => n, fun | 2 => 2 | 3 => 3 | 9 => 9 | 4 => 4 | 171 => 126 | 0 => 0 | 53 => 108 | 37 => 68 | 5 => 5 | 173 => 129 | 212 => 138 | 51 => 125 | 20 => 20 | 213 => 139 | 46 => 117 | 232 => 149 | 233 => 150 | n => n, fun | 17 => 2 | 18 => 5 | 19 => 6 | n => n⟩
theorem sh_laysM173 : Go.Proofs.LaysM.n173 Tryd.prog sh_laysM173_ren := {
  mixed := by kernel_rfl
  f129 := Tryd.func82.trans (congrArg some (by kernel_rfl))
  f173 := Tryd.func55.trans (congrArg some (by kernel_rfl))
  f246 := Tryd.func66.trans (congrArg some (by kernel_rfl))
  f283 := Tryd.func72.trans (congrArg some (by kernel_rfl))
  f284 := Tryd.func73.trans (congrArg some (by kernel_rfl))
  f285 := Tryd.func74.trans (congrArg some (by kernel_rfl))
  f286 := Tryd.func75.trans (congrArg some (by kernel_rfl))
  f317 := Tryd.func81.trans (congrArg some (by kernel_rfl))
  f318 := Tryd.func83.trans (congrArg some (by kernel_rfl))
  f319 := Tryd.func84.trans (congrArg some (by kernel_rfl))
  f320 := Tryd.func85.trans (congrArg some (by kernel_rfl))
  f337 := Tryd.func90.trans (congrArg some (by kernel_rfl))
  f338 := Tryd.func91.trans (congrArg some (by kernel_rfl))
  t0 := Tryd.underlying0
  a0 := Tryd.isAgg0
  z0 := Tryd.sizeOf0
  v0 := Tryd.zeroValue0
  t2 := Tryd.underlying2
  a2 := Tryd.isAgg2
  z2 := Tryd.sizeOf2
  v2 := Tryd.zeroValue2
  t3 := Tryd.underlying3
  a3 := Tryd.isAgg3
  z3 := Tryd.sizeOf3
  v3 := Tryd.zeroValue3
  t4 := Tryd.underlying4
  a4 := Tryd.isAgg4
  z4 := Tryd.sizeOf4
  v4 := Tryd.zeroValue4
  t5 := Tryd.underlying5
  a5 := Tryd.isAgg5
  z5 := Tryd.sizeOf5
  v5 := Tryd.zeroValue5
  t9 := Tryd.underlying9
  a9 := Tryd.isAgg9
  z9 := Tryd.sizeOf9
  v9 := Tryd.zeroValue9
  t20 := Tryd.underlying20
  a20 := Tryd.isAgg20
  z20 := Tryd.sizeOf20
  v20 := Tryd.zeroValue20
  t37 := Tryd.underlying68
  a37 := Tryd.isAgg68
  z37 := Tryd.sizeOf68
  v37 := Tryd.zeroValue68
  t46 := Tryd.underlying117
  a46 := Tryd.isAgg117
  z46 := Tryd.sizeOf117
  v46 := Tryd.zeroValue117
  t51 := Tryd.underlying125
  a51 := Tryd.isAgg125
  z51 := Tryd.sizeOf125
  v51 := Tryd.zeroValue125
  t53 := Tryd.underlying108
  a53 := Tryd.isAgg108
  z53 := Tryd.sizeOf108
  v53 := Tryd.zeroValue108
  t171 := Tryd.underlying126
  a171 := Tryd.isAgg126
  z171 := Tryd.sizeOf126
  v171 := Tryd.zeroValue126
  t173 := Tryd.underlying129
  a173 := Tryd.isAgg129
  z173 := Tryd.sizeOf129
  v173 := Tryd.zeroValue129
  t212 := Tryd.underlying138
  a212 := Tryd.isAgg138
  z212 := Tryd.sizeOf138
  v212 := Tryd.zeroValue138
  t213 := Tryd.underlying139
  a213 := Tryd.isAgg139
  z213 := Tryd.sizeOf139
  t232 := Tryd.underlying149
  a232 := Tryd.isAgg149
  z232 := Tryd.sizeOf149
  v232 := Tryd.zeroValue149
  t233 := Tryd.underlying150
  a233 := Tryd.isAgg150
  z233 := Tryd.sizeOf150
  v233 := Tryd.zeroValue150
  g17 := by kernel_rfl
  g18 := by kernel_rfl
  g19 := by kernel_rfl
  i0 := by kernel_rfl
  i2 := by kernel_rfl
  i3 := by kernel_rfl
  i4 := by kernel_rfl
  i5 := by kernel_rfl
  i9 := by kernel_rfl
  i20 := by kernel_rfl
  i37 := by kernel_rfl
  i46 := by kernel_rfl
  i51 := by kernel_rfl
  i53 := by kernel_rfl
  i171 := by kernel_rfl
  i173 := by kernel_rfl
  i212 := by kernel_rfl
  i232 := by kernel_rfl
  i233 := by kernel_rfl
  m17 := by kernel_rfl
  m18 := by kernel_rfl
  m19 := by kernel_rfl }
def sh_laysC174_ren : Go.Shelf.Ren := ⟨fun | 174 => 56 | 247 => 67 | 245 => 68 | 287 => 76 | 279 => 77 | 280 => 78 | 281 => 79 | 282 => 80 | 321 => 86 | 322 => 87 | 316 => 88 | 171 => 46 | 205 => 89 | 243 => 60 | 246 => 66 | 283 => 72 | 284 => 73 | 285 => 74 | 286 => 75 | 129 => 82 | 317 => 81 | 318 => 83 | 319 => 84 | 320 => 85 | 337 => 90 | 338 => 91 | n => n, fun | 9 => 9 | 3 => 3 | 2 => 2 | 75 => 97 | 85 => 106 | 4 => 4 | 167 => 131 | 5 => 5 | 53 => 108 | 175 => 132 | 46 => 117 | 168 => 134 | 37 => 68 | 0 => 0 | 210 => 143 | 21 => 21 | 127 => 119 | 145 => 148 | 143 => 146 | 171 => 126 | 173 => 129 | 212 => 138 | 51 => 125 | 20 => 20 | 213 => 139 | 232 => 149 | 233 => 150 | 80 => 100 | n => n, fun | 15 => 3 | 16 => 4 | 17 => 2 | 18 => 5 | 19 => 6 | n => n⟩
theorem sh_laysC174 : Go.Proofs.LaysC.n174 Tryd.prog sh_laysC174_ren := {
  mixed := by kernel_rfl
  f129 := Tryd.func82.trans (congrArg some (by kernel_rfl))
  f171 := Tryd.func46.trans (congrArg some (by kernel_rfl))
  f174 := Tryd.func56.trans (congrArg some (by kernel_rfl))
  f205 := Tryd.func89.trans (congrArg some (by kernel_rfl))
  f243 := Tryd.func60.trans (congrArg some (by kernel_rfl))
  f245 := Tryd.func68.trans (congrArg some (by kernel_rfl))
  f246 := Tryd.func66.trans (congrArg some (by kernel_rfl))
  f247 := Tryd.func67.trans (congrArg some (by kernel_rfl))
  f279 := Tryd.func77.trans (congrArg some (by kernel_rfl))
  f280 := Tryd.func78.trans (congrArg some (by kernel_rfl))
  f281 := Tryd.func79.trans (congrArg some (by kernel_rfl))
  f282 := Tryd.func80.trans (congrArg some (by kernel_rfl))
  f283 := Tryd.func72.trans (congrArg some (by kernel_rfl))
  f284 := Tryd.func73.trans (congrArg some (by kernel_rfl))
  f285 := Tryd.func74.trans (congrArg some (by kernel_rfl))
  f286 := Tryd.func75.trans (congrArg some (by kernel_rfl))
  f287 := Tryd.func76.trans (congrArg some (by kernel_rfl))
  f316 := Tryd.func88.trans (congrArg some (by kernel_rfl))
  f317 := Tryd.func81.trans (congrArg some (by kernel_rfl))
  f318 := Tryd.func83.trans (congrArg some (by kernel_rfl))
  f319 := Tryd.func84.trans (congrArg some (by kernel_rfl))
  f320 := Tryd.func85.trans (congrArg some (by kernel_rfl))
  f321 := Tryd.func86.trans (congrArg some (by kernel_rfl))
  f322 := Tryd.func87.trans (congrArg some (by kernel_rfl))
  f337 := Tryd.func90.trans (congrArg some (by kernel_rfl))
  f338 := Tryd.func91.trans (congrArg some (by kernel_rfl))
  t0 := Tryd.underlying0
  a0 := Tryd.isAgg0
  z0 := Tryd.sizeOf0
  v0 := Tryd.zeroValue0
  t2 := Tryd.underlying2
  a2 := Tryd.isAgg2
  z2 := Tryd.sizeOf2
  v2 := Tryd.zeroValue2
  t3 := Tryd.underlying3
  a3 := Tryd.isAgg3
  z3 := Tryd.sizeOf3
  v3 := Tryd.zeroValue3
  t4 := Tryd.underlying4
  a4 := Tryd.isAgg4
  z4 := Tryd.sizeOf4
  v4 := Tryd.zeroValue4
  t5 := Tryd.underlying5
  a5 := Tryd.isAgg5
  z5 := Tryd.sizeOf5
  v5 := Tryd.zeroValue5
  t9 := Tryd.underlying9
  a9 := Tryd.isAgg9
  z9 := Tryd.sizeOf9
  v9 := Tryd.zeroValue9
  t20 := Tryd.underlying20
  a20 := Tryd.isAgg20
  z20 := Tryd.sizeOf20
  v20 := Tryd.zeroValue20
  t21 := Tryd.underlying21
  a21 := Tryd.isAgg21
  z21 := Tryd.sizeOf21
  v21 := Tryd.zeroValue21
  t37 := Tryd.underlying68
  a37 := Tryd.isAgg68
  z37 := Tryd.sizeOf68
  v37 := Tryd.zeroValue68
  t46 := Tryd.underlying117
  a46 := Tryd.isAgg117
  z46 := Tryd.sizeOf117
  v46 := Tryd.zeroValue117
  t51 := Tryd.underlying125
  a51 := Tryd.isAgg125
  z51 := Tryd.sizeOf125
  v51 := Tryd.zeroValue125
  t53 := Tryd.underlying108
  a53 := Tryd.isAgg108
  z53 := Tryd.sizeOf108
  v53 := Tryd.zeroValue108
  t75 := Tryd.underlying97
  a75 := Tryd.isAgg97
  z75 := Tryd.sizeOf97
  v75 := Tryd.zeroValue97
  t85 := Tryd.underlying106
  a85 := Tryd.isAgg106
  z85 := Tryd.sizeOf106
  v85 := Tryd.zeroValue106
  t127 := Tryd.underlying119
  a127 := Tryd.isAgg119
  z127 := Tryd.sizeOf119
  v127 := Tryd.zeroValue119
  t143 := Tryd.underlying146
  a143 := Tryd.isAgg146
  z143 := Tryd.sizeOf146
  v143 := Tryd.zeroValue146
  t145 := Tryd.underlying148
  a145 := Tryd.isAgg148
  z145 := Tryd.sizeOf148
  v145 := Tryd.zeroValue148
  t167 := Tryd.underlying131
  a167 := Tryd.isAgg131
  z167 := Tryd.sizeOf131
  v167 := Tryd.zeroValue131
  t168 := Tryd.underlying134
  a168 := Tryd.isAgg134
  z168 := Tryd.sizeOf134
  v168 := Tryd.zeroValue134
  t171 := Tryd.underlying126
  a171 := Tryd.isAgg126
  z171 := Tryd.sizeOf126
  v171 := Tryd.zeroValue126
  t173 := Tryd.underlying129
  a173 := Tryd.isAgg129
  z173 := Tryd.sizeOf129
  v173 := Tryd.zeroValue129
  t175 := Tryd.underlying132
  a175 := Tryd.isAgg132
  z175 := Tryd.sizeOf132
  v175 := Tryd.zeroValue132
  t210 := Tryd.underlying143
  a210 := Tryd.isAgg143
  z210 := Tryd.sizeOf143
  v210 := Tryd.zeroValue143
  t212 := Tryd.underlying138
  a212 := Tryd.isAgg138
  z212 := Tryd.sizeOf138
  v212 := Tryd.zeroValue138
  t213 := Tryd.underlying139
  a213 := Tryd.isAgg139
  z213 := Tryd.sizeOf139
  t232 := Tryd.underlying149
  a232 := Tryd.isAgg149
  z232 := Tryd.sizeOf149
  v232 := Tryd.zeroValue149
  t233 := Tryd.underlying150
  a233 := Tryd.isAgg150
  z233 := Tryd.sizeOf150
  v233 := Tryd.zeroValue150
  g15 := by kernel_rfl
  g16 := by kernel_rfl
  g17 := by kernel_rfl
  g18 := by kernel_rfl
  g19 := by kernel_rfl
  t80 := Tryd.underlying100
  a80 := Tryd.isAgg100
  z80 := Tryd.sizeOf100
  v80 := Tryd.zeroValue100
  i0 := by kernel_rfl
  i2 := by kernel_rfl
  i3 := by kernel_rfl
  i4 := by kernel_rfl
  i5 := by kernel_rfl
  i9 := by kernel_rfl
  i20 := by kernel_rfl
  i21 := by kernel_rfl
  i37 := by kernel_rfl
  i46 := by kernel_rfl
  i51 := by kernel_rfl
  i53 := by kernel_rfl
  i75 := by kernel_rfl
  i80 := by kernel_rfl
  i85 := by kernel_rfl
  i127 := by kernel_rfl
  i143 := by kernel_rfl
  i145 := by kernel_rfl
  i167 := by kernel_rfl
  i168 := by kernel_rfl
  i171 := by kernel_rfl
  i173 := by kernel_rfl
  i175 := by kernel_rfl
  i210 := by kernel_rfl
  i212 := by kernel_rfl
  i232 := by kernel_rfl
  i233 := by kernel_rfl
  m15 := by kernel_rfl
  m16 := by kernel_rfl
  m17 := by kernel_rfl
  m18 := by kernel_rfl
  m19 := by kernel_rfl
  c0 := by kernel_rfl
  c2 := by kernel_rfl
  c3 := by kernel_rfl
  c4 := by kernel_rfl
  c5 := by kernel_rfl
  c9 := by kernel_rfl
  c20 := by kernel_rfl
  c21 := by kernel_rfl
  c37 := by kernel_rfl
  c46 := by kernel_rfl
  c51 := by kernel_rfl
  c53 := by kernel_rfl
  c75 := by kernel_rfl
  c80 := by kernel_rfl
  c85 := by kernel_rfl
  c127 := by kernel_rfl
  c143 := by kernel_rfl
  c145 := by kernel_rfl
  c167 := by kernel_rfl
  c168 := by kernel_rfl
  c171 := by kernel_rfl
  c173 := by kernel_rfl
  c175 := by kernel_rfl
  c210 := by kernel_rfl
  c212 := by kernel_rfl
  c213 := by kernel_rfl
  c232 := by kernel_rfl
  c233 := by kernel_rfl }
def sh_laysM171_ren : Go.Shelf.Ren := ⟨fun | 171 => 46 | 243 => 60 | 246 => 66 | 283 => 72 | 284 => 73 | 285 => 74 | 286 => 75 | 129 => 82 | 317 => 81 | 318 => 83 | 319 => 84 | 320 => 85 | 337 => 90 | 338 => 91 | n => n, fun | 3 => 3 | 9 => 9 | 2 => 2 | 4 => 4 | 171 => 126 | 0 => 0 | 53 => 108 | 37 => 68 | 5 => 5 | 173 => 129 | 212 => 138 | 51 => 125 | 20 => 20 | 213 => 139 | 46 => 117 | 232 => 149 | 233 => 150 | n => n, fun | 17 => 2 | 18 => 5 | 19 => 6 | n => n⟩
theorem sh_laysM171 : Go.Proofs.LaysM.n171 Tryd.prog sh_laysM171_ren := {
  mixed := by kernel_rfl
  f129 := Tryd.func82.trans (congrArg some (by kernel_rfl))
  f171 := Tryd.func46.trans (congrArg some (by kernel_rfl))
  f243 := Tryd.func60.trans (congrArg some (by kernel_rfl))
  f246 := Tryd.func66.trans (congrArg some (by kernel_rfl))
  f283 := Tryd.func72.trans (congrArg some (by kernel_rfl))
  f284 := Tryd.func73.trans (congrArg some (by kernel_rfl))
  f285 := Tryd.func74.trans (congrArg some (by kernel_rfl))
  f286 := Tryd.func75.trans (congrArg some (by kernel_rfl))
  f317 := Tryd.func81.trans (congrArg some (by kernel_rfl))
  f318 := Tryd.func83.trans (congrArg some (by kernel_rfl))
  f319 := Tryd.func84.trans (congrArg some (by kernel_rfl))
  f320 := Tryd.func85.trans (congrArg some (by kernel_rfl))
  f337 := Tryd.func90.trans (congrArg some (by kernel_rfl))
  f338 := Tryd.func91.trans (congrArg some (by kernel_rfl))
  t0 := Tryd.underlying0
  a0 := Tryd.isAgg0
  z0 := Tryd.sizeOf0
  v0 := Tryd.zeroValue0
  t2 := Tryd.underlying2
  a2 := Tryd.isAgg2
  z2 := Tryd.sizeOf2
  v2 := Tryd.zeroValue2
  t3 := Tryd.underlying3
  a3 := Tryd.isAgg3
  z3 := Tryd.sizeOf3
  v3 := Tryd.zeroValue3
  t4 := Tryd.underlying4
  a4 := Tryd.isAgg4
  z4 := Tryd.sizeOf4
  v4 := Tryd.zeroValue4
  t5 := Tryd.underlying5
  a5 := Tryd.isAgg5
  z5 := Tryd.sizeOf5
  v5 := Tryd.zeroValue5
  t9 := Tryd.underlying9
  a9 := Tryd.isAgg9
  z9 := Tryd.sizeOf9
  v9 := Tryd.zeroValue9
  t20 := Tryd.underlying20
  a20 := Tryd.isAgg20
  z20 := Tryd.sizeOf20
  v20 := Tryd.zeroValue20
  t37 := Tryd.underlying68
  a37 := Tryd.isAgg68
  z37 := Tryd.sizeOf68
  v37 := Tryd.zeroValue68
  t46 := Tryd.underlying117
  a46 := Tryd.isAgg117
  z46 := Tryd.sizeOf117
  v46 := Tryd.zeroValue117
  t51 := Tryd.underlying125
  a51 := Tryd.isAgg125
  z51 := Tryd.sizeOf125
  v51 := Tryd.zeroValue125
  t53 := Tryd.underlying108
  a53 := Tryd.isAgg108
  z53 := Tryd.sizeOf108
  v53 := Tryd.zeroValue108
  t171 := Tryd.underlying126
  a171 := Tryd.isAgg126
  z171 := Tryd.sizeOf126
  v171 := Tryd.zeroValue126
  t173 := Tryd.underlying129
  a173 := Tryd.isAgg129
  z173 := Tryd.sizeOf129
  v173 := Tryd.zeroValue129
  t212 := Tryd.underlying138
  a212 := Tryd.isAgg138
  z212 := Tryd.sizeOf138
  v212 := Tryd.zeroValue138
  t213 := Tryd.underlying139
  a213 := Tryd.isAgg139
  z213 := Tryd.sizeOf139
  t232 := Tryd.underlying149
  a232 := Tryd.isAgg149
  z232 := Tryd.sizeOf149
  v232 := Tryd.zeroValue149
  t233 := Tryd.underlying150
  a233 := Tryd.isAgg150
  z233 := Tryd.sizeOf150
  v233 := Tryd.zeroValue150
  g17 := by kernel_rfl
  g18 := by kernel_rfl
  g19 := by kernel_rfl
  i0 := by kernel_rfl
  i2 := by kernel_rfl
  i3 := by kernel_rfl
  i4 := by kernel_rfl
  i5 := by kernel_rfl
  i9 := by kernel_rfl
  i20 := by kernel_rfl
  i37 := by kernel_rfl
  i46 := by kernel_rfl
  i51 := by kernel_rfl
  i53 := by kernel_rfl
  i171 := by kernel_rfl
  i173 := by kernel_rfl
  i212 := by kernel_rfl
  i232 := by kernel_rfl
  i233 := by kernel_rfl
  m17 := by kernel_rfl
  m18 := by kernel_rfl
  m19 := by kernel_rfl }
def sh_lays121_ren : Go.Shelf.Ren := ⟨fun | 121 => 54 | 214 => 65 | n => n, fun | 4 => 4 | 9 => 9 | n => n, fun | n => n⟩
theorem sh_lays121 : Go.Proofs.Lays.n121 Tryd.prog sh_lays121_ren := {
  mixed := by kernel_rfl
  f121 := Tryd.func54.trans (congrArg some (by kernel_rfl))
  f214 := Tryd.func65.trans (congrArg some (by kernel_rfl))
  t4 := Tryd.underlying4
  a4 := Tryd.isAgg4
  z4 := Tryd.sizeOf4
  v4 := Tryd.zeroValue4
  t9 := Tryd.underlying9
  a9 := Tryd.isAgg9
  z9 := Tryd.sizeOf9
  v9 := Tryd.zeroValue9 }
def sh_lays196_ren : Go.Shelf.Ren := ⟨fun | 196 => 47 | 259 => 61 | n => n, fun | 9 => 9 | 4 => 4 | 3 => 3 | 5 => 5 | 12 => 12 | 119 => 113 | 0 => 0 | 46 => 117 | 139 => 116 | 138 => 115 | 53 => 108 | n => n, fun | 3 => 0 | 4 => 1 | n => n⟩
theorem sh_lays196 : Go.Proofs.Lays.n196 Tryd.prog sh_lays196_ren := {
  mixed := by kernel_rfl
  f196 := Tryd.func47.trans (congrArg some (by kernel_rfl))
  f259 := Tryd.func61.trans (congrArg some (by kernel_rfl))
  t0 := Tryd.underlying0
  a0 := Tryd.isAgg0
  z0 := Tryd.sizeOf0
  v0 := Tryd.zeroValue0
  t3 := Tryd.underlying3
  a3 := Tryd.isAgg3
  z3 := Tryd.sizeOf3
  v3 := Tryd.zeroValue3
  t4 := Tryd.underlying4
  a4 := Tryd.isAgg4
  z4 := Tryd.sizeOf4
  v4 := Tryd.zeroValue4
  t5 := Tryd.underlying5
  a5 := Tryd.isAgg5
  z5 := Tryd.sizeOf5
  v5 := Tryd.zeroValue5
  t9 := Tryd.underlying9
  a9 := Tryd.isAgg9
  z9 := Tryd.sizeOf9
  v9 := Tryd.zeroValue9
  t12 := Tryd.underlying12
  a12 := Tryd.isAgg12
  z12 := Tryd.sizeOf12
  v12 := Tryd.zeroValue12
  t46 := Tryd.underlying117
  a46 := Tryd.isAgg117
  z46 := Tryd.sizeOf117
  v46 := Tryd.zeroValue117
  t53 := Tryd.underlying108
  a53 := Tryd.isAgg108
  z53 := Tryd.sizeOf108
  v53 := Tryd.zeroValue108
  t119 := Tryd.underlying113
  a119 := Tryd.isAgg113
  z119 := Tryd.sizeOf113
  t138 := Tryd.underlying115
  a138 := Tryd.isAgg115
  z138 := Tryd.sizeOf115
  v138 := Tryd.zeroValue115
  t139 := Tryd.underlying116
  a139 := Tryd.isAgg116
  z139 := Tryd.sizeOf116
  v139 := Tryd.zeroValue116
  g3 := by kernel_rfl
  g4 := by kernel_rfl }
theorem sh_Builder_Extra_169 : Builder.Extra Tryd.prog sh_lays169_ren := {
  sizeBuilder := by kernel_rfl
  liesBuilder := by kernel_rfl
  t5 := Tryd.underlying5
  a5 := Tryd.isAgg5
  z5 := Tryd.sizeOf5
  v5 := Tryd.zeroValue5
  infoByte := by kernel_rfl
  cellsByte := by kernel_rfl
  sizeByte := by kernel_rfl
  neB5 := by decide }
open Go.RowKit in
theorem sh_Builder_String_any_k (B b : Nat) (l : List UInt8) (w : World) (h : Lib.IsBuilderF 95 5 B b (Lib.byteCells l) w) (hBw : B ≤ w.heap.size) :
    Calls Tryd.prog 49 #[.pointer (some ⟨b, 0, none⟩)] w fun e w' => e = .returned (.string ⟨l.toArray⟩) ∧ (Lib.IsBuilderF 95 5 B b (Lib.byteCells l) w' ∧ Below B w w' ∧ Lib.OthersKept 5 (some b) w w') := Any.Builder_String_any_k sh_lays169 sh_Builder_Extra_169 B b l w h hBw
open Go.RowKit Go.Sort Go.Lib in
theorem sh_strconv_FormatInt_10 (n : Int) (h0 : -9223372036854775808 ≤ n) (h1 : n ≤ 9223372036854775807) (w : World) (htab : Lib.TabIs Tryd.prog w "internal/strconv.uint64pow10" .u64 Lib.pow10Tab) :
    Calls Tryd.prog 55 #[.int .i64 n, .int .i64 10] w fun e w' => e = .returned (.string ⟨(Lib.itoa n).toArray⟩) ∧ ∃ k os, w' = grow (w.drewN k) os := Any.strconv_FormatInt_10 sh_laysM173 n h0 h1 w htab
open Go.RowKit in
theorem sh_strconv_ParseInt_10_at64_ok (s : ByteArray) (hmax : s.size ≤ 9223372036854775806) (v : Int) (h : Lib.parseIntB 64 s.data.toList = .ok v) (w : World) :
    Calls Tryd.prog 56 #[.string s, .int .i64 10, .int .i64 64] w fun e w' => e = .returned (.tuple #[.int .i64 v, .nilIface]) ∧ (w' = w ∨ ∃ t, w' = Lib.bytesWorld w 5 t) := Any.strconv_ParseInt_10_at64_ok sh_laysC174 s hmax v h w
open Go.RowKit in
theorem sh_strconv_ParseInt_10_at64_syntax_var (s : ByteArray) (hlim : s.size ≤ 281474976710656) (h : Lib.parseIntB 64 s.data.toList = .«syntax») (tp : TypeId) (p : Value) (w : World) (hvar : w.var? Tryd.prog "strconv.ErrSyntax" = some #[.iface tp p]) :
    Calls Tryd.prog 56 #[.string s, .int .i64 10, .int .i64 64] w fun e w' => ∃ N, e = .returned (.tuple #[.int .i64 (0), .iface 134 (.pointer (some ⟨N, 0, none⟩))]) ∧ w.heap.size ≤ N ∧ w'.heap[N]? = some (.cells #[.string ⟨#[80, 97, 114, 115, 101, 73, 110, 116]⟩, .string s, .iface tp p] 143 (0, 0)) ∧ Below w.heap.size w w' := Any.strconv_ParseInt_10_at64_syntax_var sh_laysC174 s hlim h tp p w hvar
open Go.RowKit in
theorem sh_strconv_ParseInt_10_at64_range_var (s : ByteArray) (hlim : s.size ≤ 281474976710656) (h : Lib.parseIntB 64 s.data.toList = .range) (tp : TypeId) (p : Value) (w : World) (hvar : w.var? Tryd.prog "strconv.ErrRange" = some #[.iface tp p]) :
    Calls Tryd.prog 56 #[.string s, .int .i64 10, .int .i64 64] w fun e w' => ∃ N, e = .returned (.tuple #[.int .i64 (Lib.intSat 64 s.data.toList), .iface 134 (.pointer (some ⟨N, 0, none⟩))]) ∧ w.heap.size ≤ N ∧ w'.heap[N]? = some (.cells #[.string ⟨#[80, 97, 114, 115, 101, 73, 110, 116]⟩, .string s, .iface tp p] 143 (0, 0)) ∧ Below w.heap.size w w' := Any.strconv_ParseInt_10_at64_range_var sh_laysC174 s hlim h tp p w hvar
open Go.RowKit Go.Sort Go.Lib in
theorem sh_strconv_Itoa (n : Int) (h0 : -9223372036854775808 ≤ n) (h1 : n ≤ 9223372036854775807) (w : World) (htab : Lib.TabIs Tryd.prog w "internal/strconv.uint64pow10" .u64 Lib.pow10Tab) :
    Calls Tryd.prog 46 #[.int .i64 n] w fun e w' => e = .returned (.string ⟨(Lib.itoa n).toArray⟩) ∧ ∃ k os, w' = grow (w.drewN k) os := Any.strconv_Itoa sh_laysM171 n h0 h1 w htab
open Go.RowKit in
theorem sh_strconv_FormatBool (b : Bool) (w : World) :
    Calls Tryd.prog 54 #[.bool b] w fun e w' => e = .returned (.string ⟨(Lib.formatBool b).toArray⟩) ∧ w' = w := Any.strconv_FormatBool sh_lays121 b w
end Go.Proofs.YtjianickjahdnaaDoor
namespace Go.Proofs.YtjianickjahdnaaDoor
open Go.RowKit
set_option linter.unusedVariables false
set_option linter.unusedSimpArgs false

/-- What the library's variables hold: the powers of ten, the errors of strconv. -/
structure Tabs (w : World) : Prop where
  pow : Lib.TabIs Tryd.prog w "internal/strconv.uint64pow10" .u64 Lib.pow10Tab
  syn : ∃ tp p, w.var? Tryd.prog "strconv.ErrSyntax" = some #[.iface tp p]
  rng : ∃ tp p, w.var? Tryd.prog "strconv.ErrRange" = some #[.iface tp p]
theorem var_still {P : Program} {w w' : World} {n : String} {cs : Array Value} (h : w.var? P n = some cs) (hc : Chg (fun _ => False) w w') : w'.var? P n = some cs := by
  unfold World.var? at h ⊢
  cases hg : P.globalNamed n with
  | none => rw [hg] at h; simp at h
  | some g =>
    rw [hg] at h
    simp only [Option.bind_some] at h ⊢
    cases hb : w.heap[g]? with
    | none => rw [hb] at h; simp at h
    | some o => rw [hc.keep hb (fun x => x)]; rw [hb] at h; exact h
theorem Tabs.still {w w' : World} (h : Tabs w) (hc : Chg (fun _ => False) w w') : Tabs w' := by
  obtain ⟨t1, p1, h1⟩ := h.syn
  obtain ⟨t2, p2, h2⟩ := h.rng
  exact ⟨var_still h.pow hc, ⟨t1, p1, var_still h1 hc⟩, ⟨t2, p2, var_still h2 hc⟩⟩
theorem chg_of_below {w w' : World} (h : Below w.heap.size w w') : Chg (fun _ => False) w w' := ⟨h.os, h.tape, h.output, h.size, fun k hk _ => h.block k hk⟩
theorem chg_grow (w : World) (k : Nat) (os : Array _root_.Go.Obj) : Chg (fun _ => False) w (Sort.grow (w.drewN k) os) :=
  ⟨rfl, rfl, rfl, by simp [Sort.grow], fun j hj _ => by
    show ((w.drewN k).heap ++ os)[j]? = w.heap[j]?
    have e : (w.drewN k).heap = w.heap := rfl
    rw [e, Array.getElem?_append_left hj]⟩
/-- The number with a decimal text. -/
def numM (s : ByteArray) : Option Int :=
  match Lib.parseIntB 64 s.data.toList with
  | .ok v => if Lib.itoa v = s.data.toList then some v else none
  | _ => none
theorem parse_in {l : List UInt8} {v : Int} (h : Lib.parseIntB 64 l = .ok v) : -9223372036854775808 ≤ v ∧ v ≤ 9223372036854775807 := by
  unfold Lib.parseIntB at h
  split at h
  · cases h
  · simp only at h
    split at h
    · cases h
    · cases h
    · rename_i u _
      split at h
      · cases h
      · split at h
        · cases h
        · rename_i h1 h2
          simp only [Lib.NumEnd.ok.injEq] at h
          have e63 : (2 : Nat) ^ (64 - 1) = 9223372036854775808 := by decide
          rw [e63] at h1 h2
          split at h
          · rename_i hn
            have : ¬ 9223372036854775808 < u := fun x => h2 ⟨hn, x⟩
            omega
          · rename_i hn
            have : ¬ 9223372036854775808 ≤ u := fun x => h1 ⟨hn, x⟩
            omega
theorem fmt_any (v : Int) (w : World) (h0 : -9223372036854775808 ≤ v ∧ v ≤ 9223372036854775807) (HT : Tabs w) :
    Calls Tryd.prog 55 #[.int .i64 v, .int .i64 10] w fun e w' => e = .returned (.string ⟨(Lib.itoa v).toArray⟩) ∧ Chg (fun _ => False) w w' :=
  (sh_strconv_FormatInt_10 v h0.1 h0.2 w HT.pow).mono fun e w' ⟨he, k, os, hw⟩ => ⟨he, by rw [hw]; exact chg_grow w k os⟩
theorem str_eq_list {l : List UInt8} {s : ByteArray} : (⟨l.toArray⟩ : ByteArray) = s ↔ l = s.data.toList := by
  constructor
  · intro h; rw [← h]
  · intro h; rw [h]
theorem toList_inj {a b : ByteArray} (h : a.toList = b.toList) : a = b := by
  have ha : ∀ x : ByteArray, x.toList = x.data.toList := fun x => ByteArray.toList_eq x
  rw [ha, ha] at h
  cases a; cases b
  simp at h ⊢
  exact h
set_option maxHeartbeats 1600000 in
set_option maxRecDepth 100000 in
theorem number_any (s : ByteArray) (w : World) (hs : s.size ≤ 1000000) (HT : Tabs w) :
    Calls Tryd.prog 41 #[.string s] w fun e w' => e = .returned (match numM s with | some v => .tuple #[.int .i64 v, .int .i64 0] | none => .tuple #[.int .i64 0, .int .i64 6]) ∧ Chg (fun _ => False) w w' := by
  have HTT := Lib.hid HT
  have HS := Lib.hid hs
  cases hp : Lib.parseIntB 64 s.data.toList with
  | ok v =>
    have hin := parse_in hp
    have HP := Lib.hid (sh_strconv_ParseInt_10_at64_ok s (by omega) v hp w)
    have HF := Lib.hid (fun (W : World) (h : Tabs W) => fmt_any v W hin h)
    have hp' := hp
    clear hp hin HT hs
    by_cases he : Lib.itoa v = s.data.toList
    · have hm : numM s = some v := by unfold numM; rw [hp']; exact if_pos he
      rw [hm]
      clear hm hp'
      have heq : (⟨(Lib.itoa v).toArray⟩ : ByteArray) = s := str_eq_list.2 he
      have HE := Lib.hid he
      rw [heq] at HF
      clear he heq
      have ne : (s.toList != s.toList) = false := by simp
      go_enter Tryd.func41, Tryd.ntmps41
      go_upto_region 2 with (go_at_call 56; refine HP.out.mono ?_; rintro e wp ⟨rfl, hwp⟩)
      have HCP : Hid (Chg (fun _ => False) w wp) := Lib.hid (by
        rcases hwp with rfl | ⟨t, rfl⟩
        · exact Chg.refl _ _
        · exact chg_of_below (Joins.below_bytesWorld _ _ _ _ (Nat.le_refl _)))
      clear hwp
      go_wp2_with (go_at_call 55; refine (HF.out _ (HTT.out.still HCP.out)).mono ?_; rintro e wf ⟨rfl, hcf⟩)
      go_ret2
      exact ⟨rfl, HCP.out.trans' hcf⟩
    · have hm : numM s = none := by unfold numM; rw [hp']; exact if_neg he
      rw [hm]
      clear hm hp'
      have hne : ¬ (⟨(Lib.itoa v).toArray⟩ : ByteArray) = s := fun x => he (str_eq_list.1 x)
      have HE := Lib.hid he
      generalize (⟨(Lib.itoa v).toArray⟩ : ByteArray) = t at *
      have ne : (t.toList != s.toList) = true := bne_iff_ne.2 (fun x => hne (toList_inj x))
      have ne2 : (t.toList == s.toList) = false := beq_false_of_ne (fun x => hne (toList_inj x))
      have ne3 : ¬ t.toList = s.toList := fun x => hne (toList_inj x)
      clear he hne
      go_enter Tryd.func41, Tryd.ntmps41
      go_upto_region 2 with (go_at_call 56; refine HP.out.mono ?_; rintro e wp ⟨rfl, hwp⟩)
      have HCP : Hid (Chg (fun _ => False) w wp) := Lib.hid (by
        rcases hwp with rfl | ⟨t, rfl⟩
        · exact Chg.refl _ _
        · exact chg_of_below (Joins.below_bytesWorld _ _ _ _ (Nat.le_refl _)))
      clear hwp
      go_wp2_with (go_at_call 55; refine (HF.out _ (HTT.out.still HCP.out)).mono ?_; rintro e wf ⟨rfl, hcf⟩)
      go_ret2
      exact ⟨rfl, HCP.out.trans' hcf⟩
  | «syntax» =>
    have hm : numM s = none := by unfold numM; rw [hp]
    rw [hm]
    clear hm
    obtain ⟨tp, p, hv⟩ := HT.syn
    have HP := Lib.hid (sh_strconv_ParseInt_10_at64_syntax_var s (by omega) hp tp p w hv)
    clear hp hv HT hs
    go_enter Tryd.func41, Tryd.ntmps41
    go_wp2_with (go_at_call 56; refine HP.out.mono ?_; rintro e wp ⟨NN, rfl, -, -, hb⟩; have HCP := Lib.hid (chg_of_below hb); clear hb)
    go_ret2
    exact ⟨rfl, HCP.out⟩
  | range =>
    have hm : numM s = none := by unfold numM; rw [hp]
    rw [hm]
    clear hm
    obtain ⟨tp, p, hv⟩ := HT.rng
    have HP := Lib.hid (sh_strconv_ParseInt_10_at64_range_var s (by omega) hp tp p w hv)
    clear hp hv HT hs
    generalize Lib.intSat 64 s.data.toList = sat at *
    go_enter Tryd.func41, Tryd.ntmps41
    go_wp2_with (go_at_call 56; refine HP.out.mono ?_; rintro e wp ⟨NN, rfl, -, -, hb⟩; have HCP := Lib.hid (chg_of_below hb); clear hb)
    go_ret2
    exact ⟨rfl, HCP.out⟩
/-- The index that a key denotes, or -1. -/
def posM (s : ByteArray) : Int := match numM s with
  | some v => if 0 ≤ v ∧ v < 10000 then v else -1
  | none => -1
set_option maxHeartbeats 1600000 in
set_option maxRecDepth 100000 in
theorem position_any (s : ByteArray) (w : World) (hs : s.size ≤ 1000000) (HT : Tabs w) :
    Calls Tryd.prog 21 #[.string s] w fun e w' => e = .returned (.int .i64 (posM s)) ∧ Chg (fun _ => False) w w' := by
  have hn := number_any s w hs HT
  cases hm : numM s with
  | none =>
    have hq : posM s = -1 := by unfold posM; rw [hm]
    rw [hq]
    clear hq
    rw [hm] at hn
    have HN := Lib.hid hn
    clear hn hm HT
    go_enter Tryd.func21, Tryd.ntmps21
    go_wp2_with (go_at_call 41; refine HN.out.mono ?_; rintro e wp ⟨rfl, hcp⟩)
    go_ret
    exact ⟨rfl, hcp⟩
  | some v =>
    have hq : posM s = if 0 ≤ v ∧ v < 10000 then v else -1 := by unfold posM; rw [hm]
    rw [hq]
    clear hq
    rw [hm] at hn
    have HN := Lib.hid hn
    clear hn hm HT
    by_cases h0 : 0 ≤ v
    · by_cases h1 : v < 10000
      · rw [if_pos ⟨h0, h1⟩]
        go_enter Tryd.func21, Tryd.ntmps21
        go_wp2_with (go_at_call 41; refine HN.out.mono ?_; rintro e wp ⟨rfl, hcp⟩)
        go_ret
        exact ⟨rfl, hcp⟩
      · rw [if_neg (fun x => h1 x.2)]
        go_enter Tryd.func21, Tryd.ntmps21
        go_wp2_with (go_at_call 41; refine HN.out.mono ?_; rintro e wp ⟨rfl, hcp⟩)
        go_ret
        exact ⟨rfl, hcp⟩
    · rw [if_neg (fun x => h0 x.1)]
      go_enter Tryd.func21, Tryd.ntmps21
      go_wp2_with (go_at_call 41; refine HN.out.mono ?_; rintro e wp ⟨rfl, hcp⟩)
      go_ret
      exact ⟨rfl, hcp⟩
end Go.Proofs.YtjianickjahdnaaDoor
namespace Go.Proofs.YtjianickjahdnaaDoor
open Go.RowKit
set_option linter.unusedVariables false
set_option linter.unusedSimpArgs false

theorem ownL_nodup (v : Value) : (ownL v).Nodup := by
  unfold ownL
  cases v.ownBlock <;> simp
section
variable {α β : Type} {A : Rep α} {w : World} {b o k : Nat} {a : α} {F : List Nat} {e : TypeId}
/-- A row of flat data in a field: its value, and what lies there when another row has been stored. -/
theorem Here.fieldFlat {n : Nat} {f : β → List Value} {hf : ∀ a, (f a).length = n} {get : α → List β} {set : α → List β → α} (fl : FieldOf A ((Rep.flat n f hf).row e) k get set) (hA : 0 < A.n) (H : Here A w b o a F) :
    ∃ v, w.cell? ⟨b, o + k, none⟩ = some v ∧ RowAt w e n v (get a).length ((get a).flatMap f) ∧ (∀ j, v.ownBlock = some j → j ∈ F) ∧ ¬ v.ownBlock = some b ∧
      ∀ w2 v2 l, Chg (fun j => v.ownBlock = some j) w w2 → RowAt w2 e n v2 l.length (l.flatMap f) → (∀ j, v2.ownBlock = some j → v.ownBlock = some j ∨ w.heap.size ≤ j) →
        Post A w b o (set a l) F (w2.setCell ⟨b, o + k, none⟩ v2) := by
  obtain ⟨G1, h1, h2, h3⟩ := H.field fl hA
  obtain ⟨cs, hown, hcell⟩ := h1.cell
  obtain ⟨v, rfl, hr, rfl⟩ := row_flat.1 hown
  refine ⟨v, hcell 0 v rfl, hr, fun j hj => h2 j (mem_ownL.2 hj), fun hj => h1.nb (mem_ownL.2 hj), fun w2 v2 l hc hr2 hn => ?_⟩
  obtain ⟨p, q⟩ := h1.put (w2 := w2) (v := v2) (y := l) (G' := ownL v2) rfl (hc.mono fun j _ hj => mem_ownL.2 hj) (row_flat.2 ⟨v2, rfl, hr2, rfl⟩) (ownL_nodup v2) (fun j hj => (hn j (mem_ownL.1 hj)).imp mem_ownL.2 id)
  exact h3 _ _ _ p q
end
/-- append(x, make([]T, m)...): zeros onto an owned row. -/
theorem run_append_zeros {P : Program} (w : World) (t tx ty e : TypeId) (i : TypeInfo) (z : Value) (size bytes : Nat) (kx : IntKind) (ht : P.underlying t = some (.slice e)) (hk : P.underlying tx = some (.int kx)) (hi : P.info? e = some i) (hz : i.zero = some z)
    (hsize : i.size = size) (hby : i.bytes = bytes) (hzs : z.cells.size = size) (hsz : 0 < size) (h1 : ∀ u ∈ z.cells.toList, u.oneCell' = true)
    (v : Value) (n : Nat) (xs : List Value) (hown : RowAt w e size v n xs) (m : Nat) (h63 : n + m ≤ 4611686018427387904) (hbytes : (n + m) * bytes ≤ 140737488355328) :
    ∃ v' w', (Builtin.append_ #[t, tx] ty #[v, .int kx (m : Int)]).run P w = .ok v' w' ∧ RowAt w' e size v' (n + m) (xs ++ (Builtin.zeroCells z.cells m).toList) ∧ Chg (fun k => v.ownBlock = some k) w w' ∧
      (∀ k, v'.ownBlock = some k → v.ownBlock = some k ∨ w.heap.size ≤ k) := by
  subst hsize
  subst hby
  have wm : IntKind.i64.wrap (m : Int) = (m : Int) := IntWalk.i64_in _ (by omega)
  have m0 : ¬ (m : Int) < 0 := by omega
  have hai : ∀ (n : Int) (w' : World), (asIntOf (Value.int kx n)).run P w' = .ok (kx, n) w' := fun _ _ => rfl
  have mb : ¬ (281474976710656 < (m : Int) * (i.bytes : Int)) := by
    have : m * i.bytes ≤ (n + m) * i.bytes := Nat.mul_le_mul_right _ (by omega)
    have h2 : ((m * i.bytes : Nat) : Int) = (m : Int) * (i.bytes : Int) := by simp
    omega
  have hzl : (Builtin.zeroCells z.cells m).toList.length = m * i.size := by
    rw [Array.length_toList, size_zeroCells, hzs]
  have hap : (if m * i.size = 0 then (#[] : Array Value) else Builtin.zeroCells z.cells m) = Builtin.zeroCells z.cells m := by
    split
    · rename_i h
      have : (Builtin.zeroCells z.cells m).size = 0 := by rw [← Array.length_toList, hzl, h]
      exact (Array.eq_empty_of_size_eq_zero this).symm
    · rfl
  have hone : ∀ u ∈ (Builtin.zeroCells z.cells m).toList, u.oneCell' = true := by
    intro u hu
    unfold Builtin.zeroCells at hu
    rw [Array.toList_map, List.mem_map] at hu
    obtain ⟨j, -, rfl⟩ := hu
    have hj : j % z.cells.size < z.cells.size := Nat.mod_lt _ (by omega)
    rw [getElem!_pos z.cells (j % z.cells.size) hj]
    exact h1 _ (Array.getElem_mem_toList hj)
  have hlen : (xs ++ (Builtin.zeroCells z.cells m).toList).length = (n + m) * i.size := by rw [List.length_append, hown.1, hzl, Nat.add_mul]
  have hmaxl : n + m ≤ maxLen := by unfold maxLen; omega
  have grow : ∀ (base : Option Addr) (cap : Nat), v = .slice base n cap → cap < n + m → (Builtin.firstCells i.size n (.slice base n cap)).run P w.drew = .ok xs.toArray w.drew →
      ∃ v' w', (Builtin.append_ #[t, tx] ty #[v, .int kx (m : Int)]).run P w = .ok v' w' ∧ RowAt w' e i.size v' (n + m) (xs ++ (Builtin.zeroCells z.cells m).toList) ∧ Chg (fun k => v.ownBlock = some k) w w' ∧
      (∀ k, v'.ownBlock = some k → v.ownBlock = some k ∨ w.heap.size ≤ k) := by
    intro base cap hv hcap hold
    have hfit := growslice_fits hcap hbytes
    have hn : ¬ (n + m ≤ cap) := by omega
    have h63' : ¬ (9223372036854775807 < ((n : Int) + (m : Int))) := by omega
    have h48' : ¬ (281474976710656 < Builtin.nextslicecap (n + m) cap * i.bytes) := by omega
    have hge := grownCap_ge w (n + m) cap e
    have hcm : grownCap w (n + m) cap e ≤ maxLen := grownCap_le_maxLen w (n + m) cap e hmaxl
    have hr : (Builtin.append_ #[t, tx] ty #[v, .int kx (m : Int)]).run P w =
      .ok (.slice (some ⟨w.heap.size, 0, none⟩) (n + m) (grownCap w (n + m) cap e))
        (w.drew.alloc (.cells ((xs ++ (Builtin.zeroCells z.cells m).toList).toArray ++ Builtin.zeroCells z.cells (grownCap w (n + m) cap e - (n + m))) e)) := by
      rw [hv]
      by_cases hm0 : m * i.size = 0
      · have hzz : Builtin.zeroCells z.cells m = #[] := by rw [← hap, if_pos hm0]
        simp [Builtin.append_, run_underlying ht, run_underlying hk, sizeOf, typeInfo, zeroValue, hi, hz, wm, m0, mb, hn, h63', h48', Question.forced, hold, newRow, grownCap, asInt, hai, hm0, hzz]
      · simp [Builtin.append_, run_underlying ht, run_underlying hk, sizeOf, typeInfo, zeroValue, hi, hz, wm, m0, mb, hn, h63', h48', Question.forced, hold, newRow, grownCap, asInt, hai, hm0]
        congr 2
        apply Array.ext'
        simp [List.append_assoc]
    refine ⟨_, _, hr, ⟨hlen, .inr ⟨w.heap.size, 0, _, _, rfl, heap_alloc_new w.drew _, hge, hcm, ?_, ?_⟩⟩, ?_, ?_⟩
    · simp only [Array.size_append, List.size_toArray, size_zeroCells, hzs, hlen, ← Nat.add_mul]
      rw [show n + m + (grownCap w (n + m) cap e - (n + m)) = grownCap w (n + m) cap e from by omega]
      omega
    · simp only [Array.toList_append, List.drop_zero]
      rw [← hlen]
      exact List.take_left
    · exact ((Chg.refl _ w).drewR).allocR _
    · intro k hk
      simp only [Value.ownBlock, Option.some.injEq] at hk
      exact .inr (by omega)
  rcases hown.2 with ⟨rfl, rfl⟩ | ⟨g, off, cap, cur, rfl, hg, hnc, hcm, hcs, htake⟩
  · have hx : xs = [] := List.eq_nil_of_length_eq_zero (by simpa using hown.1)
    subst hx
    by_cases hm : m = 0
    · subst hm
      have hzz : Builtin.zeroCells z.cells 0 = #[] := by simp [Builtin.zeroCells]
      have w00 : IntKind.i64.wrap 0 = 0 := IntWalk.i64_in _ (by omega)
      refine ⟨.slice none 0 0, w, ?_, by rw [hzz]; exact RowAt.nil w e i.size, .refl _ _, fun k hk => .inl hk⟩
      simp [Builtin.append_, run_underlying ht, run_underlying hk, sizeOf, typeInfo, hi, asInt, hai, w00]
    · exact grow none 0 rfl (by omega) (run_firstCells_none w.drew i.size 0 0 0)
  · by_cases hroom : n + m ≤ cap
    · have hmul : n * i.size + m * i.size ≤ cap * i.size := by rw [← Nat.add_mul]; exact Nat.mul_le_mul_right _ hroom
      have hfit : off + n * i.size + (Builtin.zeroCells z.cells m).toList.length ≤ cur.size := by rw [hzl]; omega
      have hst := run_storeCells_cells (P := P) g (off + n * i.size) (Builtin.zeroCells z.cells m).toList 0 w (fun j hj => by rw [Nat.add_zero, cell_of_block hg (Array.getElem?_eq_getElem (by omega))]; rfl) (fun j _ => frozen_of_block hg) hone
      simp only [Nat.add_zero] at hst
      have hr : (Builtin.append_ #[t, tx] ty #[.slice (some ⟨g, off, none⟩) n cap, .int kx (m : Int)]).run P w = .ok (.slice (some ⟨g, off, none⟩) (n + m) cap) (w.setCells g (off + n * i.size) (Builtin.zeroCells z.cells m).toList) := by
        by_cases hm0 : m * i.size = 0
        · have hzz : Builtin.zeroCells z.cells m = #[] := by rw [← hap, if_pos hm0]
          rw [hzz] at hst
          simp [Builtin.append_, run_underlying ht, run_underlying hk, sizeOf, typeInfo, zeroValue, hi, hz, wm, m0, mb, hroom, asInt, hai, hm0, hzz, Addr.add_lit, hst]
        · simp [Builtin.append_, run_underlying ht, run_underlying hk, sizeOf, typeInfo, zeroValue, hi, hz, wm, m0, mb, hroom, asInt, hai, hm0, Addr.add_lit, hst]
      refine ⟨_, _, hr, ⟨hlen, .inr ⟨g, off, cap, _, rfl, setCells_block _ _ hg, hroom, hcm, ?_, ?_⟩⟩, ?_, fun k hk => .inl hk⟩
      · rw [putAt_size]; exact hcs
      · rw [putAt_toList _ _ _ hfit, List.append_assoc, List.drop_append_of_le_length (by simp; omega)]
        rw [← List.append_assoc, List.drop_take, show off + n * i.size - off = n * i.size from by omega, htake, ← hlen]
        exact List.take_left
      · exact (Chg.setCells _ w _).mono (fun k _ hk => by simp only [Value.ownBlock, hk])
    · refine grow (some ⟨g, off, none⟩) cap rfl (by omega) ?_
      refine run_firstCells_some w.drew i.size n ⟨g, off, none⟩ n cap xs hown.1 ?_
      intro j u hu
      have := hown.cells rfl j u hu
      simpa using this
/-- Inside a region that draws its order. -/
theorem step_append_zeros {P : Program} {w : World} {ops : Array Oper} {o : Oper} {a : Act} {K : Act → World → Prop} {Q : Exit → Act → World → Prop} {E : Prop} (hgd : o.guard = none) (s x : Operand) (t tx : TypeId)
    (ho : o.op = .call { callee := .builtin .append, args := #[s, x], argTypes := #[t, tx] })
    (e : TypeId) (i : TypeInfo) (z : Value) (size bytes : Nat) (kx : IntKind) (ht : P.underlying t = some (.slice e)) (hk : P.underlying tx = some (.int kx)) (hi : P.info? e = some i) (hz : i.zero = some z)
    (hsize : i.size = size) (hby : i.bytes = bytes) (hzs : z.cells.size = size) (hsz : 0 < size) (h1 : ∀ u ∈ z.cells.toList, u.oneCell' = true)
    (v : Value) (n : Nat) (xs : List Value) (hsv : a.eval s = v) (hown : RowAt w e size v n xs) (m : Nat) (hx : a.eval x = .int kx (m : Int)) (h63 : n + m ≤ 4611686018427387904) (hbytes : (n + m) * bytes ≤ 140737488355328)
    (h : ∀ a1 n1 c1 w', RowAt w' e size (.slice a1 n1 c1) (n + m) (xs ++ (Builtin.zeroCells z.cells m).toList) → Chg (fun k => v.ownBlock = some k) w w' → (∀ k, (Value.slice a1 n1 c1).ownBlock = some k → v.ownBlock = some k ∨ w.heap.size ≤ k) → K (a.put o.dst (.slice a1 n1 c1)) w') :
    if Region.wanted o (yielded ops a.tmps) = true then Oper.wp P o a w K Q else E := by
  have hw : Region.wanted o (yielded ops a.tmps) = true := by simp [Region.wanted, hgd]
  rw [if_pos hw]
  obtain ⟨v', w', hr, h2, h3, h4⟩ := run_append_zeros (P := P) w t tx o.type e i z size bytes kx ht hk hi hz hsize hby hzs hsz h1 v n xs hown m h63 hbytes
  obtain ⟨a1, c1, rfl, -⟩ := h2.slice
  unfold Oper.wp execOp
  simp only [ho, resolve, invoke, builtin, Sem.run_bind, Sem.run_pure, Result.andThen_ok, List.map_toArray, List.map_cons, List.map_nil, hsv, hx, hr]
  exact h _ _ _ w' h2 h3 h4
/-- The cells of m zeros. -/
theorem zeroCells_rep {z : Array Value} {cs : List Value} (h : z.toList = cs) (hp : 0 < cs.length) : ∀ m : Nat, (Builtin.zeroCells z m).toList = (List.replicate m cs).flatten := by
  have hz : z.size = cs.length := by rw [← h, Array.length_toList]
  have key : ∀ m, (Builtin.zeroCells z m).toList = (List.range (m * cs.length)).map fun i => cs.getD (i % cs.length) default := by
    intro m
    unfold Builtin.zeroCells
    rw [Array.toList_map, Array.toList_range, hz]
    refine List.map_congr_left fun i hi => ?_
    have hj : i % z.size < z.size := Nat.mod_lt _ (by omega)
    rw [← hz, getElem!_pos z (i % z.size) hj, List.getD_eq_getElem?_getD, ← h, List.getElem?_eq_getElem (by rw [Array.length_toList]; exact hj)]
    simp
  intro m
  rw [key]
  induction m with
  | zero => simp
  | succ m ih =>
    rw [List.replicate_succ', List.flatten_append, ← ih, Nat.add_mul, Nat.one_mul, List.range_add, List.map_append]
    congr 1
    rw [List.map_map]
    refine List.ext_getElem? fun i => ?_
    rw [List.getElem?_map]
    by_cases hi : i < cs.length
    · rw [List.getElem?_range hi]
      have e : (m * cs.length + i) % cs.length = i := by rw [Nat.mul_comm, Nat.mul_add_mod]; exact Nat.mod_eq_of_lt hi
      simp [e, hi]
    · rw [List.getElem?_eq_none (by simp; omega)]
      simp
      omega
end Go.Proofs.YtjianickjahdnaaDoor
namespace Go.Proofs.YtjianickjahdnaaDoor
open Go.RowKit
set_option linter.unusedVariables false
set_option linter.unusedSimpArgs false

theorem add_none4 (g off j q : Nat) : (⟨g, off + j, none⟩ : Addr).add q = ⟨g, off + (j + q), none⟩ := by
  rw [← Nat.add_assoc]; unfold Addr.add; split <;> simp_all
/-- The zero of an element's type, its cells. -/
def ElemZ (P : Program) (e : TypeId) (size bytes : Nat) (cs : List Value) : Prop := ∃ i z, P.info? e = some i ∧ i.zero = some z ∧ i.size = size ∧ i.bytes = bytes ∧ z.cells.size = size ∧ z.cells.toList = cs
theorem elemZ_of {P : Program} {e : TypeId} {size bytes : Nat} {cs : List Value} (h : (P.info? e).map (fun i => (i.zero.map (fun z => z.cells.toList), i.size, i.bytes)) = some (some cs, size, bytes)) (hc : cs.length = size) : ElemZ P e size bytes cs := by
  unfold ElemZ
  match hm : P.info? e, h with
  | some i, h =>
    simp only [Option.map_some, Option.some.injEq, Prod.mk.injEq] at h
    obtain ⟨h1, h2, h3⟩ := h
    match hz : i.zero, h1 with
    | some z, h1 =>
      have h4 : z.cells.toList = cs := by simpa using h1
      exact ⟨i, z, rfl, hz, h2, h3, by rw [← Array.length_toList, h4]; exact hc, h4⟩
theorem elemZ_val : ElemZ Tryd.prog 36 4 40 [.int .i64 0, .int .i64 0, .string ⟨#[]⟩, .int .i64 0] := elemZ_of (by kernel_rfl) rfl
theorem elemZ_prop : ElemZ Tryd.prog 86 5 56 [.string ⟨#[]⟩, .int .i64 0, .int .i64 0, .string ⟨#[]⟩, .int .i64 0] := elemZ_of (by kernel_rfl) rfl
/-- What lies there when the rest has been moved and cleared. -/
theorem del_row {w5 : World} {g off i j m cap e size : Nat} {cur : Array Value} {xs zs : List Value} (hb5 : w5.heap[g]? = some (.cells (putAt cur (off + i * size) (xs.drop (j * size))) e (0, 0))) (hx : (cur.toList.drop off).take ((j + m) * size) = xs) (hxl : xs.length = (j + m) * size)
    (hnl : (xs.drop (j * size)).length = m * size) (hij : i < j) (hc : j + m ≤ cap) (hcm : cap ≤ maxLen) (hsz : off + cap * size ≤ cur.size) (hzl : off + (i + m) * size + zs.length ≤ cur.size) :
    RowAt (w5.setCells g (off + (i + m) * size) zs) e size (.slice (some ⟨g, off, none⟩) (i + m) cap) (i + m) (xs.take (i * size) ++ xs.drop (j * size)) := by
  have hi1 : i * size ≤ (j + m) * size := Nat.mul_le_mul_right _ (by omega)
  have hadd : (i + m) * size = i * size + m * size := Nat.add_mul ..
  have hle : (i + m) * size ≤ cap * size := Nat.mul_le_mul_right _ (by omega)
  have hli : (xs.take (i * size)).length = i * size := by rw [List.length_take]; omega
  refine ⟨by rw [List.length_append, hli, hnl, hadd], .inr ⟨g, off, cap, _, rfl, setCells_block zs _ hb5, by omega, hcm, by rw [putAt_size, putAt_size]; exact hsz, ?_⟩⟩
  have hs1 : (putAt cur (off + i * size) (xs.drop (j * size))).size = cur.size := putAt_size ..
  rw [putAt_toList _ _ _ (by rw [hs1]; exact hzl), putAt_toList _ _ _ (by rw [hnl]; omega)]
  have e1 : (cur.toList.take (off + i * size)).drop off = xs.take (i * size) := by
    rw [← hx, List.take_take, Nat.min_eq_left hi1, List.drop_take]
    congr 1; omega
  have hcl : cur.toList.length = cur.size := Array.length_toList
  have hA : (cur.toList.take (off + i * size) ++ xs.drop (j * size)).length = off + (i + m) * size := by
    rw [List.length_append, hnl, List.length_take, hcl, hadd]; omega
  have e2 : (cur.toList.take (off + i * size) ++ xs.drop (j * size) ++ cur.toList.drop (off + i * size + (xs.drop (j * size)).length)).take (off + (i + m) * size) = cur.toList.take (off + i * size) ++ xs.drop (j * size) := by
    rw [← hA]; exact List.take_left
  rw [e2, List.append_assoc, List.append_assoc, List.drop_append_of_le_length (by rw [List.length_take, hcl]; omega), e1]
  rw [← List.append_assoc]
  have hB : (xs.take (i * size) ++ xs.drop (j * size)).length = (i + m) * size := by rw [List.length_append, hli, hnl, hadd]
  rw [← hB]; exact List.take_left
/-- clear of a part of a row. -/
theorem run_clear_row {P : Program} (w : World) (t e ty : TypeId) (i : TypeInfo) (z : Value) (size : Nat) (cur : Array Value) (ht : P.underlying t = some (.slice e)) (hi : P.info? e = some i) (hz : i.zero = some z) (hsz : i.size = size) (hzs : z.cells.size = size) (h1 : ∀ u ∈ z.cells.toList, u.oneCell' = true)
    (g o n c : Nat) (hg : w.heap[g]? = some (.cells cur e (0, 0))) (hs : o + n * size ≤ cur.size) (hn : 0 < n) :
    (Builtin.clear_ #[t] ty #[.slice (some ⟨g, o, none⟩) n c]).run P w = .ok (.tuple #[]) (w.setCells g o (Builtin.zeroCells z.cells n).toList) := by
  have hzl : (Builtin.zeroCells z.cells n).toList.length = n * size := by rw [Array.length_toList, size_zeroCells, hzs]
  have hone : ∀ u ∈ (Builtin.zeroCells z.cells n).toList, u.oneCell' = true := by
    intro u hu
    unfold Builtin.zeroCells at hu
    rw [Array.toList_map, List.mem_map] at hu
    obtain ⟨j, hj, rfl⟩ := hu
    have hjr : j < n * z.cells.size := by simpa using hj
    have hpos : 0 < z.cells.size := by
      apply Nat.pos_of_ne_zero
      intro e0
      rw [e0] at hjr
      omega
    have hj2 : j % z.cells.size < z.cells.size := Nat.mod_lt _ hpos
    rw [getElem!_pos z.cells (j % z.cells.size) hj2]
    exact h1 _ (Array.getElem_mem_toList hj2)
  have hst := run_storeCells_cells (P := P) g o (Builtin.zeroCells z.cells n).toList 0 w (fun j hj => by rw [Nat.add_zero, cell_of_block hg (Array.getElem?_eq_getElem (by omega))]; rfl) (fun j _ => frozen_of_block hg) hone
  simp only [Nat.add_zero] at hst
  have hn0 : n ≠ 0 := by omega
  obtain ⟨n', rfl⟩ : ∃ n', n = n' + 1 := ⟨n - 1, by omega⟩
  simp [Builtin.clear_, run_underlying ht, zeroValue, typeInfo, hi, hz, hst]

set_option maxHeartbeats 6400000 in
set_option maxRecDepth 100000 in
theorem delV_any (w : World) (v : Value) (n i j : Nat) (xs : List Value) (hr : RowAt w 36 4 v n xs) (h1c : ∀ u ∈ xs, u.oneCell' = true) (hij : i ≤ j) (hj : j ≤ n) (hl : n ≤ 1000000) :
    Calls Tryd.prog 59 #[v, .int .i64 (i : Int), .int .i64 (j : Int)] w fun e w' => ∃ v', e = .returned v' ∧ RowAt w' 36 4 v' (n - (j - i)) (xs.take (i * 4) ++ xs.drop (j * 4)) ∧ Chg (fun k => v.ownBlock = some k) w w' ∧ (∀ k, v'.ownBlock = some k → v.ownBlock = some k) := by
  obtain ⟨m, hm⟩ : ∃ m, n = j + m := ⟨n - j, by omega⟩
  subst hm
  have i0' : (0 : Int) ≤ (i : Int) := by omega
  have j0' : (0 : Int) ≤ (j : Int) := by omega
  have ij' : (i : Int) ≤ (j : Int) := by omega
  have jn' : (j : Int) ≤ ((j + m : Nat) : Int) := by omega
  obtain ⟨a, cap, rfl, hnc, hcm⟩ := hr.slice
  by_cases he : i = j
  · subst he
    have HR := Lib.hid hr
    clear hr hij hj hl h1c
    have fin : ∀ W, W = w → RowAt W 36 4 (.slice a (i + m) cap) (i + m - (i - i)) (xs.take (i * 4) ++ xs.drop (i * 4)) := fun W e => by
      rw [e, Nat.sub_self, Nat.sub_zero, List.take_append_drop]; exact HR.out
    have FIN := Lib.hid fin
    clear fin
    rcases Nat.eq_zero_or_pos m with rfl | hmp
    · go_enter Tryd.func59, Tryd.ntmps59
      go_wp2_with fail
      go_ret
      exact ⟨_, rfl, by first | exact FIN.out _ rfl | simpa using FIN.out w rfl, Chg.refl _ _, fun k h => h⟩
    · have ne1 : ¬ i + m = i := by omega
      have ne2 : ¬ m = 0 := by omega
      go_enter Tryd.func59, Tryd.ntmps59
      go_wp2_with fail
      go_ret
      exact ⟨_, rfl, by first | exact FIN.out _ rfl | simpa using FIN.out w rfl, Chg.refl _ _, fun k h => h⟩
  · obtain ⟨g, off, cap', hv, hblk⟩ := hr.addr (by omega)
    cases hv
    obtain ⟨i0, z, hi, hz, hsz, hby, hzs, hzl⟩ := elemZ_val
    have HZO := Lib.hid (show ∀ u ∈ z.cells.toList, u.oneCell' = true from fun u hu => by rw [hzl] at hu; simp only [List.mem_cons, List.not_mem_nil, or_false] at hu; rcases hu with rfl | rfl | rfl | rfl <;> rfl)
    have hxl := hr.1
    obtain ⟨g', off', cap'', cur, hv, hg, h1, h2, h3, h4⟩ : ∃ g' off' cap'' cur, Value.slice (some ⟨g, off, none⟩) (j + m) cap = .slice (some ⟨g', off', none⟩) (j + m) cap'' ∧ w.heap[g']? = some (.cells cur 36 (0, 0)) ∧ j + m ≤ cap'' ∧ cap'' ≤ maxLen ∧ off' + cap'' * 4 ≤ cur.size ∧ (cur.toList.drop off').take ((j + m) * 4) = xs := by
      rcases hr.2 with ⟨hv, -⟩ | h
      · cases hv
      · exact h
    cases hv
    have HG := Lib.hid hg
    have HB := Lib.hid (show j + m ≤ cap ∧ i < j ∧ j + m ≤ 1000000 from ⟨h1, by omega, hl⟩)
    have HBC := Lib.hid h3
    have HXS := Lib.hid h4
    have HI := Lib.hid hi
    have HZ := Lib.hid hz
    have HSZ := Lib.hid hsz
    have HZS := Lib.hid hzs
    have HR := Lib.hid hr
    have HXL := Lib.hid hxl
    have HCM := Lib.hid hcm
    have H1 := Lib.hid h1c
    have ne1 : ¬ j + m = i := by omega
    have ne2 : ¬ cap = 0 := by omega
    have ne3 : ¬ cap = i + m := by omega
    have ne4 : (i : Int) ≠ (j : Int) := by omega
    have ne5 : ((i : Int) == (j : Int)) = false := beq_false_of_ne ne4
    have c1 : (i : Int) ≤ (cap : Int) := by omega
    have c3 : (j : Int) ≤ (j : Int) + (m : Int) := by omega
    have c2 : ((j + m : Nat) : Int) ≤ (cap : Int) := by omega
    clear hg h1 h2 h3 h4 h1c hi hz hsz hzs hby hzl hr hxl hij hj hl hnc hcm hblk
    have HNL : Hid ((xs.drop (j * 4)).length = m * 4) := Lib.hid (by rw [List.length_drop, HXL.out]; omega)
    have HNO : Hid (∀ u ∈ xs.drop (j * 4), u.oneCell' = true) := Lib.hid (fun u hu => H1.out u (List.mem_of_mem_drop hu))
    have HSP : Hid (∀ W, Chg (fun _ => False) w W → ∀ q, q < (xs.drop (j * 4)).length → (W.cell? ⟨g, off + i * 4 + q, none⟩).isSome = true ∧ W.frozen? ⟨g, off + i * 4 + q, none⟩ = false) := Lib.hid (fun W hc q hq => by
      have hb := hc.keep HG.out (fun x => x)
      rw [HNL.out] at hq
      exact ⟨by rw [cell_of_block hb (Array.getElem?_eq_getElem (by have := HB.out; have := HBC.out; omega))]; rfl, frozen_of_block hb⟩)
    have HFIN : Hid (∀ (w5 : World), w5.heap[g]? = some (.cells (putAt cur (off + i * 4) (xs.drop (j * 4))) 36 (0, 0)) → RowAt (w5.setCells g (off + (i + m) * 4) (Builtin.zeroCells z.cells (j - i)).toList) 36 4 (.slice (some ⟨g, off, none⟩) (i + m) cap) (i + m) (xs.take (i * 4) ++ xs.drop (j * 4))) := Lib.hid (fun w5 hb5 =>
      del_row hb5 HXS.out HXL.out HNL.out (by have := HB.out; omega) (by have := HB.out; omega) HCM.out HBC.out (by rw [Array.length_toList, size_zeroCells, HZS.out]; have := HB.out; have := HBC.out; omega))
    by_cases hcj : j = cap
    · subst hcj
      have hm0 : m = 0 := by have := HB.out; omega
      subst hm0
      simp only [Nat.add_zero, Nat.zero_mul] at HXS HXL ne1 HNL HB HR ne3 c2 HFIN jn'
      go_enter Tryd.func59, Tryd.ntmps59
      go_upto_region 5 with fail

      refine wp_region_held_split 7 (fun _ => True) (by kernel_rfl) (by kernel_rfl) ?_ (fun hHeld => ?_)
      · trivial
      simp only [List.take_succ_cons, List.take_zero]
      have HWD : Hid (Chg (fun _ => False) w w.drew) := Lib.hid (Chg.refl _ w).drewR
      generalize w.drew = wD at *
      refine wpAnyH_take (i := 0) (v := ?_) rfl (by kernel_rfl) (by kernel_rfl) (by kernel_rfl) (fun _ _ _ h => h) (Or.inl ⟨by rfl, ?_⟩) (by assumption) ?_
      rotate_left
      · (intro wq hSw; (try dsimp only at hSw); go_simp; (try with_reducible rfl))
      simp only [Act.put, List.getElem_toArray, List.getElem_cons_zero, List.getElem_cons_succ, List.setIfInBounds_toArray, List.set_cons_zero, List.set_cons_succ]
      refine wpAnyH_take (i := 1) (v := ?_) rfl (by kernel_rfl) (by kernel_rfl) (by kernel_rfl) (fun _ _ _ h => h) (Or.inl ⟨by rfl, ?_⟩) (by assumption) ?_
      rotate_left
      · (intro wq hSw; (try dsimp only at hSw); go_simp; (try with_reducible rfl))
      simp only [Act.put, List.getElem_toArray, List.getElem_cons_zero, List.getElem_cons_succ, List.setIfInBounds_toArray, List.set_cons_zero, List.set_cons_succ]
      refine wpAnyH_take (i := 2) (v := ?_) rfl (by kernel_rfl) (by kernel_rfl) (by kernel_rfl) (fun _ _ _ h => h) (Or.inl ⟨by rfl, ?_⟩) (by assumption) ?_
      rotate_left
      · (intro wq hSw; (try dsimp only at hSw); go_simp; (try with_reducible rfl))
      simp only [Act.put, List.getElem_toArray, List.getElem_cons_zero, List.getElem_cons_succ, List.setIfInBounds_toArray, List.set_cons_zero, List.set_cons_succ]
      refine wpAnyH_take (i := 3) (v := ?_) rfl (by kernel_rfl) (by kernel_rfl) (by kernel_rfl) (fun _ _ _ h => h) (Or.inl ⟨by rfl, ?_⟩) (by assumption) ?_
      rotate_left
      · (intro wq hSw; (try dsimp only at hSw); go_simp; (try with_reducible rfl))
      simp only [Act.put, List.getElem_toArray, List.getElem_cons_zero, List.getElem_cons_succ, List.setIfInBounds_toArray, List.set_cons_zero, List.set_cons_succ]
      refine wpAnyH_take (i := 4) (v := ?_) rfl (by kernel_rfl) (by kernel_rfl) (by kernel_rfl) (fun _ _ _ h => h) (Or.inl ⟨by rfl, ?_⟩) (by assumption) ?_
      rotate_left
      · (intro wq hSw; (try dsimp only at hSw); go_simp; (try with_reducible rfl))
      simp only [Act.put, List.getElem_toArray, List.getElem_cons_zero, List.getElem_cons_succ, List.setIfInBounds_toArray, List.set_cons_zero, List.set_cons_succ]
      refine wpAnyH_take (i := 5) (v := ?_) rfl (by kernel_rfl) (by kernel_rfl) (by kernel_rfl) (fun _ _ _ h => h) (Or.inl ⟨by rfl, ?_⟩) (by assumption) ?_
      rotate_left
      · (intro wq hSw; (try dsimp only at hSw); go_simp; (try with_reducible rfl))
      simp only [Act.put, List.getElem_toArray, List.getElem_cons_zero, List.getElem_cons_succ, List.setIfInBounds_toArray, List.set_cons_zero, List.set_cons_succ]
      refine wpAnyH_ready (rs := [6]) (by kernel_rfl) (by simp) ?_
      refine AllReadyH.cons (by simp only [List.getElem?_toArray, List.getElem?_cons_succ, List.getElem?_cons_zero]; rfl) (fun K hK => ?_) AllReadyH.nil
      (refine step_append_room (by rfl) _ _ _ (by rfl) 36 i0 4 Tryd.underlying44 HI.out HSZ.out g off i j (by rfl) ⟨g, off, none⟩ 0 0 (xs.drop (j * 4)) (by rfl) HNL.out (fun q u hu => by have h0 := (List.getElem?_eq_some_iff.1 hu).1; rw [HNL.out] at h0; omega) HNO.out (by have := HB.out.1; omega) (HSP.out wD HWD.out) ?_)
      refine hK.out _ _ ?_ (fun hHeld => ?_)
      · trivial
      clear hK K
      (try simp only [Act.put, List.getElem_toArray, List.getElem_cons_zero, List.getElem_cons_succ, List.setIfInBounds_toArray, List.set_cons_zero, List.set_cons_succ])
      refine wpAnyH_done (by kernel_rfl) ?_ _
      change wpList _ _ _ _ _ _
      simp only [List.drop_succ_cons, List.drop_zero]
      have hgd : wD.heap[g]? = some (.cells cur 36 (0, 0)) := HWD.out.keep HG.out (fun x => x)
      have hb5 := setCells_block (b := g) (xs.drop (j * 4)) (off + i * 4) hgd
      have HC5 := Lib.hid (Chg.setCells (b := g) (xs.drop (j * 4)) wD (off + i * 4))
      go_upto_region 6 with fail
      generalize wD.setCells g (off + i * 4) (xs.drop (j * 4)) = w5 at *
      have HB5 := Lib.hid hb5
      have hclr := run_clear_row (P := Tryd.prog) w5 44 36 0 i0 z 4 (putAt cur (off + i * 4) (xs.drop (j * 4))) Tryd.underlying44 HI.out HZ.out HSZ.out HZS.out HZO.out g (off + i * 4) (j - i) (j - i) hb5 (by rw [putAt_size]; have := HB.out; have := HBC.out; omega) (by have := HB.out; omega)
      have HF := Lib.hid (HFIN.out w5 hb5)
      have hc6 := Chg.setCells (b := g) (Builtin.zeroCells z.cells (j - i)).toList w5 (off + i * 4)
      have HC6 := Lib.hid hc6
      have tn1 : ((i : Int) + (0 : Int)).toNat = i := by omega
      have tn2 : ((j : Int) + (0 : Int)).toNat = j := by omega
      have b1 : (0 : Int) ≤ (i : Int) + (0 : Int) := by omega
      have b2 : (i : Int) + (0 : Int) ≤ (j : Int) + (0 : Int) := by omega
      have b3 : (j : Int) + (0 : Int) ≤ (j : Int) := by omega
      have b4 : j - i = j - i := by omega
      clear hc6 hgd hb5 HFIN
      generalize (Builtin.zeroCells z.cells (j - i)).toList = Z at *
      go_wp2_with fail
      go_ret
      refine ⟨_, rfl, ?_, ((HWD.out.trans HC5.out (fun _ _ x => x.elim) (fun _ _ x => x)).trans' HC6.out).mono (fun k _ e => by subst e; rfl), fun k h => h⟩
      rw [show j - (j - i) = i from by have := HB.out; omega]
      exact HF.out
    · have ne6 : ¬ cap = j := fun e => hcj e.symm
      clear hcj
      go_enter Tryd.func59, Tryd.ntmps59
      go_upto_region 5 with fail

      refine wp_region_held_split 7 (fun _ => True) (by kernel_rfl) (by kernel_rfl) ?_ (fun hHeld => ?_)
      · trivial
      simp only [List.take_succ_cons, List.take_zero]
      have HWD : Hid (Chg (fun _ => False) w w.drew) := Lib.hid (Chg.refl _ w).drewR
      generalize w.drew = wD at *
      refine wpAnyH_take (i := 0) (v := ?_) rfl (by kernel_rfl) (by kernel_rfl) (by kernel_rfl) (fun _ _ _ h => h) (Or.inl ⟨by rfl, ?_⟩) (by assumption) ?_
      rotate_left
      · (intro wq hSw; (try dsimp only at hSw); go_simp; (try with_reducible rfl))
      simp only [Act.put, List.getElem_toArray, List.getElem_cons_zero, List.getElem_cons_succ, List.setIfInBounds_toArray, List.set_cons_zero, List.set_cons_succ]
      refine wpAnyH_take (i := 1) (v := ?_) rfl (by kernel_rfl) (by kernel_rfl) (by kernel_rfl) (fun _ _ _ h => h) (Or.inl ⟨by rfl, ?_⟩) (by assumption) ?_
      rotate_left
      · (intro wq hSw; (try dsimp only at hSw); go_simp; (try with_reducible rfl))
      simp only [Act.put, List.getElem_toArray, List.getElem_cons_zero, List.getElem_cons_succ, List.setIfInBounds_toArray, List.set_cons_zero, List.set_cons_succ]
      refine wpAnyH_take (i := 2) (v := ?_) rfl (by kernel_rfl) (by kernel_rfl) (by kernel_rfl) (fun _ _ _ h => h) (Or.inl ⟨by rfl, ?_⟩) (by assumption) ?_
      rotate_left
      · (intro wq hSw; (try dsimp only at hSw); go_simp; (try with_reducible rfl))
      simp only [Act.put, List.getElem_toArray, List.getElem_cons_zero, List.getElem_cons_succ, List.setIfInBounds_toArray, List.set_cons_zero, List.set_cons_succ]
      refine wpAnyH_take (i := 3) (v := ?_) rfl (by kernel_rfl) (by kernel_rfl) (by kernel_rfl) (fun _ _ _ h => h) (Or.inl ⟨by rfl, ?_⟩) (by assumption) ?_
      rotate_left
      · (intro wq hSw; (try dsimp only at hSw); go_simp; (try with_reducible rfl))
      simp only [Act.put, List.getElem_toArray, List.getElem_cons_zero, List.getElem_cons_succ, List.setIfInBounds_toArray, List.set_cons_zero, List.set_cons_succ]
      refine wpAnyH_take (i := 4) (v := ?_) rfl (by kernel_rfl) (by kernel_rfl) (by kernel_rfl) (fun _ _ _ h => h) (Or.inl ⟨by rfl, ?_⟩) (by assumption) ?_
      rotate_left
      · (intro wq hSw; (try dsimp only at hSw); go_simp; (try with_reducible rfl))
      simp only [Act.put, List.getElem_toArray, List.getElem_cons_zero, List.getElem_cons_succ, List.setIfInBounds_toArray, List.set_cons_zero, List.set_cons_succ]
      refine wpAnyH_take (i := 5) (v := ?_) rfl (by kernel_rfl) (by kernel_rfl) (by kernel_rfl) (fun _ _ _ h => h) (Or.inl ⟨by rfl, ?_⟩) (by assumption) ?_
      rotate_left
      · (intro wq hSw; (try dsimp only at hSw); go_simp; (try with_reducible rfl))
      simp only [Act.put, List.getElem_toArray, List.getElem_cons_zero, List.getElem_cons_succ, List.setIfInBounds_toArray, List.set_cons_zero, List.set_cons_succ]
      refine wpAnyH_ready (rs := [6]) (by kernel_rfl) (by simp) ?_
      refine AllReadyH.cons (by simp only [List.getElem?_toArray, List.getElem?_cons_succ, List.getElem?_cons_zero]; rfl) (fun K hK => ?_) AllReadyH.nil
      (refine step_append_room (by rfl) _ _ _ (by rfl) 36 i0 4 Tryd.underlying44 HI.out HSZ.out g off i cap (by rfl) ⟨g, off + j * 4, none⟩ m (cap - j) (xs.drop (j * 4)) (by rfl) HNL.out (fun q u hu => by rw [add_none4]; exact (HR.out.chg HWD.out (fun _ _ x => x)).cellAt (j * 4 + q) u (by rw [List.getElem?_drop] at hu; exact hu)) HNO.out (by have := HB.out.1; omega) (HSP.out wD HWD.out) ?_)
      refine hK.out _ _ ?_ (fun hHeld => ?_)
      · trivial
      clear hK K
      (try simp only [Act.put, List.getElem_toArray, List.getElem_cons_zero, List.getElem_cons_succ, List.setIfInBounds_toArray, List.set_cons_zero, List.set_cons_succ])
      refine wpAnyH_done (by kernel_rfl) ?_ _
      change wpList _ _ _ _ _ _
      simp only [List.drop_succ_cons, List.drop_zero]
      have hgd : wD.heap[g]? = some (.cells cur 36 (0, 0)) := HWD.out.keep HG.out (fun x => x)
      have hb5 := setCells_block (b := g) (xs.drop (j * 4)) (off + i * 4) hgd
      have HC5 := Lib.hid (Chg.setCells (b := g) (xs.drop (j * 4)) wD (off + i * 4))
      go_upto_region 6 with fail
      generalize wD.setCells g (off + i * 4) (xs.drop (j * 4)) = w5 at *
      have HB5 := Lib.hid hb5
      have hclr := run_clear_row (P := Tryd.prog) w5 44 36 0 i0 z 4 (putAt cur (off + i * 4) (xs.drop (j * 4))) Tryd.underlying44 HI.out HZ.out HSZ.out HZS.out HZO.out g (off + (i + m) * 4) (j - i) (cap - (i + m)) hb5 (by rw [putAt_size]; have := HB.out; have := HBC.out; omega) (by have := HB.out; omega)
      have HF := Lib.hid (HFIN.out w5 hb5)
      have hc6 := Chg.setCells (b := g) (Builtin.zeroCells z.cells (j - i)).toList w5 (off + (i + m) * 4)
      have HC6 := Lib.hid hc6
      have tn1 : ((i : Int) + (m : Int)).toNat = i + m := by omega
      have tn2 : ((j : Int) + (m : Int)).toNat = j + m := by omega
      have b1 : (0 : Int) ≤ (i : Int) + (m : Int) := by omega
      have b2 : (i : Int) + (m : Int) ≤ (j : Int) + (m : Int) := by omega
      have b3 : (j : Int) + (m : Int) ≤ (cap : Int) := by omega
      have b4 : j + m - (i + m) = j - i := by omega
      clear hc6 hgd hb5 HFIN
      generalize (Builtin.zeroCells z.cells (j - i)).toList = Z at *
      go_wp2_with fail
      go_ret
      refine ⟨_, rfl, ?_, ((HWD.out.trans HC5.out (fun _ _ x => x.elim) (fun _ _ x => x)).trans' HC6.out).mono (fun k _ e => by subst e; rfl), fun k h => h⟩
      rw [show j + m - (j - i) = i + m from by have := HB.out; omega]
      exact HF.out

set_option maxHeartbeats 6400000 in
set_option maxRecDepth 100000 in
theorem delP_any (w : World) (v : Value) (n i j : Nat) (xs : List Value) (hr : RowAt w 86 5 v n xs) (h1c : ∀ u ∈ xs, u.oneCell' = true) (hij : i ≤ j) (hj : j ≤ n) (hl : n ≤ 1000000) :
    Calls Tryd.prog 45 #[v, .int .i64 (i : Int), .int .i64 (j : Int)] w fun e w' => ∃ v', e = .returned v' ∧ RowAt w' 86 5 v' (n - (j - i)) (xs.take (i * 5) ++ xs.drop (j * 5)) ∧ Chg (fun k => v.ownBlock = some k) w w' ∧ (∀ k, v'.ownBlock = some k → v.ownBlock = some k) := by
  obtain ⟨m, hm⟩ : ∃ m, n = j + m := ⟨n - j, by omega⟩
  subst hm
  have i0' : (0 : Int) ≤ (i : Int) := by omega
  have j0' : (0 : Int) ≤ (j : Int) := by omega
  have ij' : (i : Int) ≤ (j : Int) := by omega
  have jn' : (j : Int) ≤ ((j + m : Nat) : Int) := by omega
  obtain ⟨a, cap, rfl, hnc, hcm⟩ := hr.slice
  by_cases he : i = j
  · subst he
    have HR := Lib.hid hr
    clear hr hij hj hl h1c
    have fin : ∀ W, W = w → RowAt W 86 5 (.slice a (i + m) cap) (i + m - (i - i)) (xs.take (i * 5) ++ xs.drop (i * 5)) := fun W e => by
      rw [e, Nat.sub_self, Nat.sub_zero, List.take_append_drop]; exact HR.out
    have FIN := Lib.hid fin
    clear fin
    rcases Nat.eq_zero_or_pos m with rfl | hmp
    · go_enter Tryd.func45, Tryd.ntmps45
      go_wp2_with fail
      go_ret
      exact ⟨_, rfl, by first | exact FIN.out _ rfl | simpa using FIN.out w rfl, Chg.refl _ _, fun k h => h⟩
    · have ne1 : ¬ i + m = i := by omega
      have ne2 : ¬ m = 0 := by omega
      go_enter Tryd.func45, Tryd.ntmps45
      go_wp2_with fail
      go_ret
      exact ⟨_, rfl, by first | exact FIN.out _ rfl | simpa using FIN.out w rfl, Chg.refl _ _, fun k h => h⟩
  · obtain ⟨g, off, cap', hv, hblk⟩ := hr.addr (by omega)
    cases hv
    obtain ⟨i0, z, hi, hz, hsz, hby, hzs, hzl⟩ := elemZ_prop
    have HZO := Lib.hid (show ∀ u ∈ z.cells.toList, u.oneCell' = true from fun u hu => by rw [hzl] at hu; simp only [List.mem_cons, List.not_mem_nil, or_false] at hu; rcases hu with rfl | rfl | rfl | rfl | rfl <;> rfl)
    have hxl := hr.1
    obtain ⟨g', off', cap'', cur, hv, hg, h1, h2, h3, h4⟩ : ∃ g' off' cap'' cur, Value.slice (some ⟨g, off, none⟩) (j + m) cap = .slice (some ⟨g', off', none⟩) (j + m) cap'' ∧ w.heap[g']? = some (.cells cur 86 (0, 0)) ∧ j + m ≤ cap'' ∧ cap'' ≤ maxLen ∧ off' + cap'' * 5 ≤ cur.size ∧ (cur.toList.drop off').take ((j + m) * 5) = xs := by
      rcases hr.2 with ⟨hv, -⟩ | h
      · cases hv
      · exact h
    cases hv
    have HG := Lib.hid hg
    have HB := Lib.hid (show j + m ≤ cap ∧ i < j ∧ j + m ≤ 1000000 from ⟨h1, by omega, hl⟩)
    have HBC := Lib.hid h3
    have HXS := Lib.hid h4
    have HI := Lib.hid hi
    have HZ := Lib.hid hz
    have HSZ := Lib.hid hsz
    have HZS := Lib.hid hzs
    have HR := Lib.hid hr
    have HXL := Lib.hid hxl
    have HCM := Lib.hid hcm
    have H1 := Lib.hid h1c
    have ne1 : ¬ j + m = i := by omega
    have ne2 : ¬ cap = 0 := by omega
    have ne3 : ¬ cap = i + m := by omega
    have ne4 : (i : Int) ≠ (j : Int) := by omega
    have ne5 : ((i : Int) == (j : Int)) = false := beq_false_of_ne ne4
    have c1 : (i : Int) ≤ (cap : Int) := by omega
    have c3 : (j : Int) ≤ (j : Int) + (m : Int) := by omega
    have c2 : ((j + m : Nat) : Int) ≤ (cap : Int) := by omega
    clear hg h1 h2 h3 h4 h1c hi hz hsz hzs hby hzl hr hxl hij hj hl hnc hcm hblk
    have HNL : Hid ((xs.drop (j * 5)).length = m * 5) := Lib.hid (by rw [List.length_drop, HXL.out]; omega)
    have HNO : Hid (∀ u ∈ xs.drop (j * 5), u.oneCell' = true) := Lib.hid (fun u hu => H1.out u (List.mem_of_mem_drop hu))
    have HSP : Hid (∀ W, Chg (fun _ => False) w W → ∀ q, q < (xs.drop (j * 5)).length → (W.cell? ⟨g, off + i * 5 + q, none⟩).isSome = true ∧ W.frozen? ⟨g, off + i * 5 + q, none⟩ = false) := Lib.hid (fun W hc q hq => by
      have hb := hc.keep HG.out (fun x => x)
      rw [HNL.out] at hq
      exact ⟨by rw [cell_of_block hb (Array.getElem?_eq_getElem (by have := HB.out; have := HBC.out; omega))]; rfl, frozen_of_block hb⟩)
    have HFIN : Hid (∀ (w5 : World), w5.heap[g]? = some (.cells (putAt cur (off + i * 5) (xs.drop (j * 5))) 86 (0, 0)) → RowAt (w5.setCells g (off + (i + m) * 5) (Builtin.zeroCells z.cells (j - i)).toList) 86 5 (.slice (some ⟨g, off, none⟩) (i + m) cap) (i + m) (xs.take (i * 5) ++ xs.drop (j * 5))) := Lib.hid (fun w5 hb5 =>
      del_row hb5 HXS.out HXL.out HNL.out (by have := HB.out; omega) (by have := HB.out; omega) HCM.out HBC.out (by rw [Array.length_toList, size_zeroCells, HZS.out]; have := HB.out; have := HBC.out; omega))
    by_cases hcj : j = cap
    · subst hcj
      have hm0 : m = 0 := by have := HB.out; omega
      subst hm0
      simp only [Nat.add_zero, Nat.zero_mul] at HXS HXL ne1 HNL HB HR ne3 c2 HFIN jn'
      go_enter Tryd.func45, Tryd.ntmps45
      go_upto_region 5 with fail

      refine wp_region_held_split 7 (fun _ => True) (by kernel_rfl) (by kernel_rfl) ?_ (fun hHeld => ?_)
      · trivial
      simp only [List.take_succ_cons, List.take_zero]
      have HWD : Hid (Chg (fun _ => False) w w.drew) := Lib.hid (Chg.refl _ w).drewR
      generalize w.drew = wD at *
      refine wpAnyH_take (i := 0) (v := ?_) rfl (by kernel_rfl) (by kernel_rfl) (by kernel_rfl) (fun _ _ _ h => h) (Or.inl ⟨by rfl, ?_⟩) (by assumption) ?_
      rotate_left
      · (intro wq hSw; (try dsimp only at hSw); go_simp; (try with_reducible rfl))
      simp only [Act.put, List.getElem_toArray, List.getElem_cons_zero, List.getElem_cons_succ, List.setIfInBounds_toArray, List.set_cons_zero, List.set_cons_succ]
      refine wpAnyH_take (i := 1) (v := ?_) rfl (by kernel_rfl) (by kernel_rfl) (by kernel_rfl) (fun _ _ _ h => h) (Or.inl ⟨by rfl, ?_⟩) (by assumption) ?_
      rotate_left
      · (intro wq hSw; (try dsimp only at hSw); go_simp; (try with_reducible rfl))
      simp only [Act.put, List.getElem_toArray, List.getElem_cons_zero, List.getElem_cons_succ, List.setIfInBounds_toArray, List.set_cons_zero, List.set_cons_succ]
      refine wpAnyH_take (i := 2) (v := ?_) rfl (by kernel_rfl) (by kernel_rfl) (by kernel_rfl) (fun _ _ _ h => h) (Or.inl ⟨by rfl, ?_⟩) (by assumption) ?_
      rotate_left
      · (intro wq hSw; (try dsimp only at hSw); go_simp; (try with_reducible rfl))
      simp only [Act.put, List.getElem_toArray, List.getElem_cons_zero, List.getElem_cons_succ, List.setIfInBounds_toArray, List.set_cons_zero, List.set_cons_succ]
      refine wpAnyH_take (i := 3) (v := ?_) rfl (by kernel_rfl) (by kernel_rfl) (by kernel_rfl) (fun _ _ _ h => h) (Or.inl ⟨by rfl, ?_⟩) (by assumption) ?_
      rotate_left
      · (intro wq hSw; (try dsimp only at hSw); go_simp; (try with_reducible rfl))
      simp only [Act.put, List.getElem_toArray, List.getElem_cons_zero, List.getElem_cons_succ, List.setIfInBounds_toArray, List.set_cons_zero, List.set_cons_succ]
      refine wpAnyH_take (i := 4) (v := ?_) rfl (by kernel_rfl) (by kernel_rfl) (by kernel_rfl) (fun _ _ _ h => h) (Or.inl ⟨by rfl, ?_⟩) (by assumption) ?_
      rotate_left
      · (intro wq hSw; (try dsimp only at hSw); go_simp; (try with_reducible rfl))
      simp only [Act.put, List.getElem_toArray, List.getElem_cons_zero, List.getElem_cons_succ, List.setIfInBounds_toArray, List.set_cons_zero, List.set_cons_succ]
      refine wpAnyH_take (i := 5) (v := ?_) rfl (by kernel_rfl) (by kernel_rfl) (by kernel_rfl) (fun _ _ _ h => h) (Or.inl ⟨by rfl, ?_⟩) (by assumption) ?_
      rotate_left
      · (intro wq hSw; (try dsimp only at hSw); go_simp; (try with_reducible rfl))
      simp only [Act.put, List.getElem_toArray, List.getElem_cons_zero, List.getElem_cons_succ, List.setIfInBounds_toArray, List.set_cons_zero, List.set_cons_succ]
      refine wpAnyH_ready (rs := [6]) (by kernel_rfl) (by simp) ?_
      refine AllReadyH.cons (by simp only [List.getElem?_toArray, List.getElem?_cons_succ, List.getElem?_cons_zero]; rfl) (fun K hK => ?_) AllReadyH.nil
      (refine step_append_room (by rfl) _ _ _ (by rfl) 86 i0 5 Tryd.underlying43 HI.out HSZ.out g off i j (by rfl) ⟨g, off, none⟩ 0 0 (xs.drop (j * 5)) (by rfl) HNL.out (fun q u hu => by have h0 := (List.getElem?_eq_some_iff.1 hu).1; rw [HNL.out] at h0; omega) HNO.out (by have := HB.out.1; omega) (HSP.out wD HWD.out) ?_)
      refine hK.out _ _ ?_ (fun hHeld => ?_)
      · trivial
      clear hK K
      (try simp only [Act.put, List.getElem_toArray, List.getElem_cons_zero, List.getElem_cons_succ, List.setIfInBounds_toArray, List.set_cons_zero, List.set_cons_succ])
      refine wpAnyH_done (by kernel_rfl) ?_ _
      change wpList _ _ _ _ _ _
      simp only [List.drop_succ_cons, List.drop_zero]
      have hgd : wD.heap[g]? = some (.cells cur 86 (0, 0)) := HWD.out.keep HG.out (fun x => x)
      have hb5 := setCells_block (b := g) (xs.drop (j * 5)) (off + i * 5) hgd
      have HC5 := Lib.hid (Chg.setCells (b := g) (xs.drop (j * 5)) wD (off + i * 5))
      go_upto_region 6 with fail
      generalize wD.setCells g (off + i * 5) (xs.drop (j * 5)) = w5 at *
      have HB5 := Lib.hid hb5
      have hclr := run_clear_row (P := Tryd.prog) w5 43 86 0 i0 z 5 (putAt cur (off + i * 5) (xs.drop (j * 5))) Tryd.underlying43 HI.out HZ.out HSZ.out HZS.out HZO.out g (off + i * 5) (j - i) (j - i) hb5 (by rw [putAt_size]; have := HB.out; have := HBC.out; omega) (by have := HB.out; omega)
      have HF := Lib.hid (HFIN.out w5 hb5)
      have hc6 := Chg.setCells (b := g) (Builtin.zeroCells z.cells (j - i)).toList w5 (off + i * 5)
      have HC6 := Lib.hid hc6
      have tn1 : ((i : Int) + (0 : Int)).toNat = i := by omega
      have tn2 : ((j : Int) + (0 : Int)).toNat = j := by omega
      have b1 : (0 : Int) ≤ (i : Int) + (0 : Int) := by omega
      have b2 : (i : Int) + (0 : Int) ≤ (j : Int) + (0 : Int) := by omega
      have b3 : (j : Int) + (0 : Int) ≤ (j : Int) := by omega
      have b4 : j - i = j - i := by omega
      clear hc6 hgd hb5 HFIN
      generalize (Builtin.zeroCells z.cells (j - i)).toList = Z at *
      go_wp2_with fail
      go_ret
      refine ⟨_, rfl, ?_, ((HWD.out.trans HC5.out (fun _ _ x => x.elim) (fun _ _ x => x)).trans' HC6.out).mono (fun k _ e => by subst e; rfl), fun k h => h⟩
      rw [show j - (j - i) = i from by have := HB.out; omega]
      exact HF.out
    · have ne6 : ¬ cap = j := fun e => hcj e.symm
      clear hcj
      go_enter Tryd.func45, Tryd.ntmps45
      go_upto_region 5 with fail

      refine wp_region_held_split 7 (fun _ => True) (by kernel_rfl) (by kernel_rfl) ?_ (fun hHeld => ?_)
      · trivial
      simp only [List.take_succ_cons, List.take_zero]
      have HWD : Hid (Chg (fun _ => False) w w.drew) := Lib.hid (Chg.refl _ w).drewR
      generalize w.drew = wD at *
      refine wpAnyH_take (i := 0) (v := ?_) rfl (by kernel_rfl) (by kernel_rfl) (by kernel_rfl) (fun _ _ _ h => h) (Or.inl ⟨by rfl, ?_⟩) (by assumption) ?_
      rotate_left
      · (intro wq hSw; (try dsimp only at hSw); go_simp; (try with_reducible rfl))
      simp only [Act.put, List.getElem_toArray, List.getElem_cons_zero, List.getElem_cons_succ, List.setIfInBounds_toArray, List.set_cons_zero, List.set_cons_succ]
      refine wpAnyH_take (i := 1) (v := ?_) rfl (by kernel_rfl) (by kernel_rfl) (by kernel_rfl) (fun _ _ _ h => h) (Or.inl ⟨by rfl, ?_⟩) (by assumption) ?_
      rotate_left
      · (intro wq hSw; (try dsimp only at hSw); go_simp; (try with_reducible rfl))
      simp only [Act.put, List.getElem_toArray, List.getElem_cons_zero, List.getElem_cons_succ, List.setIfInBounds_toArray, List.set_cons_zero, List.set_cons_succ]
      refine wpAnyH_take (i := 2) (v := ?_) rfl (by kernel_rfl) (by kernel_rfl) (by kernel_rfl) (fun _ _ _ h => h) (Or.inl ⟨by rfl, ?_⟩) (by assumption) ?_
      rotate_left
      · (intro wq hSw; (try dsimp only at hSw); go_simp; (try with_reducible rfl))
      simp only [Act.put, List.getElem_toArray, List.getElem_cons_zero, List.getElem_cons_succ, List.setIfInBounds_toArray, List.set_cons_zero, List.set_cons_succ]
      refine wpAnyH_take (i := 3) (v := ?_) rfl (by kernel_rfl) (by kernel_rfl) (by kernel_rfl) (fun _ _ _ h => h) (Or.inl ⟨by rfl, ?_⟩) (by assumption) ?_
      rotate_left
      · (intro wq hSw; (try dsimp only at hSw); go_simp; (try with_reducible rfl))
      simp only [Act.put, List.getElem_toArray, List.getElem_cons_zero, List.getElem_cons_succ, List.setIfInBounds_toArray, List.set_cons_zero, List.set_cons_succ]
      refine wpAnyH_take (i := 4) (v := ?_) rfl (by kernel_rfl) (by kernel_rfl) (by kernel_rfl) (fun _ _ _ h => h) (Or.inl ⟨by rfl, ?_⟩) (by assumption) ?_
      rotate_left
      · (intro wq hSw; (try dsimp only at hSw); go_simp; (try with_reducible rfl))
      simp only [Act.put, List.getElem_toArray, List.getElem_cons_zero, List.getElem_cons_succ, List.setIfInBounds_toArray, List.set_cons_zero, List.set_cons_succ]
      refine wpAnyH_take (i := 5) (v := ?_) rfl (by kernel_rfl) (by kernel_rfl) (by kernel_rfl) (fun _ _ _ h => h) (Or.inl ⟨by rfl, ?_⟩) (by assumption) ?_
      rotate_left
      · (intro wq hSw; (try dsimp only at hSw); go_simp; (try with_reducible rfl))
      simp only [Act.put, List.getElem_toArray, List.getElem_cons_zero, List.getElem_cons_succ, List.setIfInBounds_toArray, List.set_cons_zero, List.set_cons_succ]
      refine wpAnyH_ready (rs := [6]) (by kernel_rfl) (by simp) ?_
      refine AllReadyH.cons (by simp only [List.getElem?_toArray, List.getElem?_cons_succ, List.getElem?_cons_zero]; rfl) (fun K hK => ?_) AllReadyH.nil
      (refine step_append_room (by rfl) _ _ _ (by rfl) 86 i0 5 Tryd.underlying43 HI.out HSZ.out g off i cap (by rfl) ⟨g, off + j * 5, none⟩ m (cap - j) (xs.drop (j * 5)) (by rfl) HNL.out (fun q u hu => by rw [add_none4]; exact (HR.out.chg HWD.out (fun _ _ x => x)).cellAt (j * 5 + q) u (by rw [List.getElem?_drop] at hu; exact hu)) HNO.out (by have := HB.out.1; omega) (HSP.out wD HWD.out) ?_)
      refine hK.out _ _ ?_ (fun hHeld => ?_)
      · trivial
      clear hK K
      (try simp only [Act.put, List.getElem_toArray, List.getElem_cons_zero, List.getElem_cons_succ, List.setIfInBounds_toArray, List.set_cons_zero, List.set_cons_succ])
      refine wpAnyH_done (by kernel_rfl) ?_ _
      change wpList _ _ _ _ _ _
      simp only [List.drop_succ_cons, List.drop_zero]
      have hgd : wD.heap[g]? = some (.cells cur 86 (0, 0)) := HWD.out.keep HG.out (fun x => x)
      have hb5 := setCells_block (b := g) (xs.drop (j * 5)) (off + i * 5) hgd
      have HC5 := Lib.hid (Chg.setCells (b := g) (xs.drop (j * 5)) wD (off + i * 5))
      go_upto_region 6 with fail
      generalize wD.setCells g (off + i * 5) (xs.drop (j * 5)) = w5 at *
      have HB5 := Lib.hid hb5
      have hclr := run_clear_row (P := Tryd.prog) w5 43 86 0 i0 z 5 (putAt cur (off + i * 5) (xs.drop (j * 5))) Tryd.underlying43 HI.out HZ.out HSZ.out HZS.out HZO.out g (off + (i + m) * 5) (j - i) (cap - (i + m)) hb5 (by rw [putAt_size]; have := HB.out; have := HBC.out; omega) (by have := HB.out; omega)
      have HF := Lib.hid (HFIN.out w5 hb5)
      have hc6 := Chg.setCells (b := g) (Builtin.zeroCells z.cells (j - i)).toList w5 (off + (i + m) * 5)
      have HC6 := Lib.hid hc6
      have tn1 : ((i : Int) + (m : Int)).toNat = i + m := by omega
      have tn2 : ((j : Int) + (m : Int)).toNat = j + m := by omega
      have b1 : (0 : Int) ≤ (i : Int) + (m : Int) := by omega
      have b2 : (i : Int) + (m : Int) ≤ (j : Int) + (m : Int) := by omega
      have b3 : (j : Int) + (m : Int) ≤ (cap : Int) := by omega
      have b4 : j + m - (i + m) = j - i := by omega
      clear hc6 hgd hb5 HFIN
      generalize (Builtin.zeroCells z.cells (j - i)).toList = Z at *
      go_wp2_with fail
      go_ret
      refine ⟨_, rfl, ?_, ((HWD.out.trans HC5.out (fun _ _ x => x.elim) (fun _ _ x => x)).trans' HC6.out).mono (fun k _ e => by subst e; rfl), fun k h => h⟩
      rw [show j + m - (j - i) = i + m from by have := HB.out; omega]
      exact HF.out
end Go.Proofs.YtjianickjahdnaaDoor
namespace Go.Proofs.YtjianickjahdnaaDoor
open Go.RowKit
set_option linter.unusedVariables false
set_option linter.unusedSimpArgs false

def zeroV : Val := ⟨0, 0, ⟨#[]⟩, 0⟩
/-- A list of another length: cut, or with zeros behind it. -/
def resizeL (l : List Val) (n : Nat) : List Val := l.take n ++ List.replicate (n - l.length) zeroV
theorem resizeL_len (l : List Val) (n : Nat) : (resizeL l n).length = n := by
  unfold resizeL
  rw [List.length_append, List.length_take, List.length_replicate]; omega
theorem cells_one (l : List Val) : ∀ u ∈ l.flatMap Val.cells, u.oneCell' = true := fun u hu => by
  obtain ⟨v, -, h⟩ := List.mem_flatMap.1 hu
  unfold Val.cells at h
  simp only [List.mem_cons, List.not_mem_nil, or_false] at h
  rcases h with rfl | rfl | rfl | rfl <;> rfl
theorem flat_take : ∀ (l : List Val) (n : Nat), (l.flatMap Val.cells).take (n * 4) = (l.take n).flatMap Val.cells
  | [], n => by simp
  | a :: l, 0 => by simp
  | a :: l, n + 1 => by
    have ih := flat_take l n
    have hl : a.cells.length = 4 := Val.len a
    rw [List.flatMap_cons, List.take_succ_cons, List.flatMap_cons, show (n + 1) * 4 = a.cells.length + n * 4 by rw [hl]; omega, List.take_length_add_append, ih]
theorem rep_flat (m : Nat) : (List.replicate m zeroV.cells).flatten = (List.replicate m zeroV).flatMap Val.cells := by
  induction m with
  | zero => rfl
  | succ m ih => rw [List.replicate_succ, List.replicate_succ, List.flatten_cons, List.flatMap_cons, ih]
set_option maxHeartbeats 6400000 in
set_option maxRecDepth 100000 in
theorem resize_any (w : World) (g o : Nat) (x : Obj) (G : List Nat) (n : Nat) (H : Here objR w g o x G) (hl : x.elems.length ≤ 20000) (hn : n ≤ 20000) :
    Calls Tryd.prog 44 #[.pointer (some ⟨g, o, none⟩), .int .i64 (n : Int)] w fun e w' => e = .returned (.tuple #[]) ∧ Post objR w g o { x with elems := resizeL x.elems n } G w' := by
  obtain ⟨v, c3, hr, hin, hnb, hback⟩ := H.fieldFlat (f := Val.cells) (hf := Val.len) objR_elems (by show 0 < 10; decide)
  obtain ⟨a, cap, rfl, -⟩ := hr.slice
  obtain ⟨cB, TB, hbB⟩ := H.boxed
  generalize hle : x.elems = l at *
  have HBK := Lib.hid hback
  have HR := Lib.hid hr
  have HNB := Lib.hid hnb
  have HC1 := Lib.hid (cells_one l)
  have HL : Hid (l.length ≤ 1000000) := Lib.hid (by omega)
  have HS0 : Hid (w.cell? ⟨g, o + 3, none⟩ = some (.slice a l.length cap)) := Lib.hid c3
  have FRZ : Hid (∀ (w2 wD : World), Chg (fun _ => False) w wD → Chg (fun j => (Value.slice a l.length cap).ownBlock = some j) wD w2 → w2.frozen? ⟨g, o + 3, none⟩ = false) := Lib.hid (fun w2 wD h1 h2 => frozen_of_block (h2.keep (h1.keep hbB (fun x => x)) HNB.out))
  have n0 : (0 : Int) ≤ (n : Int) := by omega
  clear hback hr hnb hin hbB hle H
  by_cases hnl : n ≤ l.length
  · have HNL := Lib.hid hnl
    have hd : (n : Int) ≤ (l.length : Int) := by omega
    have HRL : Hid ((l.flatMap Val.cells).take (n * 4) ++ (l.flatMap Val.cells).drop (l.length * 4) = (resizeL l n).flatMap Val.cells) := Lib.hid (by
      have hll : (l.flatMap Val.cells).length = l.length * 4 := HR.out.1
      unfold resizeL
      rw [flat_take, List.drop_of_length_le (by omega), List.append_nil, show n - l.length = 0 by omega]
      simp)
    clear hnl hl hn
    go_enter Tryd.func44, Tryd.ntmps44
    go_upto_region 1 with fail
    clear c3
    refine wp_region_held_split 14 (fun w' => w'.cell? ⟨g, o + 3, none⟩ = some (.slice a l.length cap)) (by kernel_rfl) (by kernel_rfl) ?_ (fun hHeld => ?_)
    · (first | exact HS0.out | exact HKS.out _ (Chg.refl _ _) | exact cc2)
    simp only [List.take_succ_cons, List.take_zero]
    have HKS : Hid (∀ W, Chg (fun _ => False) w.drew W → W.cell? ⟨g, o + 3, none⟩ = some (.slice a l.length cap)) := Lib.hid (fun W hc => hc.cell HS0.out)
    have HWD : Hid (Chg (fun _ => False) w w.drew) := Lib.hid (Chg.refl _ w).drewR
    generalize w.drew = wD at *
    refine wpAnyH_take (i := 0) (v := ?_) rfl (by kernel_rfl) (by kernel_rfl) (by kernel_rfl) (fun _ _ _ h => h) (Or.inl ⟨by rfl, ?_⟩) (by assumption) ?_
    rotate_left
    · (intro wq hSw; (try dsimp only at hSw); go_simp; (try with_reducible rfl))
    simp only [Act.put, List.getElem_toArray, List.getElem_cons_zero, List.getElem_cons_succ, List.setIfInBounds_toArray, List.set_cons_zero, List.set_cons_succ]
    refine wpAnyH_take (i := 1) (v := ?_) rfl (by kernel_rfl) (by kernel_rfl) (by kernel_rfl) (fun _ _ _ h => h) (Or.inl ⟨by rfl, ?_⟩) (by assumption) ?_
    rotate_left
    · (intro wq hSw; (try dsimp only at hSw); go_simp; (try with_reducible rfl))
    simp only [Act.put, List.getElem_toArray, List.getElem_cons_zero, List.getElem_cons_succ, List.setIfInBounds_toArray, List.set_cons_zero, List.set_cons_succ]
    refine wpAnyH_take (i := 2) (v := ?_) rfl (by kernel_rfl) (by kernel_rfl) (by kernel_rfl) (fun _ _ _ h => h) (Or.inl ⟨by rfl, ?_⟩) (by assumption) ?_
    rotate_left
    · (intro wq hSw; (try dsimp only at hSw); go_simp; (try with_reducible rfl))
    simp only [Act.put, List.getElem_toArray, List.getElem_cons_zero, List.getElem_cons_succ, List.setIfInBounds_toArray, List.set_cons_zero, List.set_cons_succ]
    refine wpAnyH_take (i := 3) (v := ?_) rfl (by kernel_rfl) (by kernel_rfl) (by kernel_rfl) (fun _ _ _ h => h) (Or.inl ⟨by rfl, ?_⟩) (by assumption) ?_
    rotate_left
    · (intro wq hSw; (try dsimp only at hSw); go_simp; (try with_reducible rfl))
    simp only [Act.put, List.getElem_toArray, List.getElem_cons_zero, List.getElem_cons_succ, List.setIfInBounds_toArray, List.set_cons_zero, List.set_cons_succ]
    refine wpAnyH_take (i := 4) (v := ?_) rfl (by kernel_rfl) (by kernel_rfl) (by kernel_rfl) (fun _ _ _ h => h) (Or.inl ⟨by rfl, ?_⟩) (by assumption) ?_
    rotate_left
    · (intro wq hSw; (try dsimp only at hSw); go_simp; (try with_reducible rfl))
    simp only [Act.put, List.getElem_toArray, List.getElem_cons_zero, List.getElem_cons_succ, List.setIfInBounds_toArray, List.set_cons_zero, List.set_cons_succ]
    refine wpAnyH_take (i := 5) (v := ?_) rfl (by kernel_rfl) (by kernel_rfl) (by kernel_rfl) (fun _ _ _ h => h) (Or.inl ⟨by rfl, ?_⟩) (by assumption) ?_
    rotate_left
    · (intro wq hSw; (try dsimp only at hSw); go_simp; (try with_reducible rfl))
    simp only [Act.put, List.getElem_toArray, List.getElem_cons_zero, List.getElem_cons_succ, List.setIfInBounds_toArray, List.set_cons_zero, List.set_cons_succ]
    refine wpAnyH_take (i := 6) (v := ?_) rfl (by kernel_rfl) (by kernel_rfl) (by kernel_rfl) (fun _ _ _ h => h) (Or.inl ⟨by rfl, ?_⟩) (by assumption) ?_
    rotate_left
    · (intro wq hSw; (try dsimp only at hSw); go_simp; (try with_reducible rfl))
    simp only [Act.put, List.getElem_toArray, List.getElem_cons_zero, List.getElem_cons_succ, List.setIfInBounds_toArray, List.set_cons_zero, List.set_cons_succ]
    refine wpAnyH_take (i := 7) (v := ?_) rfl (by kernel_rfl) (by kernel_rfl) (by kernel_rfl) (fun _ _ _ h => h) (Or.inl ⟨by rfl, ?_⟩) (by assumption) ?_
    rotate_left
    · (intro wq hSw; (try dsimp only at hSw); go_simp; (try with_reducible rfl))
    simp only [Act.put, List.getElem_toArray, List.getElem_cons_zero, List.getElem_cons_succ, List.setIfInBounds_toArray, List.set_cons_zero, List.set_cons_succ]
    refine wpAnyH_take (i := 8) (v := ?_) rfl (by kernel_rfl) (by kernel_rfl) (by kernel_rfl) (fun _ _ _ h => h) (Or.inl ⟨by rfl, ?_⟩) (by assumption) ?_
    rotate_left
    · (intro wq hSw; (try dsimp only at hSw); go_simp; (try with_reducible rfl))
    simp only [Act.put, List.getElem_toArray, List.getElem_cons_zero, List.getElem_cons_succ, List.setIfInBounds_toArray, List.set_cons_zero, List.set_cons_succ]
    refine wpAnyH_take (i := 9) (v := ?_) rfl (by kernel_rfl) (by kernel_rfl) (by kernel_rfl) (fun _ _ _ h => h) (Or.inl ⟨by rfl, ?_⟩) (by assumption) ?_
    rotate_left
    · (intro wq hSw; (try dsimp only at hSw); go_simp; (try with_reducible rfl))
    simp only [Act.put, List.getElem_toArray, List.getElem_cons_zero, List.getElem_cons_succ, List.setIfInBounds_toArray, List.set_cons_zero, List.set_cons_succ]
    refine wpAnyH_take (i := 10) (v := ?_) rfl (by kernel_rfl) (by kernel_rfl) (by kernel_rfl) (fun _ _ _ h => h) (Or.inl ⟨by rfl, ?_⟩) (by assumption) ?_
    rotate_left
    · (intro wq hSw; (try dsimp only at hSw); go_simp; (try with_reducible rfl))
    simp only [Act.put, List.getElem_toArray, List.getElem_cons_zero, List.getElem_cons_succ, List.setIfInBounds_toArray, List.set_cons_zero, List.set_cons_succ]
    refine wpAnyH_ready (rs := [11]) (by kernel_rfl) (by simp) ?_
    refine AllReadyH.cons (by simp only [List.getElem?_toArray, List.getElem?_cons_succ, List.getElem?_cons_zero]; rfl) (fun K hK => ?_) AllReadyH.nil
    (go_simp; go_at_call 59; refine (delV_any wD (.slice a l.length cap) l.length n l.length (l.flatMap Val.cells) (HR.out.chg HWD.out (fun _ _ x => x)) HC1.out HNL.out (Nat.le_refl _) HL.out).mono ?_; rintro _ w2 ⟨v2, rfl, hrow2, hchg2, hold2⟩; have cc2 := hchg2.cellS (HKS.out _ (Chg.refl _ _)) HNB.out; obtain ⟨a2, c2_, rfl, -⟩ := hrow2.slice; have f2 : w2.frozen? ⟨g, o + 3, none⟩ = false := FRZ.out w2 _ HWD.out hchg2; go_simp)
    refine hK.out _ _ ?_ (fun hHeld => ?_)
    · (first | exact HS0.out | exact HKS.out _ (Chg.refl _ _) | exact cc2)
    clear hK K
    (try simp only [Act.put, List.getElem_toArray, List.getElem_cons_zero, List.getElem_cons_succ, List.setIfInBounds_toArray, List.set_cons_zero, List.set_cons_succ])
    refine wpAnyH_take (i := 12) (v := ?_) rfl (by kernel_rfl) (by kernel_rfl) (by kernel_rfl) (fun _ _ _ h => h) (Or.inl ⟨by rfl, ?_⟩) (by assumption) ?_
    rotate_left
    · (intro wq hSw; (try dsimp only at hSw); go_simp; (try with_reducible rfl))
    simp only [Act.put, List.getElem_toArray, List.getElem_cons_zero, List.getElem_cons_succ, List.setIfInBounds_toArray, List.set_cons_zero, List.set_cons_succ]
    refine wpAnyH_take (i := 13) (v := ?_) rfl (by kernel_rfl) (by kernel_rfl) (by kernel_rfl) (fun _ _ _ h => h) (Or.inl ⟨by rfl, ?_⟩) (by assumption) ?_
    rotate_left
    · (intro wq hSw; (try dsimp only at hSw); go_simp; (try with_reducible rfl))
    simp only [Act.put, List.getElem_toArray, List.getElem_cons_zero, List.getElem_cons_succ, List.setIfInBounds_toArray, List.set_cons_zero, List.set_cons_succ]
    refine wpAnyH_done (by kernel_rfl) ?_ _
    change wpList _ _ _ _ _ _
    simp only [List.drop_succ_cons, List.drop_zero]
    have hP := HBK.out w2 (.slice a2 (l.length - (l.length - n)) c2_) (resizeL l n) (HWD.out.trans hchg2 (fun _ _ x => x.elim) (fun _ _ x => x)) (by rw [← HRL.out, resizeL_len, show l.length - (l.length - n) = n by have := HNL.out; omega]; rwa [show l.length - (l.length - n) = n by have := HNL.out; omega] at hrow2) (fun j hj => .inl (hold2 j hj))
    have HP := Lib.hid hP
    clear hP hHeld hrow2 hchg2 hold2
    go_wp2_with fail
    refine bodyPost_ret (results_none rfl _ _ _) rfl ?_
    exact ⟨rfl, HP.out⟩
  · obtain ⟨m, hm⟩ : ∃ m, n = l.length + m := ⟨n - l.length, by omega⟩
    subst hm
    have hd : ¬ ((l.length + m : Nat) : Int) ≤ (l.length : Int) := by omega
    have hd2 : ¬ (l.length : Int) + (m : Int) ≤ (l.length : Int) := by omega
    have wm : IntKind.i64.wrap (((l.length + m : Nat) : Int) - (l.length : Int)) = (m : Int) := by rw [show (((l.length + m : Nat) : Int) - (l.length : Int)) = (m : Int) by omega]; exact IntWalk.i64_in _ (by omega)
    have wm2 : IntKind.i64.wrap ((l.length : Int) + (m : Int) - (l.length : Int)) = (m : Int) := by rw [show ((l.length : Int) + (m : Int) - (l.length : Int)) = (m : Int) by omega]; exact IntWalk.i64_in _ (by omega)
    have wm3 : IntKind.i64.wrap (m : Int) = (m : Int) := IntWalk.i64_in _ (by omega)
    have HM := Lib.hid hn
    obtain ⟨i0, z, hi, hz, hsz, hby, hzs, hzl⟩ := elemZ_val
    have HZO := Lib.hid (show ∀ u ∈ z.cells.toList, u.oneCell' = true from fun u hu => by rw [hzl] at hu; simp only [List.mem_cons, List.not_mem_nil, or_false] at hu; rcases hu with rfl | rfl | rfl | rfl <;> rfl)
    have HRL : Hid (l.flatMap Val.cells ++ (Builtin.zeroCells z.cells m).toList = (resizeL l (l.length + m)).flatMap Val.cells) := Lib.hid (by
      rw [zeroCells_rep hzl (by decide) m, show resizeL l (l.length + m) = l ++ List.replicate m zeroV by unfold resizeL; rw [List.take_of_length_le (by omega), Nat.add_sub_cancel_left], List.flatMap_append]; exact congrArg _ (rep_flat m))
    have HI := Lib.hid hi
    have HZ := Lib.hid hz
    have HSZ := Lib.hid hsz
    have HBY := Lib.hid hby
    have HZS := Lib.hid hzs
    clear hi hz hsz hby hzs hzl hnl hl hn
    go_enter Tryd.func44, Tryd.ntmps44
    go_upto_region 2 with fail
    clear c3
    refine wp_region_held_split 15 (fun w' => w'.cell? ⟨g, o + 3, none⟩ = some (.slice a l.length cap)) (by kernel_rfl) (by kernel_rfl) ?_ (fun hHeld => ?_)
    · (first | exact HS0.out | exact HKS.out _ (Chg.refl _ _) | exact cc2)
    simp only [List.take_succ_cons, List.take_zero]
    have HKS : Hid (∀ W, Chg (fun _ => False) w.drew W → W.cell? ⟨g, o + 3, none⟩ = some (.slice a l.length cap)) := Lib.hid (fun W hc => hc.cell HS0.out)
    have HWD : Hid (Chg (fun _ => False) w w.drew) := Lib.hid (Chg.refl _ w).drewR
    generalize w.drew = wD at *
    refine wpAnyH_take (i := 0) (v := ?_) rfl (by kernel_rfl) (by kernel_rfl) (by kernel_rfl) (fun _ _ _ h => h) (Or.inl ⟨by rfl, ?_⟩) (by assumption) ?_
    rotate_left
    · (intro wq hSw; (try dsimp only at hSw); go_simp; (try with_reducible rfl))
    simp only [Act.put, List.getElem_toArray, List.getElem_cons_zero, List.getElem_cons_succ, List.setIfInBounds_toArray, List.set_cons_zero, List.set_cons_succ]
    refine wpAnyH_take (i := 1) (v := ?_) rfl (by kernel_rfl) (by kernel_rfl) (by kernel_rfl) (fun _ _ _ h => h) (Or.inl ⟨by rfl, ?_⟩) (by assumption) ?_
    rotate_left
    · (intro wq hSw; (try dsimp only at hSw); go_simp; (try with_reducible rfl))
    simp only [Act.put, List.getElem_toArray, List.getElem_cons_zero, List.getElem_cons_succ, List.setIfInBounds_toArray, List.set_cons_zero, List.set_cons_succ]
    refine wpAnyH_take (i := 2) (v := ?_) rfl (by kernel_rfl) (by kernel_rfl) (by kernel_rfl) (fun _ _ _ h => h) (Or.inl ⟨by rfl, ?_⟩) (by assumption) ?_
    rotate_left
    · (intro wq hSw; (try dsimp only at hSw); go_simp; (try with_reducible rfl))
    simp only [Act.put, List.getElem_toArray, List.getElem_cons_zero, List.getElem_cons_succ, List.setIfInBounds_toArray, List.set_cons_zero, List.set_cons_succ]
    refine wpAnyH_take (i := 3) (v := ?_) rfl (by kernel_rfl) (by kernel_rfl) (by kernel_rfl) (fun _ _ _ h => h) (Or.inl ⟨by rfl, ?_⟩) (by assumption) ?_
    rotate_left
    · (intro wq hSw; (try dsimp only at hSw); go_simp; (try with_reducible rfl))
    simp only [Act.put, List.getElem_toArray, List.getElem_cons_zero, List.getElem_cons_succ, List.setIfInBounds_toArray, List.set_cons_zero, List.set_cons_succ]
    refine wpAnyH_take (i := 4) (v := ?_) rfl (by kernel_rfl) (by kernel_rfl) (by kernel_rfl) (fun _ _ _ h => h) (Or.inl ⟨by rfl, ?_⟩) (by assumption) ?_
    rotate_left
    · (intro wq hSw; (try dsimp only at hSw); go_simp; (try with_reducible rfl))
    simp only [Act.put, List.getElem_toArray, List.getElem_cons_zero, List.getElem_cons_succ, List.setIfInBounds_toArray, List.set_cons_zero, List.set_cons_succ]
    refine wpAnyH_take (i := 5) (v := ?_) rfl (by kernel_rfl) (by kernel_rfl) (by kernel_rfl) (fun _ _ _ h => h) (Or.inl ⟨by rfl, ?_⟩) (by assumption) ?_
    rotate_left
    · (intro wq hSw; (try dsimp only at hSw); go_simp; (try with_reducible rfl))
    simp only [Act.put, List.getElem_toArray, List.getElem_cons_zero, List.getElem_cons_succ, List.setIfInBounds_toArray, List.set_cons_zero, List.set_cons_succ]
    refine wpAnyH_take (i := 6) (v := ?_) rfl (by kernel_rfl) (by kernel_rfl) (by kernel_rfl) (fun _ _ _ h => h) (Or.inl ⟨by rfl, ?_⟩) (by assumption) ?_
    rotate_left
    · (intro wq hSw; (try dsimp only at hSw); go_simp; (try with_reducible rfl))
    simp only [Act.put, List.getElem_toArray, List.getElem_cons_zero, List.getElem_cons_succ, List.setIfInBounds_toArray, List.set_cons_zero, List.set_cons_succ]
    refine wpAnyH_take (i := 7) (v := ?_) rfl (by kernel_rfl) (by kernel_rfl) (by kernel_rfl) (fun _ _ _ h => h) (Or.inl ⟨by rfl, ?_⟩) (by assumption) ?_
    rotate_left
    · (intro wq hSw; (try dsimp only at hSw); go_simp; (try with_reducible rfl))
    simp only [Act.put, List.getElem_toArray, List.getElem_cons_zero, List.getElem_cons_succ, List.setIfInBounds_toArray, List.set_cons_zero, List.set_cons_succ]
    refine wpAnyH_take (i := 8) (v := ?_) rfl (by kernel_rfl) (by kernel_rfl) (by kernel_rfl) (fun _ _ _ h => h) (Or.inl ⟨by rfl, ?_⟩) (by assumption) ?_
    rotate_left
    · (intro wq hSw; (try dsimp only at hSw); go_simp; (try with_reducible rfl))
    simp only [Act.put, List.getElem_toArray, List.getElem_cons_zero, List.getElem_cons_succ, List.setIfInBounds_toArray, List.set_cons_zero, List.set_cons_succ]
    refine wpAnyH_take (i := 9) (v := ?_) rfl (by kernel_rfl) (by kernel_rfl) (by kernel_rfl) (fun _ _ _ h => h) (Or.inl ⟨by rfl, ?_⟩) (by assumption) ?_
    rotate_left
    · (intro wq hSw; (try dsimp only at hSw); go_simp; (try with_reducible rfl))
    simp only [Act.put, List.getElem_toArray, List.getElem_cons_zero, List.getElem_cons_succ, List.setIfInBounds_toArray, List.set_cons_zero, List.set_cons_succ]
    refine wpAnyH_take (i := 10) (v := ?_) rfl (by kernel_rfl) (by kernel_rfl) (by kernel_rfl) (fun _ _ _ h => h) (Or.inl ⟨by rfl, ?_⟩) (by assumption) ?_
    rotate_left
    · (intro wq hSw; (try dsimp only at hSw); go_simp; (try with_reducible rfl))
    simp only [Act.put, List.getElem_toArray, List.getElem_cons_zero, List.getElem_cons_succ, List.setIfInBounds_toArray, List.set_cons_zero, List.set_cons_succ]
    refine wpAnyH_take (i := 11) (v := ?_) rfl (by kernel_rfl) (by kernel_rfl) (by kernel_rfl) (fun _ _ _ h => h) (Or.inl ⟨by rfl, ?_⟩) (by assumption) ?_
    rotate_left
    · (intro wq hSw; (try dsimp only at hSw); go_simp; (try with_reducible rfl))
    simp only [Act.put, List.getElem_toArray, List.getElem_cons_zero, List.getElem_cons_succ, List.setIfInBounds_toArray, List.set_cons_zero, List.set_cons_succ]
    refine wpAnyH_ready (rs := [12]) (by kernel_rfl) (by simp) ?_
    refine AllReadyH.cons (by simp only [List.getElem?_toArray, List.getElem?_cons_succ, List.getElem?_cons_zero]; rfl) (fun K hK => ?_) AllReadyH.nil
    (refine step_append_zeros (by rfl) _ _ _ _ (by rfl) 36 i0 z 4 40 .i64 Tryd.underlying44 Tryd.underlying3 HI.out HZ.out HSZ.out HBY.out HZS.out (by decide) HZO.out _ l.length (l.flatMap Val.cells) (by rfl) (HR.out.chg HWD.out (fun _ _ x => x)) m (by rfl) (by have := HM.out; omega) (by have := HM.out; omega) ?_; intro a2 n2 c2_ w2 hrow2 hchg2 hold2; have cc2 := hchg2.cellS (HKS.out _ (Chg.refl _ _)) HNB.out; have f2 : w2.frozen? ⟨g, o + 3, none⟩ = false := FRZ.out w2 _ HWD.out hchg2)
    refine hK.out _ _ ?_ (fun hHeld => ?_)
    · (first | exact HS0.out | exact HKS.out _ (Chg.refl _ _) | exact cc2)
    clear hK K
    (try simp only [Act.put, List.getElem_toArray, List.getElem_cons_zero, List.getElem_cons_succ, List.setIfInBounds_toArray, List.set_cons_zero, List.set_cons_succ])
    refine wpAnyH_take (i := 13) (v := ?_) rfl (by kernel_rfl) (by kernel_rfl) (by kernel_rfl) (fun _ _ _ h => h) (Or.inl ⟨by rfl, ?_⟩) (by assumption) ?_
    rotate_left
    · (intro wq hSw; (try dsimp only at hSw); go_simp; (try with_reducible rfl))
    simp only [Act.put, List.getElem_toArray, List.getElem_cons_zero, List.getElem_cons_succ, List.setIfInBounds_toArray, List.set_cons_zero, List.set_cons_succ]
    refine wpAnyH_take (i := 14) (v := ?_) rfl (by kernel_rfl) (by kernel_rfl) (by kernel_rfl) (fun _ _ _ h => h) (Or.inl ⟨by rfl, ?_⟩) (by assumption) ?_
    rotate_left
    · (intro wq hSw; (try dsimp only at hSw); go_simp; (try with_reducible rfl))
    simp only [Act.put, List.getElem_toArray, List.getElem_cons_zero, List.getElem_cons_succ, List.setIfInBounds_toArray, List.set_cons_zero, List.set_cons_succ]
    refine wpAnyH_done (by kernel_rfl) ?_ _
    change wpList _ _ _ _ _ _
    simp only [List.drop_succ_cons, List.drop_zero]
    have hP := HBK.out w2 (.slice a2 n2 c2_) (resizeL l (l.length + m)) (HWD.out.trans hchg2 (fun _ _ x => x.elim) (fun _ _ x => x)) (by rw [← HRL.out, resizeL_len]; exact hrow2) (fun j hj => (hold2 j hj).imp id (fun x => by have := HWD.out.size; omega))
    have HP := Lib.hid hP
    clear hP hHeld hrow2 hchg2 hold2
    go_wp2_with fail
    go_end0
    exact ⟨rfl, HP.out⟩
end Go.Proofs.YtjianickjahdnaaDoor
