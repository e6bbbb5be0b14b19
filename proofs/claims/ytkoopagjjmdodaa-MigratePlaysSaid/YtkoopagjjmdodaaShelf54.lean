/-
  The library's strings.Join, laid over this program (written by the kit's shelf command: lay-shelf.mjs, lay-plain.mjs).
-/
import Derived.Shelf.Strings.OnBuilder
import Derived.Shelf.Strings.Builder2
import Derived.Test.YtkoopagjjmdodaaProg
namespace Go.Proofs.Ytkoopagjjmdodaa
open Go.Shelf
def shLays156_ren : Go.Shelf.Ren := ⟨fun | 156 => 74 | 165 => 77 | 166 => 78 | 169 => 79 | 240 => 80 | 241 => 81 | 276 => 82 | 277 => 83 | n => n, fun | 31 => 63 | 9 => 9 | 3 => 3 | 4 => 4 | 0 => 0 | 20 => 20 | 72 => 123 | 76 => 126 | 70 => 121 | 37 => 70 | 75 => 125 | 127 => 128 | 164 => 129 | 5 => 5 | 80 => 87 | n => n, fun | n => n⟩
theorem shLays156 : Go.Proofs.Lays.n156 Try.prog shLays156_ren := {
  mixed := by kernel_rfl
  f156 := Try.func74.trans (congrArg some (by kernel_rfl))
  f165 := Try.func77.trans (congrArg some (by kernel_rfl))
  f166 := Try.func78.trans (congrArg some (by kernel_rfl))
  f169 := Try.func79.trans (congrArg some (by kernel_rfl))
  f240 := Try.func80.trans (congrArg some (by kernel_rfl))
  f241 := Try.func81.trans (congrArg some (by kernel_rfl))
  f276 := Try.func82.trans (congrArg some (by kernel_rfl))
  f277 := Try.func83.trans (congrArg some (by kernel_rfl))
  t0 := Try.underlying0
  a0 := Try.isAgg0
  z0 := Try.sizeOf0
  v0 := Try.zeroValue0
  t3 := Try.underlying3
  a3 := Try.isAgg3
  z3 := Try.sizeOf3
  v3 := Try.zeroValue3
  t4 := Try.underlying4
  a4 := Try.isAgg4
  z4 := Try.sizeOf4
  v4 := Try.zeroValue4
  t9 := Try.underlying9
  a9 := Try.isAgg9
  z9 := Try.sizeOf9
  v9 := Try.zeroValue9
  t20 := Try.underlying20
  a20 := Try.isAgg20
  z20 := Try.sizeOf20
  v20 := Try.zeroValue20
  t31 := Try.underlying63
  a31 := Try.isAgg63
  z31 := Try.sizeOf63
  v31 := Try.zeroValue63
  t37 := Try.underlying70
  a37 := Try.isAgg70
  z37 := Try.sizeOf70
  v37 := Try.zeroValue70
  t70 := Try.underlying121
  a70 := Try.isAgg121
  z70 := Try.sizeOf121
  v70 := Try.zeroValue121
  t72 := Try.underlying123
  a72 := Try.isAgg123
  z72 := Try.sizeOf123
  v72 := Try.zeroValue123
  t75 := Try.underlying125
  a75 := Try.isAgg125
  z75 := Try.sizeOf125
  v75 := Try.zeroValue125
  t76 := Try.underlying126
  a76 := Try.isAgg126
  z76 := Try.sizeOf126
  v76 := Try.zeroValue126
  t127 := Try.underlying128
  a127 := Try.isAgg128
  z127 := Try.sizeOf128
  v127 := Try.zeroValue128
  t164 := Try.underlying129
  a164 := Try.isAgg129
  z164 := Try.sizeOf129
  v164 := Try.zeroValue129 }
theorem shExtra156 : Builder.Extra Try.prog shLays156_ren := {
  sizeBuilder := by kernel_rfl
  liesBuilder := by kernel_rfl
  t5 := Try.underlying5
  a5 := Try.isAgg5
  z5 := Try.sizeOf5
  v5 := Try.zeroValue5
  infoByte := by kernel_rfl
  cellsByte := by kernel_rfl
  sizeByte := by kernel_rfl
  neB5 := by decide }
open Go.RowKit in
theorem shJoin (bk o c : Nat) (xs : List ByteArray) (sep : ByteArray) (w : World) (hcells : ∀ (j : Nat) x, xs[j]? = some x → w.cell? ⟨bk, o + j, none⟩ = some (.string x)) (hbk : bk < w.heap.size) (hN : xs.length ≤ 140737488355328) (hcap : xs.length ≤ c) (hlen : (Lib.join (xs.map (·.data.toList)) sep.data.toList).length ≤ 140737488355328) :
    Calls Try.prog 74 #[.slice (some ⟨bk, o, none⟩) xs.length c, .string sep] w fun e w' => e = .returned (.string ⟨(Lib.join (xs.map (·.data.toList)) sep.data.toList).toArray⟩) ∧ Below w.heap.size w w' := Any.strings_Join shLays156 shExtra156 bk o c xs sep w hcells hbk hN hcap hlen
open Go.RowKit in
theorem shJoin_none (a : Option Addr) (c : Nat) (sep : ByteArray) (w : World) :
    Calls Try.prog 74 #[.slice a 0 c, .string sep] w fun e w' => e = .returned (.string ⟨#[]⟩) ∧ w' = w := Any.strings_Join_none shLays156 shExtra156 a c sep w
end Go.Proofs.Ytkoopagjjmdodaa
