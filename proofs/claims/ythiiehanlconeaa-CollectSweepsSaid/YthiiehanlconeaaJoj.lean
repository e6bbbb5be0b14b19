/-
  The law's join, whatever the sort of the link.
-/
import Derived.Test.YthiiehanlconeaaJk0
import Derived.Test.YthiiehanlconeaaJk1
import Derived.Test.YthiiehanlconeaaJk2
import Derived.Test.YthiiehanlconeaaJk3
import Derived.Test.YthiiehanlconeaaJk4
import Derived.Test.YthiiehanlconeaaJk5
import Derived.Test.YthiiehanlconeaaJk6
import Derived.Test.YthiiehanlconeaaJrr
namespace Go.Proofs.Ythiiehanlconeaa
open Go.RowKit
set_option linter.unusedVariables false
set_option linter.unusedSimpArgs false

theorem join_any (w0 w : World) (bh : Nat) (hp : Hp) (vl vx : Value) (n : Nat) (L : List Int) (xs : List RObj) (Fh Fx B : List Nat) (k : Lk) (H : GS w0 w bh hp vx xs Fh Fx B) (hL : RowAt w 3 1 vl L.length (intC L)) (hB : ∀ b, vl.ownBlock = some b → b ∈ B)
    (ok : GOk n L hp xs) (hk : LkOk k) (hob : ∀ s (h : s < hp.slots.length), ObjOk hp.slots[s].obj) (hxo : ∀ x ∈ xs, x.strong.length ≤ 1000 ∧ x.keys.length ≤ 1000 ∧ x.vals.length ≤ 1000) :
    Calls Try.prog 26 #[.pointer (some ⟨bh, 0, none⟩), vl, vx, .agg #[.int .u8 (k.frm : Int), .int .u8 (k.sort : Int), .int .u8 (k.to_ : Int), .int .u8 (k.by_ : Int)]] w
      fun e w' => e = .returned (.tuple #[]) ∧ ∃ key Fh' Fx', GS w0 w' bh (joinM key n L hp xs k).1 vx (joinM key n L hp xs k).2 Fh' Fx' B ∧ KeepB B w w' := by
  have h7 : k.sort % 7 < 7 := Nat.mod_lt _ (by omega)
  rcases (show k.sort % 7 = 0 ∨ k.sort % 7 = 1 ∨ k.sort % 7 = 2 ∨ k.sort % 7 = 3 ∨ k.sort % 7 = 4 ∨ k.sort % 7 = 5 ∨ k.sort % 7 = 6 by omega) with h | h | h | h | h | h | h
  · exact join_arm0 w0 w bh hp vl vx n L xs Fh Fx B k H hL hB ok hk hob hxo h
  · exact join_arm1 w0 w bh hp vl vx n L xs Fh Fx B k H hL hB ok hk hob hxo h
  · exact join_arm2 w0 w bh hp vl vx n L xs Fh Fx B k H hL hB ok hk hob hxo h
  · exact join_arm3 w0 w bh hp vl vx n L xs Fh Fx B k H hL hB ok hk hob hxo h
  · exact join_arm4 w0 w bh hp vl vx n L xs Fh Fx B k H hL hB ok hk hob hxo h
  · exact join_arm5 w0 w bh hp vl vx n L xs Fh Fx B k H hL hB ok hk hob hxo h
  · exact join_arm6 w0 w bh hp vl vx n L xs Fh Fx B k H hL hB ok hk hob hxo h
/-- The same over what stays true of both graphs. -/
theorem join_gi (w0 w : World) (bh : Nat) (hp : Hp) (vl vx : Value) (n : Nat) (b s : Int) (L : List Int) (xs : List RObj) (Fh Fx B : List Nat) (k : Lk) (p m : Nat) (H : GS w0 w bh hp vx xs Fh Fx B) (hL : RowAt w 3 1 vl L.length (intC L)) (hB : ∀ b, vl.ownBlock = some b → b ∈ B)
    (G : GI n b s L hp xs p m) (hk : LkOk k) (hp7 : p < 7) (hm : m ≤ 450) (hr : k.sort % 7 = ordL.getD p 0) :
    Calls Try.prog 26 #[.pointer (some ⟨bh, 0, none⟩), vl, vx, .agg #[.int .u8 (k.frm : Int), .int .u8 (k.sort : Int), .int .u8 (k.to_ : Int), .int .u8 (k.by_ : Int)]] w
      fun e w' => e = .returned (.tuple #[]) ∧ ∃ hp' xs' Fh' Fx', GS w0 w' bh hp' vx xs' Fh' Fx' B ∧ GI n b s L hp' xs' p (m + 1) ∧ KeepB B w w' := by
  refine (join_any w0 w bh hp vl vx n L xs Fh Fx B k H hL hB G.ok hk (G.hpOk (by omega)).obj (G.lens (by omega))).mono ?_
  rintro e w' ⟨rfl, key, Fh', Fx', h1, h2⟩
  exact ⟨rfl, _, _, Fh', Fx', h1, G.join hp7 hr key, h2⟩
end Go.Proofs.Ythiiehanlconeaa
