/-
  The operations of a machine of layer 54: put, offer, part, parts.
-/
import Derived.Test.YtkoopagjjmdodaaMig
import Derived.Test.YtkoopagjjmdodaaHoldc
import Derived.Deep.RegionLaw
namespace Go.Proofs.Ytkoopagjjmdodaa
open Go.RowKit
set_option linter.unusedVariables false

theorem elem_msg : Elem Try.prog 39 8 80 := elem_of (by kernel_rfl)
theorem elem_seat : Elem Try.prog 67 8 128 := elem_of (by kernel_rfl)
theorem elem_str : Elem Try.prog 9 1 16 := elem_of (by kernel_rfl)
abbrev outR : Rep (List Msg) := msgR.row 39
abbrev seatsR : Rep (List Seat) := seatR.row 67

/-- put: a message goes out. -/
def PutPost (w : World) (b o : Nat) (out : List Msg) (G : List Nat) (w' : World) : Prop := ∃ G', Here outR w' b (o + 2) out G' ∧ Step w w' b (o + 2) 1 G G'
set_option maxHeartbeats 1600000 in
set_option maxRecDepth 100000 in
theorem put_any (w : World) (b o : Nat) (id : Int) (out : List Msg) (G : List Nat) (m : Msg) (hid : w.cell? ⟨b, o, none⟩ = some (.int .i64 id)) (H : Here outR w b (o + 2) out G) (hl : Few out.length) :
    Calls Try.prog 41 #[.pointer (some ⟨b, o, none⟩), .agg m.cells.toArray] w fun e w' => e = .returned (.tuple #[]) ∧ PutPost w b o (out ++ [{ m with frm := id }]) G w' := by
  unfold Msg.cells
  have hlt := H.lt.1
  obtain ⟨vo, xs, Fs, c2, hopen⟩ := H.openRow
  obtain ⟨ao, capo, rfl, ho1, ho2⟩ := hopen.val
  obtain ⟨r1, r2, r3⟩ := hopen.flat
  have f2 := H.frozen (o + 2)
  go_enter Try.func41, Try.ntmps41
  go_upto_region 2 with fail
  have g1 := alloc_block w (.cells #[.int .i64 m.kind, .int .i64 id, .int .i64 m.dst, .string m.page, .int .i64 m.epoch, .int .i64 m.index, .int .i64 m.count, .string m.data] 39)
  have hch1 := Chg.alloc (fun _ => False) w (.cells #[.int .i64 m.kind, .int .i64 id, .int .i64 m.dst, .string m.page, .int .i64 m.epoch, .int .i64 m.index, .int .i64 m.count, .string m.data] 39)
  generalize w.alloc (.cells #[.int .i64 m.kind, .int .i64 id, .int .i64 m.dst, .string m.page, .int .i64 m.epoch, .int .i64 m.index, .int .i64 m.count, .string m.data] 39) = w1 at *
  have d2 := hch1.cell c2
  have m0 : w1.cell? ⟨w.heap.size, 0, none⟩ = some (.int .i64 m.kind) := cell_of_block (i := 0) g1 rfl
  have m1 : w1.cell? ⟨w.heap.size, 1, none⟩ = some (.int .i64 id) := cell_of_block (i := 1) g1 rfl
  have m2 : w1.cell? ⟨w.heap.size, 2, none⟩ = some (.int .i64 m.dst) := cell_of_block (i := 2) g1 rfl
  have m3 : w1.cell? ⟨w.heap.size, 3, none⟩ = some (.string m.page) := cell_of_block (i := 3) g1 rfl
  have m4 : w1.cell? ⟨w.heap.size, 4, none⟩ = some (.int .i64 m.epoch) := cell_of_block (i := 4) g1 rfl
  have m5 : w1.cell? ⟨w.heap.size, 5, none⟩ = some (.int .i64 m.index) := cell_of_block (i := 5) g1 rfl
  have m6 : w1.cell? ⟨w.heap.size, 6, none⟩ = some (.int .i64 m.count) := cell_of_block (i := 6) g1 rfl
  have m7 : w1.cell? ⟨w.heap.size, 7, none⟩ = some (.string m.data) := cell_of_block (i := 7) g1 rfl
  have hrowA := ((r1.chg hch1 (fun _ _ x => x)).alloc (.cells #[.int .i64 m.kind, .int .i64 id, .int .i64 m.dst, .string m.page, .int .i64 m.epoch, .int .i64 m.index, .int .i64 m.count, .string m.data] 39)).drew
  have hchA := ((hch1.allocR (.cells #[.int .i64 m.kind, .int .i64 id, .int .i64 m.dst, .string m.page, .int .i64 m.epoch, .int .i64 m.index, .int .i64 m.count, .string m.data] 39))).drewR
  have hgA : (w1.alloc (.cells #[.int .i64 m.kind, .int .i64 id, .int .i64 m.dst, .string m.page, .int .i64 m.epoch, .int .i64 m.index, .int .i64 m.count, .string m.data] 39)).drew.heap[w1.heap.size]? = some (.cells [.int .i64 m.kind, .int .i64 id, .int .i64 m.dst, .string m.page, .int .i64 m.epoch, .int .i64 m.index, .int .i64 m.count, .string m.data].toArray 39 (0, 0)) := alloc_block w1 _
  have HGA := Lib.hid hgA
  have HE := Lib.hid elem_msg
  have c2A := hchA.cell c2
  have f2A := f2
  have hn2 : ∀ k, (Value.slice ao out.length capo).ownBlock = some k → k ∈ G := fun k hk => by rw [r3]; exact mem_ownL.2 hk
  have hbG : ¬ (Value.slice ao out.length capo).ownBlock = some b := fun hk => H.nb (hn2 b hk)
  obtain ⟨cb, Tb, hbox⟩ := H.boxed
  have hboxA := hchA.keep hbox (fun x => x)
  have HBA := Lib.hid hboxA
  have HB := Lib.hid hbox
  clear hgA hbox hboxA hid c2 f2 f2A
  have hbc := Lib.hid hbG
  clear hbG
  have hcc : cb[o + 2]? = some (.slice ao out.length capo) := by
    have := c2A
    simpa [World.cell?, HBA.out] using this
  have HCC := Lib.hid hcc
  clear hcc
  go_region_law
    ((refine step_append_elem (by rfl) _ _ _ (by rfl) 39 8 80 Try.underlying24 HE.out (by decide) _ out.length (out.flatMap Msg.cells) (by rfl) hrowA [.int .i64 m.kind, .int .i64 id, .int .i64 m.dst, .string m.page, .int .i64 m.epoch, .int .i64 m.index, .int .i64 m.count, .string m.data] rfl w1.heap.size 39 (0, 0) (by rfl) HGA.out (by simp [Value.oneCell']) (by have := hl.lt; unfold maxLen; omega) (by have := hl.lt; omega) ?_; intro a2 n2 cp2 w2 hrow2 hchg2 hold2; have hb2 := hchg2.keep HBA.out hbc.out; have f2 := frozen_of_block (i := o + 2) hb2; have cc2 := cell_of_block (i := o + 2) hb2 HCC.out))
  all_goals (
    go_wp2_with fail
    go_end0
    refine ⟨rfl, ?_⟩
    exact hopen.push (a := { m with frm := id }) (G := []) H hchA ⟨rfl, rfl⟩ (by simp) (by simp) (by rw [r2]; exact hrow2) hchg2 hold2)
end Go.Proofs.Ytkoopagjjmdodaa
