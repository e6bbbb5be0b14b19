/-
  slices.Sort of integers on a row of one's own; the numbers of the open requests.
-/
import Derived.Test.YtaacafdlklnegaaTikb
import Derived.Test.YtaacafdlklnegaaShelf53
namespace Go.Proofs.Ytaacafdlklnegaa
open Go.RowKit
set_option linter.unusedVariables false

def sorted (zs : List Int) : List Int := zs.mergeSort fun x y => decide (x ≤ y)
theorem sorted_length (zs : List Int) : (sorted zs).length = zs.length := by simp [sorted]
theorem sortRow (w : World) (v : Value) (zs : List Int) (h : RowAt w 3 1 v zs.length (zs.map (Value.int .i64))) (hz : Few zs.length) :
    Calls Try.prog 33 #[v] w fun e w' => e = .returned (.tuple #[]) ∧ RowAt w' 3 1 v zs.length ((sorted zs).map (Value.int .i64)) ∧ Chg (fun k => v.ownBlock = some k) w w' := by
  by_cases hzs : zs = []
  · subst hzs
    obtain ⟨a, cap, rfl, _⟩ := h.slice
    refine (shSortInt_none a cap w).mono ?_
    rintro e w' ⟨rfl, rfl⟩
    exact ⟨rfl, by simpa [sorted] using h, .refl _ _⟩
  have hpos : 0 < zs.length := List.length_pos_iff.2 hzs
  have h' := h
  obtain ⟨hl, hr⟩ := h'
  rcases hr with ⟨_, h0⟩ | ⟨g, off, cap, cur, rfl, hg, h1, h2, h3, h4⟩
  · omega
  have hblk := lt_of_block hg
  refine (shSortInt g off cap zs w ?_ hblk (by have := hz.lt; omega)).mono ?_
  · intro j hj
    have hj' : j < zs.length := by simpa using hj
    refine ⟨?_, frozen_of_block hg⟩
    have := h.cellAt j (.int .i64 zs[j]) (by simp [hj'])
    rw [this]
    simp [hj']
  · rintro e w' ⟨rfl, n, os, rfl⟩
    have hs : (zs.mergeSort fun x y => decide (x ≤ y)).length = zs.length := by simp
    have hbox : (Sort.grow (Sort.putRow (Value.int .i64) (Sort.ahead w n) g off (zs.mergeSort fun x y => decide (x ≤ y)).toArray) os).heap[g]? = some (.cells (Sort.putCells (Value.int .i64) off (zs.mergeSort fun x y => decide (x ≤ y)).toArray cur) 3 (0, 0)) := by
      simp only [Sort.grow, Sort.putRow, Sort.mapBlock, Sort.ahead]
      rw [Array.getElem?_append_left (by simpa using hblk), Array.getElem?_modify, if_pos rfl, hg]
      rfl
    refine ⟨rfl, ⟨by simp [sorted], .inr ⟨g, off, cap, _, rfl, hbox, h1, h2, by simpa [Sort.putCells] using h3, ?_⟩⟩, ⟨rfl, rfl, rfl, by simp [Sort.grow, Sort.putRow, Sort.mapBlock, Sort.ahead], fun k hk hn => ?_⟩⟩
    · refine List.ext_getElem? fun j => ?_
      by_cases hj : j < zs.length
      · rw [take_drop_get (by omega)]
        have hlt : off + j < cur.size := by omega
        simp only [Sort.putCells, Array.toList_mapIdx, List.getElem?_mapIdx]
        rw [show cur.toList[off + j]? = some cur[off + j] from by simp [hlt]]
        simp only [Option.map_some, List.size_toArray]
        rw [if_pos ⟨by omega, by omega⟩, show off + j - off = j from by omega]
        have hj2 : j < (zs.mergeSort fun x y => decide (x ≤ y)).length := by omega
        rw [sorted, List.getElem?_map, List.getElem?_eq_getElem hj2, getElem!_pos _ j (by simpa using hj2)]
        rfl
      · rw [List.getElem?_eq_none (by simp; omega), List.getElem?_eq_none (by simp [sorted]; omega)]
    · have hkg : g ≠ k := fun e => hn (by rw [e]; rfl)
      simp only [Sort.grow, Sort.putRow, Sort.mapBlock, Sort.ahead]
      rw [Array.getElem?_append_left (by simpa using hk), Array.getElem?_modify, if_neg hkg]

def isOpen (page : ByteArray) (x : Entry) : Bool := (x.page.toList == page.toList) && !x.closed
def opens (s : State) (page : ByteArray) : List Int := (s.entries.filter (isOpen page)).map (·.number)
def openL (s : State) (page : ByteArray) : List Int := sorted (opens s page)
theorem opens_le (s : State) (page : ByteArray) : (opens s page).length ≤ s.entries.length := by
  unfold opens
  rw [List.length_map]
  exact List.length_filter_le _ _

set_option maxHeartbeats 1600000 in
set_option maxRecDepth 100000 in
theorem openNums_any (w : World) (b o : Nat) (s : State) (F : List Nat) (page : ByteArray) (H : Here stateR w b o s F) (hl : Few s.entries.length) :
    Calls Try.prog 15 #[.pointer (some ⟨b, o, none⟩), .string page] w fun e w' => ∃ v, e = .returned v ∧ RowAt w' 3 1 v (openL s page).length ((openL s page).map (Value.int .i64)) ∧ (∀ k, v.ownBlock = some k → w.heap.size ≤ k) ∧ Chg (fun _ => False) w w' := by
  obtain ⟨_, v1, _, _, c1, _, F0, F1, F2, _, h1, -⟩ := stateCells H
  obtain ⟨xs, Fs, hopen⟩ := Rep.opened h1
  obtain ⟨a, cap, rfl, hc1, hc2⟩ := hopen.val
  unfold maxLen at hc2
  have HE := Lib.hid elem_int
  go_enter Try.func15, Try.ntmps15
  go_wp2_with fail
  go_loopw [5, 7, 13] (fun out _ i wr => ∃ (k : Nat) (p : Option Addr) (n c : Nat) (ls : List Int), k ≤ s.entries.length ∧ i = .int .i64 k ∧ out = .slice p n c ∧ RowAt wr 3 1 (.slice p n c) ls.length (ls.map (Value.int .i64)) ∧ (∀ j, (Value.slice p n c).ownBlock = some j → w.heap.size ≤ j) ∧ Chg (fun _ => False) w wr ∧ ls.length ≤ k ∧ Hid (ls ++ ((s.entries.drop k).filter (isOpen page)).map (·.number) = opens s page)) (fun _ _ i _ => s.entries.length - (intOf i).toNat)
  case atStart => exact ⟨0, none, 0, 0, [], Nat.zero_le _, rfl, rfl, RowAt.nil _ _ _, by simp [Value.ownBlock], .refl _ _, Nat.zero_le _, Lib.hid (by simp [opens])⟩
  case round =>
    obtain ⟨k, p, n, c, ls, hk, rfl, rfl, hrow, hown, hch, hlen, HF⟩ := hrel
    by_cases hlt : k < s.entries.length
    · obtain ⟨g, off, cap', hv', _, _, _, _, hat⟩ := (hopen.still hch).at (by omega)
      simp only [Value.slice.injEq] at hv'
      obtain ⟨rfl, _, rfl⟩ := hv'
      obtain ⟨x, G, ⟨vp, Fp, rfl, hpp, _⟩, _, hcells⟩ := hat k hlt
      obtain ⟨ys, Ys, hpo⟩ := Rep.opened hpp
      obtain ⟨pa, pc, rfl, _, _⟩ := hpo.val
      have c0 : wr.cell? ⟨g, off + k * 7 + 0, none⟩ = some (.string s.entries[k].page) := hcells 0 _ rfl
      have c1' : wr.cell? ⟨g, off + k * 7 + 1, none⟩ = some (.int .i64 s.entries[k].number) := hcells 1 _ rfl
      have c2 : wr.cell? ⟨g, off + k * 7 + 2, none⟩ = some (.string s.entries[k].request) := hcells 2 _ rfl
      have c3 : wr.cell? ⟨g, off + k * 7 + 3, none⟩ = some (.slice pa s.entries[k].pieces.length pc) := hcells 3 _ rfl
      have c4 : wr.cell? ⟨g, off + k * 7 + 4, none⟩ = some (.int .i64 s.entries[k].acked) := hcells 4 _ rfl
      have c5 : wr.cell? ⟨g, off + k * 7 + 5, none⟩ = some (.bool s.entries[k].ended) := hcells 5 _ rfl
      have c6 : wr.cell? ⟨g, off + k * 7 + 6, none⟩ = some (.bool s.entries[k].closed) := hcells 6 _ rfl
      rw [Nat.add_zero] at c0
      have hF := HF.out
      rw [List.drop_eq_getElem_cons hlt, List.filter_cons] at hF
      have h0' : (0 : Int) ≤ (k : Int) := Int.natCast_nonneg _
      have h3 : (k : Int) < (s.entries.length : Int) := by omega
      have hi : isOpen page s.entries[k] = ((s.entries[k].page.toList == page.toList) && !s.entries[k].closed) := rfl
      clear hcells hat hpp hpo
      generalize s.entries[k] = x at *
      obtain ⟨xp, xn, xr, xl, xa, xe, xc⟩ := x
      by_cases hq : (xp.toList == page.toList) = true
      · cases xc with
        | false =>
          rw [if_pos (by rw [hi, hq]; rfl)] at hF
          have HF2 := Lib.hid hF
          clear hF HF hi
          have hgA := alloc_block (wr.alloc (.cells #[.string xp, .int .i64 xn, .string xr, .slice pa xl.length pc, .int .i64 xa, .bool xe, .bool false] 69)) (.cells #[.int .i64 xn] 3)
          have hrowA := (hrow.alloc (.cells #[.string xp, .int .i64 xn, .string xr, .slice pa xl.length pc, .int .i64 xa, .bool xe, .bool false] 69)).alloc (.cells #[.int .i64 xn] 3)
          rw [show (wr.alloc (.cells #[.string xp, .int .i64 xn, .string xr, .slice pa xl.length pc, .int .i64 xa, .bool xe, .bool false] 69)).heap.size = wr.heap.size + 1 from by simp] at hgA
          have HGA := Lib.hid hgA
          clear hgA
          go_wp2_with (first
            | (at_builtin; refine list_append_elem rfl (.tmp 26) (.tmp 29) 32 rfl 3 1 8 Try.underlying32 HE.out (by decide) _ ls.length (ls.map (Value.int .i64)) rfl hrowA [.int .i64 xn] rfl (wr.heap.size + 1) 3 (0, 0) rfl HGA.out (by simp [Value.oneCell']) (by have := hl.lt; unfold maxLen; omega) (by have := hl.lt; omega) ?_; intro a3 n3 c3 w3 hrow3 hchg3 hold3))
          go_roundw
          case rel =>
            refine ⟨k + 1, a3, n3, c3, ls ++ [xn], by omega, by go_num, rfl, by simpa using hrow3, ?_, ?_, by simp; omega, ?_⟩
            · intro j hj
              rcases hold3 j hj with y | y
              · exact hown j y
              · have := hch.size; simp at y; omega
            · refine ((hch.allocR _).allocR _).trans hchg3 (fun _ _ y => y) ?_
              intro i hi y
              have := hown i y
              omega
            · have h2 := HF2.out
              exact Lib.hid (by simpa using h2)
          case measure => simp [intOf]; omega
        | true =>
          rw [if_neg (by rw [hi]; simp)] at hF
          have HF2 := Lib.hid hF
          clear hF HF hi
          go_wp2_with fail
          go_roundw
          case rel => exact ⟨k + 1, p, n, c, ls, by omega, by go_num, rfl, hrow.alloc _, hown, hch.allocR _, by omega, HF2⟩
          case measure => simp [intOf]; omega
      · rw [Bool.not_eq_true] at hq
        rw [if_neg (by rw [hi, hq]; simp)] at hF
        have HF2 := Lib.hid hF
        clear hF HF hi
        go_wp2_with fail
        go_roundw
        case rel => exact ⟨k + 1, p, n, c, ls, by omega, by go_num, rfl, hrow.alloc _, hown, hch.allocR _, by omega, HF2⟩
        case measure => simp [intOf]; omega
    · have hF := HF.out
      rw [List.drop_of_length_le (by omega), List.filter_nil, List.map_nil, List.append_nil] at hF
      have HF2 := Lib.hid hF
      clear hF HF
      go_wp2_with fail
      refine (sortRow wr _ ls hrow ⟨by have := hl.lt; omega⟩).mono ?_
      rintro e w2 ⟨rfl, hrow2, hc2⟩
      go_wp2_with fail
      go_ret
      refine ⟨_, rfl, ?_, hown, hch.trans hc2 (fun _ _ y => y) (fun i hi y => by have := hown i y; omega)⟩
      rw [openL, ← HF2.out, sorted_length]
      exact hrow2
end Go.Proofs.Ytaacafdlklnegaa
