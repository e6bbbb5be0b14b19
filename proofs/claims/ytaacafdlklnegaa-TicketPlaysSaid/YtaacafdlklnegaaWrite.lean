/-
  The methods of a Writer: what is appended, and what is left alone.
-/
import Derived.Test.YtaacafdlklnegaaRep
import Derived.Test.YtaacafdlklnegaaPure
namespace Go.Proofs.Ytaacafdlklnegaa
set_option linter.unusedVariables false
open Go.RowKit

theorem wpList_append_byte (w : World) {ops : Array Oper} {rest : List Oper} {o : Oper} {a : Act} {Q : Exit → Act → World → Prop} (hgd : o.guard = none) (s x : Operand)
    (ho : o.op = .call { callee := .builtin .append, args := #[s, x], argTypes := #[35, 35] })
    (v : Value) (bs : List UInt8) (c : UInt8) (u : Value) (T : TypeId) (hsv : a.eval s = v) (hown : RowAt w 5 1 v bs.length (bs.map byteV)) (hx : a.eval x = .slice (some ⟨w.heap.size, 0, none⟩) 1 1) (hu : u = byteV c)
    (hlen : bs.length + 1 ≤ 140737488355328)
    (h : ∀ a1 n1 c1 w', RowAt w' 5 1 (.slice a1 n1 c1) (bs.length + [c].length) (bs.map byteV ++ [c].map byteV) → Chg (fun k => v.ownBlock = some k) w w' → (∀ k, (Value.slice a1 n1 c1).ownBlock = some k → v.ownBlock = some k ∨ w.heap.size ≤ k) →
      wpList Try.prog ops Q rest (a.put o.dst (.slice a1 n1 c1)) w') :
    wpList Try.prog ops Q (o :: rest) a (w.alloc (.cells #[u] T)) := by
  subst hu
  obtain ⟨i, hi, hiv⟩ : ∃ i, Try.prog.info? 5 = some i ∧ (i.zero, i.size, i.bytes) = (some (.int .u8 0), 1, 1) := by
    have := Try.info5
    match hm : Try.prog.info? 5, this with
    | some i, this => exact ⟨i, rfl, by simpa [hm] using this⟩
  simp only [Prod.mk.injEq] at hiv
  refine wpList_append_row (w.alloc (.cells #[byteV c] T)) hgd s x 35 35 ho 5 i (.int .u8 0) 1 1 Try.underlying35 hi hiv.1 hiv.2.1 hiv.2.2 rfl (by decide) v bs.length (bs.map byteV) hsv (hown.alloc _)
    _ 1 [byteV c] hx (Src.ofSlice _ Try.underlying35 _ 1 1 _ rfl (cell_one_new w (byteV c) T) (by intro y hy; simp at hy; subst hy; rfl)) (by unfold maxLen; omega) (by omega) ?_
  intro v' w' h1 h2 h3
  obtain ⟨a1, c1, rfl, _⟩ := h1.slice
  refine h a1 _ c1 w' h1 ⟨h2.os, h2.tape, h2.output, ?_, ?_⟩ ?_
  · have := h2.size; simp at this; omega
  · intro k hk hn
    rw [h2.block k (by simp; omega) hn, Below.heap_alloc _ _ _ hk]
  · intro k hk
    rcases h3 k hk with y | y
    · exact .inl y
    · simp at y; exact .inr (by omega)

theorem info_uint8 : ∃ i, Try.prog.info? 5 = some i ∧ i.zero = some (.int .u8 0) ∧ i.size = 1 ∧ i.bytes = 1 := by
  have := Try.info5
  match hm : Try.prog.info? 5, this with
  | some i, this => exact ⟨i, rfl, by simpa [hm] using this⟩
/-- A byte appended inside a region that draws its order; it lies in block g. -/
theorem step_append_byte {W : World} {ops : Array Oper} {o : Oper} {a : Act} {K : Act → World → Prop} {Q : Exit → Act → World → Prop} {E : Prop} (hgd : o.guard = none) (s x : Operand)
    (ho : o.op = .call { callee := .builtin .append, args := #[s, x], argTypes := #[35, 35] })
    (v : Value) (bs : List UInt8) (c : UInt8) (g : Nat) (hsv : a.eval s = v) (hown : RowAt W 5 1 v bs.length (bs.map byteV)) (hx : a.eval x = .slice (some ⟨g, 0, none⟩) 1 1) (hg : W.cell? ⟨g, 0, none⟩ = some (byteV c))
    (hlen : bs.length + 1 ≤ 140737488355328)
    (h : ∀ a1 n1 c1 w', RowAt w' 5 1 (.slice a1 n1 c1) (bs ++ [c]).length ((bs ++ [c]).map byteV) → Chg (fun k => v.ownBlock = some k) W w' → (∀ k, (Value.slice a1 n1 c1).ownBlock = some k → v.ownBlock = some k ∨ W.heap.size ≤ k) →
      K (a.put o.dst (.slice a1 n1 c1)) w') :
    if Region.wanted o (yielded ops a.tmps) = true then Oper.wp Try.prog o a W K Q else E := by
  obtain ⟨i, hi, h0, h1, h2⟩ := info_uint8
  refine step_append_row hgd s x 35 35 ho 5 i (.int .u8 0) 1 1 Try.underlying35 hi h0 h1 h2 rfl (by decide) v bs.length (bs.map byteV) hsv hown
    _ 1 [byteV c] hx (Src.ofSlice _ Try.underlying35 _ 1 1 _ rfl (by
      intro j u hu
      match j, hu with
      | 0, hu => simp at hu; subst hu; simpa [Addr.add] using hg) (by intro y hy; simp at hy; subst hy; rfl)) (by unfold maxLen; omega) (by omega) ?_
  intro v' w' h1 h2 h3
  obtain ⟨a1, c1, rfl, _⟩ := h1.slice
  exact h a1 _ c1 w' (by simpa using h1) h2 h3

theorem wpList_append_string (w : World) {ops : Array Oper} {rest : List Oper} {o : Oper} {a : Act} {Q : Exit → Act → World → Prop} (hgd : o.guard = none) (s x : Operand)
    (ho : o.op = .call { callee := .builtin .append, args := #[s, x], argTypes := #[35, 9] })
    (v : Value) (bs : List UInt8) (c : ByteArray) (hsv : a.eval s = v) (hown : RowAt w 5 1 v bs.length (bs.map byteV)) (hx : a.eval x = .string c)
    (hlen : bs.length + c.size ≤ 140737488355328)
    (h : ∀ a1 n1 c1 w', RowAt w' 5 1 (.slice a1 n1 c1) (bs.length + c.data.toList.length) (bs.map byteV ++ c.data.toList.map byteV) → Chg (fun k => v.ownBlock = some k) w w' → (∀ k, (Value.slice a1 n1 c1).ownBlock = some k → v.ownBlock = some k ∨ w.heap.size ≤ k) →
      wpList Try.prog ops Q rest (a.put o.dst (.slice a1 n1 c1)) w') :
    wpList Try.prog ops Q (o :: rest) a w := by
  obtain ⟨i, hi, hiv⟩ : ∃ i, Try.prog.info? 5 = some i ∧ (i.zero, i.size, i.bytes) = (some (.int .u8 0), 1, 1) := by
    have := Try.info5
    match hm : Try.prog.info? 5, this with
    | some i, this => exact ⟨i, rfl, by simpa [hm] using this⟩
  simp only [Prod.mk.injEq] at hiv
  have hbc : byteCells c = c.data.toList.map byteV := by simp [byteCells, byteV]
  refine wpList_append_row w hgd s x 35 9 ho 5 i (.int .u8 0) 1 1 Try.underlying35 hi hiv.1 hiv.2.1 hiv.2.2 rfl (by decide) v bs.length (bs.map byteV) hsv hown
    _ c.size (byteCells c) hx (Src.ofString _ Try.underlying9 c) (by unfold maxLen; omega) (by omega) ?_
  intro v' w' h1 h2 h3
  obtain ⟨a1, c1, rfl, _⟩ := h1.slice
  rw [hbc] at h1
  exact h a1 _ c1 w' (by simpa using h1) h2 h3

theorem or128 : ∀ x : Fin 256, x.val ||| 128 = 128 + x.val % 128 := by decide +kernel
theorem byte_or (n : Nat) : Value.int .u8 (bits BinOp.or IntKind.u8 ((n : Int) % 256) 128) = byteV (UInt8.ofNat (128 + n % 128)) := by
  have h := u8_or_nat (n % 256) 128 (by omega) (by omega)
  have h2 := or128 ⟨n % 256, by omega⟩
  simp only at h2
  unfold byteV
  rw [show ((n : Int) % 256) = ((n % 256 : Nat) : Int) from by omega, show (128 : Int) = ((128 : Nat) : Int) from rfl, h, h2]
  congr 1
  simp
  omega
theorem byte_low0 (n : Nat) (h : n < 128) : Value.int .u8 (n : Int) = byteV (UInt8.ofNat n) := by
  unfold byteV
  congr 1
  simp
  omega
theorem byte_low (n : Nat) (h : n < 128) : Value.int .u8 ((n : Int) % 256) = byteV (UInt8.ofNat n) := by
  rw [← byte_low0 n h]
  congr 1
  omega

set_option maxHeartbeats 400000 in
set_option maxRecDepth 100000 in
theorem wUint_any {T : Nat} (w : World) (b : Nat) (v : Value) (bs : List UInt8) (n : Nat) (hn : n < 18446744073709551616) (hw : WrAt w b T v bs) (hlen : bs.length + (Kn.enc n).length ≤ 140737488355328) :
    Calls Try.prog 57 #[.pointer (some ⟨b, 0, none⟩), .int .u64 n] w fun e w' => e = .returned (.tuple #[]) ∧ ∃ v', WrAt w' b T v' (bs ++ Kn.enc n) ∧ WrFr w w' b v v' := by
  go_enter Try.func57, Try.ntmps57
  go_wp2
  go_loopw [1] (fun n' wr => ∃ (m : Nat) (bs' : List UInt8) (v' : Value), n' = .int .u64 m ∧ m < 18446744073709551616 ∧ WrAt wr b T v' bs' ∧ Hid (bs' ++ Kn.enc m = bs ++ Kn.enc n) ∧ WrFr w wr b v v')
    (fun n' _ => (intOf n').toNat)
  case atStart => exact ⟨n, bs, v, rfl, hn, hw, rfl, WrFr.refl _ _ _⟩
  case round =>
    obtain ⟨m, bs', v', rfl, hm, hwr, HE, hfr⟩ := hrel
    have hl : bs'.length + (Kn.enc m).length = bs.length + (Kn.enc n).length := by
      have := congrArg List.length HE.out; simpa using this
    have hp := Kn.enc_pos m
    have hcell := cell_of_block (i := 0) hwr.box rfl
    have hfz := frozen_of_block (i := 0) hwr.box
    by_cases h128 : 128 ≤ m
    · go_wp2_with (first
        | (at_builtin; refine wpList_append_byte wr rfl (.tmp 10) (.tmp 14) rfl v' bs' (UInt8.ofNat (128 + m % 128)) _ _ rfl hwr.row rfl ?_ (by omega) ?_; rotate_left; intro a1 n1 c1 w1 hrow1 hchg1 hold1; have hb1 := hchg1.keep hwr.box hwr.ne; have hc1 := cell_of_block (i := 0) hb1 rfl; have hf1 := frozen_of_block (i := 0) hb1))
      · obtain ⟨hat, hf2⟩ := hwr.push hrow1 hchg1 hold1
        go_roundw
        case rel => exact ⟨m / 128, _, _, by simp, by omega, hat, by rw [List.append_assoc, ← HE.out, Kn.enc_big h128]; rfl, hfr.trans hf2⟩
        case measure => simp [intOf]; omega
      · exact byte_or m
    · go_wp2_with (first
        | (at_builtin; refine wpList_append_byte wr rfl (.tmp 24) (.tmp 27) rfl v' bs' (UInt8.ofNat m) _ _ rfl hwr.row rfl ?_ (by omega) ?_; rotate_left; intro a1 n1 c1 w1 hrow1 hchg1 hold1; have hb1 := hchg1.keep hwr.box hwr.ne; have hc1 := cell_of_block (i := 0) hb1 rfl; have hf1 := frozen_of_block (i := 0) hb1))
      · obtain ⟨hat, hf2⟩ := hwr.push hrow1 hchg1 hold1
        go_end0
        rw [← HE.out, Kn.enc_small (by omega)]
        exact ⟨rfl, _, hat, hfr.trans hf2⟩
      · first | exact byte_low m (by omega) | exact byte_low0 m (by omega)

theorem zig_xor (n : Int) (h1 : -9223372036854775808 ≤ n) (h2 : n < 9223372036854775808) :
    bits BinOp.xor IntKind.u64 (IntKind.u64.wrap (IntKind.u64.wrap n * 2)) (IntKind.u64.wrap (n / 9223372036854775808)) = ((Kn.zig n : Nat) : Int) := by
  have hw : ∀ x : Int, IntKind.u64.wrap x = x % 18446744073709551616 := IntKind.wrap_u64
  rw [hw, hw, hw]
  by_cases h : 0 ≤ n
  · rw [show n % 18446744073709551616 * 2 % 18446744073709551616 = ((2 * n).toNat : Int) from by omega, show n / 9223372036854775808 % 18446744073709551616 = ((0 : Nat) : Int) from by omega, u64_xor_nat _ _ (by omega) (by omega), Nat.xor_zero, Kn.zig, if_pos h]
  · rw [show n % 18446744073709551616 * 2 % 18446744073709551616 = ((2 * n + 18446744073709551616).toNat : Int) from by omega, show n / 9223372036854775808 % 18446744073709551616 = ((18446744073709551615 : Nat) : Int) from by omega, u64_xor_nat _ _ (by omega) (by omega), Nat.xor_comm, Kn.xor_max64 _ (by omega), Kn.zig, if_neg h]
    omega

set_option maxHeartbeats 400000 in
set_option maxRecDepth 100000 in
theorem wInt_any {T : Nat} (w : World) (b : Nat) (v : Value) (bs : List UInt8) (n : Int) (h1 : -9223372036854775808 ≤ n) (h2 : n < 9223372036854775808) (hw : WrAt w b T v bs) (hlen : bs.length + (Kn.enc (Kn.zig n)).length ≤ 140737488355328) :
    Calls Try.prog 44 #[.pointer (some ⟨b, 0, none⟩), .int .i64 n] w fun e w' => e = .returned (.tuple #[]) ∧ ∃ v', WrAt w' b T v' (bs ++ Kn.enc (Kn.zig n)) ∧ WrFr w w' b v v' := by
  go_enter Try.func44, Try.ntmps44
  go_wp2_with fail
  rw [zig_xor n h1 h2]
  refine (wUint_any w b v bs _ (Kn.zig_lt h1 h2) hw hlen).mono ?_
  rintro e w' ⟨rfl, v', h⟩
  go_wp2
  go_end0
  exact ⟨rfl, v', h⟩

set_option maxHeartbeats 400000 in
set_option maxRecDepth 100000 in
theorem wBool_any {T : Nat} (w : World) (b : Nat) (v : Value) (bs : List UInt8) (t : Bool) (hw : WrAt w b T v bs) (hlen : bs.length + 1 ≤ 140737488355328) :
    Calls Try.prog 58 #[.pointer (some ⟨b, 0, none⟩), .bool t] w fun e w' => e = .returned (.tuple #[]) ∧ ∃ v', WrAt w' b T v' (bs ++ [if t then 1 else 0]) ∧ WrFr w w' b v v' := by
  have hcell := cell_of_block (i := 0) hw.box rfl
  have hfz := frozen_of_block (i := 0) hw.box
  go_enter Try.func58, Try.ntmps58
  cases t with
  | true =>
    go_wp2_with (first
      | (at_builtin; refine wpList_append_byte w rfl (.tmp 9) (.tmp 10) rfl v bs 1 _ _ rfl hw.row rfl rfl (by omega) ?_; intro a1 n1 c1 w1 hrow1 hchg1 hold1; have hb1 := hchg1.keep hw.box hw.ne; have hc1 := cell_of_block (i := 0) hb1 rfl; have hf1 := frozen_of_block (i := 0) hb1))
    obtain ⟨hat, hf2⟩ := hw.push hrow1 hchg1 hold1
    go_end0
    exact ⟨rfl, _, hat, hf2⟩
  | false =>
    go_wp2_with (first
      | (at_builtin; refine wpList_append_byte w rfl (.tmp 18) (.tmp 19) rfl v bs 0 _ _ rfl hw.row rfl rfl (by omega) ?_; intro a1 n1 c1 w1 hrow1 hchg1 hold1; have hb1 := hchg1.keep hw.box hw.ne; have hc1 := cell_of_block (i := 0) hb1 rfl; have hf1 := frozen_of_block (i := 0) hb1))
    obtain ⟨hat, hf2⟩ := hw.push hrow1 hchg1 hold1
    go_end0
    exact ⟨rfl, _, hat, hf2⟩

set_option maxHeartbeats 400000 in
set_option maxRecDepth 100000 in
theorem wCount_any {T : Nat} (w : World) (b : Nat) (v : Value) (bs : List UInt8) (n : Int) (h1 : -9223372036854775808 ≤ n) (h2 : n < 9223372036854775808) (hw : WrAt w b T v bs) (hlen : bs.length + (Kn.enc n.toNat).length ≤ 140737488355328) :
    Calls Try.prog 42 #[.pointer (some ⟨b, 0, none⟩), .int .i64 n] w fun e w' => e = .returned (.tuple #[]) ∧ ∃ v', WrAt w' b T v' (bs ++ Kn.enc n.toNat) ∧ WrFr w w' b v v' := by
  go_enter Try.func42, Try.ntmps42
  by_cases hn : 0 ≤ n
  · obtain ⟨k, rfl⟩ := Int.eq_ofNat_of_zero_le hn
    simp only [Int.toNat_natCast] at hlen ⊢
    go_wp2_with fail
    all_goals (
      refine (wUint_any w b v bs k (by omega) hw hlen).mono ?_
      rintro e w' ⟨rfl, v', h⟩
      go_wp2
      go_end0
      exact ⟨rfl, v', h⟩)
  · have h0 : n.toNat = 0 := by omega
    rw [h0] at hlen ⊢
    go_wp2_with fail
    all_goals (
      refine (wUint_any w b v bs 0 (by omega) hw hlen).mono ?_
      rintro e w' ⟨rfl, v', h⟩
      go_wp2
      go_end0
      exact ⟨rfl, v', h⟩)


set_option maxHeartbeats 400000 in
set_option maxRecDepth 100000 in
theorem wString_any {T : Nat} (w : World) (b : Nat) (v : Value) (bs : List UInt8) (s : ByteArray) (hw : WrAt w b T v bs) (hlen : bs.length + (Kn.enc s.size).length + s.size ≤ 140737488355328) :
    Calls Try.prog 43 #[.pointer (some ⟨b, 0, none⟩), .string s] w fun e w' => e = .returned (.tuple #[]) ∧ ∃ v', WrAt w' b T v' (bs ++ Kn.enc s.size ++ s.data.toList) ∧ WrFr w w' b v v' := by
  go_enter Try.func43, Try.ntmps43
  have hs : s.size ≤ 140737488355328 := by omega
  go_wp2_with fail
  refine (wUint_any w b v bs s.size (by omega) hw (by omega)).mono ?_
  rintro e w' ⟨rfl, v', hw1, hf1⟩
  have hcell := cell_of_block (i := 0) hw1.box rfl
  have hfz := frozen_of_block (i := 0) hw1.box
  go_wp2_with (first
    | (at_builtin; refine wpList_append_string w' rfl (.tmp 13) (.tmp 14) rfl v' (bs ++ Kn.enc s.size) s rfl hw1.row rfl (by simp; omega) ?_; intro a1 n1 c1 w1 hrow1 hchg1 hold1; have hb1 := hchg1.keep hw1.box hw1.ne; have hc1 := cell_of_block (i := 0) hb1 rfl; have hf2 := frozen_of_block (i := 0) hb1))
  obtain ⟨hat, hf2⟩ := hw1.push hrow1 hchg1 hold1
  go_end0
  exact ⟨rfl, _, hat, hf1.trans hf2⟩
end Go.Proofs.Ytaacafdlklnegaa
