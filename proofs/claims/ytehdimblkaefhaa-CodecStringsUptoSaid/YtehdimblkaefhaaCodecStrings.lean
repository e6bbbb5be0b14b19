/-
  CodecStrings: strings are written behind what is there, with their lengths, and read again. Condition: the arguments are together of bulk at most 1048576 (the second form of the statement).
-/
import Derived.Test.YtehdimblkaefhaaOpen
import Derived.Test.YtehdimblkaefhaaPlaind
import Derived.Test.YtehdimblkaefhaaMemb
import Derived.Outline
namespace Go.Proofs.Ytehdimblkaefhaa
open Go.ChangeShapes Go.WideShapes Go.ChangeAt Go.RowKit
open Go.ChangeMaps (open_string shut_string)
set_option linter.unusedVariables false

theorem arg_cells {w : World} {a : Addr} {n cap : Nat} {xs : List Value} (h : ArgRow w (.slice (some a) n cap) xs) : ∀ j u, xs[j]? = some u → w.cell? (a.add j) = some u := by
  intro j u hu
  obtain ⟨a', cap', hv, h1, h2, h3⟩ := h
  cases hv
  obtain ⟨g, off, he, hg, hcell⟩ := h3 (by rintro rfl; simp at hu)
  cases he
  rw [add_none]
  exact hcell j u hu
theorem arg_conv {w : World} {v : Value} (bs : List UInt8) (h : ArgRow w v (bs.map byteV)) : (convert 23 9 v).run Try.prog w = .ok (.string ⟨bs.toArray⟩) w := by
  have h' := h
  obtain ⟨a, cap, rfl, h1, h2, h3⟩ := h
  cases a with
  | none =>
    have : bs = [] := by
      cases bs with
      | nil => rfl
      | cons b bs => obtain ⟨g, off, he, _⟩ := h3 (by simp); cases he
    subst this
    exact run_convert_bytes_nil w 23 5 Try.underlying23 Try.underlying5 _ _ 9 Try.underlying9
  | some ad =>
    have hl : (loadCells ad bs.length).run Try.prog w = .ok ((bs.map fun b => (b.toNat : Int)).map (Value.int .u8)).toArray w := by
      have := run_loadCells_list (P := Try.prog) w ad (bs.map byteV) (arg_cells h')
      rw [List.length_map] at this
      rw [this, List.map_map]
      rfl
    rw [List.length_map, run_convert_bytes_string w 23 9 5 _ bs.length cap Try.underlying23 Try.underlying5 Try.underlying9, run_bytesToString w _ bs.length cap _ hl, foldl_push_bytes]
    simp [ByteArray.empty, ByteArray.emptyWithCapacity]
    rw [show ((fun n : Int => UInt8.ofNat n.toNat) ∘ fun b : UInt8 => (b.toNat : Int)) = id from by funext b; simp]
    simp
    rfl
theorem arg_src {w : World} {v : Value} {xs : List Value} {tx e : TypeId} {P : Program} (hk : P.underlying tx = some (.slice e)) (h : ArgRow w v xs) (h1 : ∀ u ∈ xs, u.oneCell' = true) : Src P 1 tx v xs.length xs w := by
  have h' := h
  obtain ⟨a, cap, rfl, _, _, h3⟩ := h
  cases a with
  | none =>
    have : xs = [] := by
      cases xs with
      | nil => rfl
      | cons b bs => obtain ⟨g, off, he, _⟩ := h3 (by simp); cases he
    subst this
    exact Src.ofNil w hk _
  | some ad => exact Src.ofSlice w hk ad _ _ xs (by simp) (arg_cells h') h1

/-- Strings written one behind the other. -/
def strEnc (ss : List ByteArray) : List UInt8 := ss.flatMap fun s => Kn.enc s.size ++ s.data.toList
theorem strEnc_split (ss : List ByteArray) (j : Nat) (h : j < ss.length) : strEnc (ss.drop j) = Kn.enc ss[j].size ++ (ss[j].data.toList ++ strEnc (ss.drop (j + 1))) := by
  unfold strEnc
  rw [List.drop_eq_getElem_cons h, List.flatMap_cons, List.append_assoc]
theorem strEnc_take (ss : List ByteArray) (j : Nat) (h : j < ss.length) : strEnc (ss.take (j + 1)) = strEnc (ss.take j) ++ Kn.enc ss[j].size ++ ss[j].data.toList := by
  unfold strEnc
  rw [List.take_succ_eq_append_getElem h, List.flatMap_append, List.flatMap_singleton, List.append_assoc]
theorem strEnc_both (ss : List ByteArray) (j : Nat) : strEnc (ss.take j) ++ strEnc (ss.drop j) = strEnc ss := by
  unfold strEnc; rw [← List.flatMap_append, List.take_append_drop]
theorem strs_bulk {H : Type} (ss : List ByteArray) : (strEnc ss).length ≤ 11 * Rows.uptoBulkAll (H := H) (strs ss) ∨ ∃ s ∈ ss, 18446744073709551616 ≤ s.size := by
  induction ss with
  | nil => left; simp [strEnc]
  | cons s ss ih =>
    by_cases hs : s.size < 18446744073709551616
    · rcases ih with h | ⟨t, ht, h⟩
      · left
        have h1 := Kn.enc_len10 hs
        have h2 : strEnc (s :: ss) = Kn.enc s.size ++ s.data.toList ++ strEnc ss := by simp [strEnc]
        have h3 : Rows.uptoBulkAll (H := H) (strs (s :: ss)) = s.size + 1 + Rows.uptoBulkAll (H := H) (strs ss) := by simp [strs, Rows.uptoBulkAll, Rows.uptoBulk]
        rw [h2, h3]; simp; omega
      · exact .inr ⟨t, by simp [ht], h⟩
    · exact .inr ⟨s, by simp, by omega⟩

theorem strs_each {H : Type} (ss : List ByteArray) : ∀ s ∈ ss, s.size ≤ Rows.uptoBulkAll (H := H) (strs ss) := by
  induction ss with
  | nil => intro s hs; cases hs
  | cons t ss ih =>
    intro s hs
    have h3 : Rows.uptoBulkAll (H := H) (strs (t :: ss)) = t.size + 1 + Rows.uptoBulkAll (H := H) (strs ss) := by simp [strs, Rows.uptoBulkAll, Rows.uptoBulk]
    rcases List.mem_cons.1 hs with rfl | h
    · omega
    · have := ih s h; omega
theorem bulk_one {H : Type} (d : DataW H) : 1 ≤ Rows.uptoBulk d := by
  cases d with
  | lit l => cases l <;> simp [Rows.uptoBulk]
  | nil => simp [Rows.uptoBulk]
  | ptr d => simp [Rows.uptoBulk]
  | slice elems spare => simp [Rows.uptoBulk]
  | agg parts => simp [Rows.uptoBulk]
  | iface t d => simp [Rows.uptoBulk]
  | map entries => simp [Rows.uptoBulk]
  | held h => simp [Rows.uptoBulk]
theorem bulk_length {H : Type} (l : List (DataW H)) : l.length ≤ Rows.uptoBulkAll l := by
  induction l with
  | nil => simp [Rows.uptoBulkAll]
  | cons x r ih => have := bulk_one x; simp only [Rows.uptoBulkAll, List.length_cons]; omega

set_option maxHeartbeats 3200000 in
set_option maxRecDepth 100000 in
theorem codecStrings_walk (a : Option Addr) (cap : Nat) (ss : List ByteArray) (vb : Value) (B : List UInt8) (w : World) (hrow : ArgRow w (.slice a ss.length cap) (ss.map Value.string)) (hB : ArgRow w vb (B.map byteV))
    (hlen : B.length + (strEnc ss).length ≤ 100000000) (hsl : ss.length ≤ 9223372036854775807) (hss : ∀ s ∈ ss, s.size ≤ 1048576) :
    Calls Try.prog 3 #[.slice a ss.length cap, vb] w fun e w' => e = .returned (.bool true) ∧ Below w.heap.size w w' := by
  obtain ⟨ab, capb, rfl, hb1, hb2, _⟩ := id hB
  rw [List.length_map] at hB hb1 ⊢
  go_enter Try.func3, Try.ntmps3
  go_wp2_with fail
  refine (fit_any _).mono ?_
  rintro e w1 ⟨rfl, hc1⟩
  have hB1 := hB.keep hc1
  have hE : (w1.alloc (.cells #[] 5)).heap[w1.heap.size]? = some (.cells #[] 5) := alloc_block w1 _
  have hrE : RowAt (w1.alloc (.cells #[] 5)) 5 1 (.slice (some ⟨w1.heap.size, 0, none⟩) 0 0) 0 [] := ⟨rfl, .inr ⟨w1.heap.size, 0, 0, #[], rfl, hE, Nat.le_refl _, by simp, by simp, rfl⟩⟩
  have hsr : Src Try.prog 1 23 (.slice ab B.length capb) B.length (B.map byteV) (w1.alloc (.cells #[] 5)) := by
    have := arg_src (P := Try.prog) Try.underlying23 (hB1.keep (Chg.alloc (fun _ => False) w1 (.cells #[] 5))) (byteV_one B)
    simpa using this
  go_wp2_with (first
    | (at_builtin; refine wpList_append_slice _ rfl (.tmp 14) (.tmp 15) 23 23 rfl 5 info_uint8.choose (.int .u8 0) 1 1 Try.underlying23 info_uint8.choose_spec.1 info_uint8.choose_spec.2.1 info_uint8.choose_spec.2.2.1 info_uint8.choose_spec.2.2.2 rfl (by decide) _ 0 [] rfl hrE _ B.length (B.map byteV) rfl hsr (by unfold maxLen; omega) (by omega) ?_; intro a2 n2 c2 w2 hrow2 hchg2 hold2))
  have hs2 := hchg2.size
  simp at hs2
  have hO : OwnW w1 (w2.alloc (.cells #[.slice a2 n2 c2] 26)) w2.heap.size (.slice a2 n2 c2) B := by
    refine ⟨⟨alloc_block w2 _, ?_, ?_⟩, by omega, ?_, ?_⟩
    · have := hrow2.alloc (.cells #[.slice a2 n2 c2] 26)
      simpa using this
    · intro h
      have := hrow2.lt _ h
      omega
    · intro k hk
      rcases hold2 k hk with x | x
      · have x : some w1.heap.size = some k := x
        have := Option.some.inj x
        omega
      · simp at x; omega
    · refine ((Chg.alloc (fun _ => False) w1 _).trans hchg2 (fun _ _ x => x) ?_).allocR _
      intro i hi x
      have x : some w1.heap.size = some i := x
      have := Option.some.inj x
      omega
  have hBc := arg_conv B (hB1.keep hO.chg)
  clear hrow2 hchg2 hold2 hE hrE hsr hB1 hs2
  generalize w2.alloc (.cells #[.slice a2 n2 c2] 26) = w3 at *
  rw [hBc]
  go_simp
  go_wp2_with fail
  clear hBc
  generalize w2.heap.size = bw at *
  go_loopw [6, 8, 22] (fun s6 _ i wr => ∃ (k : Nat) (v : Value) (t : ByteArray), k ≤ ss.length ∧ i = .int .i64 k ∧ s6 = .string t ∧ Hid (t.data.toList = B ++ strEnc (ss.take k)) ∧ OwnW w1 wr bw v (B ++ strEnc (ss.take k))) (fun _ _ i _ => ss.length - (intOf i).toNat)
  case atStart => exact ⟨0, _, _, Nat.zero_le _, rfl, rfl, Lib.hid (by simp [strEnc]), by simpa [strEnc] using hO⟩
  case round =>
    obtain ⟨k, v, t, hk, rfl, rfl, HT, hO⟩ := hrel
    have hts : t.size = B.length + (strEnc (ss.take k)).length := by
      have h1 : t.data.toList.length = t.size := by simp
      rw [← h1, HT.out]; simp
    have hboth := congrArg List.length (strEnc_both ss k)
    rw [List.length_append] at hboth
    by_cases hlt : k < ss.length
    · obtain ⟨g, off, rfl, hcell⟩ := argCell hrow (hc1.trans' hO.chg) (k := k) (u := .string ss[k]) (by simp [hlt])
      have hsk := hss ss[k] (List.getElem_mem _)
      have HE := Lib.hid (strEnc_take ss k hlt)
      generalize ss[k] = sk at *
      have hl10 := Kn.enc_len10 (n := sk.size) (by omega)
      have hez : (⟨(Kn.enc sk.size).toArray⟩ : ByteArray).size ≤ 10 := by
        show (Kn.enc sk.size).toArray.size ≤ 10
        rw [List.size_toArray]; exact hl10
      have htb : t.size ≤ 100000000 := by omega
      have hob : (B ++ strEnc (ss.take k)).length ≤ 100000000 := by rw [List.length_append]; omega
      have hadd1 := fun W => run_string_add_sum (P := Try.prog) W ⟨(Kn.enc sk.size).toArray⟩ sk (by omega)
      have hadd2 := fun W => run_string_add_sum (P := Try.prog) W t (⟨(Kn.enc sk.size).toArray⟩ ++ sk) (by rw [ByteArray.size_append]; omega)
      clear hts hboth
      go_wp2_with fail
      refine (hO.string sk (by omega)).mono ?_
      rintro e w4 ⟨rfl, v4, hO4⟩
      go_wp2_with fail
      refine (refUint_any _ (by omega) _).mono ?_
      rintro e w5 ⟨rfl, hc5⟩
      have hO5 := hO4.keep hc5
      clear hO hO4 hc5 hcell
      go_wp2_with fail
      go_roundw
      case rel =>
        refine ⟨k + 1, v4, _, by omega, by go_num, rfl, Lib.hid ?_, ?_⟩
        · rw [HE.out, ByteArray.data_append, ByteArray.data_append, Array.toList_append, HT.out]; simp
        · rw [HE.out]; simpa using hO5
      case measure => simp [intOf]; omega
    · obtain rfl : k = ss.length := by omega
      rw [List.take_length] at hO hts
      have HT2 : Hid (t.data.toList = B ++ strEnc ss) := by have := HT.out; rw [List.take_length] at this; exact Lib.hid this
      have htb : t.size ≤ 140737488355328 := by omega
      have hBt : B.length ≤ t.size := by omega
      clear hts hboth HT
      obtain ⟨wa, rfl⟩ : ∃ wa : World, wa = wr := ⟨_, rfl⟩
      go_wp2_with fail
      go_loopw [11, 43] (fun _ i wr => ∃ k : Nat, k ≤ ss.length ∧ i = .int .i64 k ∧ OwnRest wa wr wa.heap.size t (strEnc (ss.drop k))) (fun _ i _ => ss.length - (intOf i).toNat)
      case atStart =>
        refine ⟨0, Nat.zero_le _, rfl, B.length, OwnR.new wa t B.length 0, hBt, ?_⟩
        rw [HT2.out, List.drop_left, List.drop_zero]
      case round =>
        obtain ⟨k, hk2, rfl, hR⟩ := hrel
        by_cases hlt2 : k < ss.length
        · obtain ⟨g, off, rfl, hcell⟩ := argCell hrow ((hc1.trans' hO.chg).trans' hR.chg) (k := k) (u := .string ss[k]) (by simp [hlt2])
          have hsk := hss ss[k] (List.getElem_mem _)
          rw [strEnc_split ss k hlt2] at hR
          generalize ss[k] = sk at *
          go_wp2_with fail
          refine (OwnRest.string hR (by omega) htb).mono ?_
          rintro e w4 ⟨rfl, hR4, _⟩
          clear hcell
          go_wp2_with fail
          go_roundw
          case rel => exact ⟨k + 1, by omega, by go_num, hR4⟩
          case measure => simp [intOf]; omega
        · obtain rfl : k = ss.length := by omega
          rw [List.drop_length, show strEnc [] = [] from rfl] at hR
          have hO6 := hO.keep hR.chg
          have hbox := cell_of_block (i := 0) hO6.wr.box rfl
          have hconv : (convert 23 9 v).run Try.prog wr = .ok (.string t) wr := by
            rw [hO6.conv0, ← HT2.out]
          go_wp2_with fail
          refine (OwnRest.done hR htb).mono ?_
          rintro e w7 ⟨rfl, hc7⟩
          go_wp2_with fail
          go_ret
          exact ⟨by simp, ((hc1.trans' hO6.chg).trans' hc7).below (Nat.le_refl _) (fun _ h => h.elim)⟩

set_option maxRecDepth 100000 in
theorem codecStrings_lifted (os : Os) (started : os.Started) (H : Type) (enc : TypeId × Value → H) (F : Stop.Interp) :
    ReturnsInHanded {} Try.checked os 3 .any ((Rows.OpenSpec.upto Rows.codecStringsSpec).pre6 enc Try.prog Try.f3 [] false) (((Rows.OpenSpec.upto Rows.codecStringsSpec).at F).post enc Try.prog Try.f3 false true false false) := by
  refine law_lift_upto (C := Try.checked) (tb := 4) started Try.own Try.laidOut (by kernel_rfl) Try.func3 (by kernel_rfl) rfl Try.underlying4 rfl ?_
    (OpenSpec.witness (enc := enc) (C := Try.checked) (s := Rows.OpenSpec.upto Rows.codecStringsSpec) (k := Rows.uptoSmall) rfl false ⟨#[], #[.slice none 0 0, .slice none 0 0], []⟩ 8 (by kernel_rfl) (by kernel_rfl) (by kernel_rfl)
      (x := ([.nil, .nil], [], [])) (by kernel_rfl) rfl (by kernel_rfl)) ?_
  · intro ds h
    match ds, h with
    | [_, _], _ => rfl
  · intro W base vs ds ps hval hA hsz
    have hp : Try.f3.params.toList = [22, 23] := by rw [Try.params3]
    rw [hp] at hval hA
    obtain ⟨v0, vs0, d0, ds0, p0, q0, rfl, rfl, rfl, h0, r0⟩ := trodAll_cons hA
    obtain ⟨v1, vs1, d1, ds1, p1, q1, rfl, rfl, rfl, h1, r1⟩ := trodAll_cons r0
    obtain ⟨rfl, rfl, rfl⟩ := trodAll_nil r1
    obtain ⟨ss, hrow, hsm, hd0⟩ := open_strRow Try.underlying22 Try.underlying9 (by kernel_rfl) (hval 0 22 v0 rfl rfl) h0
    obtain ⟨zs, hrowb, hz, hd1⟩ := open_intRow (k := .u8) Try.underlying23 Try.underlying5 (by kernel_rfl) (hval 1 23 v1 rfl rfl) h1
    have hB : zs.map (Value.int .u8) = (zs.map fun z => UInt8.ofNat z.toNat).map byteV := by
      rw [List.map_map]
      apply List.map_congr_left
      intro z hzz
      have : 0 ≤ z ∧ z ≤ 255 := hz z hzz
      simp [byteV]
      omega
    rw [hB] at hrowb
    have hrow' := hrow
    obtain ⟨a, cap, rfl, hl, hm, _⟩ := hrow
    simp only [List.length_map] at hrow' hl ⊢
    have hbulk : Rows.uptoBulk d0 + (Rows.uptoBulk d1 + 0) ≤ 1048576 := hsz
    have hb0 : Rows.uptoBulkAll (H := H) (strs ss) ≤ 1048576 := by
      rcases hd0 with ⟨rfl, rfl⟩ | ⟨rest, rfl⟩
      · simp [strs, Rows.uptoBulkAll]
      · simp only [Rows.uptoBulk] at hbulk; omega
    have hb1 : zs.length ≤ 1048576 := by
      rcases hd1 with ⟨rfl, rfl⟩ | ⟨rest, rfl⟩
      · simp
      · have h2 := bulk_length (lits (H := H) .u8 zs)
        simp only [Rows.uptoBulk] at hbulk
        have h3 : (lits (H := H) .u8 zs).length = zs.length := by simp [lits]
        omega
    have hss : ∀ s ∈ ss, s.size ≤ 1048576 := fun s hs => by have := strs_each (H := H) ss s hs; omega
    refine codecStrings_walk a cap ss v1 _ W hrow' hrowb ?_ (by unfold maxLen at hm; omega) hss
    rcases strs_bulk (H := H) ss with h | ⟨s, hs, h⟩
    · simp; omega
    · have := hss s hs; omega

theorem codecStrings_holds : Rows.CodecStringsUptoSaid :=
  OpenClaim.holds_of_cond 3 Try.f3 rfl rfl rfl rfl rfl rfl rfl ⟨rfl, rfl, rfl, rfl, rfl⟩ rfl rfl rfl rfl rfl (by kernel_rfl) Try.func3 (by kernel_rfl)
    (of_decide_eq_true (by kernel_rfl)) (by unfold Func.isWrapper; first | (rw [if_pos (by decide +kernel)]; kernel_rfl) | (rw [if_neg (by decide +kernel)]; exact ⟨rfl, rfl⟩))
    (fun os started H enc _ F => codecStrings_lifted os started H enc F)
#print axioms codecStrings_holds
end Go.Proofs.Ytehdimblkaefhaa
