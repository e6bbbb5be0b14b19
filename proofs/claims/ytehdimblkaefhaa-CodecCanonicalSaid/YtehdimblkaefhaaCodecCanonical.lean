/-
  CodecCanonical: whatever is read without an error is written as the bytes that were read, for every input.
-/
import Derived.Test.YtehdimblkaefhaaOpen
import Derived.Test.YtehdimblkaefhaaPlaine
namespace Go.Proofs.Ytehdimblkaefhaa
open Go.ChangeShapes Go.WideShapes Go.ChangeAt Go.RowKit
open Go.ChangeMaps (open_string shut_string)
set_option linter.unusedVariables false

theorem done_err {w : World} {b : Nat} {s : ByteArray} {p e : Int} (h : RdAt w b 32 s p e) (he : e ≠ 0) (hs : s.size ≤ 140737488355328) :
    Calls Try.prog 15 #[.pointer (some ⟨b, 0, none⟩)] w fun x w' => x = .returned (.int .i64 e) ∧ Chg (fun _ => False) w w' :=
  (rDone_any w b s p e h hs).mono fun x w' ⟨hx, h5⟩ => ⟨by rw [hx, if_pos he], h5⟩
theorem done_ok {w : World} {b : Nat} {s : ByteArray} {p : Nat} (h : RdAt w b 32 s p 0) (hs : s.size ≤ 140737488355328) :
    Calls Try.prog 15 #[.pointer (some ⟨b, 0, none⟩)] w fun x w' => x = .returned (.int .i64 (if p = s.size then 0 else 3)) ∧ Chg (fun _ => False) w w' :=
  (rDone_any w b s p 0 h hs).mono fun x w' ⟨hx, h5⟩ => ⟨by
    rw [hx, if_neg (by simp)]
    by_cases hp : p = s.size
    · rw [if_pos hp, if_neg (by simp [hp])]
    · rw [if_neg hp, if_pos (by simp; omega)], h5⟩

set_option maxHeartbeats 3200000 in
set_option maxRecDepth 100000 in
theorem codecCanonical_walk (s : ByteArray) (a : Option Addr) (cap : Nat) (zs : List Nat) (w : World) (hrow : ArgRow w (.slice a zs.length cap) (zs.map fun z : Nat => Value.int .u8 z)) (hs : s.size ≤ 140737488351232)
    (hz : ∀ z ∈ zs, z < 256) (hzl : zs.length ≤ 9223372036854775807) :
    Calls Try.prog 10 #[.string s, .slice a zs.length cap] w fun e w' => e = .returned (.bool true) ∧ Below w.heap.size w w' := by
  go_enter Try.func10, Try.ntmps10
  go_wp2_with fail
  refine (fit_any _).mono ?_
  rintro e w1 ⟨rfl, hc1⟩
  by_cases h50 : 50 < zs.length
  · go_wp2_with fail
    all_goals first | omega | skip
    go_ret
    exact ⟨rfl, hc1.below (Nat.le_refl _) (fun _ h => h.elim)⟩
  have hb50 : decide ((50 : Int) < (zs.length : Int)) = false := by simp; omega
  go_wp2_with fail
  all_goals first | omega | skip
  have hB0 : Both w1 ((w1.alloc (.cells #[.string s, .int .i64 0, .int .i64 0] 32)).alloc (.cells #[.slice none 0 0] 26)) w1.heap.size (w1.heap.size + 1) (.slice none 0 0) [] s 0 0 := by
    refine ⟨?_, alloc_old _ (alloc_block w1 _), by omega, Nat.le_refl _, by omega, by simp [Value.ownBlock], (Chg.alloc _ w1 _).allocR _⟩
    have := WrAt.new (w1.alloc (.cells #[.string s, .int .i64 0, .int .i64 0] 32)) 26
    simpa using this
  generalize (w1.alloc (.cells #[.string s, .int .i64 0, .int .i64 0] 32)).alloc (.cells #[.slice none 0 0] 26) = w2 at *
  go_loopw [8, 9, 10, 20] (fun _ _ _ i wr => ∃ (k : Nat) (v : Value) (p : Nat), k ≤ zs.length ∧ i = .int .i64 k ∧ p ≤ s.size ∧ Both w1 wr w1.heap.size (w1.heap.size + 1) v (s.data.toList.take p) s p 0) (fun _ _ _ i _ => zs.length - (intOf i).toNat)
  case atStart => exact ⟨0, _, 0, Nat.zero_le _, rfl, Nat.zero_le _, by simpa using hB0⟩
  case round =>
    obtain ⟨k, v, p, hk, rfl, hp, hB⟩ := hrel
    by_cases hlt : k < zs.length
    · obtain ⟨g, off, rfl, hcell⟩ := argCell hrow (hc1.trans' hB.chg) (k := k) (u := .int .u8 zs[k]) (by simp [hlt])
      have hzk := hz zs[k] (List.getElem_mem _)
      generalize zs[k] = z at *
      go_wp2_with fail
      rw [show ((z : Int) % 5) = ((z % 5 : Nat) : Int) from by omega]
      have hk5 : z % 5 < 5 := by omega
      generalize z % 5 = kind at *
      refine (read_any wr w1.heap.size s p 0 kind 1000 hk5 (by omega) (by omega) hB.rd (by omega)).mono ?_
      rintro e w3 ⟨rfl, hr3, hc3⟩
      have hB3 := hB.reads hr3 hc3
      have HB := Lib.hid (read_back s p kind 1000 (by omega) hk5 hp)
      have hbd := read_bounds s p 0 kind 1000 hk5
      have her := read_err s p kind 1000 hk5
      have HW : Hid (∀ q : Nat, p ≤ q → wOf kind (readR s p 0 kind 1000) = (s.data.toList.drop p).take (q - p) → s.data.toList.take p ++ wOf kind (readR s p 0 kind 1000) = s.data.toList.take q) := by
        intro q hq h
        rw [h, ← List.take_add]
        congr 1; omega
      have HK4 : Hid (kind = 4 → (readR s p 0 kind 1000).u < 9223372036854775808) := by
        intro h
        subst h
        show (rC s p 0 1000).1 < _
        unfold rC
        split
        · split
          · simp
          · split
            · simp
            · simp only; omega
        · simp
      clear hcell hB hr3 hc3
      generalize readR s p 0 kind 1000 = R at *
      rw [show R.cells = #[.int .u64 R.u, .int .i64 R.n, .bool R.b, .string R.s, .int .i64 R.p, .int .i64 R.e] from rfl]
      by_cases he : R.e = 0
      · obtain ⟨q, hq1, hpq, hqs, hw⟩ := HB.out he
        have heq := HW.out q hpq hw
        clear HB HW hw her
        obtain ⟨Ru, Rn, Rb, Rs, Rp, Re⟩ := R
        simp only at he hq1 hbd hB3
        subst he
        subst hq1
        have hlen : (s.data.toList.take p ++ wOf kind ⟨Ru, Rn, Rb, Rs, (q : Int), 0⟩).length ≤ 140737488351232 := by
          rw [heq, List.length_take]
          have : s.data.toList.length = s.size := by simp
          omega
        rw [List.length_append] at hlen
        have gV := alloc_block w3 (.cells #[.int .u64 Ru, .int .i64 Rn, .bool Rb, .string Rs, .int .i64 (q : Int), .int .i64 0] 49)
        have hB4 := hB3.keep (Chg.alloc (fun _ => False) w3 (.cells #[.int .u64 Ru, .int .i64 Rn, .bool Rb, .string Rs, .int .i64 (q : Int), .int .i64 0] 49))
        have hne : ((0 : Int) != 0) = false := rfl
        go_upto_block 2 with fail
        generalize w3.alloc (.cells #[.int .u64 Ru, .int .i64 Rn, .bool Rb, .string Rs, .int .i64 (q : Int), .int .i64 0] 49) = w4 at *
        have HQ := Lib.hid heq
        clear heq hne
        go_cut [36] (fun _ wx => ∃ v', Both w1 wx w1.heap.size (w1.heap.size + 1) v' (s.data.toList.take q) s q 0 ∧ wx.heap[w3.heap.size]? = some (.cells #[.int .u64 Ru, .int .i64 Rn, .bool Rb, .string Rs, .int .i64 (q : Int), .int .i64 0] 49))
        case first =>
          match kind, hk5 with
          | 0, _ =>
            rw [show ((0 : Nat) : Int) = 0 from rfl]
            have c0 := cell_of_block (i := 0) gV rfl
            go_wp2_with fail
            refine (wUint_any w4 _ v _ Ru hbd.1 hB4.wr (by simp only [wOf] at hlen; omega)).mono ?_
            rintro x w5 ⟨rfl, v5, h1, h2⟩
            go_wp2_with fail
            go_meet
            have h3 := hB4.writes h1 h2
            rw [show s.data.toList.take p ++ Kn.enc Ru = s.data.toList.take q from HQ.out] at h3
            refine ⟨v5, h3, h2.chg.keep gV ?_⟩
            rintro (x | x)
            · have := hB4.lw; have := lt_of_block hB3.wr.box; omega
            · have := hB3.wr.row.lt _ x; omega
          | 1, _ =>
            rw [show ((1 : Nat) : Int) = 1 from rfl]
            have c0 := cell_of_block (i := 1) gV rfl
            go_wp2_with fail
            refine (wInt_any w4 _ v _ Rn hbd.2.1 hbd.2.2 hB4.wr (by simp only [wOf] at hlen; omega)).mono ?_
            rintro x w5 ⟨rfl, v5, h1, h2⟩
            go_wp2_with fail
            go_meet
            have h3 := hB4.writes h1 h2
            rw [show s.data.toList.take p ++ Kn.enc (Kn.zig Rn) = s.data.toList.take q from HQ.out] at h3
            refine ⟨v5, h3, h2.chg.keep gV ?_⟩
            rintro (x | x)
            · have := hB4.lw; have := lt_of_block hB3.wr.box; omega
            · have := hB3.wr.row.lt _ x; omega
          | 2, _ =>
            rw [show ((2 : Nat) : Int) = 2 from rfl]
            have c0 := cell_of_block (i := 2) gV rfl
            go_wp2_with fail
            refine (wBool_any w4 _ v _ Rb hB4.wr (by simp only [wOf, List.length_cons, List.length_nil] at hlen; omega)).mono ?_
            rintro x w5 ⟨rfl, v5, h1, h2⟩
            go_wp2_with fail
            go_meet
            have h3 := hB4.writes h1 h2
            rw [show s.data.toList.take p ++ [if Rb then 1 else 0] = s.data.toList.take q from HQ.out] at h3
            refine ⟨v5, h3, h2.chg.keep gV ?_⟩
            rintro (x | x)
            · have := hB4.lw; have := lt_of_block hB3.wr.box; omega
            · have := hB3.wr.row.lt _ x; omega
          | 3, _ =>
            rw [show ((3 : Nat) : Int) = 3 from rfl]
            have c0 := cell_of_block (i := 3) gV rfl
            go_wp2_with fail
            refine (wString_any w4 _ v _ Rs hB4.wr (by simp only [wOf, List.length_append] at hlen; simp at hlen ⊢; omega)).mono ?_
            rintro x w5 ⟨rfl, v5, h1, h2⟩
            go_wp2_with fail
            go_meet
            have h3 := hB4.writes h1 h2
            rw [List.append_assoc, show s.data.toList.take p ++ (Kn.enc Rs.size ++ Rs.data.toList) = s.data.toList.take q from HQ.out] at h3
            refine ⟨v5, h3, h2.chg.keep gV ?_⟩
            rintro (x | x)
            · have := hB4.lw; have := lt_of_block hB3.wr.box; omega
            · have := hB3.wr.row.lt _ x; omega
          | 4, _ =>
            rw [show ((4 : Nat) : Int) = 4 from rfl]
            have c0 := cell_of_block (i := 0) gV rfl
            have hu4 : Ru < 9223372036854775808 := HK4.out rfl
            go_wp2_with fail
            refine (wCount_any w4 _ v _ (Ru : Int) (by omega) (by omega) hB4.wr (by simp only [wOf] at hlen; rw [Int.toNat_natCast]; omega)).mono ?_
            rintro x w5 ⟨rfl, v5, h1, h2⟩
            go_wp2_with fail
            go_meet
            have h3 := hB4.writes h1 h2
            rw [Int.toNat_natCast, show s.data.toList.take p ++ Kn.enc Ru = s.data.toList.take q from HQ.out] at h3
            refine ⟨v5, h3, h2.chg.keep gV ?_⟩
            rintro (x | x)
            · have := hB4.lw; have := lt_of_block hB3.wr.box; omega
            · have := hB3.wr.row.lt _ x; omega
        case rest =>
        clear gV hB4 HQ hlen hB3 HK4 hbd
        obtain ⟨v5, hB5, gV⟩ := hcut
        generalize wc = w5 at *
        have c4 := cell_of_block (i := 4) gV rfl
        have cb := cell_of_block (i := 0) hB5.wr.box rfl
        have hconv : ∀ m, (convert 23 9 v5).run Try.prog (w5.drewN m) = .ok (.string (s.extract 0 q)) (w5.drewN m) := by
          intro m
          have h1 := run_convert_row (hB5.wr.row.drewN m)
          rw [h1]
          congr 2
          apply bytes_ext
          rw [Lib.extract_data]; simp
        have hn1 : decide ((q : Int) < 0) = false := by simp
        have hn2 : decide ((s.size : Int) < (q : Int)) = false := by simp; omega
        have hq0 : (0 : Int) ≤ (q : Int) := Int.natCast_nonneg _
        have hq2 : (q : Int) ≤ (s.size : Int) := by omega
        clear gV
        go_wp2_with fail
        go_quiet (fail)
        clear hconv c4 cb hn1 hn2
        go_wp2_with fail
        go_roundw
        case rel => exact ⟨k + 1, v5, q, by omega, by go_num, hqs, hB5.keep (Chg.drewN _ _ _)⟩
        case measure => simp [intOf]; omega
      · have hne : (R.e != 0) = true := by rw [bne_iff_ne]; exact he
        have hB4 := hB3.keep (Chg.alloc (fun _ => False) w3 (.cells #[.int .u64 R.u, .int .i64 R.n, .bool R.b, .string R.s, .int .i64 R.p, .int .i64 R.e] 49))
        have c5 := cell_of_block (i := 5) (alloc_block w3 (.cells #[.int .u64 R.u, .int .i64 R.n, .bool R.b, .string R.s, .int .i64 R.p, .int .i64 R.e] 49)) rfl
        go_wp2_with fail
        generalize w3.alloc (.cells #[.int .u64 R.u, .int .i64 R.n, .bool R.b, .string R.s, .int .i64 R.p, .int .i64 R.e] 49) = w4 at *
        have c5 : w4.cell? ⟨w3.heap.size, 5, none⟩ = some (.int .i64 R.e) := c5
        have hrd : RdAt w4.drew w1.heap.size 32 s R.p R.e := hB4.rd
        clear HB HW HK4
        go_region_held3 (fun w' => w'.cell? ⟨w3.heap.size, 5, none⟩ = some (.int .i64 R.e)) (first | go_keep | exact hch.cell (by assumption))
          ((go_at_call 15; refine (done_err hrd he (by omega)).mono ?_; rintro x w5 ⟨rfl, hch⟩))
        go_wp2_with fail
        go_ret
        exact ⟨by simp, ((hc1.trans' hB4.chg).trans' hch.ofDrew).below (Nat.le_refl _) (fun _ h => h.elim)⟩
    · have hbox := cell_of_block (i := 0) hB.wr.box rfl
      obtain ⟨av, cv, rfl, _⟩ := hB.wr.row.slice
      have hlp : (s.data.toList.take p).length = p := by
        rw [List.length_take]
        have : s.data.toList.length = s.size := by simp
        omega
      rw [hlp] at hbox
      have hrd : RdAt wr.drew w1.heap.size 32 s (p : Int) 0 := hB.rd
      clear hlp
      by_cases hps : p = s.size
      · have hD : (if p = s.size then (0 : Int) else 3) = 0 := if_pos hps
        have hq : ((p : Int) == (s.size : Int)) = true := by rw [hps]; simp
        have hdone := fun W (h : RdAt W w1.heap.size 32 s (p : Int) 0) => done_ok h (by omega)
        rw [hD] at hdone
        have HD := Lib.hid hdone
        clear hD hdone hps
        go_wp2_with fail
        go_region_held3 (fun w' => w'.cell? ⟨w1.heap.size + 1, 0, none⟩ = some (.slice av p cv)) (first | go_keep | exact hch.cell (by assumption))
          ((go_at_call 15; refine (HD.out _ hrd).mono ?_; rintro x w5 ⟨rfl, hch⟩))
        go_wp2_with fail
        go_ret
        exact ⟨by simp, ((hc1.trans' hB.chg).trans' hch.ofDrew).below (Nat.le_refl _) (fun _ h => h.elim)⟩
      · have hD : (if p = s.size then (0 : Int) else 3) = 3 := if_neg hps
        have hq : ((p : Int) == (s.size : Int)) = false := by rw [beq_eq_false_iff_ne]; omega
        have hdone := fun W (h : RdAt W w1.heap.size 32 s (p : Int) 0) => done_ok h (by omega)
        rw [hD] at hdone
        have HD := Lib.hid hdone
        clear hD hdone hps
        go_wp2_with fail
        go_region_held3 (fun w' => w'.cell? ⟨w1.heap.size + 1, 0, none⟩ = some (.slice av p cv)) (first | go_keep | exact hch.cell (by assumption))
          ((go_at_call 15; refine (HD.out _ hrd).mono ?_; rintro x w5 ⟨rfl, hch⟩))
        go_wp2_with fail
        go_ret
        exact ⟨by simp, ((hc1.trans' hB.chg).trans' hch.ofDrew).below (Nat.le_refl _) (fun _ h => h.elim)⟩

set_option maxRecDepth 100000 in
theorem codecCanonical_lifted (os : Os) (started : os.Started) (H : Type) (enc : TypeId × Value → H) :
    ReturnsInHanded {} Try.checked os 10 .any (Rows.codecCanonicalSpec.pre6 enc Try.prog Try.f10 [] false) (Rows.codecCanonicalSpec.post enc Try.prog Try.f10 false true false false) := by
  refine law_lift (C := Try.checked) (tb := 4) started Try.own Try.laidOut (by kernel_rfl) Try.func10 (by kernel_rfl) rfl Try.underlying4 rfl ?_
    (ChangeSpec.witness6 (enc := enc) (C := Try.checked) false ⟨#[], #[.string ByteArray.empty, .slice none 0 0], []⟩ 8 (by kernel_rfl) (by kernel_rfl) (by kernel_rfl) (by kernel_rfl)) ?_
  · intro ds h
    match ds, h with
    | [_, _], _ => rfl
  · intro W base vs ds ps hval hA hsz
    have hp : Try.f10.params.toList = [9, 23] := by rw [Try.params10]
    rw [hp] at hval hA hsz
    obtain ⟨v0, vs0, d0, ds0, p0, q0, rfl, rfl, rfl, h0, r0⟩ := trodAll_cons hA
    obtain ⟨v1, vs1, d1, ds1, p1, q1, rfl, rfl, rfl, h1, r1⟩ := trodAll_cons r0
    obtain ⟨rfl, rfl, rfl⟩ := trodAll_nil r1
    obtain ⟨a0, rfl, rfl, rfl, w0⟩ := open_string Try.underlying9 (hval 0 9 v0 rfl rfl) h0
    have l0 : a0.size ≤ 140737488351232 := by have := sized_string hsz (j := 0) (t := 9) rfl rfl; simpa [reachBytes] using this
    obtain ⟨zs, hrow, hz, _⟩ := open_intRow (k := .u8) Try.underlying23 Try.underlying5 (by kernel_rfl) (hval 1 23 v1 rfl rfl) h1
    have hB : zs.map (Value.int .u8) = (zs.map Int.toNat).map fun z : Nat => Value.int .u8 z := by
      rw [List.map_map]
      apply List.map_congr_left
      intro z hzz
      have : 0 ≤ z ∧ z ≤ 255 := hz z hzz
      simp
      omega
    rw [hB] at hrow
    have hrow' := hrow
    obtain ⟨a, cap, rfl, hl, hm, _⟩ := hrow
    rw [List.length_map] at hrow' hl ⊢
    refine codecCanonical_walk a0 a cap (zs.map Int.toNat) W hrow' l0 ?_ (by unfold maxLen at hm; omega)
    intro z hzz
    obtain ⟨y, hy, rfl⟩ := List.mem_map.1 hzz
    have : 0 ≤ y ∧ y ≤ 255 := hz y hy
    omega

theorem codecCanonical_holds : Rows.CodecCanonicalSaid :=
  OpenClaim.holds_of_wide 10 Try.f10 rfl rfl rfl rfl rfl rfl rfl ⟨rfl, rfl, rfl, rfl, rfl⟩ rfl rfl rfl rfl rfl (by kernel_rfl) Try.func10 (by kernel_rfl)
    (of_decide_eq_true (by kernel_rfl)) (by unfold Func.isWrapper; first | (rw [if_pos (by decide +kernel)]; kernel_rfl) | (rw [if_neg (by decide +kernel)]; exact ⟨rfl, rfl⟩))
    (fun os started H enc _ => codecCanonical_lifted os started H enc)
#print axioms codecCanonical_holds
end Go.Proofs.Ytehdimblkaefhaa
