/-
  The law's graph: the objects made, the links joined; both graphs in memory.
-/
import Derived.Test.YthiiehanlconeaaGrh
import Derived.Test.YthiiehanlconeaaJoj
namespace Go.Proofs.Ythiiehanlconeaa
open Go.RowKit
set_option linter.unusedVariables false
set_option linter.unusedSimpArgs false

set_option maxHeartbeats 12800000 in
set_option maxRecDepth 100000 in
theorem graph_any (w : World) (n : Nat) (b s : Int) (vk : Value) (ks : List Lk) (h0 : 0 < n) (hn : n ≤ 1000) (hk : ArgRows w vk 4 (ks.map Lk.cells)) (hk1 : ∀ k ∈ ks, LkOk k) (hkl : ks.length ≤ 60) :
    Calls Try.prog 8 #[.int .i64 (n : Int), .agg #[.int .i64 b, .int .i64 s], vk] w
      fun e w' => ∃ bh hp vl vx xs Fh Fx, e = .returned (.tuple #[.pointer (some ⟨bh, 0, none⟩), vl, vx]) ∧ GS w w' bh hp vx xs Fh Fx (ownL vl) ∧ GI n b s (hsI b s n) hp xs 6 420 ∧ OutI w w' vl (hsI b s n) := by
  have HN := Lib.hid (fun W => new_any b s W)
  have HMX := fun W => run_makeX n hn W
  obtain ⟨ak, ck, rfl⟩ : ∃ a c, vk = .slice a ks.length c := by
    obtain ⟨a, c, e, -⟩ := hk
    rw [List.length_map] at e
    exact ⟨a, c, e⟩
  have HK := Lib.hid hk
  have HK1 := Lib.hid hk1
  have HKL := Lib.hid hkl
  have HPN := Lib.hid h0
  have HNN := Lib.hid hn
  have nn : (n : Int) ≤ 1000 := by omega
  clear hk hk1 hkl h0 hn
  go_enter Try.func8, Try.ntmps8
  go_upto_region 2 with (go_at_call 14; refine (HN.out _).mono ?_; rintro e w1 ⟨cs, F, rfl, hown, hnd, hlo, hch⟩; have hown' := hown; obtain ⟨v1, v2, v3, F1, F2, F3, rfl, o1, o2, o3, -⟩ := hown'; obtain ⟨x1, y1, p1⟩ := Rep.opened o1; obtain ⟨n1, m1, rfl, -⟩ := p1.val; obtain ⟨x2, y2, p2⟩ := Rep.opened o2; obtain ⟨n2, m2, rfl, -⟩ := p2.val; obtain ⟨x3, y3, p3⟩ := Rep.opened o3; obtain ⟨n3, m3, rfl, -⟩ := p3.val; clear o1 o2 o3 p1 p2 p3)
  have hch' := (Chg.alloc (fun _ => False) w (.cells #[.int .i64 b, .int .i64 s] 35)).trans' hch
  have HO := Lib.hid (show Own hpR w (w1.alloc (.cells _ 49)) w1.heap.size 0 (newM b s) F from ⟨Here.made w1 49 _ (newM b s) F hown hnd, hch'.allocR _, hch'.size, fun k hk => by have := hlo k hk; rw [World.size_alloc] at this; omega⟩)
  clear HN hown hnd hlo hch hch'
  generalize w1.alloc (.cells #[.int .i64 (newM b s).base, .int .i64 (newM b s).stride, .slice n1 (newM b s).slots.length m1, .slice n2 (newM b s).free.length m2, .int .i64 (newM b s).live, .int .i64 (newM b s).global, .int .i64 (newM b s).texts, .slice n3 (newM b s).protos.length m3] 49) = W2 at *
  generalize w1.heap.size = bh at *
  go_wp2_with fail
  have HG0 := Lib.hid (gs_init HNN.out HO.out)
  rw [← hpI_zero] at HG0
  clear HMX HO
  generalize W2.alloc (.cells (List.replicate n roZ).flatten.toArray 81) = W3 at *
  generalize W2.heap.size = bx at *
  go_loopw [10, 12, 13, 14, 15] (fun u10 u12 _ _ _ wr => ∃ (i : Nat) (a : Option Addr) (m c : Nat) (Fh Fx : List Nat), i ≤ n ∧ u12 = .int .i64 i ∧ u10 = .slice a m c ∧ Hid (OutI w wr (.slice a m c) (hsI b s i)) ∧ Hid (GS w wr bh (hpI b s i) (.slice (some ⟨bx, 0, none⟩) n n) (xsI n i) Fh Fx (ownL (.slice a m c)))) (fun _ u12 _ _ _ _ => n - (intOf u12).toNat)
  case atStart => exact ⟨0, none, 0, 0, F, [bx], by omega, rfl, rfl, Lib.hid ⟨RowAt.nil _ _ _, (fun k hk => by simp [Value.ownBlock] at hk), HG0.out.heap.chg⟩, HG0⟩
  case round =>
    clear HG0
    obtain ⟨i, al, ml, cl, Fh, Fx, hi, rfl, rfl, HO, HG⟩ := hrel
    by_cases hlt : i < n
    · have h0 : (0 : Int) ≤ (i : Int) := by omega
      have h1 : (i : Int) < (n : Int) := by omega
      have h2 : (i : Int) < (n : Int) := h1
      have w64 : IntKind.i64.wrap ((i : Int) + 1) = ((i + 1 : Nat) : Int) := IntWalk.i64_in _ (by omega)
      have HLT := Lib.hid hlt
      have HNX := Lib.hid (show i + 1 ≤ n from hlt)
      clear hi
      have hix : i < (xsI n i).length := by rw [xsI_len]; exact hlt
      obtain ⟨g, off, cap, e, G, hh, hway⟩ := gsX HG.out hix
      rw [xsI_len] at e
      cases e
      rw [Nat.zero_add] at hh hway
      by_cases hq3 : (i : Int) % 4 = 3
      · have hi3 : i % 4 = 3 := by omega
        have z3 : ((i : Int) % 4 == 3) = true := beq_iff_eq.2 hq3
        have HI3 := Lib.hid (show kdOf i = 5 by unfold kdOf; rw [if_pos hi3])
        have P := hh.setPost robjR_weak (y := true) (v := .bool true) rfl
        obtain ⟨Fx1, hg1, hk1⟩ := hway _ _ P
        rw [Nat.add_zero] at hg1 hk1
        rw [xsI_set hlt hi3] at hg1
        have HG1 := Lib.hid hg1
        have HO1 := Lib.hid (HO.out.kept hk1 hg1.heap.chg)
        obtain ⟨y1, y2, y3, HRY⟩ := gsX_open HG.out hix
        have e0 := HRY.c0
        have f0 := gsX_frozen HG.out hix (i * 4)
        rw [Nat.zero_add] at e0
        have hw0 : (xsI n i)[i].weak = false := by simp [xsI, xoI]
        rw [hw0] at e0
        clear hq3 hi3 hh hway P hg1 hk1 HRY HO HG hlt hw0
        go_upto_region 11 with fail
        clear e0 f0
        generalize wr.setCell ⟨bx, i * 4, none⟩ (.bool true) = W1 at *
        have hmk0 := make_any W1 bh (hpI b s i) Fh 5 HG1.out.heap.here rfl (by rw [hpI_len]; rfl) (by rw [hpI_len]; have := HNN.out; have := HLT.out; omega) rfl (by omega)
        rw [hpI_len, show handleM (hpI b s i).base (hpI b s i).stride ((12 + i : Nat) : Int) = hOf b s i from rfl, show ((5 : Nat) : Int) = 5 from rfl] at hmk0
        have HMK := Lib.hid hmk0
        have hin := (hOf_pos b s (j := i) (by have := HNN.out; have := HLT.out; omega)).2
        clear hmk0
        generalize hpp : (hpI b s i).protos.getD 5 0 = pr at *
        clear hpp
        go_upto_region 12 with (go_at_call 15; refine HMK.out.mono ?_; rintro e Wm ⟨rfl, hA⟩)
        obtain ⟨Fm, gm, km, -⟩ := HG1.out.heapStep hA.post
        have HOm := Lib.hid (HO1.out.kept (HG1.out.keepB km) gm.heap.chg)
        have HUP : Hid (putO (addedM (hpI b s i) ⟨true, newObj 5 pr⟩) (12 + i) (newObj 5 0) = hpI b s (i + 1)) := Lib.hid (by have h := hpI_succ b s i pr; rw [HI3.out] at h; exact h)
        have hsm : 12 + i < (addedM (hpI b s i) ⟨true, newObj 5 pr⟩).slots.length := by
          show 12 + i < ((hpI b s i).slots ++ [_]).length
          rw [List.length_append, hpI_len]; simp
        have had : (addedM (hpI b s i) ⟨true, newObj 5 pr⟩).slots[12 + i] = ⟨true, newObj 5 pr⟩ := by
          rw [← getD_get (d := noSlt) hsm]
          show ((hpI b s i).slots ++ [_]).getD (12 + i) noSlt = _
          rw [List.getD_eq_getElem?_getD, List.getElem?_append_right (by rw [hpI_len]; omega), hpI_len, Nat.sub_self]; rfl
        have hso : slotOf (addedM (hpI b s i) ⟨true, newObj 5 pr⟩) (hOf b s i) = some (12 + i) :=
          slotOf_handle hsm (by rw [getD_get hsm, had]) (by show ((hpI b s i).slots ++ [_]).length ≤ _; rw [List.length_append, hpI_len]; have := HNN.out; have := HLT.out; simp; omega)
        have HAD := Lib.hid had
        clear hA km HMK had
        generalize addedM (hpI b s i) ⟨true, newObj 5 pr⟩ = hpm at *
        obtain ⟨gh, oh, kh, ch2, G2, HOBJ, -⟩ := gsObj gm hsm
        have HAT := Lib.hid (hat_any Wm bh 0 hpm Fm (hOf b s i) _ gm.heap.here (by rw [Nat.zero_add]; exact ch2) hin)
        rw [hso] at HAT
        rw [show objPtr (.slice (some ⟨gh, oh, none⟩) hpm.slots.length kh) (some (12 + i)) = some ⟨gh, oh + (12 + i) * 11 + 1, none⟩ from rfl] at HAT
        have HGM := Lib.hid gm
        have CH2 := Lib.hid ch2
        clear hso hin HOBJ gm ch2 HG1 HO1
        go_upto_region 13 with (go_at_call 25; refine HAT.out.mono ?_; rintro e Wa ⟨rfl, hca⟩; obtain ⟨gh', oh', kh', ch3, G3, HOBJ3, hback3⟩ := gsObj (HGM.out.still hca) hsm; rw [hca.cell CH2.out] at ch3; cases ch3; obtain ⟨vp, ve, vd, vs, HOC⟩ := objOpen HOBJ3; have d1 := HOC.c1; have f1 := HOBJ3.frozen (oh + (12 + i) * 11 + 1 + 1); have HOB3 := Lib.hid HOBJ3; have HBK3 := Lib.hid hback3; clear HOBJ3 hback3 HOC)
        have P := HOB3.out.setPost objR_proto (y := 0) (v := .int .i64 0) rfl
        obtain ⟨Fs, gs, ks', -⟩ := HBK3.out _ _ P
        rw [HAD.out, show ({ newObj 5 pr with proto := 0 } : Obj) = newObj 5 0 from rfl, HUP.out] at gs
        have HOs := Lib.hid ((HOm.out.kept (KeepB.still hca) (HGM.out.still hca).heap.chg).kept ((HGM.out.still hca).keepB ks') gs.heap.chg)
        have HGS := Lib.hid gs
        clear d1 f1 P gs ks' hca HBK3 HOB3 HGM HAD HUP HAT CH2 HOm hsm
        generalize Wa.setCell ⟨gh, oh + (12 + i) * 11 + 1 + 1, none⟩ (.int .i64 0) = Ws at *
        have HO5 := Lib.hid (HOs.out.alloc (.cells #[.int .i64 (hOf b s i)] 3))
        have HFW : Hid (Few ((hsI b s i).length + 1)) := Lib.hid ⟨by rw [hsI_len]; have := HNN.out; have := HLT.out; omega⟩
        go_wp2_with (at_builtin; refine wpList_out rfl (.tmp 44) (.tmp 46) rfl _ (hsI b s i) rfl HO5.out _ [hOf b s i] rfl (RowAt.lit [.int .i64 (hOf b s i)] rfl (by simp [maxLen])) HFW.out ?_; intro a2 n2 c2 w2 HO6 hch2 hold2)
        go_roundw
        case rel =>
          refine ⟨i + 1, a2, n2, c2, Fs, Fx1, HNX.out, rfl, rfl, Lib.hid (by rw [hsI_succ]; exact HO6), Lib.hid (((HGS.out.alloc _).apart hch2 (fun k hk => List.mem_cons_of_mem _ (mem_ownL.2 hk)) (fun k hk => ?_) (fun k hk => HOs.out.lo k hk)))⟩
          rcases hold2 k (mem_ownL.1 hk) with q | q
          · exact .inl (List.mem_cons_of_mem _ (mem_ownL.2 q))
          · exact .inr ⟨q, HO6.row.lt k (mem_ownL.1 hk)⟩
        case measure => have := HLT.out; simp [intOf, w64]; omega
      · have hi3 : ¬ i % 4 = 3 := by omega
        have HI3 := Lib.hid (show kdOf i = 1 by unfold kdOf; rw [if_neg hi3])
        have z3 : ((i : Int) % 4 == 3) = false := beq_false_of_ne hq3
        have HO1 := HO
        have HG1 := HG
        rw [xsI_skip hi3] at HG1
        clear hq3 hi3 hh hway HO HG hlt
        go_upto_region 11 with fail
        have hmk0 := make_any wr bh (hpI b s i) Fh 1 HG1.out.heap.here rfl (by rw [hpI_len]; rfl) (by rw [hpI_len]; have := HNN.out; have := HLT.out; omega) rfl (by omega)
        rw [hpI_len, show handleM (hpI b s i).base (hpI b s i).stride ((12 + i : Nat) : Int) = hOf b s i from rfl, show ((1 : Nat) : Int) = 1 from rfl] at hmk0
        have HMK := Lib.hid hmk0
        have hin := (hOf_pos b s (j := i) (by have := HNN.out; have := HLT.out; omega)).2
        clear hmk0
        generalize hpp : (hpI b s i).protos.getD 1 0 = pr at *
        clear hpp
        go_upto_region 12 with (go_at_call 15; refine HMK.out.mono ?_; rintro e Wm ⟨rfl, hA⟩)
        obtain ⟨Fm, gm, km, -⟩ := HG1.out.heapStep hA.post
        have HOm := Lib.hid (HO1.out.kept (HG1.out.keepB km) gm.heap.chg)
        have HUP : Hid (putO (addedM (hpI b s i) ⟨true, newObj 1 pr⟩) (12 + i) (newObj 1 0) = hpI b s (i + 1)) := Lib.hid (by have h := hpI_succ b s i pr; rw [HI3.out] at h; exact h)
        have hsm : 12 + i < (addedM (hpI b s i) ⟨true, newObj 1 pr⟩).slots.length := by
          show 12 + i < ((hpI b s i).slots ++ [_]).length
          rw [List.length_append, hpI_len]; simp
        have had : (addedM (hpI b s i) ⟨true, newObj 1 pr⟩).slots[12 + i] = ⟨true, newObj 1 pr⟩ := by
          rw [← getD_get (d := noSlt) hsm]
          show ((hpI b s i).slots ++ [_]).getD (12 + i) noSlt = _
          rw [List.getD_eq_getElem?_getD, List.getElem?_append_right (by rw [hpI_len]; omega), hpI_len, Nat.sub_self]; rfl
        have hso : slotOf (addedM (hpI b s i) ⟨true, newObj 1 pr⟩) (hOf b s i) = some (12 + i) :=
          slotOf_handle hsm (by rw [getD_get hsm, had]) (by show ((hpI b s i).slots ++ [_]).length ≤ _; rw [List.length_append, hpI_len]; have := HNN.out; have := HLT.out; simp; omega)
        have HAD := Lib.hid had
        clear hA km HMK had
        generalize addedM (hpI b s i) ⟨true, newObj 1 pr⟩ = hpm at *
        obtain ⟨gh, oh, kh, ch2, G2, HOBJ, -⟩ := gsObj gm hsm
        have HAT := Lib.hid (hat_any Wm bh 0 hpm Fm (hOf b s i) _ gm.heap.here (by rw [Nat.zero_add]; exact ch2) hin)
        rw [hso] at HAT
        rw [show objPtr (.slice (some ⟨gh, oh, none⟩) hpm.slots.length kh) (some (12 + i)) = some ⟨gh, oh + (12 + i) * 11 + 1, none⟩ from rfl] at HAT
        have HGM := Lib.hid gm
        have CH2 := Lib.hid ch2
        clear hso hin HOBJ gm ch2 HG1 HO1
        go_upto_region 13 with (go_at_call 25; refine HAT.out.mono ?_; rintro e Wa ⟨rfl, hca⟩; obtain ⟨gh', oh', kh', ch3, G3, HOBJ3, hback3⟩ := gsObj (HGM.out.still hca) hsm; rw [hca.cell CH2.out] at ch3; cases ch3; obtain ⟨vp, ve, vd, vs, HOC⟩ := objOpen HOBJ3; have d1 := HOC.c1; have f1 := HOBJ3.frozen (oh + (12 + i) * 11 + 1 + 1); have HOB3 := Lib.hid HOBJ3; have HBK3 := Lib.hid hback3; clear HOBJ3 hback3 HOC)
        have P := HOB3.out.setPost objR_proto (y := 0) (v := .int .i64 0) rfl
        obtain ⟨Fs, gs, ks', -⟩ := HBK3.out _ _ P
        rw [HAD.out, show ({ newObj 1 pr with proto := 0 } : Obj) = newObj 1 0 from rfl, HUP.out] at gs
        have HOs := Lib.hid ((HOm.out.kept (KeepB.still hca) (HGM.out.still hca).heap.chg).kept ((HGM.out.still hca).keepB ks') gs.heap.chg)
        have HGS := Lib.hid gs
        clear d1 f1 P gs ks' hca HBK3 HOB3 HGM HAD HUP HAT CH2 HOm hsm
        generalize Wa.setCell ⟨gh, oh + (12 + i) * 11 + 1 + 1, none⟩ (.int .i64 0) = Ws at *
        have HO5 := Lib.hid (HOs.out.alloc (.cells #[.int .i64 (hOf b s i)] 3))
        have HFW : Hid (Few ((hsI b s i).length + 1)) := Lib.hid ⟨by rw [hsI_len]; have := HNN.out; have := HLT.out; omega⟩
        go_wp2_with (at_builtin; refine wpList_out rfl (.tmp 44) (.tmp 46) rfl _ (hsI b s i) rfl HO5.out _ [hOf b s i] rfl (RowAt.lit [.int .i64 (hOf b s i)] rfl (by simp [maxLen])) HFW.out ?_; intro a2 n2 c2 w2 HO6 hch2 hold2)
        go_roundw
        case rel =>
          refine ⟨i + 1, a2, n2, c2, Fs, Fx, HNX.out, rfl, rfl, Lib.hid (by rw [hsI_succ]; exact HO6), Lib.hid (((HGS.out.alloc _).apart hch2 (fun k hk => List.mem_cons_of_mem _ (mem_ownL.2 hk)) (fun k hk => ?_) (fun k hk => HOs.out.lo k hk)))⟩
          rcases hold2 k (mem_ownL.1 hk) with q | q
          · exact .inl (List.mem_cons_of_mem _ (mem_ownL.2 q))
          · exact .inr ⟨q, HO6.row.lt k (mem_ownL.1 hk)⟩
        case measure => have := HLT.out; simp [intOf, w64]; omega
    · have hi2 : n = i := by omega
      subst hi2
      clear hlt hi
      have HGI := Lib.hid (gi_init b s HPN.out HNN.out)
      go_wp2_with fail
      generalize hpI b s n = hpn at *
      generalize xsI n n = xsn at *
      generalize hL : hsI b s n = L at *
      have HLL : Hid (L.length = n) := Lib.hid (by rw [← hL, hsI_len])
      have HLE := Lib.hid hL
      clear hL
      go_loopw [16, 17, 18] (fun u16 _ _ wr => ∃ (p m : Nat) (hp : Hp) (xs : List RObj) (Fh Fx : List Nat), p ≤ 7 ∧ u16 = .int .u8 p ∧ Hid (m ≤ 60 * p) ∧ Hid (OutI w wr (.slice al ml cl) L) ∧ Hid (GI n b s L hp xs (min p 6) m) ∧ Hid (GS w wr bh hp (.slice (some ⟨bx, 0, none⟩) n n) xs Fh Fx (ownL (.slice al ml cl)))) (fun u16 _ _ _ => 7 - (intOf u16).toNat)
      case atStart => exact ⟨0, 0, hpn, xsn, Fh, Fx, by omega, rfl, Lib.hid (by omega), HO, HGI, HG⟩
      case round =>
        clear HGI HG HO Fh Fx
        obtain ⟨p, m, hp, xs, Fh, Fx, hp7, rfl, HM0, HO, HGI, HG⟩ := hrel
        by_cases hlt : p < 7
        · have HP7 := Lib.hid hlt
          have p0 : (0 : Int) ≤ (p : Int) := by omega
          have p1 : (p : Int) < 7 := by omega
          have w8 : IntKind.u8.wrap ((p : Int) + 1) = ((p + 1 : Nat) : Int) := IntWalk.u8_in _ (by omega)
          have hr : ∃ r : Nat, ordL.getD p 0 = r ∧ r < 7 ∧ (wr.alloc (.cells #[.int .u8 4, .int .u8 0, .int .u8 1, .int .u8 2, .int .u8 3, .int .u8 5, .int .u8 6] 5)).cell? ⟨wr.heap.size, p, none⟩ = some (.int .u8 (r : Int)) := by
            rcases (show p = 0 ∨ p = 1 ∨ p = 2 ∨ p = 3 ∨ p = 4 ∨ p = 5 ∨ p = 6 by omega) with rfl | rfl | rfl | rfl | rfl | rfl | rfl
            all_goals exact ⟨_, rfl, by decide, cell_of_block (alloc_block _ _) rfl⟩
          obtain ⟨r, hr1, hr2, c17⟩ := hr
          have HR := Lib.hid hr1
          have HR2 := Lib.hid hr2
          have hmin : min p 6 = p := by omega
          rw [hmin] at HGI
          have HO2 := Lib.hid (HO.out.kept (KeepB.still (Chg.alloc (fun _ => False) wr (.cells #[.int .u8 4, .int .u8 0, .int .u8 1, .int .u8 2, .int .u8 3, .int .u8 5, .int .u8 6] 5))) (HO.out.chg.allocR (.cells #[.int .u8 4, .int .u8 0, .int .u8 1, .int .u8 2, .int .u8 3, .int .u8 5, .int .u8 6] 5)))
          have HG2 := Lib.hid (HG.out.still (Chg.alloc (fun _ => False) wr (.cells #[.int .u8 4, .int .u8 0, .int .u8 1, .int .u8 2, .int .u8 3, .int .u8 5, .int .u8 6] 5)))
          clear hp7 hr1 hr2 hmin HO HG hlt
          go_wp2_with fail
          clear c17
          generalize wr.alloc (.cells #[.int .u8 4, .int .u8 0, .int .u8 1, .int .u8 2, .int .u8 3, .int .u8 5, .int .u8 6] 5) = wr3 at *
          go_loopw [18] (fun u18 wx => ∃ (i m2 : Nat) (hp : Hp) (xs : List RObj) (Fh Fx : List Nat), i ≤ ks.length ∧ u18 = .int .i64 i ∧ Hid (m2 ≤ 60 * p + i) ∧ Hid (OutI w wx (.slice al ml cl) L) ∧ Hid (GI n b s L hp xs p m2) ∧ Hid (GS w wx bh hp (.slice (some ⟨bx, 0, none⟩) n n) xs Fh Fx (ownL (.slice al ml cl)))) (fun u18 _ => ks.length - (intOf u18).toNat)
          case atStart => exact ⟨0, m, hp, xs, Fh, Fx, by omega, rfl, HM0, HO2, HGI, HG2⟩
          case round =>
            clear HM0 HO2 HGI HG2 hp xs Fh Fx m
            obtain ⟨i, m2, hp, xs, Fh, Fx, hi, rfl, HM0, HO, HGI, HG⟩ := hrel
            by_cases hlt : i < ks.length
            · have i0 : (0 : Int) ≤ (i : Int) := by omega
              have i1 : (i : Int) < (ks.length : Int) := by omega
              have w64 : IntKind.i64.wrap ((i : Int) + 1) = ((i + 1 : Nat) : Int) := IntWalk.i64_in _ (by have := HKL.out; omega)
              have HKO := Lib.hid (HK1.out _ (List.getElem_mem hlt))
              obtain ⟨gk, ok_, ckk, e, hcell⟩ := argRows_at (i := i) HK.out (by rw [List.length_map]; exact hlt)
              rw [List.length_map] at e
              cases e
              have hcw := HG.out.heap.chg
              have q0 := hcw.cell (hcell 0 (.int .u8 (ks[i].frm : Int)) (by simp [Lk.cells]))
              have q1 := hcw.cell (hcell 1 (.int .u8 (ks[i].sort : Int)) (by simp [Lk.cells]))
              have q2 := hcw.cell (hcell 2 (.int .u8 (ks[i].to_ : Int)) (by simp [Lk.cells]))
              have q3 := hcw.cell (hcell 3 (.int .u8 (ks[i].by_ : Int)) (by simp [Lk.cells]))
              rw [Nat.add_zero] at q0
              clear hi hcell hcw
              generalize ks[i] = kk at *
              have HLT := Lib.hid hlt
              have HNX := Lib.hid (show i + 1 ≤ ks.length from hlt)
              clear hlt
              have s0 : (0 : Int) ≤ (kk.sort : Int) := by omega
              have s1 : (kk.sort : Int) ≤ 255 := by have := HKO.out.sort; omega
              by_cases hs : kk.sort % 7 = r
              · have z7 : ((kk.sort : Int) % 7 == (r : Int)) = true := beq_iff_eq.2 (by omega)
                have HJ := Lib.hid (join_gi w wr bh hp (.slice al ml cl) (.slice (some ⟨bx, 0, none⟩) n n) n b s L xs Fh Fx _ kk p m2 HG.out (by have h := HO.out.row; obtain ⟨a9, c9, e9, -⟩ := h.slice; exact h) (fun k hk => mem_ownL.2 hk) HGI.out HKO.out HP7.out (by have := HM0.out; have := HP7.out; have := HLT.out; have := HKL.out; omega) (by rw [HR.out]; exact hs))
                have HMU := Lib.hid (show m2 + 1 ≤ 60 * p + (i + 1) by have := HM0.out; omega)
                clear hs
                go_wp2_with (go_at_call 26; refine HJ.out.mono ?_; rintro e wj ⟨rfl, hp', xs', Fh', Fx', gj, gij, kj⟩)
                have HOj := Lib.hid (HO.out.kept kj gj.heap.chg)
                have HGj := Lib.hid gj
                have HGIj := Lib.hid gij
                clear gj gij kj q0 q1 q2 q3 HJ
                go_roundw
                case rel => exact ⟨i + 1, m2 + 1, hp', xs', Fh', Fx', HNX.out, rfl, HMU, HOj, HGIj, HGj⟩
                case measure => have := HLT.out; simp [intOf, w64]; omega
              · have z7 : ((kk.sort : Int) % 7 == (r : Int)) = false := beq_false_of_ne (by omega)
                have HMU := Lib.hid (show m2 ≤ 60 * p + (i + 1) by have := HM0.out; omega)
                clear hs
                go_wp2_with fail
                go_roundw
                case rel => exact ⟨i + 1, m2, hp, xs, Fh, Fx, HNX.out, rfl, HMU, HO, HGI, HG⟩
                case measure => have := HLT.out; simp [intOf, w64]; omega
            · have hi2 : i = ks.length := by omega
              have HMU := Lib.hid (show m2 ≤ 60 * (p + 1) by have := HM0.out; have := HKL.out; omega)
              have HGI2 := Lib.hid (HGI.out.more (p' := min (p + 1) 6) (m' := m2) (by have := HP7.out; omega) (Nat.le_refl _))
              subst hi2
              clear hlt hi
              go_wp2_with fail
              go_roundw
              case rel => exact ⟨p + 1, m2, hp, xs, Fh, Fx, HP7.out, rfl, HMU, HO, HGI2, HG⟩
              case measure => have := HP7.out; simp [intOf, w8]; omega
        · have hp2 : p = 7 := by omega
          subst hp2
          clear hlt hp7
          go_wp2_with fail
          refine bodyPost_ret (results_tmp3 rfl _ _ _) rfl ?_
          rw [HLE.out]
          exact ⟨bh, hp, _, _, xs, Fh, Fx, rfl, HG.out, HGI.out.more (p' := 6) (m' := 420) (Nat.le_refl _) (by have := HM0.out; omega), HO.out⟩
end Go.Proofs.Ythiiehanlconeaa
