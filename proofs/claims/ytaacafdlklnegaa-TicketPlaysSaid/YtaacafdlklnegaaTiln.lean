/-
  The reference's side of layer 53: Do is walked.
-/
import Derived.Test.YtaacafdlklnegaaTref
import Derived.Test.YtaacafdlklnegaaHeldT
namespace Go.Proofs.Ytaacafdlklnegaa
open Go.RowKit
set_option linter.unusedVariables false
set_option linter.unusedSimpArgs false

/-- What Do asks of the state's numbers. -/
structure ROkW (r : RWorld) : Prop where
  few : Few r.order.length
  fewl : Few r.l.length
  all : ∀ x ∈ r.l, Few x.all.length ∧ 0 ≤ x.acked
theorem PreR.still {w wB wC : World} {b o : Nat} {s : RWorld} {F : List Nat} (h : PreR w wB b o s F) (hc : Chg (fun _ => False) wB wC) : PreR w wC b o s F :=
  ⟨h.chg.trans' hc, Nat.le_trans h.size hc.size, hc.keep h.told (fun x => x), hc.keep h.res (fun x => x), h.here⟩
theorem rEntry_lt {w wB : World} {b o : Nat} {r : RWorld} {F : List Nat} (hc : Chg (fun _ => False) w wB) (H : Here rworldR w b o r F) {j : Nat} (hj : j < r.l.length) {g off cap : Nat}
    (q5 : wB.cell? ⟨b, o + 5, none⟩ = some (.slice (some ⟨g, off, none⟩) r.l.length cap)) : g < w.heap.size := by
  obtain ⟨g', off', cap', G, v, q, -, HE, -⟩ := rEntry H hj
  have h := hc.cell q
  rw [q5] at h
  cases h
  exact HE.lt.1
theorem rEntry_own {w : World} {b o : Nat} {r : RWorld} {F : List Nat} (H : Here rworldR w b o r F) {j : Nat} (hj : j < r.l.length) {g off cap : Nat} {v : Value}
    (q5 : w.cell? ⟨b, o + 5, none⟩ = some (.slice (some ⟨g, off, none⟩) r.l.length cap)) (q3 : w.cell? ⟨g, off + j * 7 + 3, none⟩ = some v) : (∀ k, v.ownBlock = some k → k ∈ F) ∧ RowAt w 9 1 v r.l[j].all.length (r.l[j].all.map Value.string) := by
  obtain ⟨G, HE, -, -, hsub, -⟩ := H.rowElem rworldR_l (by show 0 < 6; decide) q5 hj
  change Here renR w g (off + j * 7) r.l[j] G at HE
  obtain ⟨v', -, -, -, e3, -, -, -, hown⟩ := renCells HE
  rw [q3] at e3
  cases e3
  obtain ⟨v2, h1, h2, h3⟩ := row_flat.1 hown
  cases h1
  rw [flatMap_one] at h2
  exact ⟨fun k hk => hsub k (by rw [h3]; exact mem_ownL.2 hk), h2⟩
theorem resl_own {size n cap d k : Nat} {p : Option Addr} (h : (reslS size p n cap d).ownBlock = some k) : (Value.slice p n cap).ownBlock = some k := by
  cases p with
  | none => unfold reslS at h; split at h <;> simp [Value.ownBlock] at h
  | some a =>
    obtain ⟨b, o, c⟩ := a
    unfold reslS at h
    split at h
    · simpa [Value.ownBlock] using h
    · simp only [Option.map_some, Addr.add] at h
      split at h <;> simpa [Value.ownBlock] using h
theorem atR_no {r : RWorld} {q : Nat} {e n : Int} (h : servedR r q e = false) : atR r q e n = (none, 14) := by unfold atR; rw [if_pos h]
theorem atR_none {r : RWorld} {q : Nat} {e n : Int} (h : servedR r q e = true) (hf : findR q n r.l 0 = none) : atR r q e n = (none, 6) := by
  unfold atR; rw [if_neg (by rw [h]; simp), hf]
theorem atR_some' {r : RWorld} {q : Nat} {e n : Int} (h : servedR r q e = true) {j : Nat} (hf : findR q n r.l 0 = some j) (hj : j < r.l.length) : atR r q e n = if r.l[j].closed = true then (none, 6) else (some j, 0) := by
  unfold atR; rw [if_neg (by rw [h]; simp), hf]; simp only [getR hj]
theorem doR_none {r : RWorld} {x : COp} {c : Int} {q k : Nat} (hk : (x.kind % 8).toNat = k) (h4 : 4 ≤ k) (h6 : k ≤ 6) (hq : x.pg = q) (h : atR r q x.epoch x.number = (none, c)) : doR r x = (⟨c, [], false, []⟩, r) := by
  unfold doR
  rw [hk, hq]
  obtain rfl | rfl | rfl : k = 4 ∨ k = 5 ∨ k = 6 := by omega
  · simp only [takeR, h]
  · simp only [ackR, h]
  · simp only [closeR, h]
theorem doR_take {r : RWorld} {x : COp} {q j : Nat} (hk : (x.kind % 8).toNat = 4) (hq : x.pg = q) (hj : j < r.l.length) (h : atR r q x.epoch x.number = (some j, 0)) :
    doR r x = (if x.at_ < r.l[j].acked ∨ (r.l[j].all.length : Int) < x.at_ then ⟨2, [], false, []⟩ else ⟨0, r.l[j].all.drop x.at_.toNat, r.l[j].ended, []⟩, r) := by
  unfold doR
  rw [hk, hq]
  simp only [takeR, h, getR hj]
theorem doR_ack {r : RWorld} {x : COp} {q j : Nat} (hk : (x.kind % 8).toNat = 5) (hq : x.pg = q) (hj : j < r.l.length) (h : atR r q x.epoch x.number = (some j, 0)) :
    doR r x = if x.at_ < r.l[j].acked ∨ (r.l[j].all.length : Int) < x.at_ then (⟨2, [], false, []⟩, r) else (⟨0, [], false, []⟩, r.setE j { r.l[j] with acked := x.at_, closed := r.l[j].ended && decide (x.at_ = (r.l[j].all.length : Int)) }) := by
  unfold doR
  rw [hk, hq]
  simp only [ackR, h, getR hj]
  by_cases hb : x.at_ < r.l[j].acked ∨ (r.l[j].all.length : Int) < x.at_
  · rw [if_pos hb, if_pos hb]
  · rw [if_neg hb, if_neg hb]
theorem doR_close {r : RWorld} {x : COp} {q j : Nat} (hk : (x.kind % 8).toNat = 6) (hq : x.pg = q) (hj : j < r.l.length) (h : atR r q x.epoch x.number = (some j, 0)) :
    doR r x = (⟨0, [], false, []⟩, r.setE j { r.l[j] with closed := true, acked := r.l[j].all.length }) := by
  unfold doR
  rw [hk, hq]
  simp only [closeR, h, getR hj]
/-- The end of each way: the answer is copied to where it is returned from. -/
theorem mid_cells {w wx : World} {b o : Nat} {s : RWorld} {F F' : List Nat} {te : Int} {tl : List ByteArray} {td : Bool} {tn : List Int} {vl vn : Value} (h : MidR w wx b o (w.heap.size + 2) s F ⟨te, tl, td, tn⟩ vl vn F') :
    wx.cell? ⟨w.heap.size + 2, 0, none⟩ = some (.int .i64 te) ∧ wx.cell? ⟨w.heap.size + 2, 1, none⟩ = some vl ∧ wx.cell? ⟨w.heap.size + 2, 2, none⟩ = some (.bool td) ∧ wx.cell? ⟨w.heap.size + 2, 3, none⟩ = some vn ∧
    ∃ ra rb rc rd, wx.cell? ⟨w.heap.size + 1, 0, none⟩ = some ra ∧ wx.cell? ⟨w.heap.size + 1, 1, none⟩ = some rb ∧ wx.cell? ⟨w.heap.size + 1, 2, none⟩ = some rc ∧ wx.cell? ⟨w.heap.size + 1, 3, none⟩ = some rd ∧ ∀ i, wx.frozen? ⟨w.heap.size + 1, i, none⟩ = false := by
  obtain ⟨ra, rb, rc, rd, hres⟩ := h.res
  exact ⟨cell_of_block (i := 0) h.told rfl, cell_of_block (i := 1) h.told rfl, cell_of_block (i := 2) h.told rfl, cell_of_block (i := 3) h.told rfl, ra, rb, rc, rd, cell_of_block (i := 0) hres rfl, cell_of_block (i := 1) hres rfl, cell_of_block (i := 2) hres rfl, cell_of_block (i := 3) hres rfl, fun i => frozen_of_block hres⟩

set_option maxHeartbeats 25600000 in
set_option maxRecDepth 100000 in
theorem Do_any (w : World) (b o : Nat) (r : RWorld) (F : List Nat) (x : COp) (hx : COpOk x) (hr : ROkW r) (H : Here rworldR w b o r F) :
    Calls Try.prog 24 #[.pointer (some ⟨b, o, none⟩), .agg x.cells.toArray] w fun e w' => DoneR w b o (doR r x).2 F (doR r x).1 e w' := by
  have HX := Lib.hid hx
  have HR := Lib.hid hr
  have HH := Lib.hid H
  have HLT := Lib.hid H.lt
  have k1 := wrap_i8 _ hx.epoch
  have k2 := wrap_i8 _ hx.number
  have k3 := wrap_i8 _ hx.at_
  obtain ⟨q, hq1, hq2, hq3⟩ : ∃ q : Nat, q < 4 ∧ x.page.tmod 4 = (q : Int) ∧ x.pg = q := ⟨x.pg, x.pg_lt, by have := hx.page; unfold COp.pg; rw [Int.tmod_eq_emod_of_nonneg hx.page.1]; omega, rfl⟩
  obtain ⟨k, hk8, hk1, hk2⟩ : ∃ k : Nat, k < 8 ∧ x.kind.tmod 8 = (k : Int) ∧ (x.kind % 8).toNat = k := ⟨(x.kind % 8).toNat, by omega, by have := hx.kind; rw [Int.tmod_eq_emod_of_nonneg hx.kind.1]; omega, rfl⟩
  have k4 : IntKind.i64.wrap (q : Int) = (q : Int) := IntWalk.i64_in _ (by omega)
  have HQ := Lib.hid hq1
  have HPG := Lib.hid hq3
  have HK := Lib.hid hk2
  have HK8 := Lib.hid hk8
  have hq0 : (0 : Int) ≤ (q : Int) := Int.natCast_nonneg _
  have hq4 : (q : Int) < 4 := by omega
  clear hx hr hq1 hq3 hk2 hk8 H
  unfold COp.cells
  go_enter Try.func24, Try.ntmps24
  go_wp2_with fail
  have hg := alloc_old (.cells #[.int .i64 0, .slice none 0 0, .bool false, .slice none 0 0] 50) (alloc_block w (.cells #[.int .u8 x.kind, .int .u8 x.page, .int .i8 x.epoch, .int .i8 x.number, .int .i8 x.at_, .string x.text] 48))
  have hres := alloc_block (w.alloc (.cells #[.int .u8 x.kind, .int .u8 x.page, .int .i8 x.epoch, .int .i8 x.number, .int .i8 x.at_, .string x.text] 48)) (.cells #[.int .i64 0, .slice none 0 0, .bool false, .slice none 0 0] 50)
  have hcA := (Chg.alloc (fun _ => False) w (.cells #[.int .u8 x.kind, .int .u8 x.page, .int .i8 x.epoch, .int .i8 x.number, .int .i8 x.at_, .string x.text] 48)).allocR (.cells #[.int .i64 0, .slice none 0 0, .bool false, .slice none 0 0] 50)
  rw [show (w.alloc (.cells #[.int .u8 x.kind, .int .u8 x.page, .int .i8 x.epoch, .int .i8 x.number, .int .i8 x.at_, .string x.text] 48)).heap.size = w.heap.size + 1 from by simp] at hres
  generalize hW : (w.alloc (.cells #[.int .u8 x.kind, .int .u8 x.page, .int .i8 x.epoch, .int .i8 x.number, .int .i8 x.at_, .string x.text] 48)).alloc (.cells #[.int .i64 0, .slice none 0 0, .bool false, .slice none 0 0] 50) = w2 at *
  have z2 : w2.heap.size = w.heap.size + 2 := by rw [← hW]; simp
  have c0 : w2.cell? ⟨w.heap.size, 0, none⟩ = some (.int .u8 x.kind) := cell_of_block (i := 0) hg rfl
  have c1 : w2.cell? ⟨w.heap.size, 1, none⟩ = some (.int .u8 x.page) := cell_of_block (i := 1) hg rfl
  have c2 : w2.cell? ⟨w.heap.size, 2, none⟩ = some (.int .i8 x.epoch) := cell_of_block (i := 2) hg rfl
  have c3 : w2.cell? ⟨w.heap.size, 3, none⟩ = some (.int .i8 x.number) := cell_of_block (i := 3) hg rfl
  have c4 : w2.cell? ⟨w.heap.size, 4, none⟩ = some (.int .i8 x.at_) := cell_of_block (i := 4) hg rfl
  have c5 : w2.cell? ⟨w.heap.size, 5, none⟩ = some (.string x.text) := cell_of_block (i := 5) hg rfl
  have HZ2 := Lib.hid z2
  have HRES := Lib.hid hres
  have HCA := Lib.hid hcA
  clear hg hW hres z2 hcA
  go_quiet (fail)
  go_wp2_with fail
  generalize hW3 : w2.drewN nq = w3 at *
  have HC3 : Hid (Chg (fun _ => False) w2 w3) := Lib.hid (hW3 ▸ (Chg.refl _ w2).drewNR nq)
  have HZ3 : Hid (w3.heap.size = w.heap.size + 2) := Lib.hid (by rw [← hW3]; exact HZ2.out)
  have d0 := HC3.out.cell c0
  have d5 := HC3.out.cell c5
  clear hW3 c0 c1 c2 c3 c4 c5
  have HH3 := Lib.hid (HH.out.still (HCA.out.trans' HC3.out))
  (with_reducible refine (find_any _ b o r F q (q : Int) x.number rfl HH3.out).mono ?_)
  rintro e w4 ⟨rfl, rfl⟩
  obtain ⟨vo, vl, hep, q4, q5, -⟩ := rworldCells HH3.out
  have dp := hep q HQ.out
  clear hep q4 q5 vo vl
  generalize hii : rIdx (findR q x.number r.l 0) = ii at *
  have HII := Lib.hid hii
  clear hii
  have HSV : Hid (∀ e, servedR r q e = (decide (1 ≤ e) && (r.ep q == e))) := Lib.hid fun e => rfl
  generalize hz : r.ep q = z at *
  have HZE := Lib.hid hz
  clear hz
  go_upto_region 3 with fail
  go_cut [10] (fun u10 wx => u10 = .bool (servedR r q x.epoch) ∧ w3 = wx)
  case first =>
    by_cases he : 1 ≤ x.epoch
    · have hd : decide (1 ≤ x.epoch) = true := decide_eq_true he
      cases hb : z == x.epoch
      · go_wp2_with fail
        go_meet
        exact ⟨by rw [HSV.out, hd, hb]; rfl, rfl⟩
      · go_wp2_with fail
        go_meet
        exact ⟨by rw [HSV.out, hd, hb]; rfl, rfl⟩
    · have hd : decide (1 ≤ x.epoch) = false := decide_eq_false he
      go_wp2_with fail
      go_meet
      exact ⟨by rw [HSV.out, hd]; rfl, rfl⟩
  case rest =>
    obtain ⟨rfl, rfl⟩ := hcut
    clear dp HSV
    generalize hsv : servedR r q x.epoch = sv at *
    have HSV := Lib.hid hsv
    clear hsv HZE
    have d0' := d0
    have HD0 := Lib.hid d0
    have HD5 := Lib.hid d5
    have hz3 := HZ3.out
    go_upto_block 0 with fail
    have hPre : PreR w (w3.alloc (.cells #[.int .i64 0, .slice none 0 0, .bool false, .slice none 0 0] 50)) b o r F :=
      ⟨(HCA.out.trans' HC3.out).allocR _, by have := HZ3.out; simp [this], by have := alloc_block w3 (.cells #[.int .i64 0, .slice none 0 0, .bool false, .slice none 0 0] 50); rw [HZ3.out] at this; exact this, alloc_old _ (HC3.out.keep HRES.out (fun x => x)), HH.out⟩
    have e0 : (w3.alloc (.cells #[.int .i64 0, .slice none 0 0, .bool false, .slice none 0 0] 50)).cell? ⟨w.heap.size, 0, none⟩ = some (.int .u8 x.kind) := (Chg.alloc (fun _ => False) w3 _).cell HD0.out
    have e5 : (w3.alloc (.cells #[.int .i64 0, .slice none 0 0, .bool false, .slice none 0 0] 50)).cell? ⟨w.heap.size, 5, none⟩ = some (.string x.text) := (Chg.alloc (fun _ => False) w3 _).cell HD5.out
    generalize w3.alloc (.cells #[.int .i64 0, .slice none 0 0, .bool false, .slice none 0 0] 50) = wB at *
    have HB := Lib.hid (HH.out.still hPre.chg)
    have E0 := Lib.hid e0
    have E5 := Lib.hid e5
    have HP := Lib.hid hPre
    have hlt := HLT.out.1
    clear d0 d0' d5 hz3 HZ3 HC3 HCA HRES HZ2 HD0 HD5 HH3 e0 hPre
    have h8 := HK8.out
    have hcase : k = 0 ∨ k = 1 ∨ k = 2 ∨ k = 3 ∨ k = 7 ∨ (4 ≤ k ∧ k ≤ 6) := by omega
    clear h8
    rcases hcase with rfl | rfl | rfl | rfl | rfl | hcase
    · as_aux_lemma =>
        have HM : Hid (doR r x = (⟨(claimR r q x.epoch).1, [], false, []⟩, (claimR r q x.epoch).2)) := Lib.hid (by unfold doR; rw [HK.out, HPG.out]; rfl)
        go_wp2_with fail
        (with_reducible refine (rclaim_any _ b o r F q (q : Int) x.epoch HQ.out rfl HB.out HR.out.few).mono ?_)
        rintro y w5 ⟨rfl, hp⟩
        obtain ⟨d0, fz⟩ := HP.out.keptPost hp
        obtain ⟨F', HMD⟩ := HP.out.mid (claimR r q x.epoch).1 hp
        obtain ⟨g0, g1, g2, g3, ra, rb, rc, rd, r0, r1, r2, r3, fr⟩ := mid_cells HMD
        have HMM := Lib.hid HMD
        clear hp HMD
        generalize (claimR r q x.epoch).1 = te at *
        go_wp2_with fail
        refine Do_end (t := ⟨te, [], false, []⟩) (vl := .slice none 0 0) (vn := .slice none 0 0) (F' := F') HMM.out HM.out ?_ ?_ HLT.out.1 HLT.out.2
        · rfl
        · rfl
    · as_aux_lemma =>
        have HM : Hid (doR r x = (⟨(askR r q x.number sv x.text).1, [], false, []⟩, (askR r q x.number sv x.text).2)) := Lib.hid (by unfold doR; rw [HK.out, HPG.out, HSV.out]; rfl)
        have e5 := E5.out
        go_wp2_with fail
        (with_reducible refine (rask_any _ b o r F q (q : Int) x.number ii sv x.text rfl HII.out.symm HB.out HR.out.fewl).mono ?_)
        rintro y w5 ⟨rfl, hp⟩
        obtain ⟨d0, fz⟩ := HP.out.keptPost hp
        obtain ⟨F', HMD⟩ := HP.out.mid (askR r q x.number sv x.text).1 hp
        clear hp
        generalize (askR r q x.number sv x.text).1 = te at *
        obtain ⟨g0, g1, g2, g3, ra, rb, rc, rd, r0, r1, r2, r3, fr⟩ := mid_cells HMD
        have HMM := Lib.hid HMD
        clear HMD
        go_wp2_with fail
        refine Do_end (t := ⟨te, [], false, []⟩) (vl := .slice none 0 0) (vn := .slice none 0 0) (F' := F') HMM.out HM.out ?_ ?_ HLT.out.1 HLT.out.2
        · rfl
        · rfl
    · cases hf : findR q x.number r.l 0 with
      | none =>
        as_aux_lemma =>
          have HM : Hid (doR r x = (⟨6, [], false, []⟩, r)) := Lib.hid (by unfold doR; rw [HK.out, HPG.out]; simp only [feedR, hf])
          have hi := HII.out
          rw [hf] at hi
          obtain rfl : ii = -1 := hi.symm
          clear hf hi
          obtain ⟨d0, fz⟩ := HP.out.keptPost (HB.out.same (.refl _ _))
          obtain ⟨F', HMD⟩ := HP.out.mid 6 (HB.out.same (.refl _ _))
          obtain ⟨g0, g1, g2, g3, ra, rb, rc, rd, r0, r1, r2, r3, fr⟩ := mid_cells HMD
          have HMM := Lib.hid HMD
          clear HMD
          go_wp2_with fail
          refine Do_end (t := ⟨6, [], false, []⟩) (vl := .slice none 0 0) (vn := .slice none 0 0) (F' := F') HMM.out HM.out ?_ ?_ HLT.out.1 HLT.out.2
          · rfl
          · rfl
      | some j =>
        have hj : j < r.l.length := by have := findR_lt _ _ _ _ _ hf; omega
        have hi := HII.out
        rw [hf] at hi
        obtain rfl : ii = (j : Int) := hi.symm
        obtain ⟨g, off, cap, G, v, q5, hgb, HE, ⟨e0, e1, e2, e3, e4, e5, e6⟩, hown, hback⟩ := rEntry HB.out hj
        have hj0 : (0 : Int) ≤ (j : Int) := Int.natCast_nonneg _
        have hj1 : (j : Int) < (r.l.length : Int) := by omega
        have hj2 : decide ((j : Int) < 0) = false := decide_eq_false (by omega)
        have HFE : Hid (feedR r q x.number x.text = if r.l[j].ended = true then (7, r) else if r.l[j].closed = true then (0, r) else (0, r.setE j { r.l[j] with all := r.l[j].all ++ [x.text] })) := Lib.hid (by unfold feedR; rw [hf]; simp only [getR hj])
        have HFW : Hid (Few r.l[j].all.length) := Lib.hid (HR.out.all _ (List.getElem_mem hj)).1
        clear hf hi
        generalize r.l[j] = y at *
        by_cases he : y.ended = true
        · as_aux_lemma =>
            have HM : Hid (doR r x = (⟨7, [], false, []⟩, r)) := Lib.hid (by unfold doR; rw [HK.out, HPG.out]; simp only [HFE.out, if_pos he])
            rw [he] at e5
            clear hown hback HE he hj
            obtain ⟨d0, fz⟩ := HP.out.keptPost (HB.out.same (.refl _ _))
            obtain ⟨F', HMD⟩ := HP.out.mid 7 (HB.out.same (.refl _ _))
            obtain ⟨g0, g1, g2, g3, ra, rb, rc, rd, r0, r1, r2, r3, fr⟩ := mid_cells HMD
            have HMM := Lib.hid HMD
            clear HMD
            go_wp2_with fail
            refine Do_end (t := ⟨7, [], false, []⟩) (vl := .slice none 0 0) (vn := .slice none 0 0) (F' := F') HMM.out HM.out ?_ ?_ HLT.out.1 HLT.out.2
            · rfl
            · rfl
        · rw [Bool.not_eq_true] at he
          by_cases hc : y.closed = true
          · as_aux_lemma =>
              have HM : Hid (doR r x = (⟨0, [], false, []⟩, r)) := Lib.hid (by unfold doR; rw [HK.out, HPG.out]; simp only [HFE.out, he, Bool.false_eq_true, if_false, if_pos hc])
              rw [he] at e5
              rw [hc] at e6
              clear hown hback HE he hc hj
              have f0 := E0.out
              have hm2 : ((2 : Nat) : Int) = 2 := rfl
              obtain ⟨F', HMD⟩ := HP.out.mid0 (HB.out.same (.refl _ _))
              obtain ⟨g0, g1, g2, g3, ra, rb, rc, rd, r0, r1, r2, r3, fr⟩ := mid_cells HMD
              have HMM := Lib.hid HMD
              clear HMD
              go_wp2_with fail
              refine Do_end (t := ⟨0, [], false, []⟩) (vl := .slice none 0 0) (vn := .slice none 0 0) (F' := F') HMM.out HM.out ?_ ?_ HLT.out.1 HLT.out.2
              · rfl
              · rfl
          · rw [Bool.not_eq_true] at hc
            have HM : Hid (doR r x = (⟨0, [], false, []⟩, r.setE j { y with all := y.all ++ [x.text] })) := Lib.hid (by unfold doR; rw [HK.out, HPG.out]; simp only [HFE.out, he, hc, Bool.false_eq_true, if_false])
            rw [he] at e5
            rw [hc] at e6
            obtain ⟨pa, pc, xs, q3, hrow, hones, hle, hcap, fz3, hfin⟩ := HE.fieldCopy renR_all One.str (by show 0 < 7; decide)
            rw [e3] at q3
            cases q3
            change RowAt wB 9 1 _ _ _ at hrow
            have hfew : y.all.length < 1000000000 := (HFW.out).lt
            have HOF := Lib.hid hfew
            have HEL := Lib.hid elem_str
            have HON := Lib.hid hones
            have HFIN := Lib.hid hfin
            have HBK := Lib.hid hback
            have HEH := Lib.hid HE
            have HX2 := Lib.hid hrow.drew
            have hglt := HE.lt.1
            have hblt := HB.out.lt.1
            have hwlt : w.heap.size < wB.heap.size := by have := HP.out.size; omega
            have hgw := rEntry_lt HP.out.chg HH.out hj q5
            have hgx : ¬ w.heap.size = g := by omega
            have hgb' : ¬ b = g := fun e => hgb e.symm
            have f0 := E0.out
            have q5' : wB.drew.cell? ⟨b, o + 5, none⟩ = some (.slice (some ⟨g, off, none⟩) r.l.length cap) := q5
            have e5x : wB.drew.cell? ⟨w.heap.size, 5, none⟩ = some (.string x.text) := E5.out
            have e3' : wB.drew.cell? ⟨g, off + j * 7 + 3, none⟩ = some (.slice pa y.all.length pc) := e3
            have hdr := (Chg.refl (fun _ => False) wB).drewR
            have HO1 : Hid (Ones [Value.string x.text]) := Lib.hid (fun u hu => by simp only [List.mem_singleton] at hu; subst hu; rfl)
            clear hown hback HE he hc hones hfin hrow hfew hle hcap HFW
            go_upto_region 39 with fail
            refine wp_region_held_split 21 (fun w' => w'.cell? ⟨b, o + 5, none⟩ = some (.slice (some ⟨g, off, none⟩) r.l.length cap) ∧ w'.cell? ⟨w.heap.size, 5, none⟩ = some (.string x.text) ∧ w'.cell? ⟨g, off + j * 7 + 3, none⟩ = some (.slice pa y.all.length pc)) (by kernel_rfl) (by kernel_rfl) ?_ (fun hHeld => ?_)
            · (first | exact ⟨q5', e5x, e3'⟩ | exact ⟨hcr.cell q5', hcr.cell e5x, hcr.cell e3'⟩ | exact ⟨(hcz.allocR _).cell q5', (hcz.allocR _).cell e5x, (hcz.allocR _).cell e3'⟩ | exact ⟨hcz.cell q5', hcz.cell e5x, hcz.cell e3'⟩ | exact ⟨HA0.out.cell q5', HA0.out.cell e5x, HA0.out.cell e3'⟩ | exact ⟨HA1.out.cell q5', HA1.out.cell e5x, HA1.out.cell e3'⟩ | exact ⟨HA2.out.cell q5', HA2.out.cell e5x, HA2.out.cell e3'⟩ | exact ⟨HAt.out.cell q5', HAt.out.cell e5x, HAt.out.cell e3'⟩)
            simp only [List.take_succ_cons, List.take_zero]
            generalize wB.drew = wD at *
            have hAa := RowAt.freshAt wD 9 1 wD.heap.size rfl
            have hAc := RowAt.freshAt (wD.alloc (.cells #[.string x.text] 9)) 9 1 (wD.heap.size + 1) (by simp)
            have hBa := RowAt.singleAt (wD.alloc (.cells #[] 9)) 9 1 (wD.heap.size + 1) #[.string x.text] (by simp) rfl
            have hBb := (RowAt.singleAt wD 9 1 wD.heap.size #[.string x.text] rfl rfl).alloc (.cells #[] 9)
            have HAa := Lib.hid hAa
            have HAc := Lib.hid hAc
            have HBa := Lib.hid hBa
            have HBb := Lib.hid hBb
            have hA0 := Chg.alloc (fun _ => False) wD (.cells #[] 9)
            have hA1 := hA0.allocR (.cells #[.string x.text] 9)
            have hA2 := (Chg.alloc (fun _ => False) wD (.cells #[.string x.text] 9)).allocR (.cells #[] 9)
            have HA0 := Lib.hid hA0
            have HA1 := Lib.hid hA1
            have HA2 := Lib.hid hA2
            have e3a := hA0.cell e3'
            have e3b := hA1.cell e3'
            have e3c := hA2.cell e3'
            have HAt := Lib.hid (Chg.alloc (fun _ => False) wD (.cells #[.string x.text] 9))
            have e3d := (Chg.alloc (fun _ => False) wD (.cells #[.string x.text] 9)).cell e3'
            clear hAa hAc hBa hBb hA0 hA1 hA2
            refine wpAnyH_take (i := 0) (v := ?_) rfl (by kernel_rfl) (by kernel_rfl) (by kernel_rfl) (fun _ _ _ h => h) (Or.inl ⟨by rfl, ?_⟩) (by assumption) ?_
            rotate_left
            · (intro wq hSw; (try dsimp only at hSw); go_simp; (try with_reducible rfl))
            simp only [Act.put, List.getElem_toArray, List.getElem_cons_zero, List.getElem_cons_succ, List.setIfInBounds_toArray, List.set_cons_zero, List.set_cons_succ]
            refine wpAnyH_take (i := 1) (v := ?_) rfl (by kernel_rfl) (by kernel_rfl) (by kernel_rfl) (fun _ _ _ h => h) (Or.inl ⟨by rfl, ?_⟩) (by assumption) ?_
            rotate_left
            · (intro wq hSw; (try dsimp only at hSw); go_simp; (try with_reducible rfl))
            simp only [Act.put, List.getElem_toArray, List.getElem_cons_zero, List.getElem_cons_succ, List.setIfInBounds_toArray, List.set_cons_zero, List.set_cons_succ]
            refine wpAnyH_take (i := 2) (v := ?_) rfl (by kernel_rfl) (by kernel_rfl) (by kernel_rfl) (fun _ _ _ h => h) (Or.inl ⟨by rfl, ?_⟩) (by assumption) ?_
            rotate_left
            · (intro wq hSw; (try dsimp only at hSw); go_simp; (try with_reducible rfl))
            simp only [Act.put, List.getElem_toArray, List.getElem_cons_zero, List.getElem_cons_succ, List.setIfInBounds_toArray, List.set_cons_zero, List.set_cons_succ]
            refine wpAnyH_take (i := 3) (v := ?_) rfl (by kernel_rfl) (by kernel_rfl) (by kernel_rfl) (fun _ _ _ h => h) (Or.inl ⟨by rfl, ?_⟩) (by assumption) ?_
            rotate_left
            · (intro wq hSw; (try dsimp only at hSw); go_simp; (try with_reducible rfl))
            simp only [Act.put, List.getElem_toArray, List.getElem_cons_zero, List.getElem_cons_succ, List.setIfInBounds_toArray, List.set_cons_zero, List.set_cons_succ]
            refine wpAnyH_take (i := 4) (v := ?_) rfl (by kernel_rfl) (by kernel_rfl) (by kernel_rfl) (fun _ _ _ h => h) (Or.inl ⟨by rfl, ?_⟩) (by assumption) ?_
            rotate_left
            · (intro wq hSw; (try dsimp only at hSw); go_simp; (try with_reducible rfl))
            simp only [Act.put, List.getElem_toArray, List.getElem_cons_zero, List.getElem_cons_succ, List.setIfInBounds_toArray, List.set_cons_zero, List.set_cons_succ]
            refine wpAnyH_take (i := 6) (v := ?_) rfl (by kernel_rfl) (by kernel_rfl) (by kernel_rfl) (fun _ _ _ h => h) (Or.inl ⟨by rfl, ?_⟩) (by assumption) ?_
            rotate_left
            · (intro wq hSw; (try dsimp only at hSw); go_simp; (try with_reducible rfl))
            simp only [Act.put, List.getElem_toArray, List.getElem_cons_zero, List.getElem_cons_succ, List.setIfInBounds_toArray, List.set_cons_zero, List.set_cons_succ]
            refine wpAnyH_take (i := 7) (v := ?_) rfl (by kernel_rfl) (by kernel_rfl) (by kernel_rfl) (fun _ _ _ h => h) (Or.inl ⟨by rfl, ?_⟩) (by assumption) ?_
            rotate_left
            · (intro wq hSw; (try dsimp only at hSw); go_simp; (try with_reducible rfl))
            simp only [Act.put, List.getElem_toArray, List.getElem_cons_zero, List.getElem_cons_succ, List.setIfInBounds_toArray, List.set_cons_zero, List.set_cons_succ]
            refine wpAnyH_take (i := 8) (v := ?_) rfl (by kernel_rfl) (by kernel_rfl) (by kernel_rfl) (fun _ _ _ h => h) (Or.inl ⟨by rfl, ?_⟩) (by assumption) ?_
            rotate_left
            · (intro wq hSw; (try dsimp only at hSw); go_simp; (try with_reducible rfl))
            simp only [Act.put, List.getElem_toArray, List.getElem_cons_zero, List.getElem_cons_succ, List.setIfInBounds_toArray, List.set_cons_zero, List.set_cons_succ]
            refine wpAnyH_take (i := 9) (v := ?_) rfl (by kernel_rfl) (by kernel_rfl) (by kernel_rfl) (fun _ _ _ h => h) (Or.inl ⟨by rfl, ?_⟩) (by assumption) ?_
            rotate_left
            · (intro wq hSw; (try dsimp only at hSw); go_simp; (try with_reducible rfl))
            simp only [Act.put, List.getElem_toArray, List.getElem_cons_zero, List.getElem_cons_succ, List.setIfInBounds_toArray, List.set_cons_zero, List.set_cons_succ]
            refine wpAnyH_take (i := 10) (v := ?_) rfl (by kernel_rfl) (by kernel_rfl) (by kernel_rfl) (fun _ _ _ h => h) (Or.inl ⟨by rfl, ?_⟩) (by assumption) ?_
            rotate_left
            · (intro wq hSw; (try dsimp only at hSw); go_simp; (try with_reducible rfl))
            simp only [Act.put, List.getElem_toArray, List.getElem_cons_zero, List.getElem_cons_succ, List.setIfInBounds_toArray, List.set_cons_zero, List.set_cons_succ]
            refine wpAnyH_take (i := 11) (v := ?_) rfl (by kernel_rfl) (by kernel_rfl) (by kernel_rfl) (fun _ _ _ h => h) (Or.inl ⟨by rfl, ?_⟩) (by assumption) ?_
            rotate_left
            · (intro wq hSw; (try dsimp only at hSw); go_simp; (try with_reducible rfl))
            simp only [Act.put, List.getElem_toArray, List.getElem_cons_zero, List.getElem_cons_succ, List.setIfInBounds_toArray, List.set_cons_zero, List.set_cons_succ]
            refine wpAnyH_take (i := 12) (v := ?_) rfl (by kernel_rfl) (by kernel_rfl) (by kernel_rfl) (fun _ _ _ h => h) (Or.inl ⟨by rfl, ?_⟩) (by assumption) ?_
            rotate_left
            · (intro wq hSw; (try dsimp only at hSw); go_simp; (try with_reducible rfl))
            simp only [Act.put, List.getElem_toArray, List.getElem_cons_zero, List.getElem_cons_succ, List.setIfInBounds_toArray, List.set_cons_zero, List.set_cons_succ]
            refine wpAnyH_take (i := 13) (v := ?_) rfl (by kernel_rfl) (by kernel_rfl) (by kernel_rfl) (fun _ _ _ h => h) (Or.inl ⟨by rfl, ?_⟩) (by assumption) ?_
            rotate_left
            · (intro wq hSw; (try dsimp only at hSw); go_simp; (try with_reducible rfl))
            simp only [Act.put, List.getElem_toArray, List.getElem_cons_zero, List.getElem_cons_succ, List.setIfInBounds_toArray, List.set_cons_zero, List.set_cons_succ]
            refine wpAnyH_take (i := 15) (v := ?_) rfl (by kernel_rfl) (by kernel_rfl) (by kernel_rfl) (fun _ _ _ h => h) (Or.inl ⟨by rfl, ?_⟩) (by assumption) ?_
            rotate_left
            · (intro wq hSw; (try dsimp only at hSw); go_simp; (try with_reducible rfl))
            simp only [Act.put, List.getElem_toArray, List.getElem_cons_zero, List.getElem_cons_succ, List.setIfInBounds_toArray, List.set_cons_zero, List.set_cons_succ]
            refine wpAnyH_take (i := 16) (v := ?_) rfl (by kernel_rfl) (by kernel_rfl) (by kernel_rfl) (fun _ _ _ h => h) (Or.inl ⟨by rfl, ?_⟩) (by assumption) ?_
            rotate_left
            · (intro wq hSw; (try dsimp only at hSw); go_simp; (try with_reducible rfl))
            simp only [Act.put, List.getElem_toArray, List.getElem_cons_zero, List.getElem_cons_succ, List.setIfInBounds_toArray, List.set_cons_zero, List.set_cons_succ]
            refine wpAnyH_ready (rs := [5, 17]) (by kernel_rfl) (by simp) ?_
            refine AllReadyH.cons (by simp only [List.getElem?_toArray, List.getElem?_cons_succ, List.getElem?_cons_zero]; rfl) (fun K hK => ?_) ?_
            · go_simp
              refine hK.out _ _ ?_ (fun hHeld => ?_)
              · (first | exact ⟨q5', e5x, e3'⟩ | exact ⟨hcr.cell q5', hcr.cell e5x, hcr.cell e3'⟩ | exact ⟨(hcz.allocR _).cell q5', (hcz.allocR _).cell e5x, (hcz.allocR _).cell e3'⟩ | exact ⟨hcz.cell q5', hcz.cell e5x, hcz.cell e3'⟩ | exact ⟨HA0.out.cell q5', HA0.out.cell e5x, HA0.out.cell e3'⟩ | exact ⟨HA1.out.cell q5', HA1.out.cell e5x, HA1.out.cell e3'⟩ | exact ⟨HA2.out.cell q5', HA2.out.cell e5x, HA2.out.cell e3'⟩ | exact ⟨HAt.out.cell q5', HAt.out.cell e5x, HAt.out.cell e3'⟩)
              clear hK K
              (try simp only [Act.put, List.getElem_toArray, List.getElem_cons_zero, List.getElem_cons_succ, List.setIfInBounds_toArray, List.set_cons_zero, List.set_cons_succ])
              refine wpAnyH_ready (rs := [14, 17]) (by kernel_rfl) (by simp) ?_
              refine AllReadyH.cons (by simp only [List.getElem?_toArray, List.getElem?_cons_succ, List.getElem?_cons_zero]; rfl) (fun K hK => ?_) ?_
              · (first | (refine step_append_rows (by rfl) (.tmp 201) (.tmp 209) 25 (by rfl) 9 1 16 Try.underlying25 HEL.out (by decide) _ 0 [] (by rfl) HAa.out _ y.all.length _ (by rfl) (HX2.out.alloc _) HON.out (by have := HOF.out; unfold maxLen; omega) (by have := HOF.out; omega) ?_; intro a2 n2 c2 w5 hrow2 hch2 hold2; have hcz := HA0.out.fresh hch2 (own_at (Nat.le_refl wD.heap.size)); rw [Nat.zero_add, List.nil_append] at hrow2; have hn2 := own_ge hold2 (own_at (Nat.le_refl wD.heap.size)) HA0.out.size) | (refine step_append_rows (by rfl) (.tmp 201) (.tmp 209) 25 (by rfl) 9 1 16 Try.underlying25 HEL.out (by decide) _ 0 [] (by rfl) (HAa.out.alloc _) _ y.all.length _ (by rfl) ((HX2.out.alloc _).alloc _) HON.out (by have := HOF.out; unfold maxLen; omega) (by have := HOF.out; omega) ?_; intro a2 n2 c2 w5 hrow2 hch2 hold2; have hcz := HA1.out.fresh hch2 (own_at (Nat.le_refl wD.heap.size)); rw [Nat.zero_add, List.nil_append] at hrow2; have hn2 := own_ge hold2 (own_at (Nat.le_refl wD.heap.size)) HA1.out.size; have hB2 := HBa.out.chg hch2 (own_ne (Nat.succ_ne_self wD.heap.size))) | (refine step_append_rows (by rfl) (.tmp 201) (.tmp 209) 25 (by rfl) 9 1 16 Try.underlying25 HEL.out (by decide) _ 0 [] (by rfl) HAc.out _ y.all.length _ (by rfl) ((HX2.out.alloc _).alloc _) HON.out (by have := HOF.out; unfold maxLen; omega) (by have := HOF.out; omega) ?_; intro a2 n2 c2 w5 hrow2 hch2 hold2; have hcz := HA2.out.fresh hch2 (own_at (Nat.le_succ wD.heap.size)); rw [Nat.zero_add, List.nil_append] at hrow2; have hn2 := own_ge hold2 (own_at (Nat.le_succ wD.heap.size)) HA2.out.size; have hB2 := HBb.out.chg hch2 (own_ne (Nat.succ_ne_self wD.heap.size).symm)) | (refine step_append_rows (by rfl) (.tmp 210) (.tmp 213) 25 (by rfl) 9 1 16 Try.underlying25 HEL.out (by decide) _ y.all.length _ (by rfl) hrow2 _ 1 _ (by rfl) hB2 HO1.out (by have := HOF.out; unfold maxLen; omega) (by have := HOF.out; omega) ?_; intro a4 n4 c4 w6 hrow4 hch4 hold4; have hcr := hcz.fresh hch4 hn2; have hn4 := own_ge hold4 hn2 hcz.size; have k5 := hcr.cell q5'; have kx := hcr.cell e5x; have kf := (HEH.out.still (hdr.trans' hcr)).frozen (off + j * 7 + 3); have k3 := hcr.cell e3'; clear hcz) | (refine step_append_rows (by rfl) (.tmp 210) (.tmp 213) 25 (by rfl) 9 1 16 Try.underlying25 HEL.out (by decide) _ y.all.length _ (by rfl) (hrow2.alloc _) _ 1 _ (by rfl) (RowAt.singleAt w5 9 1 w5.heap.size #[.string x.text] rfl rfl) HO1.out (by have := HOF.out; unfold maxLen; omega) (by have := HOF.out; omega) ?_; intro a4 n4 c4 w6 hrow4 hch4 hold4; have hcr := (hcz.allocR _).fresh hch4 hn2; have hn4 := own_ge hold4 hn2 (hcz.allocR _).size; have k5 := hcr.cell q5'; have kx := hcr.cell e5x; have kf := (HEH.out.still (hdr.trans' hcr)).frozen (off + j * 7 + 3); have k3 := hcr.cell e3'; clear hcz))
                refine hK.out _ _ ?_ (fun hHeld => ?_)
                · (first | exact ⟨q5', e5x, e3'⟩ | exact ⟨hcr.cell q5', hcr.cell e5x, hcr.cell e3'⟩ | exact ⟨(hcz.allocR _).cell q5', (hcz.allocR _).cell e5x, (hcz.allocR _).cell e3'⟩ | exact ⟨hcz.cell q5', hcz.cell e5x, hcz.cell e3'⟩ | exact ⟨HA0.out.cell q5', HA0.out.cell e5x, HA0.out.cell e3'⟩ | exact ⟨HA1.out.cell q5', HA1.out.cell e5x, HA1.out.cell e3'⟩ | exact ⟨HA2.out.cell q5', HA2.out.cell e5x, HA2.out.cell e3'⟩ | exact ⟨HAt.out.cell q5', HAt.out.cell e5x, HAt.out.cell e3'⟩)
                clear hK K
                (try simp only [Act.put, List.getElem_toArray, List.getElem_cons_zero, List.getElem_cons_succ, List.setIfInBounds_toArray, List.set_cons_zero, List.set_cons_succ])
                refine wpAnyH_ready (rs := [17]) (by kernel_rfl) (by simp) ?_
                refine AllReadyH.cons (by simp only [List.getElem?_toArray, List.getElem?_cons_succ, List.getElem?_cons_zero]; rfl) (fun K hK => ?_) ?_
                · go_simp
                  refine hK.out _ _ ?_ (fun hHeld => ?_)
                  · (first | exact ⟨q5', e5x, e3'⟩ | exact ⟨hcr.cell q5', hcr.cell e5x, hcr.cell e3'⟩ | exact ⟨(hcz.allocR _).cell q5', (hcz.allocR _).cell e5x, (hcz.allocR _).cell e3'⟩ | exact ⟨hcz.cell q5', hcz.cell e5x, hcz.cell e3'⟩ | exact ⟨HA0.out.cell q5', HA0.out.cell e5x, HA0.out.cell e3'⟩ | exact ⟨HA1.out.cell q5', HA1.out.cell e5x, HA1.out.cell e3'⟩ | exact ⟨HA2.out.cell q5', HA2.out.cell e5x, HA2.out.cell e3'⟩ | exact ⟨HAt.out.cell q5', HAt.out.cell e5x, HAt.out.cell e3'⟩)
                  clear hK K
                  (try simp only [Act.put, List.getElem_toArray, List.getElem_cons_zero, List.getElem_cons_succ, List.setIfInBounds_toArray, List.set_cons_zero, List.set_cons_succ])
                  refine wpAnyH_ready (rs := [18]) (by kernel_rfl) (by simp) ?_
                  refine AllReadyH.cons (by simp only [List.getElem?_toArray, List.getElem?_cons_succ, List.getElem?_cons_zero]; rfl) (fun K hK => ?_) ?_
                  · (first | (refine step_append_rows (by rfl) (.tmp 201) (.tmp 209) 25 (by rfl) 9 1 16 Try.underlying25 HEL.out (by decide) _ 0 [] (by rfl) HAa.out _ y.all.length _ (by rfl) (HX2.out.alloc _) HON.out (by have := HOF.out; unfold maxLen; omega) (by have := HOF.out; omega) ?_; intro a2 n2 c2 w5 hrow2 hch2 hold2; have hcz := HA0.out.fresh hch2 (own_at (Nat.le_refl wD.heap.size)); rw [Nat.zero_add, List.nil_append] at hrow2; have hn2 := own_ge hold2 (own_at (Nat.le_refl wD.heap.size)) HA0.out.size) | (refine step_append_rows (by rfl) (.tmp 201) (.tmp 209) 25 (by rfl) 9 1 16 Try.underlying25 HEL.out (by decide) _ 0 [] (by rfl) (HAa.out.alloc _) _ y.all.length _ (by rfl) ((HX2.out.alloc _).alloc _) HON.out (by have := HOF.out; unfold maxLen; omega) (by have := HOF.out; omega) ?_; intro a2 n2 c2 w5 hrow2 hch2 hold2; have hcz := HA1.out.fresh hch2 (own_at (Nat.le_refl wD.heap.size)); rw [Nat.zero_add, List.nil_append] at hrow2; have hn2 := own_ge hold2 (own_at (Nat.le_refl wD.heap.size)) HA1.out.size; have hB2 := HBa.out.chg hch2 (own_ne (Nat.succ_ne_self wD.heap.size))) | (refine step_append_rows (by rfl) (.tmp 201) (.tmp 209) 25 (by rfl) 9 1 16 Try.underlying25 HEL.out (by decide) _ 0 [] (by rfl) HAc.out _ y.all.length _ (by rfl) ((HX2.out.alloc _).alloc _) HON.out (by have := HOF.out; unfold maxLen; omega) (by have := HOF.out; omega) ?_; intro a2 n2 c2 w5 hrow2 hch2 hold2; have hcz := HA2.out.fresh hch2 (own_at (Nat.le_succ wD.heap.size)); rw [Nat.zero_add, List.nil_append] at hrow2; have hn2 := own_ge hold2 (own_at (Nat.le_succ wD.heap.size)) HA2.out.size; have hB2 := HBb.out.chg hch2 (own_ne (Nat.succ_ne_self wD.heap.size).symm)) | (refine step_append_rows (by rfl) (.tmp 210) (.tmp 213) 25 (by rfl) 9 1 16 Try.underlying25 HEL.out (by decide) _ y.all.length _ (by rfl) hrow2 _ 1 _ (by rfl) hB2 HO1.out (by have := HOF.out; unfold maxLen; omega) (by have := HOF.out; omega) ?_; intro a4 n4 c4 w6 hrow4 hch4 hold4; have hcr := hcz.fresh hch4 hn2; have hn4 := own_ge hold4 hn2 hcz.size; have k5 := hcr.cell q5'; have kx := hcr.cell e5x; have kf := (HEH.out.still (hdr.trans' hcr)).frozen (off + j * 7 + 3); have k3 := hcr.cell e3'; clear hcz) | (refine step_append_rows (by rfl) (.tmp 210) (.tmp 213) 25 (by rfl) 9 1 16 Try.underlying25 HEL.out (by decide) _ y.all.length _ (by rfl) (hrow2.alloc _) _ 1 _ (by rfl) (RowAt.singleAt w5 9 1 w5.heap.size #[.string x.text] rfl rfl) HO1.out (by have := HOF.out; unfold maxLen; omega) (by have := HOF.out; omega) ?_; intro a4 n4 c4 w6 hrow4 hch4 hold4; have hcr := (hcz.allocR _).fresh hch4 hn2; have hn4 := own_ge hold4 hn2 (hcz.allocR _).size; have k5 := hcr.cell q5'; have kx := hcr.cell e5x; have kf := (HEH.out.still (hdr.trans' hcr)).frozen (off + j * 7 + 3); have k3 := hcr.cell e3'; clear hcz))
                    refine hK.out _ _ ?_ (fun hHeld => ?_)
                    · (first | exact ⟨q5', e5x, e3'⟩ | exact ⟨hcr.cell q5', hcr.cell e5x, hcr.cell e3'⟩ | exact ⟨(hcz.allocR _).cell q5', (hcz.allocR _).cell e5x, (hcz.allocR _).cell e3'⟩ | exact ⟨hcz.cell q5', hcz.cell e5x, hcz.cell e3'⟩ | exact ⟨HA0.out.cell q5', HA0.out.cell e5x, HA0.out.cell e3'⟩ | exact ⟨HA1.out.cell q5', HA1.out.cell e5x, HA1.out.cell e3'⟩ | exact ⟨HA2.out.cell q5', HA2.out.cell e5x, HA2.out.cell e3'⟩ | exact ⟨HAt.out.cell q5', HAt.out.cell e5x, HAt.out.cell e3'⟩)
                    clear hK K
                    (try simp only [Act.put, List.getElem_toArray, List.getElem_cons_zero, List.getElem_cons_succ, List.setIfInBounds_toArray, List.set_cons_zero, List.set_cons_succ])
                    refine wpAnyH_take (i := 19) (v := ?_) rfl (by kernel_rfl) (by kernel_rfl) (by kernel_rfl) (fun _ _ _ h => h) (Or.inl ⟨by rfl, ?_⟩) (by assumption) ?_
                    rotate_left
                    · (intro wq hSw; (try dsimp only at hSw); go_simp; (try with_reducible rfl))
                    simp only [Act.put, List.getElem_toArray, List.getElem_cons_zero, List.getElem_cons_succ, List.setIfInBounds_toArray, List.set_cons_zero, List.set_cons_succ]
                    refine wpAnyH_take (i := 20) (v := ?_) rfl (by kernel_rfl) (by kernel_rfl) (by kernel_rfl) (fun _ _ _ h => h) (Or.inl ⟨by rfl, ?_⟩) (by assumption) ?_
                    rotate_left
                    · (intro wq hSw; (try dsimp only at hSw); go_simp; (try with_reducible rfl))
                    simp only [Act.put, List.getElem_toArray, List.getElem_cons_zero, List.getElem_cons_succ, List.setIfInBounds_toArray, List.set_cons_zero, List.set_cons_succ]
                    refine wpAnyH_done (by kernel_rfl) ?_ _
                    change wpList _ _ _ _ _ _
                    simp only [List.drop_succ_cons, List.drop_zero]
                    have hp : Post rworldR wB b o (r.setE j { y with all := y.all ++ [x.text] }) F (w6.setCell ⟨g, off + j * 7 + 3, none⟩ (.slice a4 n4 c4)) := by
                      obtain ⟨G2, hE2, hS2⟩ := HFIN.out w6 [.string x.text] x.text (.slice a4 n4 c4) (hdr.trans' hcr) ⟨rfl, rfl⟩ hrow4 (fun k hk => Nat.le_trans hdr.size (hn4 k hk))
                      exact HBK.out _ _ _ hE2 hS2
                    obtain ⟨F', HMD⟩ := HP.out.mid0 hp
                    clear hp hrow2 hrow4 hch2 hch4 hold2 hold4 hn2 hn4 hcr k5 kx
                    obtain ⟨g0, g1, g2, g3, ra, rb, rc, rd, r0, r1, r2, r3, fr⟩ := mid_cells HMD
                    have HMM := Lib.hid HMD
                    clear HMD
                    go_wp2_with fail
                    refine Do_end (t := ⟨0, [], false, []⟩) (vl := .slice none 0 0) (vn := .slice none 0 0) (F' := F') HMM.out HM.out ?_ ?_ HLT.out.1 HLT.out.2
                    · rfl
                    · rfl
                  exact AllReadyH.nil
                exact AllReadyH.nil
              refine AllReadyH.cons (by simp only [List.getElem?_toArray, List.getElem?_cons_succ, List.getElem?_cons_zero]; rfl) (fun K hK => ?_) ?_
              · go_simp
                refine hK.out _ _ ?_ (fun hHeld => ?_)
                · (first | exact ⟨q5', e5x, e3'⟩ | exact ⟨hcr.cell q5', hcr.cell e5x, hcr.cell e3'⟩ | exact ⟨(hcz.allocR _).cell q5', (hcz.allocR _).cell e5x, (hcz.allocR _).cell e3'⟩ | exact ⟨hcz.cell q5', hcz.cell e5x, hcz.cell e3'⟩ | exact ⟨HA0.out.cell q5', HA0.out.cell e5x, HA0.out.cell e3'⟩ | exact ⟨HA1.out.cell q5', HA1.out.cell e5x, HA1.out.cell e3'⟩ | exact ⟨HA2.out.cell q5', HA2.out.cell e5x, HA2.out.cell e3'⟩ | exact ⟨HAt.out.cell q5', HAt.out.cell e5x, HAt.out.cell e3'⟩)
                clear hK K
                (try simp only [Act.put, List.getElem_toArray, List.getElem_cons_zero, List.getElem_cons_succ, List.setIfInBounds_toArray, List.set_cons_zero, List.set_cons_succ])
                refine wpAnyH_ready (rs := [14]) (by kernel_rfl) (by simp) ?_
                refine AllReadyH.cons (by simp only [List.getElem?_toArray, List.getElem?_cons_succ, List.getElem?_cons_zero]; rfl) (fun K hK => ?_) ?_
                · (first | (refine step_append_rows (by rfl) (.tmp 201) (.tmp 209) 25 (by rfl) 9 1 16 Try.underlying25 HEL.out (by decide) _ 0 [] (by rfl) HAa.out _ y.all.length _ (by rfl) (HX2.out.alloc _) HON.out (by have := HOF.out; unfold maxLen; omega) (by have := HOF.out; omega) ?_; intro a2 n2 c2 w5 hrow2 hch2 hold2; have hcz := HA0.out.fresh hch2 (own_at (Nat.le_refl wD.heap.size)); rw [Nat.zero_add, List.nil_append] at hrow2; have hn2 := own_ge hold2 (own_at (Nat.le_refl wD.heap.size)) HA0.out.size) | (refine step_append_rows (by rfl) (.tmp 201) (.tmp 209) 25 (by rfl) 9 1 16 Try.underlying25 HEL.out (by decide) _ 0 [] (by rfl) (HAa.out.alloc _) _ y.all.length _ (by rfl) ((HX2.out.alloc _).alloc _) HON.out (by have := HOF.out; unfold maxLen; omega) (by have := HOF.out; omega) ?_; intro a2 n2 c2 w5 hrow2 hch2 hold2; have hcz := HA1.out.fresh hch2 (own_at (Nat.le_refl wD.heap.size)); rw [Nat.zero_add, List.nil_append] at hrow2; have hn2 := own_ge hold2 (own_at (Nat.le_refl wD.heap.size)) HA1.out.size; have hB2 := HBa.out.chg hch2 (own_ne (Nat.succ_ne_self wD.heap.size))) | (refine step_append_rows (by rfl) (.tmp 201) (.tmp 209) 25 (by rfl) 9 1 16 Try.underlying25 HEL.out (by decide) _ 0 [] (by rfl) HAc.out _ y.all.length _ (by rfl) ((HX2.out.alloc _).alloc _) HON.out (by have := HOF.out; unfold maxLen; omega) (by have := HOF.out; omega) ?_; intro a2 n2 c2 w5 hrow2 hch2 hold2; have hcz := HA2.out.fresh hch2 (own_at (Nat.le_succ wD.heap.size)); rw [Nat.zero_add, List.nil_append] at hrow2; have hn2 := own_ge hold2 (own_at (Nat.le_succ wD.heap.size)) HA2.out.size; have hB2 := HBb.out.chg hch2 (own_ne (Nat.succ_ne_self wD.heap.size).symm)) | (refine step_append_rows (by rfl) (.tmp 210) (.tmp 213) 25 (by rfl) 9 1 16 Try.underlying25 HEL.out (by decide) _ y.all.length _ (by rfl) hrow2 _ 1 _ (by rfl) hB2 HO1.out (by have := HOF.out; unfold maxLen; omega) (by have := HOF.out; omega) ?_; intro a4 n4 c4 w6 hrow4 hch4 hold4; have hcr := hcz.fresh hch4 hn2; have hn4 := own_ge hold4 hn2 hcz.size; have k5 := hcr.cell q5'; have kx := hcr.cell e5x; have kf := (HEH.out.still (hdr.trans' hcr)).frozen (off + j * 7 + 3); have k3 := hcr.cell e3'; clear hcz) | (refine step_append_rows (by rfl) (.tmp 210) (.tmp 213) 25 (by rfl) 9 1 16 Try.underlying25 HEL.out (by decide) _ y.all.length _ (by rfl) (hrow2.alloc _) _ 1 _ (by rfl) (RowAt.singleAt w5 9 1 w5.heap.size #[.string x.text] rfl rfl) HO1.out (by have := HOF.out; unfold maxLen; omega) (by have := HOF.out; omega) ?_; intro a4 n4 c4 w6 hrow4 hch4 hold4; have hcr := (hcz.allocR _).fresh hch4 hn2; have hn4 := own_ge hold4 hn2 (hcz.allocR _).size; have k5 := hcr.cell q5'; have kx := hcr.cell e5x; have kf := (HEH.out.still (hdr.trans' hcr)).frozen (off + j * 7 + 3); have k3 := hcr.cell e3'; clear hcz))
                  refine hK.out _ _ ?_ (fun hHeld => ?_)
                  · (first | exact ⟨q5', e5x, e3'⟩ | exact ⟨hcr.cell q5', hcr.cell e5x, hcr.cell e3'⟩ | exact ⟨(hcz.allocR _).cell q5', (hcz.allocR _).cell e5x, (hcz.allocR _).cell e3'⟩ | exact ⟨hcz.cell q5', hcz.cell e5x, hcz.cell e3'⟩ | exact ⟨HA0.out.cell q5', HA0.out.cell e5x, HA0.out.cell e3'⟩ | exact ⟨HA1.out.cell q5', HA1.out.cell e5x, HA1.out.cell e3'⟩ | exact ⟨HA2.out.cell q5', HA2.out.cell e5x, HA2.out.cell e3'⟩ | exact ⟨HAt.out.cell q5', HAt.out.cell e5x, HAt.out.cell e3'⟩)
                  clear hK K
                  (try simp only [Act.put, List.getElem_toArray, List.getElem_cons_zero, List.getElem_cons_succ, List.setIfInBounds_toArray, List.set_cons_zero, List.set_cons_succ])
                  refine wpAnyH_ready (rs := [18]) (by kernel_rfl) (by simp) ?_
                  refine AllReadyH.cons (by simp only [List.getElem?_toArray, List.getElem?_cons_succ, List.getElem?_cons_zero]; rfl) (fun K hK => ?_) ?_
                  · (first | (refine step_append_rows (by rfl) (.tmp 201) (.tmp 209) 25 (by rfl) 9 1 16 Try.underlying25 HEL.out (by decide) _ 0 [] (by rfl) HAa.out _ y.all.length _ (by rfl) (HX2.out.alloc _) HON.out (by have := HOF.out; unfold maxLen; omega) (by have := HOF.out; omega) ?_; intro a2 n2 c2 w5 hrow2 hch2 hold2; have hcz := HA0.out.fresh hch2 (own_at (Nat.le_refl wD.heap.size)); rw [Nat.zero_add, List.nil_append] at hrow2; have hn2 := own_ge hold2 (own_at (Nat.le_refl wD.heap.size)) HA0.out.size) | (refine step_append_rows (by rfl) (.tmp 201) (.tmp 209) 25 (by rfl) 9 1 16 Try.underlying25 HEL.out (by decide) _ 0 [] (by rfl) (HAa.out.alloc _) _ y.all.length _ (by rfl) ((HX2.out.alloc _).alloc _) HON.out (by have := HOF.out; unfold maxLen; omega) (by have := HOF.out; omega) ?_; intro a2 n2 c2 w5 hrow2 hch2 hold2; have hcz := HA1.out.fresh hch2 (own_at (Nat.le_refl wD.heap.size)); rw [Nat.zero_add, List.nil_append] at hrow2; have hn2 := own_ge hold2 (own_at (Nat.le_refl wD.heap.size)) HA1.out.size; have hB2 := HBa.out.chg hch2 (own_ne (Nat.succ_ne_self wD.heap.size))) | (refine step_append_rows (by rfl) (.tmp 201) (.tmp 209) 25 (by rfl) 9 1 16 Try.underlying25 HEL.out (by decide) _ 0 [] (by rfl) HAc.out _ y.all.length _ (by rfl) ((HX2.out.alloc _).alloc _) HON.out (by have := HOF.out; unfold maxLen; omega) (by have := HOF.out; omega) ?_; intro a2 n2 c2 w5 hrow2 hch2 hold2; have hcz := HA2.out.fresh hch2 (own_at (Nat.le_succ wD.heap.size)); rw [Nat.zero_add, List.nil_append] at hrow2; have hn2 := own_ge hold2 (own_at (Nat.le_succ wD.heap.size)) HA2.out.size; have hB2 := HBb.out.chg hch2 (own_ne (Nat.succ_ne_self wD.heap.size).symm)) | (refine step_append_rows (by rfl) (.tmp 210) (.tmp 213) 25 (by rfl) 9 1 16 Try.underlying25 HEL.out (by decide) _ y.all.length _ (by rfl) hrow2 _ 1 _ (by rfl) hB2 HO1.out (by have := HOF.out; unfold maxLen; omega) (by have := HOF.out; omega) ?_; intro a4 n4 c4 w6 hrow4 hch4 hold4; have hcr := hcz.fresh hch4 hn2; have hn4 := own_ge hold4 hn2 hcz.size; have k5 := hcr.cell q5'; have kx := hcr.cell e5x; have kf := (HEH.out.still (hdr.trans' hcr)).frozen (off + j * 7 + 3); have k3 := hcr.cell e3'; clear hcz) | (refine step_append_rows (by rfl) (.tmp 210) (.tmp 213) 25 (by rfl) 9 1 16 Try.underlying25 HEL.out (by decide) _ y.all.length _ (by rfl) (hrow2.alloc _) _ 1 _ (by rfl) (RowAt.singleAt w5 9 1 w5.heap.size #[.string x.text] rfl rfl) HO1.out (by have := HOF.out; unfold maxLen; omega) (by have := HOF.out; omega) ?_; intro a4 n4 c4 w6 hrow4 hch4 hold4; have hcr := (hcz.allocR _).fresh hch4 hn2; have hn4 := own_ge hold4 hn2 (hcz.allocR _).size; have k5 := hcr.cell q5'; have kx := hcr.cell e5x; have kf := (HEH.out.still (hdr.trans' hcr)).frozen (off + j * 7 + 3); have k3 := hcr.cell e3'; clear hcz))
                    refine hK.out _ _ ?_ (fun hHeld => ?_)
                    · (first | exact ⟨q5', e5x, e3'⟩ | exact ⟨hcr.cell q5', hcr.cell e5x, hcr.cell e3'⟩ | exact ⟨(hcz.allocR _).cell q5', (hcz.allocR _).cell e5x, (hcz.allocR _).cell e3'⟩ | exact ⟨hcz.cell q5', hcz.cell e5x, hcz.cell e3'⟩ | exact ⟨HA0.out.cell q5', HA0.out.cell e5x, HA0.out.cell e3'⟩ | exact ⟨HA1.out.cell q5', HA1.out.cell e5x, HA1.out.cell e3'⟩ | exact ⟨HA2.out.cell q5', HA2.out.cell e5x, HA2.out.cell e3'⟩ | exact ⟨HAt.out.cell q5', HAt.out.cell e5x, HAt.out.cell e3'⟩)
                    clear hK K
                    (try simp only [Act.put, List.getElem_toArray, List.getElem_cons_zero, List.getElem_cons_succ, List.setIfInBounds_toArray, List.set_cons_zero, List.set_cons_succ])
                    refine wpAnyH_take (i := 19) (v := ?_) rfl (by kernel_rfl) (by kernel_rfl) (by kernel_rfl) (fun _ _ _ h => h) (Or.inl ⟨by rfl, ?_⟩) (by assumption) ?_
                    rotate_left
                    · (intro wq hSw; (try dsimp only at hSw); go_simp; (try with_reducible rfl))
                    simp only [Act.put, List.getElem_toArray, List.getElem_cons_zero, List.getElem_cons_succ, List.setIfInBounds_toArray, List.set_cons_zero, List.set_cons_succ]
                    refine wpAnyH_take (i := 20) (v := ?_) rfl (by kernel_rfl) (by kernel_rfl) (by kernel_rfl) (fun _ _ _ h => h) (Or.inl ⟨by rfl, ?_⟩) (by assumption) ?_
                    rotate_left
                    · (intro wq hSw; (try dsimp only at hSw); go_simp; (try with_reducible rfl))
                    simp only [Act.put, List.getElem_toArray, List.getElem_cons_zero, List.getElem_cons_succ, List.setIfInBounds_toArray, List.set_cons_zero, List.set_cons_succ]
                    refine wpAnyH_done (by kernel_rfl) ?_ _
                    change wpList _ _ _ _ _ _
                    simp only [List.drop_succ_cons, List.drop_zero]
                    have hp : Post rworldR wB b o (r.setE j { y with all := y.all ++ [x.text] }) F (w6.setCell ⟨g, off + j * 7 + 3, none⟩ (.slice a4 n4 c4)) := by
                      obtain ⟨G2, hE2, hS2⟩ := HFIN.out w6 [.string x.text] x.text (.slice a4 n4 c4) (hdr.trans' hcr) ⟨rfl, rfl⟩ hrow4 (fun k hk => Nat.le_trans hdr.size (hn4 k hk))
                      exact HBK.out _ _ _ hE2 hS2
                    obtain ⟨F', HMD⟩ := HP.out.mid0 hp
                    clear hp hrow2 hrow4 hch2 hch4 hold2 hold4 hn2 hn4 hcr k5 kx
                    obtain ⟨g0, g1, g2, g3, ra, rb, rc, rd, r0, r1, r2, r3, fr⟩ := mid_cells HMD
                    have HMM := Lib.hid HMD
                    clear HMD
                    go_wp2_with fail
                    refine Do_end (t := ⟨0, [], false, []⟩) (vl := .slice none 0 0) (vn := .slice none 0 0) (F' := F') HMM.out HM.out ?_ ?_ HLT.out.1 HLT.out.2
                    · rfl
                    · rfl
                  exact AllReadyH.nil
                exact AllReadyH.nil
              exact AllReadyH.nil
            refine AllReadyH.cons (by simp only [List.getElem?_toArray, List.getElem?_cons_succ, List.getElem?_cons_zero]; rfl) (fun K hK => ?_) ?_
            · go_simp
              refine hK.out _ _ ?_ (fun hHeld => ?_)
              · (first | exact ⟨q5', e5x, e3'⟩ | exact ⟨hcr.cell q5', hcr.cell e5x, hcr.cell e3'⟩ | exact ⟨(hcz.allocR _).cell q5', (hcz.allocR _).cell e5x, (hcz.allocR _).cell e3'⟩ | exact ⟨hcz.cell q5', hcz.cell e5x, hcz.cell e3'⟩ | exact ⟨HA0.out.cell q5', HA0.out.cell e5x, HA0.out.cell e3'⟩ | exact ⟨HA1.out.cell q5', HA1.out.cell e5x, HA1.out.cell e3'⟩ | exact ⟨HA2.out.cell q5', HA2.out.cell e5x, HA2.out.cell e3'⟩ | exact ⟨HAt.out.cell q5', HAt.out.cell e5x, HAt.out.cell e3'⟩)
              clear hK K
              (try simp only [Act.put, List.getElem_toArray, List.getElem_cons_zero, List.getElem_cons_succ, List.setIfInBounds_toArray, List.set_cons_zero, List.set_cons_succ])
              refine wpAnyH_ready (rs := [5]) (by kernel_rfl) (by simp) ?_
              refine AllReadyH.cons (by simp only [List.getElem?_toArray, List.getElem?_cons_succ, List.getElem?_cons_zero]; rfl) (fun K hK => ?_) ?_
              · go_simp
                refine hK.out _ _ ?_ (fun hHeld => ?_)
                · (first | exact ⟨q5', e5x, e3'⟩ | exact ⟨hcr.cell q5', hcr.cell e5x, hcr.cell e3'⟩ | exact ⟨(hcz.allocR _).cell q5', (hcz.allocR _).cell e5x, (hcz.allocR _).cell e3'⟩ | exact ⟨hcz.cell q5', hcz.cell e5x, hcz.cell e3'⟩ | exact ⟨HA0.out.cell q5', HA0.out.cell e5x, HA0.out.cell e3'⟩ | exact ⟨HA1.out.cell q5', HA1.out.cell e5x, HA1.out.cell e3'⟩ | exact ⟨HA2.out.cell q5', HA2.out.cell e5x, HA2.out.cell e3'⟩ | exact ⟨HAt.out.cell q5', HAt.out.cell e5x, HAt.out.cell e3'⟩)
                clear hK K
                (try simp only [Act.put, List.getElem_toArray, List.getElem_cons_zero, List.getElem_cons_succ, List.setIfInBounds_toArray, List.set_cons_zero, List.set_cons_succ])
                refine wpAnyH_ready (rs := [14]) (by kernel_rfl) (by simp) ?_
                refine AllReadyH.cons (by simp only [List.getElem?_toArray, List.getElem?_cons_succ, List.getElem?_cons_zero]; rfl) (fun K hK => ?_) ?_
                · (first | (refine step_append_rows (by rfl) (.tmp 201) (.tmp 209) 25 (by rfl) 9 1 16 Try.underlying25 HEL.out (by decide) _ 0 [] (by rfl) HAa.out _ y.all.length _ (by rfl) (HX2.out.alloc _) HON.out (by have := HOF.out; unfold maxLen; omega) (by have := HOF.out; omega) ?_; intro a2 n2 c2 w5 hrow2 hch2 hold2; have hcz := HA0.out.fresh hch2 (own_at (Nat.le_refl wD.heap.size)); rw [Nat.zero_add, List.nil_append] at hrow2; have hn2 := own_ge hold2 (own_at (Nat.le_refl wD.heap.size)) HA0.out.size) | (refine step_append_rows (by rfl) (.tmp 201) (.tmp 209) 25 (by rfl) 9 1 16 Try.underlying25 HEL.out (by decide) _ 0 [] (by rfl) (HAa.out.alloc _) _ y.all.length _ (by rfl) ((HX2.out.alloc _).alloc _) HON.out (by have := HOF.out; unfold maxLen; omega) (by have := HOF.out; omega) ?_; intro a2 n2 c2 w5 hrow2 hch2 hold2; have hcz := HA1.out.fresh hch2 (own_at (Nat.le_refl wD.heap.size)); rw [Nat.zero_add, List.nil_append] at hrow2; have hn2 := own_ge hold2 (own_at (Nat.le_refl wD.heap.size)) HA1.out.size; have hB2 := HBa.out.chg hch2 (own_ne (Nat.succ_ne_self wD.heap.size))) | (refine step_append_rows (by rfl) (.tmp 201) (.tmp 209) 25 (by rfl) 9 1 16 Try.underlying25 HEL.out (by decide) _ 0 [] (by rfl) HAc.out _ y.all.length _ (by rfl) ((HX2.out.alloc _).alloc _) HON.out (by have := HOF.out; unfold maxLen; omega) (by have := HOF.out; omega) ?_; intro a2 n2 c2 w5 hrow2 hch2 hold2; have hcz := HA2.out.fresh hch2 (own_at (Nat.le_succ wD.heap.size)); rw [Nat.zero_add, List.nil_append] at hrow2; have hn2 := own_ge hold2 (own_at (Nat.le_succ wD.heap.size)) HA2.out.size; have hB2 := HBb.out.chg hch2 (own_ne (Nat.succ_ne_self wD.heap.size).symm)) | (refine step_append_rows (by rfl) (.tmp 210) (.tmp 213) 25 (by rfl) 9 1 16 Try.underlying25 HEL.out (by decide) _ y.all.length _ (by rfl) hrow2 _ 1 _ (by rfl) hB2 HO1.out (by have := HOF.out; unfold maxLen; omega) (by have := HOF.out; omega) ?_; intro a4 n4 c4 w6 hrow4 hch4 hold4; have hcr := hcz.fresh hch4 hn2; have hn4 := own_ge hold4 hn2 hcz.size; have k5 := hcr.cell q5'; have kx := hcr.cell e5x; have kf := (HEH.out.still (hdr.trans' hcr)).frozen (off + j * 7 + 3); have k3 := hcr.cell e3'; clear hcz) | (refine step_append_rows (by rfl) (.tmp 210) (.tmp 213) 25 (by rfl) 9 1 16 Try.underlying25 HEL.out (by decide) _ y.all.length _ (by rfl) (hrow2.alloc _) _ 1 _ (by rfl) (RowAt.singleAt w5 9 1 w5.heap.size #[.string x.text] rfl rfl) HO1.out (by have := HOF.out; unfold maxLen; omega) (by have := HOF.out; omega) ?_; intro a4 n4 c4 w6 hrow4 hch4 hold4; have hcr := (hcz.allocR _).fresh hch4 hn2; have hn4 := own_ge hold4 hn2 (hcz.allocR _).size; have k5 := hcr.cell q5'; have kx := hcr.cell e5x; have kf := (HEH.out.still (hdr.trans' hcr)).frozen (off + j * 7 + 3); have k3 := hcr.cell e3'; clear hcz))
                  refine hK.out _ _ ?_ (fun hHeld => ?_)
                  · (first | exact ⟨q5', e5x, e3'⟩ | exact ⟨hcr.cell q5', hcr.cell e5x, hcr.cell e3'⟩ | exact ⟨(hcz.allocR _).cell q5', (hcz.allocR _).cell e5x, (hcz.allocR _).cell e3'⟩ | exact ⟨hcz.cell q5', hcz.cell e5x, hcz.cell e3'⟩ | exact ⟨HA0.out.cell q5', HA0.out.cell e5x, HA0.out.cell e3'⟩ | exact ⟨HA1.out.cell q5', HA1.out.cell e5x, HA1.out.cell e3'⟩ | exact ⟨HA2.out.cell q5', HA2.out.cell e5x, HA2.out.cell e3'⟩ | exact ⟨HAt.out.cell q5', HAt.out.cell e5x, HAt.out.cell e3'⟩)
                  clear hK K
                  (try simp only [Act.put, List.getElem_toArray, List.getElem_cons_zero, List.getElem_cons_succ, List.setIfInBounds_toArray, List.set_cons_zero, List.set_cons_succ])
                  refine wpAnyH_ready (rs := [18]) (by kernel_rfl) (by simp) ?_
                  refine AllReadyH.cons (by simp only [List.getElem?_toArray, List.getElem?_cons_succ, List.getElem?_cons_zero]; rfl) (fun K hK => ?_) ?_
                  · (first | (refine step_append_rows (by rfl) (.tmp 201) (.tmp 209) 25 (by rfl) 9 1 16 Try.underlying25 HEL.out (by decide) _ 0 [] (by rfl) HAa.out _ y.all.length _ (by rfl) (HX2.out.alloc _) HON.out (by have := HOF.out; unfold maxLen; omega) (by have := HOF.out; omega) ?_; intro a2 n2 c2 w5 hrow2 hch2 hold2; have hcz := HA0.out.fresh hch2 (own_at (Nat.le_refl wD.heap.size)); rw [Nat.zero_add, List.nil_append] at hrow2; have hn2 := own_ge hold2 (own_at (Nat.le_refl wD.heap.size)) HA0.out.size) | (refine step_append_rows (by rfl) (.tmp 201) (.tmp 209) 25 (by rfl) 9 1 16 Try.underlying25 HEL.out (by decide) _ 0 [] (by rfl) (HAa.out.alloc _) _ y.all.length _ (by rfl) ((HX2.out.alloc _).alloc _) HON.out (by have := HOF.out; unfold maxLen; omega) (by have := HOF.out; omega) ?_; intro a2 n2 c2 w5 hrow2 hch2 hold2; have hcz := HA1.out.fresh hch2 (own_at (Nat.le_refl wD.heap.size)); rw [Nat.zero_add, List.nil_append] at hrow2; have hn2 := own_ge hold2 (own_at (Nat.le_refl wD.heap.size)) HA1.out.size; have hB2 := HBa.out.chg hch2 (own_ne (Nat.succ_ne_self wD.heap.size))) | (refine step_append_rows (by rfl) (.tmp 201) (.tmp 209) 25 (by rfl) 9 1 16 Try.underlying25 HEL.out (by decide) _ 0 [] (by rfl) HAc.out _ y.all.length _ (by rfl) ((HX2.out.alloc _).alloc _) HON.out (by have := HOF.out; unfold maxLen; omega) (by have := HOF.out; omega) ?_; intro a2 n2 c2 w5 hrow2 hch2 hold2; have hcz := HA2.out.fresh hch2 (own_at (Nat.le_succ wD.heap.size)); rw [Nat.zero_add, List.nil_append] at hrow2; have hn2 := own_ge hold2 (own_at (Nat.le_succ wD.heap.size)) HA2.out.size; have hB2 := HBb.out.chg hch2 (own_ne (Nat.succ_ne_self wD.heap.size).symm)) | (refine step_append_rows (by rfl) (.tmp 210) (.tmp 213) 25 (by rfl) 9 1 16 Try.underlying25 HEL.out (by decide) _ y.all.length _ (by rfl) hrow2 _ 1 _ (by rfl) hB2 HO1.out (by have := HOF.out; unfold maxLen; omega) (by have := HOF.out; omega) ?_; intro a4 n4 c4 w6 hrow4 hch4 hold4; have hcr := hcz.fresh hch4 hn2; have hn4 := own_ge hold4 hn2 hcz.size; have k5 := hcr.cell q5'; have kx := hcr.cell e5x; have kf := (HEH.out.still (hdr.trans' hcr)).frozen (off + j * 7 + 3); have k3 := hcr.cell e3'; clear hcz) | (refine step_append_rows (by rfl) (.tmp 210) (.tmp 213) 25 (by rfl) 9 1 16 Try.underlying25 HEL.out (by decide) _ y.all.length _ (by rfl) (hrow2.alloc _) _ 1 _ (by rfl) (RowAt.singleAt w5 9 1 w5.heap.size #[.string x.text] rfl rfl) HO1.out (by have := HOF.out; unfold maxLen; omega) (by have := HOF.out; omega) ?_; intro a4 n4 c4 w6 hrow4 hch4 hold4; have hcr := (hcz.allocR _).fresh hch4 hn2; have hn4 := own_ge hold4 hn2 (hcz.allocR _).size; have k5 := hcr.cell q5'; have kx := hcr.cell e5x; have kf := (HEH.out.still (hdr.trans' hcr)).frozen (off + j * 7 + 3); have k3 := hcr.cell e3'; clear hcz))
                    refine hK.out _ _ ?_ (fun hHeld => ?_)
                    · (first | exact ⟨q5', e5x, e3'⟩ | exact ⟨hcr.cell q5', hcr.cell e5x, hcr.cell e3'⟩ | exact ⟨(hcz.allocR _).cell q5', (hcz.allocR _).cell e5x, (hcz.allocR _).cell e3'⟩ | exact ⟨hcz.cell q5', hcz.cell e5x, hcz.cell e3'⟩ | exact ⟨HA0.out.cell q5', HA0.out.cell e5x, HA0.out.cell e3'⟩ | exact ⟨HA1.out.cell q5', HA1.out.cell e5x, HA1.out.cell e3'⟩ | exact ⟨HA2.out.cell q5', HA2.out.cell e5x, HA2.out.cell e3'⟩ | exact ⟨HAt.out.cell q5', HAt.out.cell e5x, HAt.out.cell e3'⟩)
                    clear hK K
                    (try simp only [Act.put, List.getElem_toArray, List.getElem_cons_zero, List.getElem_cons_succ, List.setIfInBounds_toArray, List.set_cons_zero, List.set_cons_succ])
                    refine wpAnyH_take (i := 19) (v := ?_) rfl (by kernel_rfl) (by kernel_rfl) (by kernel_rfl) (fun _ _ _ h => h) (Or.inl ⟨by rfl, ?_⟩) (by assumption) ?_
                    rotate_left
                    · (intro wq hSw; (try dsimp only at hSw); go_simp; (try with_reducible rfl))
                    simp only [Act.put, List.getElem_toArray, List.getElem_cons_zero, List.getElem_cons_succ, List.setIfInBounds_toArray, List.set_cons_zero, List.set_cons_succ]
                    refine wpAnyH_take (i := 20) (v := ?_) rfl (by kernel_rfl) (by kernel_rfl) (by kernel_rfl) (fun _ _ _ h => h) (Or.inl ⟨by rfl, ?_⟩) (by assumption) ?_
                    rotate_left
                    · (intro wq hSw; (try dsimp only at hSw); go_simp; (try with_reducible rfl))
                    simp only [Act.put, List.getElem_toArray, List.getElem_cons_zero, List.getElem_cons_succ, List.setIfInBounds_toArray, List.set_cons_zero, List.set_cons_succ]
                    refine wpAnyH_done (by kernel_rfl) ?_ _
                    change wpList _ _ _ _ _ _
                    simp only [List.drop_succ_cons, List.drop_zero]
                    have hp : Post rworldR wB b o (r.setE j { y with all := y.all ++ [x.text] }) F (w6.setCell ⟨g, off + j * 7 + 3, none⟩ (.slice a4 n4 c4)) := by
                      obtain ⟨G2, hE2, hS2⟩ := HFIN.out w6 [.string x.text] x.text (.slice a4 n4 c4) (hdr.trans' hcr) ⟨rfl, rfl⟩ hrow4 (fun k hk => Nat.le_trans hdr.size (hn4 k hk))
                      exact HBK.out _ _ _ hE2 hS2
                    obtain ⟨F', HMD⟩ := HP.out.mid0 hp
                    clear hp hrow2 hrow4 hch2 hch4 hold2 hold4 hn2 hn4 hcr k5 kx
                    obtain ⟨g0, g1, g2, g3, ra, rb, rc, rd, r0, r1, r2, r3, fr⟩ := mid_cells HMD
                    have HMM := Lib.hid HMD
                    clear HMD
                    go_wp2_with fail
                    refine Do_end (t := ⟨0, [], false, []⟩) (vl := .slice none 0 0) (vn := .slice none 0 0) (F' := F') HMM.out HM.out ?_ ?_ HLT.out.1 HLT.out.2
                    · rfl
                    · rfl
                  exact AllReadyH.nil
                exact AllReadyH.nil
              exact AllReadyH.nil
            exact AllReadyH.nil
    · cases hf : findR q x.number r.l 0 with
      | none =>
        as_aux_lemma =>
          have HM : Hid (doR r x = (⟨6, [], false, []⟩, r)) := Lib.hid (by unfold doR; rw [HK.out, HPG.out]; simp only [endR, hf])
          have hi := HII.out
          rw [hf] at hi
          obtain rfl : ii = -1 := hi.symm
          clear hf hi
          obtain ⟨d0, fz⟩ := HP.out.keptPost (HB.out.same (.refl _ _))
          obtain ⟨F', HMD⟩ := HP.out.mid 6 (HB.out.same (.refl _ _))
          obtain ⟨g0, g1, g2, g3, ra, rb, rc, rd, r0, r1, r2, r3, fr⟩ := mid_cells HMD
          have HMM := Lib.hid HMD
          clear HMD
          go_wp2_with fail
          refine Do_end (t := ⟨6, [], false, []⟩) (vl := .slice none 0 0) (vn := .slice none 0 0) (F' := F') HMM.out HM.out ?_ ?_ HLT.out.1 HLT.out.2
          · rfl
          · rfl
      | some j =>
        have hj : j < r.l.length := by have := findR_lt _ _ _ _ _ hf; omega
        have hi := HII.out
        rw [hf] at hi
        obtain rfl : ii = (j : Int) := hi.symm
        obtain ⟨g, off, cap, G, v, q5, hgb, HE, ⟨e0, e1, e2, e3, e4, e5, e6⟩, hown, hback⟩ := rEntry HB.out hj
        have hj0 : (0 : Int) ≤ (j : Int) := Int.natCast_nonneg _
        have hj1 : (j : Int) < (r.l.length : Int) := by omega
        have hj2 : decide ((j : Int) < 0) = false := decide_eq_false (by omega)
        have HFE : Hid (endR r q x.number = if r.l[j].ended = true then (7, r) else (0, r.setE j { r.l[j] with ended := true })) := Lib.hid (by unfold endR; rw [hf]; simp only [getR hj])
        clear hf hi
        generalize r.l[j] = y at *
        by_cases he : y.ended = true
        · as_aux_lemma =>
            have HM : Hid (doR r x = (⟨7, [], false, []⟩, r)) := Lib.hid (by unfold doR; rw [HK.out, HPG.out]; simp only [HFE.out, if_pos he])
            rw [he] at e5
            clear hown hback HE he hj
            obtain ⟨d0, fz⟩ := HP.out.keptPost (HB.out.same (.refl _ _))
            obtain ⟨F', HMD⟩ := HP.out.mid 7 (HB.out.same (.refl _ _))
            obtain ⟨g0, g1, g2, g3, ra, rb, rc, rd, r0, r1, r2, r3, fr⟩ := mid_cells HMD
            have HMM := Lib.hid HMD
            clear HMD
            go_wp2_with fail
            refine Do_end (t := ⟨7, [], false, []⟩) (vl := .slice none 0 0) (vn := .slice none 0 0) (F' := F') HMM.out HM.out ?_ ?_ HLT.out.1 HLT.out.2
            · rfl
            · rfl
        · as_aux_lemma =>
            rw [Bool.not_eq_true] at he
            have HM : Hid (doR r x = (⟨0, [], false, []⟩, r.setE j { y with ended := true })) := Lib.hid (by unfold doR; rw [HK.out, HPG.out]; simp only [HFE.out, he, Bool.false_eq_true, if_false])
            rw [he] at e5
            obtain ⟨G2, hE2, hS2⟩ := HE.setField renR_ended (y := true) (v := .bool true) rfl
            have hp := hback _ _ _ hE2 hS2
            have f0 := E0.out
            have fzE := HE.frozen (off + j * 7 + 5)
            obtain ⟨F', HMD⟩ := HP.out.mid0 hp
            clear hown hback HE he hj hE2 hS2 hp
            obtain ⟨g0, g1, g2, g3, ra, rb, rc, rd, r0, r1, r2, r3, fr⟩ := mid_cells HMD
            have HMM := Lib.hid HMD
            clear HMD
            go_wp2_with fail
            refine Do_end (t := ⟨0, [], false, []⟩) (vl := .slice none 0 0) (vn := .slice none 0 0) (F' := F') HMM.out HM.out ?_ ?_ HLT.out.1 HLT.out.2
            · rfl
            · rfl
    · as_aux_lemma =>
        have HM : Hid (doR r x = (⟨0, [], false, openR r.l q⟩, r)) := Lib.hid (by unfold doR; rw [HK.out, HPG.out]; rfl)
        go_wp2_with fail
        (with_reducible refine (ropen_any _ b o r F q (q : Int) rfl HB.out HR.out.fewl).mono ?_)
        rintro y w5 ⟨v, rfl, hi⟩
        obtain ⟨k0, k1', k2', k3', kf⟩ := HP.out.kept hi.chg (fun x => x)
        have HMD := HP.out.midOpen hi
        obtain ⟨va, vc, rfl, -, -⟩ := hi.row.slice
        clear hi
        generalize openR r.l q = ol at *
        obtain ⟨g0, g1, g2, g3, ra, rb, rc, rd, r0, r1, r2, r3, fr⟩ := mid_cells HMD
        have HMM := Lib.hid HMD
        clear HMD
        go_wp2_with fail
        refine Do_end (t := ⟨0, [], false, ol⟩) (vl := .slice none 0 0) (vn := .slice va ol.length vc) (F' := F) HMM.out HM.out ?_ ?_ HLT.out.1 HLT.out.2
        · rfl
        · rfl
    · have hk0 : ((k : Int) == 0) = false := by simp; omega
      have hk1' : ((k : Int) == 1) = false := by simp; omega
      have hk2 : ((k : Int) == 2) = false := by simp; omega
      have hk3 : ((k : Int) == 3) = false := by simp; omega
      have hk7 : ((k : Int) == 7) = false := by simp; omega
      cases sv with
      | false =>
        as_aux_lemma =>
          have HM := Lib.hid (doR_none HK.out hcase.1 hcase.2 HPG.out (atR_no HSV.out))
          obtain ⟨d0, fz⟩ := HP.out.keptPost (HB.out.same (.refl _ _))
          obtain ⟨F', HMD⟩ := HP.out.mid 14 (HB.out.same (.refl _ _))
          obtain ⟨g0, g1, g2, g3, ra, rb, rc, rd, r0, r1, r2, r3, fr⟩ := mid_cells HMD
          have HMM := Lib.hid HMD
          clear HMD
          go_wp2_with fail
          refine Do_end (t := ⟨14, [], false, []⟩) (vl := .slice none 0 0) (vn := .slice none 0 0) (F' := F') HMM.out HM.out ?_ ?_ HLT.out.1 HLT.out.2
          · rfl
          · rfl
      | true =>
        cases hf : findR q x.number r.l 0 with
        | none =>
          as_aux_lemma =>
            have HM := Lib.hid (doR_none HK.out hcase.1 hcase.2 HPG.out (atR_none HSV.out hf))
            have hi := HII.out
            rw [hf] at hi
            obtain rfl : ii = -1 := hi.symm
            clear hf hi
            obtain ⟨d0, fz⟩ := HP.out.keptPost (HB.out.same (.refl _ _))
            obtain ⟨F', HMD⟩ := HP.out.mid 6 (HB.out.same (.refl _ _))
            obtain ⟨g0, g1, g2, g3, ra, rb, rc, rd, r0, r1, r2, r3, fr⟩ := mid_cells HMD
            have HMM := Lib.hid HMD
            clear HMD
            go_wp2_with fail
            refine Do_end (t := ⟨6, [], false, []⟩) (vl := .slice none 0 0) (vn := .slice none 0 0) (F' := F') HMM.out HM.out ?_ ?_ HLT.out.1 HLT.out.2
            · rfl
            · rfl
        | some j =>
          have hj : j < r.l.length := by have := findR_lt _ _ _ _ _ hf; omega
          have hi := HII.out
          rw [hf] at hi
          obtain rfl : ii = (j : Int) := hi.symm
          obtain ⟨g, off, cap, G, v, q5, hgb, HE, ⟨e0, e1, e2, e3, e4, e5, e6⟩, hown, hback⟩ := rEntry HB.out hj
          have hj0 : (0 : Int) ≤ (j : Int) := Int.natCast_nonneg _
          have hj1 : (j : Int) < (r.l.length : Int) := by omega
          have hj2 : decide ((j : Int) < 0) = false := decide_eq_false (by omega)
          have hat := atR_some' (n := x.number) HSV.out hf hj
          clear hf hi
          by_cases hc : r.l[j].closed = true
          · as_aux_lemma =>
              rw [if_pos hc] at hat
              rw [hc] at e6
              have HM := Lib.hid (doR_none HK.out hcase.1 hcase.2 HPG.out hat)
              clear hown hback HE hat hc
              generalize r.l[j] = y at *
              obtain ⟨d0, fz⟩ := HP.out.keptPost (HB.out.same (.refl _ _))
              obtain ⟨F', HMD⟩ := HP.out.mid 6 (HB.out.same (.refl _ _))
              obtain ⟨g0, g1, g2, g3, ra, rb, rc, rd, r0, r1, r2, r3, fr⟩ := mid_cells HMD
              have HMM := Lib.hid HMD
              clear HMD
              go_wp2_with fail
              refine Do_end (t := ⟨6, [], false, []⟩) (vl := .slice none 0 0) (vn := .slice none 0 0) (F' := F') HMM.out HM.out ?_ ?_ HLT.out.1 HLT.out.2
              · rfl
              · rfl
          · rw [if_neg hc] at hat
            rw [Bool.not_eq_true] at hc
            rw [hc] at e6
            obtain ⟨xs, Fs, hpo⟩ := Rep.opened hown
            obtain ⟨pa, pc, rfl, hp1, hp2⟩ := hpo.val
            obtain ⟨hvo, hvr⟩ := rEntry_own HB.out hj q5 e3
            have hgw := rEntry_lt HP.out.chg HH.out hj q5
            have hfew := (HR.out.all _ (List.getElem_mem hj)).1.lt
            have hnn := (HR.out.all _ (List.getElem_mem hj)).2
            have hlen0 : (0 : Int) ≤ (r.l[j].all.length : Int) := Int.natCast_nonneg _
            have hlen1 : (r.l[j].all.length : Int) ≤ 9223372036854775807 := by omega
            have hgb' : ¬ b = g := fun e => hgb e.symm
            clear hfew hp1 hp2
            obtain rfl | rfl | rfl : k = 4 ∨ k = 5 ∨ k = 6 := by omega
            · have HMT := Lib.hid (doR_take HK.out HPG.out hj hat)
              clear hat hk0 hk1' hk2 hk3 hk7 hcase hown hpo hback
              generalize r.l[j] = y at *
              clear hj
              have hm4 : ((4 : Nat) : Int) = 4 := rfl
              by_cases hbad : x.at_ < y.acked ∨ (y.all.length : Int) < x.at_
              · as_aux_lemma =>
                  have HM : Hid (doR r x = (⟨2, [], false, []⟩, r)) := Lib.hid (by rw [HMT.out, if_pos hbad])
                  have hboxc := Chg.alloc (fun _ => False) wB (.cells #[.int .i64 (y.page : Int), .int .i64 y.number, .string y.request, .slice pa y.all.length pc, .int .i64 y.acked, .bool y.ended, .bool false] 88)
                  have hboxb := alloc_block wB (.cells #[.int .i64 (y.page : Int), .int .i64 y.number, .string y.request, .slice pa y.all.length pc, .int .i64 y.acked, .bool y.ended, .bool false] 88)
                  have hboxs : wB.heap.size < (wB.alloc (.cells #[.int .i64 (y.page : Int), .int .i64 y.number, .string y.request, .slice pa y.all.length pc, .int .i64 y.acked, .bool y.ended, .bool false] 88)).heap.size := by simp
                  have f0 := hboxc.cell E0.out
                  go_upto_region 17 with fail
                  generalize wB.alloc (.cells #[.int .i64 (y.page : Int), .int .i64 y.number, .string y.request, .slice pa y.all.length pc, .int .i64 y.acked, .bool y.ended, .bool false] 88) = wX at *
                  have bx3 : wX.cell? ⟨wB.heap.size, 3, none⟩ = some (.slice pa y.all.length pc) := cell_of_block (i := 3) hboxb rfl
                  have bx4 : wX.cell? ⟨wB.heap.size, 4, none⟩ = some (.int .i64 y.acked) := cell_of_block (i := 4) hboxb rfl
                  have bx5 : wX.cell? ⟨wB.heap.size, 5, none⟩ = some (.bool y.ended) := cell_of_block (i := 5) hboxb rfl
                  have HPX := Lib.hid (HP.out.still hboxc)
                  have HBX := Lib.hid (HB.out.still hboxc)
                  have HEX := Lib.hid (HE.still hboxc)
                  have x5 := hboxc.cell q5
                  have hgn : ¬ g = wB.heap.size := by have := HE.lt.1; omega
                  have hbn : ¬ b = wB.heap.size := by have := HB.out.lt.1; omega
                  clear HE hvo hvr e0 e1 e2 e3 e4 e5 e6
                  obtain ⟨d0, fz⟩ := HPX.out.keptPost (HBX.out.same (.refl _ _))
                  obtain ⟨F', HMD⟩ := HPX.out.mid 2 (HBX.out.same (.refl _ _))
                  rcases hbad with h1 | h1
                  · have hd : decide (x.at_ < y.acked) = true := decide_eq_true h1
                    obtain ⟨g0, g1, g2, g3, ra, rb, rc, rd, r0, r1, r2, r3, fr⟩ := mid_cells HMD
                    have HMM := Lib.hid HMD
                    clear HMD
                    go_wp2_with fail
                    refine Do_end (t := ⟨2, [], false, []⟩) (vl := .slice none 0 0) (vn := .slice none 0 0) (F' := F') HMM.out HM.out ?_ ?_ HLT.out.1 HLT.out.2
                    · rfl
                    · rfl
                  · by_cases h2 : x.at_ < y.acked
                    · have hd : decide (x.at_ < y.acked) = true := decide_eq_true h2
                      obtain ⟨g0, g1, g2, g3, ra, rb, rc, rd, r0, r1, r2, r3, fr⟩ := mid_cells HMD
                      have HMM := Lib.hid HMD
                      clear HMD
                      go_wp2_with fail
                      refine Do_end (t := ⟨2, [], false, []⟩) (vl := .slice none 0 0) (vn := .slice none 0 0) (F' := F') HMM.out HM.out ?_ ?_ HLT.out.1 HLT.out.2
                      · rfl
                      · rfl
                    · have hd : decide (x.at_ < y.acked) = false := decide_eq_false h2
                      have hd2 : decide ((y.all.length : Int) < x.at_) = true := decide_eq_true h1
                      obtain ⟨g0, g1, g2, g3, ra, rb, rc, rd, r0, r1, r2, r3, fr⟩ := mid_cells HMD
                      have HMM := Lib.hid HMD
                      clear HMD
                      go_wp2_with fail
                      refine Do_end (t := ⟨2, [], false, []⟩) (vl := .slice none 0 0) (vn := .slice none 0 0) (F' := F') HMM.out HM.out ?_ ?_ HLT.out.1 HLT.out.2
                      · rfl
                      · rfl
              · as_aux_lemma =>
                  have HM : Hid (doR r x = (⟨0, y.all.drop x.at_.toNat, y.ended, []⟩, r)) := Lib.hid (by rw [HMT.out, if_neg hbad])
                  have hd : decide (x.at_ < y.acked) = false := decide_eq_false (by omega)
                  have hd2 : decide ((y.all.length : Int) < x.at_) = false := decide_eq_false (by omega)
                  have hrs := fun W => run_reslS (P := Try.prog) W 25 9 1 Try.underlying25 (Try.sizeOf9 W) pa y.all.length pc x.at_ (by omega) (by omega)
                  have hsuf := hvr.suffix (d := x.at_.toNat) (by omega)
                  rw [Nat.mul_one, ← List.map_drop, show y.all.length - x.at_.toNat = (y.all.drop x.at_.toNat).length from by rw [List.length_drop]] at hsuf
                  have hso : ∀ k, (reslS 1 pa y.all.length pc x.at_.toNat).ownBlock = some k → k ∈ F := fun k hk => hvo k (resl_own hk)
                  have hboxc := Chg.alloc (fun _ => False) wB (.cells #[.int .i64 (y.page : Int), .int .i64 y.number, .string y.request, .slice pa y.all.length pc, .int .i64 y.acked, .bool y.ended, .bool false] 88)
                  have hboxb := alloc_block wB (.cells #[.int .i64 (y.page : Int), .int .i64 y.number, .string y.request, .slice pa y.all.length pc, .int .i64 y.acked, .bool y.ended, .bool false] 88)
                  have hboxs : wB.heap.size < (wB.alloc (.cells #[.int .i64 (y.page : Int), .int .i64 y.number, .string y.request, .slice pa y.all.length pc, .int .i64 y.acked, .bool y.ended, .bool false] 88)).heap.size := by simp
                  have f0 := hboxc.cell E0.out
                  go_upto_region 17 with fail
                  generalize wB.alloc (.cells #[.int .i64 (y.page : Int), .int .i64 y.number, .string y.request, .slice pa y.all.length pc, .int .i64 y.acked, .bool y.ended, .bool false] 88) = wX at *
                  have bx3 : wX.cell? ⟨wB.heap.size, 3, none⟩ = some (.slice pa y.all.length pc) := cell_of_block (i := 3) hboxb rfl
                  have bx4 : wX.cell? ⟨wB.heap.size, 4, none⟩ = some (.int .i64 y.acked) := cell_of_block (i := 4) hboxb rfl
                  have bx5 : wX.cell? ⟨wB.heap.size, 5, none⟩ = some (.bool y.ended) := cell_of_block (i := 5) hboxb rfl
                  have HPX := Lib.hid (HP.out.still hboxc)
                  have HBX := Lib.hid (HB.out.still hboxc)
                  have HEX := Lib.hid (HE.still hboxc)
                  have x5 := hboxc.cell q5
                  have hgn : ¬ g = wB.heap.size := by have := HE.lt.1; omega
                  have hbn : ¬ b = wB.heap.size := by have := HB.out.lt.1; omega
                  have hsX := hsuf.chg hboxc (fun _ _ h => h)
                  obtain ⟨d0, d1, d2, d3, fz⟩ := HPX.out.kept (.refl (fun _ => False) _) (fun h => h)
                  have HMD := HPX.out.midTake (d := y.ended) hsX hso
                  clear hsuf hsX hso hvr hvo HE hbad hnn
                  generalize reslS 1 pa y.all.length pc x.at_.toNat = vs at *
                  generalize y.all.drop x.at_.toNat = yl at *
                  generalize y.ended = ye at *
                  obtain ⟨va, vc, rfl, -, -⟩ := HMD.rl.slice
                  obtain ⟨g0, g1, g2, g3, ra, rb, rc, rd, r0, r1, r2, r3, fr⟩ := mid_cells HMD
                  have HMM := Lib.hid HMD
                  clear HMD
                  go_wp2_with fail
                  refine Do_end (t := ⟨0, yl, ye, []⟩) (vl := .slice va yl.length vc) (vn := .slice none 0 0) (F' := F) HMM.out HM.out ?_ ?_ HLT.out.1 HLT.out.2
                  · rfl
                  · rfl
            · have HMT := Lib.hid (doR_ack HK.out HPG.out hj hat)
              clear hat hk0 hk1' hk2 hk3 hk7 hcase hown hpo hvo hvr
              generalize r.l[j] = y at *
              clear hj
              have hm5 : ((5 : Nat) : Int) = 5 := rfl
              by_cases hbad : x.at_ < y.acked ∨ (y.all.length : Int) < x.at_
              · as_aux_lemma =>
                  have HM : Hid (doR r x = (⟨2, [], false, []⟩, r)) := Lib.hid (by rw [HMT.out, if_pos hbad])
                  have hboxc := Chg.alloc (fun _ => False) wB (.cells #[.int .i64 (y.page : Int), .int .i64 y.number, .string y.request, .slice pa y.all.length pc, .int .i64 y.acked, .bool y.ended, .bool false] 88)
                  have hboxb := alloc_block wB (.cells #[.int .i64 (y.page : Int), .int .i64 y.number, .string y.request, .slice pa y.all.length pc, .int .i64 y.acked, .bool y.ended, .bool false] 88)
                  have hboxs : wB.heap.size < (wB.alloc (.cells #[.int .i64 (y.page : Int), .int .i64 y.number, .string y.request, .slice pa y.all.length pc, .int .i64 y.acked, .bool y.ended, .bool false] 88)).heap.size := by simp
                  have f0 := hboxc.cell E0.out
                  go_upto_region 17 with fail
                  generalize wB.alloc (.cells #[.int .i64 (y.page : Int), .int .i64 y.number, .string y.request, .slice pa y.all.length pc, .int .i64 y.acked, .bool y.ended, .bool false] 88) = wX at *
                  have bx3 : wX.cell? ⟨wB.heap.size, 3, none⟩ = some (.slice pa y.all.length pc) := cell_of_block (i := 3) hboxb rfl
                  have bx4 : wX.cell? ⟨wB.heap.size, 4, none⟩ = some (.int .i64 y.acked) := cell_of_block (i := 4) hboxb rfl
                  have bx5 : wX.cell? ⟨wB.heap.size, 5, none⟩ = some (.bool y.ended) := cell_of_block (i := 5) hboxb rfl
                  have HPX := Lib.hid (HP.out.still hboxc)
                  have HBX := Lib.hid (HB.out.still hboxc)
                  have HEX := Lib.hid (HE.still hboxc)
                  have x5 := hboxc.cell q5
                  have hgn : ¬ g = wB.heap.size := by have := HE.lt.1; omega
                  have hbn : ¬ b = wB.heap.size := by have := HB.out.lt.1; omega
                  clear HE hback e0 e1 e2 e3 e4 e5 e6
                  obtain ⟨d0, fz⟩ := HPX.out.keptPost (HBX.out.same (.refl _ _))
                  obtain ⟨F', HMD⟩ := HPX.out.mid 2 (HBX.out.same (.refl _ _))
                  rcases hbad with h1 | h1
                  · have hd : decide (x.at_ < y.acked) = true := decide_eq_true h1
                    obtain ⟨g0, g1, g2, g3, ra, rb, rc, rd, r0, r1, r2, r3, fr⟩ := mid_cells HMD
                    have HMM := Lib.hid HMD
                    clear HMD
                    go_wp2_with fail
                    refine Do_end (t := ⟨2, [], false, []⟩) (vl := .slice none 0 0) (vn := .slice none 0 0) (F' := F') HMM.out HM.out ?_ ?_ HLT.out.1 HLT.out.2
                    · rfl
                    · rfl
                  · by_cases h2 : x.at_ < y.acked
                    · have hd : decide (x.at_ < y.acked) = true := decide_eq_true h2
                      obtain ⟨g0, g1, g2, g3, ra, rb, rc, rd, r0, r1, r2, r3, fr⟩ := mid_cells HMD
                      have HMM := Lib.hid HMD
                      clear HMD
                      go_wp2_with fail
                      refine Do_end (t := ⟨2, [], false, []⟩) (vl := .slice none 0 0) (vn := .slice none 0 0) (F' := F') HMM.out HM.out ?_ ?_ HLT.out.1 HLT.out.2
                      · rfl
                      · rfl
                    · have hd : decide (x.at_ < y.acked) = false := decide_eq_false h2
                      have hd2 : decide ((y.all.length : Int) < x.at_) = true := decide_eq_true h1
                      obtain ⟨g0, g1, g2, g3, ra, rb, rc, rd, r0, r1, r2, r3, fr⟩ := mid_cells HMD
                      have HMM := Lib.hid HMD
                      clear HMD
                      go_wp2_with fail
                      refine Do_end (t := ⟨2, [], false, []⟩) (vl := .slice none 0 0) (vn := .slice none 0 0) (F' := F') HMM.out HM.out ?_ ?_ HLT.out.1 HLT.out.2
                      · rfl
                      · rfl
              · as_aux_lemma =>
                  have hd : decide (x.at_ < y.acked) = false := decide_eq_false (by omega)
                  have hd2 : decide ((y.all.length : Int) < x.at_) = false := decide_eq_false (by omega)
                  have HBAD := Lib.hid hbad
                  have HM0 : Hid (doR r x = (⟨0, [], false, []⟩, r.setE j { y with acked := x.at_, closed := y.ended && decide (x.at_ = (y.all.length : Int)) })) := Lib.hid (by rw [HMT.out, if_neg hbad])
                  clear hbad hnn
                  have hboxc := Chg.alloc (fun _ => False) wB (.cells #[.int .i64 (y.page : Int), .int .i64 y.number, .string y.request, .slice pa y.all.length pc, .int .i64 y.acked, .bool y.ended, .bool false] 88)
                  have hboxb := alloc_block wB (.cells #[.int .i64 (y.page : Int), .int .i64 y.number, .string y.request, .slice pa y.all.length pc, .int .i64 y.acked, .bool y.ended, .bool false] 88)
                  have hboxs : wB.heap.size < (wB.alloc (.cells #[.int .i64 (y.page : Int), .int .i64 y.number, .string y.request, .slice pa y.all.length pc, .int .i64 y.acked, .bool y.ended, .bool false] 88)).heap.size := by simp
                  have f0 := hboxc.cell E0.out
                  go_upto_region 17 with fail
                  generalize wB.alloc (.cells #[.int .i64 (y.page : Int), .int .i64 y.number, .string y.request, .slice pa y.all.length pc, .int .i64 y.acked, .bool y.ended, .bool false] 88) = wX at *
                  have bx3 : wX.cell? ⟨wB.heap.size, 3, none⟩ = some (.slice pa y.all.length pc) := cell_of_block (i := 3) hboxb rfl
                  have bx4 : wX.cell? ⟨wB.heap.size, 4, none⟩ = some (.int .i64 y.acked) := cell_of_block (i := 4) hboxb rfl
                  have bx5 : wX.cell? ⟨wB.heap.size, 5, none⟩ = some (.bool y.ended) := cell_of_block (i := 5) hboxb rfl
                  have HPX := Lib.hid (HP.out.still hboxc)
                  have HBX := Lib.hid (HB.out.still hboxc)
                  have HEX := Lib.hid (HE.still hboxc)
                  have x5 := hboxc.cell q5
                  have hgn : ¬ g = wB.heap.size := by have := HE.lt.1; omega
                  have hbn : ¬ b = wB.heap.size := by have := HB.out.lt.1; omega
                  have fx := HEX.out.frozen (off + j * 7 + 4)
                  have e4X := hboxc.cell e4
                  obtain ⟨G2, hE2, hS2⟩ := HEX.out.setField renR_acked (y := x.at_) (v := .int .i64 x.at_) rfl
                  have hc1 := Chg.setCell wX ⟨g, off + j * 7 + 4, none⟩ (.int .i64 x.at_)
                  have y5 := hc1.cellNe x5 hgb'
                  have by3 := hc1.cellNe bx3 (fun h => hgn h.symm)
                  have by5 := hc1.cellNe bx5 (fun h => hgn h.symm)
                  clear e0 e1 e2 e3 e4 e5 e6
                  go_upto_region 25 with fail
                  clear bx3 bx4 bx5
                  clear fx e4X x5 f0
                  generalize wX.setCell ⟨g, off + j * 7 + 4, none⟩ (.int .i64 x.at_) = wY at *
                  have hZ : Chg (fun _ => False) wY wY.drew := (Chg.refl _ wY).drewR
                  have hE3 := hE2.drew
                  obtain ⟨v3, z0, z1, z2, z3, z4, z5, z6, -⟩ := renCells hE3
                  have zf := hE3.frozen (off + j * 7 + 6)
                  have zq : wY.drew.cell? ⟨b, o + 5, none⟩ = some (.slice (some ⟨g, off, none⟩) r.l.length cap) := y5
                  have zb3 : wY.drew.cell? ⟨wB.heap.size, 3, none⟩ = some (.slice pa y.all.length pc) := by3
                  have zb5 : wY.drew.cell? ⟨wB.heap.size, 5, none⟩ = some (.bool y.ended) := by5
                  clear y5 by3 by5
                  cases hen : y.ended with
                  | false =>
                    have HM : Hid (doR r x = (⟨0, [], false, []⟩, r.setE j { y with acked := x.at_, closed := false })) := Lib.hid (by rw [HM0.out, hen]; rfl)
                    rw [hen] at zb5
                    obtain ⟨G3, hE4, hS4⟩ := hE3.setField renR_closed (y := false) (v := .bool false) rfl
                    have hp : Post rworldR wB b o (r.setE j { y with acked := x.at_, closed := false }) F (wY.drew.setCell ⟨g, off + j * 7 + 6, none⟩ (.bool false)) :=
                      hback _ _ _ hE4 ((((Step.ofChg hboxc).trans hS2).trans (Step.ofChg hZ)).trans hS4)
                    refine wp_region_held_split 16 (fun w' => w'.cell? ⟨b, o + 5, none⟩ = some (.slice (some ⟨g, off, none⟩) r.l.length cap) ∧ w'.cell? ⟨wB.heap.size, 3, none⟩ = some (.slice pa y.all.length pc) ∧ w'.cell? ⟨wB.heap.size, 5, none⟩ = some (.bool false)) (by kernel_rfl) (by kernel_rfl) ?_ (fun hHeld => ?_)
                    · exact ⟨zq, zb3, zb5⟩
                    simp only [List.take_succ_cons, List.take_zero]
                    generalize wY.drew = wZ at *
                    refine wpAnyH_take (i := 0) (v := ?_) rfl (by kernel_rfl) (by kernel_rfl) (by kernel_rfl) (fun _ _ _ h => h) (Or.inl ⟨by rfl, ?_⟩) (by assumption) ?_
                    rotate_left
                    · (intro wq hSw; (try dsimp only at hSw); go_simp; (try with_reducible rfl))
                    simp only [Act.put, List.getElem_toArray, List.getElem_cons_zero, List.getElem_cons_succ, List.setIfInBounds_toArray, List.set_cons_zero, List.set_cons_succ]
                    refine wpAnyH_take (i := 1) (v := ?_) rfl (by kernel_rfl) (by kernel_rfl) (by kernel_rfl) (fun _ _ _ h => h) (Or.inl ⟨by rfl, ?_⟩) (by assumption) ?_
                    rotate_left
                    · (intro wq hSw; (try dsimp only at hSw); go_simp; (try with_reducible rfl))
                    simp only [Act.put, List.getElem_toArray, List.getElem_cons_zero, List.getElem_cons_succ, List.setIfInBounds_toArray, List.set_cons_zero, List.set_cons_succ]
                    refine wpAnyH_take (i := 2) (v := ?_) rfl (by kernel_rfl) (by kernel_rfl) (by kernel_rfl) (fun _ _ _ h => h) (Or.inl ⟨by rfl, ?_⟩) (by assumption) ?_
                    rotate_left
                    · (intro wq hSw; (try dsimp only at hSw); go_simp; (try with_reducible rfl))
                    simp only [Act.put, List.getElem_toArray, List.getElem_cons_zero, List.getElem_cons_succ, List.setIfInBounds_toArray, List.set_cons_zero, List.set_cons_succ]
                    refine wpAnyH_take (i := 3) (v := ?_) rfl (by kernel_rfl) (by kernel_rfl) (by kernel_rfl) (fun _ _ _ h => h) (Or.inl ⟨by rfl, ?_⟩) (by assumption) ?_
                    rotate_left
                    · (intro wq hSw; (try dsimp only at hSw); go_simp; (try with_reducible rfl))
                    simp only [Act.put, List.getElem_toArray, List.getElem_cons_zero, List.getElem_cons_succ, List.setIfInBounds_toArray, List.set_cons_zero, List.set_cons_succ]
                    refine wpAnyH_take (i := 4) (v := ?_) rfl (by kernel_rfl) (by kernel_rfl) (by kernel_rfl) (fun _ _ _ h => h) (Or.inl ⟨by rfl, ?_⟩) (by assumption) ?_
                    rotate_left
                    · (intro wq hSw; (try dsimp only at hSw); go_simp; (try with_reducible rfl))
                    simp only [Act.put, List.getElem_toArray, List.getElem_cons_zero, List.getElem_cons_succ, List.setIfInBounds_toArray, List.set_cons_zero, List.set_cons_succ]
                    refine wpAnyH_take (i := 5) (v := ?_) rfl (by kernel_rfl) (by kernel_rfl) (by kernel_rfl) (fun _ _ _ h => h) (Or.inl ⟨by rfl, ?_⟩) (by assumption) ?_
                    rotate_left
                    · (intro wq hSw; (try dsimp only at hSw); go_simp; (try with_reducible rfl))
                    simp only [Act.put, List.getElem_toArray, List.getElem_cons_zero, List.getElem_cons_succ, List.setIfInBounds_toArray, List.set_cons_zero, List.set_cons_succ]
                    refine wpAnyH_take (i := 6) (v := ?_) rfl (by kernel_rfl) (by kernel_rfl) (by kernel_rfl) (fun _ _ _ h => h) (Or.inl ⟨by rfl, ?_⟩) (by assumption) ?_
                    rotate_left
                    · (intro wq hSw; (try dsimp only at hSw); go_simp; (try with_reducible rfl))
                    simp only [Act.put, List.getElem_toArray, List.getElem_cons_zero, List.getElem_cons_succ, List.setIfInBounds_toArray, List.set_cons_zero, List.set_cons_succ]
                    refine wpAnyH_take (i := 7) (v := ?_) rfl (by kernel_rfl) (by kernel_rfl) (by kernel_rfl) (fun _ _ _ h => h) (Or.inl ⟨by rfl, ?_⟩) (by assumption) ?_
                    rotate_left
                    · (intro wq hSw; (try dsimp only at hSw); go_simp; (try with_reducible rfl))
                    simp only [Act.put, List.getElem_toArray, List.getElem_cons_zero, List.getElem_cons_succ, List.setIfInBounds_toArray, List.set_cons_zero, List.set_cons_succ]
                    first
                    | (refine wpAnyH_take (i := 8) (v := undef) rfl (by kernel_rfl) (by kernel_rfl) (by kernel_rfl) (fun _ _ _ h => h) (Or.inr ⟨by rfl, rfl⟩) (by assumption) ?_)
                    | (refine wpAnyH_take (i := 8) (v := ?_) rfl (by kernel_rfl) (by kernel_rfl) (by kernel_rfl) (fun _ _ _ h => h) (Or.inl ⟨by rfl, ?_⟩) (by assumption) ?_; rotate_left; (focus (intro wq hSw; (try dsimp only at hSw); go_simp; (try with_reducible rfl))))
                    simp only [Act.put, List.getElem_toArray, List.getElem_cons_zero, List.getElem_cons_succ, List.setIfInBounds_toArray, List.set_cons_zero, List.set_cons_succ]
                    first
                    | (refine wpAnyH_take (i := 9) (v := undef) rfl (by kernel_rfl) (by kernel_rfl) (by kernel_rfl) (fun _ _ _ h => h) (Or.inr ⟨by rfl, rfl⟩) (by assumption) ?_)
                    | (refine wpAnyH_take (i := 9) (v := ?_) rfl (by kernel_rfl) (by kernel_rfl) (by kernel_rfl) (fun _ _ _ h => h) (Or.inl ⟨by rfl, ?_⟩) (by assumption) ?_; rotate_left; (focus (intro wq hSw; (try dsimp only at hSw); go_simp; (try with_reducible rfl))))
                    simp only [Act.put, List.getElem_toArray, List.getElem_cons_zero, List.getElem_cons_succ, List.setIfInBounds_toArray, List.set_cons_zero, List.set_cons_succ]
                    first
                    | (refine wpAnyH_take (i := 10) (v := undef) rfl (by kernel_rfl) (by kernel_rfl) (by kernel_rfl) (fun _ _ _ h => h) (Or.inr ⟨by rfl, rfl⟩) (by assumption) ?_)
                    | (refine wpAnyH_take (i := 10) (v := ?_) rfl (by kernel_rfl) (by kernel_rfl) (by kernel_rfl) (fun _ _ _ h => h) (Or.inl ⟨by rfl, ?_⟩) (by assumption) ?_; rotate_left; (focus (intro wq hSw; (try dsimp only at hSw); go_simp; (try with_reducible rfl))))
                    simp only [Act.put, List.getElem_toArray, List.getElem_cons_zero, List.getElem_cons_succ, List.setIfInBounds_toArray, List.set_cons_zero, List.set_cons_succ]
                    first
                    | (refine wpAnyH_take (i := 11) (v := undef) rfl (by kernel_rfl) (by kernel_rfl) (by kernel_rfl) (fun _ _ _ h => h) (Or.inr ⟨by rfl, rfl⟩) (by assumption) ?_)
                    | (refine wpAnyH_take (i := 11) (v := ?_) rfl (by kernel_rfl) (by kernel_rfl) (by kernel_rfl) (fun _ _ _ h => h) (Or.inl ⟨by rfl, ?_⟩) (by assumption) ?_; rotate_left; (focus (intro wq hSw; (try dsimp only at hSw); go_simp; (try with_reducible rfl))))
                    simp only [Act.put, List.getElem_toArray, List.getElem_cons_zero, List.getElem_cons_succ, List.setIfInBounds_toArray, List.set_cons_zero, List.set_cons_succ]
                    first
                    | (refine wpAnyH_take (i := 12) (v := undef) rfl (by kernel_rfl) (by kernel_rfl) (by kernel_rfl) (fun _ _ _ h => h) (Or.inr ⟨by rfl, rfl⟩) (by assumption) ?_)
                    | (refine wpAnyH_take (i := 12) (v := ?_) rfl (by kernel_rfl) (by kernel_rfl) (by kernel_rfl) (fun _ _ _ h => h) (Or.inl ⟨by rfl, ?_⟩) (by assumption) ?_; rotate_left; (focus (intro wq hSw; (try dsimp only at hSw); go_simp; (try with_reducible rfl))))
                    simp only [Act.put, List.getElem_toArray, List.getElem_cons_zero, List.getElem_cons_succ, List.setIfInBounds_toArray, List.set_cons_zero, List.set_cons_succ]
                    refine wpAnyH_take (i := 13) (v := ?_) rfl (by kernel_rfl) (by kernel_rfl) (by kernel_rfl) (fun _ _ _ h => h) (Or.inl ⟨by rfl, ?_⟩) (by assumption) ?_
                    rotate_left
                    · (intro wq hSw; (try dsimp only at hSw); go_simp; (try with_reducible rfl))
                    simp only [Act.put, List.getElem_toArray, List.getElem_cons_zero, List.getElem_cons_succ, List.setIfInBounds_toArray, List.set_cons_zero, List.set_cons_succ]
                    refine wpAnyH_take (i := 14) (v := ?_) rfl (by kernel_rfl) (by kernel_rfl) (by kernel_rfl) (fun _ _ _ h => h) (Or.inl ⟨by rfl, ?_⟩) (by assumption) ?_
                    rotate_left
                    · (intro wq hSw; (try dsimp only at hSw); go_simp; (try with_reducible rfl))
                    simp only [Act.put, List.getElem_toArray, List.getElem_cons_zero, List.getElem_cons_succ, List.setIfInBounds_toArray, List.set_cons_zero, List.set_cons_succ]
                    refine wpAnyH_take (i := 15) (v := ?_) rfl (by kernel_rfl) (by kernel_rfl) (by kernel_rfl) (fun _ _ _ h => h) (Or.inl ⟨by rfl, ?_⟩) (by assumption) ?_
                    rotate_left
                    · (intro wq hSw; (try dsimp only at hSw); go_simp; (try with_reducible rfl))
                    simp only [Act.put, List.getElem_toArray, List.getElem_cons_zero, List.getElem_cons_succ, List.setIfInBounds_toArray, List.set_cons_zero, List.set_cons_succ]
                    refine wpAnyH_done (by kernel_rfl) ?_ _
                    change wpList _ _ _ _ _ _
                    simp only [List.drop_succ_cons, List.drop_zero]
                    obtain ⟨F', HMD⟩ := HP.out.mid0 hp
                    clear hp hE4 hS4 hE3 hE2 hS2 hZ hback HE
                    obtain ⟨g0, g1, g2, g3, ra, rb, rc, rd, r0, r1, r2, r3, fr⟩ := mid_cells HMD
                    have HMM := Lib.hid HMD
                    clear HMD
                    go_wp2_with fail
                    refine Do_end (t := ⟨0, [], false, []⟩) (vl := .slice none 0 0) (vn := .slice none 0 0) (F' := F') HMM.out HM.out ?_ ?_ HLT.out.1 HLT.out.2
                    · rfl
                    · rfl
                  | true =>
                    rw [hen] at zb5
                    by_cases hae : x.at_ = (y.all.length : Int)
                    · have HM : Hid (doR r x = (⟨0, [], false, []⟩, r.setE j { y with acked := x.at_, closed := true })) := Lib.hid (by rw [HM0.out, hen, decide_eq_true hae]; rfl)
                      have hq : (x.at_ == (y.all.length : Int)) = true := by simpa using hae
                      have HAE := Lib.hid hae
                      clear hae
                      obtain ⟨G3, hE4, hS4⟩ := hE3.setField renR_closed (y := true) (v := .bool true) rfl
                      have hp : Post rworldR wB b o (r.setE j { y with acked := x.at_, closed := true }) F (wY.drew.setCell ⟨g, off + j * 7 + 6, none⟩ (.bool true)) :=
                        hback _ _ _ hE4 ((((Step.ofChg hboxc).trans hS2).trans (Step.ofChg hZ)).trans hS4)
                      refine wp_region_held_split 16 (fun w' => w'.cell? ⟨b, o + 5, none⟩ = some (.slice (some ⟨g, off, none⟩) r.l.length cap) ∧ w'.cell? ⟨wB.heap.size, 3, none⟩ = some (.slice pa y.all.length pc) ∧ w'.cell? ⟨wB.heap.size, 5, none⟩ = some (.bool true)) (by kernel_rfl) (by kernel_rfl) ?_ (fun hHeld => ?_)
                      · exact ⟨zq, zb3, zb5⟩
                      simp only [List.take_succ_cons, List.take_zero]
                      generalize wY.drew = wZ at *
                      refine wpAnyH_take (i := 0) (v := ?_) rfl (by kernel_rfl) (by kernel_rfl) (by kernel_rfl) (fun _ _ _ h => h) (Or.inl ⟨by rfl, ?_⟩) (by assumption) ?_
                      rotate_left
                      · (intro wq hSw; (try dsimp only at hSw); go_simp; (try with_reducible rfl))
                      simp only [Act.put, List.getElem_toArray, List.getElem_cons_zero, List.getElem_cons_succ, List.setIfInBounds_toArray, List.set_cons_zero, List.set_cons_succ]
                      refine wpAnyH_take (i := 1) (v := ?_) rfl (by kernel_rfl) (by kernel_rfl) (by kernel_rfl) (fun _ _ _ h => h) (Or.inl ⟨by rfl, ?_⟩) (by assumption) ?_
                      rotate_left
                      · (intro wq hSw; (try dsimp only at hSw); go_simp; (try with_reducible rfl))
                      simp only [Act.put, List.getElem_toArray, List.getElem_cons_zero, List.getElem_cons_succ, List.setIfInBounds_toArray, List.set_cons_zero, List.set_cons_succ]
                      refine wpAnyH_take (i := 2) (v := ?_) rfl (by kernel_rfl) (by kernel_rfl) (by kernel_rfl) (fun _ _ _ h => h) (Or.inl ⟨by rfl, ?_⟩) (by assumption) ?_
                      rotate_left
                      · (intro wq hSw; (try dsimp only at hSw); go_simp; (try with_reducible rfl))
                      simp only [Act.put, List.getElem_toArray, List.getElem_cons_zero, List.getElem_cons_succ, List.setIfInBounds_toArray, List.set_cons_zero, List.set_cons_succ]
                      refine wpAnyH_take (i := 3) (v := ?_) rfl (by kernel_rfl) (by kernel_rfl) (by kernel_rfl) (fun _ _ _ h => h) (Or.inl ⟨by rfl, ?_⟩) (by assumption) ?_
                      rotate_left
                      · (intro wq hSw; (try dsimp only at hSw); go_simp; (try with_reducible rfl))
                      simp only [Act.put, List.getElem_toArray, List.getElem_cons_zero, List.getElem_cons_succ, List.setIfInBounds_toArray, List.set_cons_zero, List.set_cons_succ]
                      refine wpAnyH_take (i := 4) (v := ?_) rfl (by kernel_rfl) (by kernel_rfl) (by kernel_rfl) (fun _ _ _ h => h) (Or.inl ⟨by rfl, ?_⟩) (by assumption) ?_
                      rotate_left
                      · (intro wq hSw; (try dsimp only at hSw); go_simp; (try with_reducible rfl))
                      simp only [Act.put, List.getElem_toArray, List.getElem_cons_zero, List.getElem_cons_succ, List.setIfInBounds_toArray, List.set_cons_zero, List.set_cons_succ]
                      refine wpAnyH_take (i := 5) (v := ?_) rfl (by kernel_rfl) (by kernel_rfl) (by kernel_rfl) (fun _ _ _ h => h) (Or.inl ⟨by rfl, ?_⟩) (by assumption) ?_
                      rotate_left
                      · (intro wq hSw; (try dsimp only at hSw); go_simp; (try with_reducible rfl))
                      simp only [Act.put, List.getElem_toArray, List.getElem_cons_zero, List.getElem_cons_succ, List.setIfInBounds_toArray, List.set_cons_zero, List.set_cons_succ]
                      refine wpAnyH_take (i := 6) (v := ?_) rfl (by kernel_rfl) (by kernel_rfl) (by kernel_rfl) (fun _ _ _ h => h) (Or.inl ⟨by rfl, ?_⟩) (by assumption) ?_
                      rotate_left
                      · (intro wq hSw; (try dsimp only at hSw); go_simp; (try with_reducible rfl))
                      simp only [Act.put, List.getElem_toArray, List.getElem_cons_zero, List.getElem_cons_succ, List.setIfInBounds_toArray, List.set_cons_zero, List.set_cons_succ]
                      refine wpAnyH_take (i := 7) (v := ?_) rfl (by kernel_rfl) (by kernel_rfl) (by kernel_rfl) (fun _ _ _ h => h) (Or.inl ⟨by rfl, ?_⟩) (by assumption) ?_
                      rotate_left
                      · (intro wq hSw; (try dsimp only at hSw); go_simp; (try with_reducible rfl))
                      simp only [Act.put, List.getElem_toArray, List.getElem_cons_zero, List.getElem_cons_succ, List.setIfInBounds_toArray, List.set_cons_zero, List.set_cons_succ]
                      first
                      | (refine wpAnyH_take (i := 8) (v := undef) rfl (by kernel_rfl) (by kernel_rfl) (by kernel_rfl) (fun _ _ _ h => h) (Or.inr ⟨by rfl, rfl⟩) (by assumption) ?_)
                      | (refine wpAnyH_take (i := 8) (v := ?_) rfl (by kernel_rfl) (by kernel_rfl) (by kernel_rfl) (fun _ _ _ h => h) (Or.inl ⟨by rfl, ?_⟩) (by assumption) ?_; rotate_left; (focus (intro wq hSw; (try dsimp only at hSw); go_simp; (try with_reducible rfl))))
                      simp only [Act.put, List.getElem_toArray, List.getElem_cons_zero, List.getElem_cons_succ, List.setIfInBounds_toArray, List.set_cons_zero, List.set_cons_succ]
                      first
                      | (refine wpAnyH_take (i := 9) (v := undef) rfl (by kernel_rfl) (by kernel_rfl) (by kernel_rfl) (fun _ _ _ h => h) (Or.inr ⟨by rfl, rfl⟩) (by assumption) ?_)
                      | (refine wpAnyH_take (i := 9) (v := ?_) rfl (by kernel_rfl) (by kernel_rfl) (by kernel_rfl) (fun _ _ _ h => h) (Or.inl ⟨by rfl, ?_⟩) (by assumption) ?_; rotate_left; (focus (intro wq hSw; (try dsimp only at hSw); go_simp; (try with_reducible rfl))))
                      simp only [Act.put, List.getElem_toArray, List.getElem_cons_zero, List.getElem_cons_succ, List.setIfInBounds_toArray, List.set_cons_zero, List.set_cons_succ]
                      first
                      | (refine wpAnyH_take (i := 10) (v := undef) rfl (by kernel_rfl) (by kernel_rfl) (by kernel_rfl) (fun _ _ _ h => h) (Or.inr ⟨by rfl, rfl⟩) (by assumption) ?_)
                      | (refine wpAnyH_take (i := 10) (v := ?_) rfl (by kernel_rfl) (by kernel_rfl) (by kernel_rfl) (fun _ _ _ h => h) (Or.inl ⟨by rfl, ?_⟩) (by assumption) ?_; rotate_left; (focus (intro wq hSw; (try dsimp only at hSw); go_simp; (try with_reducible rfl))))
                      simp only [Act.put, List.getElem_toArray, List.getElem_cons_zero, List.getElem_cons_succ, List.setIfInBounds_toArray, List.set_cons_zero, List.set_cons_succ]
                      first
                      | (refine wpAnyH_take (i := 11) (v := undef) rfl (by kernel_rfl) (by kernel_rfl) (by kernel_rfl) (fun _ _ _ h => h) (Or.inr ⟨by rfl, rfl⟩) (by assumption) ?_)
                      | (refine wpAnyH_take (i := 11) (v := ?_) rfl (by kernel_rfl) (by kernel_rfl) (by kernel_rfl) (fun _ _ _ h => h) (Or.inl ⟨by rfl, ?_⟩) (by assumption) ?_; rotate_left; (focus (intro wq hSw; (try dsimp only at hSw); go_simp; (try with_reducible rfl))))
                      simp only [Act.put, List.getElem_toArray, List.getElem_cons_zero, List.getElem_cons_succ, List.setIfInBounds_toArray, List.set_cons_zero, List.set_cons_succ]
                      first
                      | (refine wpAnyH_take (i := 12) (v := undef) rfl (by kernel_rfl) (by kernel_rfl) (by kernel_rfl) (fun _ _ _ h => h) (Or.inr ⟨by rfl, rfl⟩) (by assumption) ?_)
                      | (refine wpAnyH_take (i := 12) (v := ?_) rfl (by kernel_rfl) (by kernel_rfl) (by kernel_rfl) (fun _ _ _ h => h) (Or.inl ⟨by rfl, ?_⟩) (by assumption) ?_; rotate_left; (focus (intro wq hSw; (try dsimp only at hSw); go_simp; (try with_reducible rfl))))
                      simp only [Act.put, List.getElem_toArray, List.getElem_cons_zero, List.getElem_cons_succ, List.setIfInBounds_toArray, List.set_cons_zero, List.set_cons_succ]
                      refine wpAnyH_take (i := 13) (v := ?_) rfl (by kernel_rfl) (by kernel_rfl) (by kernel_rfl) (fun _ _ _ h => h) (Or.inl ⟨by rfl, ?_⟩) (by assumption) ?_
                      rotate_left
                      · (intro wq hSw; (try dsimp only at hSw); go_simp; (try with_reducible rfl))
                      simp only [Act.put, List.getElem_toArray, List.getElem_cons_zero, List.getElem_cons_succ, List.setIfInBounds_toArray, List.set_cons_zero, List.set_cons_succ]
                      refine wpAnyH_take (i := 14) (v := ?_) rfl (by kernel_rfl) (by kernel_rfl) (by kernel_rfl) (fun _ _ _ h => h) (Or.inl ⟨by rfl, ?_⟩) (by assumption) ?_
                      rotate_left
                      · (intro wq hSw; (try dsimp only at hSw); go_simp; (try with_reducible rfl))
                      simp only [Act.put, List.getElem_toArray, List.getElem_cons_zero, List.getElem_cons_succ, List.setIfInBounds_toArray, List.set_cons_zero, List.set_cons_succ]
                      refine wpAnyH_take (i := 15) (v := ?_) rfl (by kernel_rfl) (by kernel_rfl) (by kernel_rfl) (fun _ _ _ h => h) (Or.inl ⟨by rfl, ?_⟩) (by assumption) ?_
                      rotate_left
                      · (intro wq hSw; (try dsimp only at hSw); go_simp; (try with_reducible rfl))
                      simp only [Act.put, List.getElem_toArray, List.getElem_cons_zero, List.getElem_cons_succ, List.setIfInBounds_toArray, List.set_cons_zero, List.set_cons_succ]
                      refine wpAnyH_done (by kernel_rfl) ?_ _
                      change wpList _ _ _ _ _ _
                      simp only [List.drop_succ_cons, List.drop_zero]
                      obtain ⟨F', HMD⟩ := HP.out.mid0 hp
                      clear hp hE4 hS4 hE3 hE2 hS2 hZ hback HE
                      obtain ⟨g0, g1, g2, g3, ra, rb, rc, rd, r0, r1, r2, r3, fr⟩ := mid_cells HMD
                      have HMM := Lib.hid HMD
                      clear HMD
                      go_wp2_with fail
                      refine Do_end (t := ⟨0, [], false, []⟩) (vl := .slice none 0 0) (vn := .slice none 0 0) (F' := F') HMM.out HM.out ?_ ?_ HLT.out.1 HLT.out.2
                      · rfl
                      · rfl
                    · have HM : Hid (doR r x = (⟨0, [], false, []⟩, r.setE j { y with acked := x.at_, closed := false })) := Lib.hid (by rw [HM0.out, hen, decide_eq_false hae]; rfl)
                      have hq : (x.at_ == (y.all.length : Int)) = false := by simpa using hae
                      have HAE := Lib.hid hae
                      clear hae
                      obtain ⟨G3, hE4, hS4⟩ := hE3.setField renR_closed (y := false) (v := .bool false) rfl
                      have hp : Post rworldR wB b o (r.setE j { y with acked := x.at_, closed := false }) F (wY.drew.setCell ⟨g, off + j * 7 + 6, none⟩ (.bool false)) :=
                        hback _ _ _ hE4 ((((Step.ofChg hboxc).trans hS2).trans (Step.ofChg hZ)).trans hS4)
                      refine wp_region_held_split 16 (fun w' => w'.cell? ⟨b, o + 5, none⟩ = some (.slice (some ⟨g, off, none⟩) r.l.length cap) ∧ w'.cell? ⟨wB.heap.size, 3, none⟩ = some (.slice pa y.all.length pc) ∧ w'.cell? ⟨wB.heap.size, 5, none⟩ = some (.bool true)) (by kernel_rfl) (by kernel_rfl) ?_ (fun hHeld => ?_)
                      · exact ⟨zq, zb3, zb5⟩
                      simp only [List.take_succ_cons, List.take_zero]
                      generalize wY.drew = wZ at *
                      refine wpAnyH_take (i := 0) (v := ?_) rfl (by kernel_rfl) (by kernel_rfl) (by kernel_rfl) (fun _ _ _ h => h) (Or.inl ⟨by rfl, ?_⟩) (by assumption) ?_
                      rotate_left
                      · (intro wq hSw; (try dsimp only at hSw); go_simp; (try with_reducible rfl))
                      simp only [Act.put, List.getElem_toArray, List.getElem_cons_zero, List.getElem_cons_succ, List.setIfInBounds_toArray, List.set_cons_zero, List.set_cons_succ]
                      refine wpAnyH_take (i := 1) (v := ?_) rfl (by kernel_rfl) (by kernel_rfl) (by kernel_rfl) (fun _ _ _ h => h) (Or.inl ⟨by rfl, ?_⟩) (by assumption) ?_
                      rotate_left
                      · (intro wq hSw; (try dsimp only at hSw); go_simp; (try with_reducible rfl))
                      simp only [Act.put, List.getElem_toArray, List.getElem_cons_zero, List.getElem_cons_succ, List.setIfInBounds_toArray, List.set_cons_zero, List.set_cons_succ]
                      refine wpAnyH_take (i := 2) (v := ?_) rfl (by kernel_rfl) (by kernel_rfl) (by kernel_rfl) (fun _ _ _ h => h) (Or.inl ⟨by rfl, ?_⟩) (by assumption) ?_
                      rotate_left
                      · (intro wq hSw; (try dsimp only at hSw); go_simp; (try with_reducible rfl))
                      simp only [Act.put, List.getElem_toArray, List.getElem_cons_zero, List.getElem_cons_succ, List.setIfInBounds_toArray, List.set_cons_zero, List.set_cons_succ]
                      refine wpAnyH_take (i := 3) (v := ?_) rfl (by kernel_rfl) (by kernel_rfl) (by kernel_rfl) (fun _ _ _ h => h) (Or.inl ⟨by rfl, ?_⟩) (by assumption) ?_
                      rotate_left
                      · (intro wq hSw; (try dsimp only at hSw); go_simp; (try with_reducible rfl))
                      simp only [Act.put, List.getElem_toArray, List.getElem_cons_zero, List.getElem_cons_succ, List.setIfInBounds_toArray, List.set_cons_zero, List.set_cons_succ]
                      refine wpAnyH_take (i := 4) (v := ?_) rfl (by kernel_rfl) (by kernel_rfl) (by kernel_rfl) (fun _ _ _ h => h) (Or.inl ⟨by rfl, ?_⟩) (by assumption) ?_
                      rotate_left
                      · (intro wq hSw; (try dsimp only at hSw); go_simp; (try with_reducible rfl))
                      simp only [Act.put, List.getElem_toArray, List.getElem_cons_zero, List.getElem_cons_succ, List.setIfInBounds_toArray, List.set_cons_zero, List.set_cons_succ]
                      refine wpAnyH_take (i := 5) (v := ?_) rfl (by kernel_rfl) (by kernel_rfl) (by kernel_rfl) (fun _ _ _ h => h) (Or.inl ⟨by rfl, ?_⟩) (by assumption) ?_
                      rotate_left
                      · (intro wq hSw; (try dsimp only at hSw); go_simp; (try with_reducible rfl))
                      simp only [Act.put, List.getElem_toArray, List.getElem_cons_zero, List.getElem_cons_succ, List.setIfInBounds_toArray, List.set_cons_zero, List.set_cons_succ]
                      refine wpAnyH_take (i := 6) (v := ?_) rfl (by kernel_rfl) (by kernel_rfl) (by kernel_rfl) (fun _ _ _ h => h) (Or.inl ⟨by rfl, ?_⟩) (by assumption) ?_
                      rotate_left
                      · (intro wq hSw; (try dsimp only at hSw); go_simp; (try with_reducible rfl))
                      simp only [Act.put, List.getElem_toArray, List.getElem_cons_zero, List.getElem_cons_succ, List.setIfInBounds_toArray, List.set_cons_zero, List.set_cons_succ]
                      refine wpAnyH_take (i := 7) (v := ?_) rfl (by kernel_rfl) (by kernel_rfl) (by kernel_rfl) (fun _ _ _ h => h) (Or.inl ⟨by rfl, ?_⟩) (by assumption) ?_
                      rotate_left
                      · (intro wq hSw; (try dsimp only at hSw); go_simp; (try with_reducible rfl))
                      simp only [Act.put, List.getElem_toArray, List.getElem_cons_zero, List.getElem_cons_succ, List.setIfInBounds_toArray, List.set_cons_zero, List.set_cons_succ]
                      first
                      | (refine wpAnyH_take (i := 8) (v := undef) rfl (by kernel_rfl) (by kernel_rfl) (by kernel_rfl) (fun _ _ _ h => h) (Or.inr ⟨by rfl, rfl⟩) (by assumption) ?_)
                      | (refine wpAnyH_take (i := 8) (v := ?_) rfl (by kernel_rfl) (by kernel_rfl) (by kernel_rfl) (fun _ _ _ h => h) (Or.inl ⟨by rfl, ?_⟩) (by assumption) ?_; rotate_left; (focus (intro wq hSw; (try dsimp only at hSw); go_simp; (try with_reducible rfl))))
                      simp only [Act.put, List.getElem_toArray, List.getElem_cons_zero, List.getElem_cons_succ, List.setIfInBounds_toArray, List.set_cons_zero, List.set_cons_succ]
                      first
                      | (refine wpAnyH_take (i := 9) (v := undef) rfl (by kernel_rfl) (by kernel_rfl) (by kernel_rfl) (fun _ _ _ h => h) (Or.inr ⟨by rfl, rfl⟩) (by assumption) ?_)
                      | (refine wpAnyH_take (i := 9) (v := ?_) rfl (by kernel_rfl) (by kernel_rfl) (by kernel_rfl) (fun _ _ _ h => h) (Or.inl ⟨by rfl, ?_⟩) (by assumption) ?_; rotate_left; (focus (intro wq hSw; (try dsimp only at hSw); go_simp; (try with_reducible rfl))))
                      simp only [Act.put, List.getElem_toArray, List.getElem_cons_zero, List.getElem_cons_succ, List.setIfInBounds_toArray, List.set_cons_zero, List.set_cons_succ]
                      first
                      | (refine wpAnyH_take (i := 10) (v := undef) rfl (by kernel_rfl) (by kernel_rfl) (by kernel_rfl) (fun _ _ _ h => h) (Or.inr ⟨by rfl, rfl⟩) (by assumption) ?_)
                      | (refine wpAnyH_take (i := 10) (v := ?_) rfl (by kernel_rfl) (by kernel_rfl) (by kernel_rfl) (fun _ _ _ h => h) (Or.inl ⟨by rfl, ?_⟩) (by assumption) ?_; rotate_left; (focus (intro wq hSw; (try dsimp only at hSw); go_simp; (try with_reducible rfl))))
                      simp only [Act.put, List.getElem_toArray, List.getElem_cons_zero, List.getElem_cons_succ, List.setIfInBounds_toArray, List.set_cons_zero, List.set_cons_succ]
                      first
                      | (refine wpAnyH_take (i := 11) (v := undef) rfl (by kernel_rfl) (by kernel_rfl) (by kernel_rfl) (fun _ _ _ h => h) (Or.inr ⟨by rfl, rfl⟩) (by assumption) ?_)
                      | (refine wpAnyH_take (i := 11) (v := ?_) rfl (by kernel_rfl) (by kernel_rfl) (by kernel_rfl) (fun _ _ _ h => h) (Or.inl ⟨by rfl, ?_⟩) (by assumption) ?_; rotate_left; (focus (intro wq hSw; (try dsimp only at hSw); go_simp; (try with_reducible rfl))))
                      simp only [Act.put, List.getElem_toArray, List.getElem_cons_zero, List.getElem_cons_succ, List.setIfInBounds_toArray, List.set_cons_zero, List.set_cons_succ]
                      first
                      | (refine wpAnyH_take (i := 12) (v := undef) rfl (by kernel_rfl) (by kernel_rfl) (by kernel_rfl) (fun _ _ _ h => h) (Or.inr ⟨by rfl, rfl⟩) (by assumption) ?_)
                      | (refine wpAnyH_take (i := 12) (v := ?_) rfl (by kernel_rfl) (by kernel_rfl) (by kernel_rfl) (fun _ _ _ h => h) (Or.inl ⟨by rfl, ?_⟩) (by assumption) ?_; rotate_left; (focus (intro wq hSw; (try dsimp only at hSw); go_simp; (try with_reducible rfl))))
                      simp only [Act.put, List.getElem_toArray, List.getElem_cons_zero, List.getElem_cons_succ, List.setIfInBounds_toArray, List.set_cons_zero, List.set_cons_succ]
                      refine wpAnyH_take (i := 13) (v := ?_) rfl (by kernel_rfl) (by kernel_rfl) (by kernel_rfl) (fun _ _ _ h => h) (Or.inl ⟨by rfl, ?_⟩) (by assumption) ?_
                      rotate_left
                      · (intro wq hSw; (try dsimp only at hSw); go_simp; (try with_reducible rfl))
                      simp only [Act.put, List.getElem_toArray, List.getElem_cons_zero, List.getElem_cons_succ, List.setIfInBounds_toArray, List.set_cons_zero, List.set_cons_succ]
                      refine wpAnyH_take (i := 14) (v := ?_) rfl (by kernel_rfl) (by kernel_rfl) (by kernel_rfl) (fun _ _ _ h => h) (Or.inl ⟨by rfl, ?_⟩) (by assumption) ?_
                      rotate_left
                      · (intro wq hSw; (try dsimp only at hSw); go_simp; (try with_reducible rfl))
                      simp only [Act.put, List.getElem_toArray, List.getElem_cons_zero, List.getElem_cons_succ, List.setIfInBounds_toArray, List.set_cons_zero, List.set_cons_succ]
                      refine wpAnyH_take (i := 15) (v := ?_) rfl (by kernel_rfl) (by kernel_rfl) (by kernel_rfl) (fun _ _ _ h => h) (Or.inl ⟨by rfl, ?_⟩) (by assumption) ?_
                      rotate_left
                      · (intro wq hSw; (try dsimp only at hSw); go_simp; (try with_reducible rfl))
                      simp only [Act.put, List.getElem_toArray, List.getElem_cons_zero, List.getElem_cons_succ, List.setIfInBounds_toArray, List.set_cons_zero, List.set_cons_succ]
                      refine wpAnyH_done (by kernel_rfl) ?_ _
                      change wpList _ _ _ _ _ _
                      simp only [List.drop_succ_cons, List.drop_zero]
                      obtain ⟨F', HMD⟩ := HP.out.mid0 hp
                      clear hp hE4 hS4 hE3 hE2 hS2 hZ hback HE
                      obtain ⟨g0, g1, g2, g3, ra, rb, rc, rd, r0, r1, r2, r3, fr⟩ := mid_cells HMD
                      have HMM := Lib.hid HMD
                      clear HMD
                      go_wp2_with fail
                      refine Do_end (t := ⟨0, [], false, []⟩) (vl := .slice none 0 0) (vn := .slice none 0 0) (F' := F') HMM.out HM.out ?_ ?_ HLT.out.1 HLT.out.2
                      · rfl
                      · rfl
            · have HM := Lib.hid (doR_close HK.out HPG.out hj hat)
              clear hat hk0 hk1' hk2 hk3 hk7 hcase hown hpo hvo hvr
              generalize r.l[j] = y at *
              clear hj
              have hm6 : ((6 : Nat) : Int) = 6 := rfl
              as_aux_lemma =>
                have hboxc := Chg.alloc (fun _ => False) wB (.cells #[.int .i64 (y.page : Int), .int .i64 y.number, .string y.request, .slice pa y.all.length pc, .int .i64 y.acked, .bool y.ended, .bool false] 88)
                have hboxb := alloc_block wB (.cells #[.int .i64 (y.page : Int), .int .i64 y.number, .string y.request, .slice pa y.all.length pc, .int .i64 y.acked, .bool y.ended, .bool false] 88)
                have hboxs : wB.heap.size < (wB.alloc (.cells #[.int .i64 (y.page : Int), .int .i64 y.number, .string y.request, .slice pa y.all.length pc, .int .i64 y.acked, .bool y.ended, .bool false] 88)).heap.size := by simp
                have f0 := hboxc.cell E0.out
                go_upto_region 14 with fail
                generalize wB.alloc (.cells #[.int .i64 (y.page : Int), .int .i64 y.number, .string y.request, .slice pa y.all.length pc, .int .i64 y.acked, .bool y.ended, .bool false] 88) = wX at *
                have bx3 : wX.cell? ⟨wB.heap.size, 3, none⟩ = some (.slice pa y.all.length pc) := cell_of_block (i := 3) hboxb rfl
                have bx4 : wX.cell? ⟨wB.heap.size, 4, none⟩ = some (.int .i64 y.acked) := cell_of_block (i := 4) hboxb rfl
                have bx5 : wX.cell? ⟨wB.heap.size, 5, none⟩ = some (.bool y.ended) := cell_of_block (i := 5) hboxb rfl
                have HPX := Lib.hid (HP.out.still hboxc)
                have HBX := Lib.hid (HB.out.still hboxc)
                have HEX := Lib.hid (HE.still hboxc)
                have x5 := hboxc.cell q5
                have hgn : ¬ g = wB.heap.size := by have := HE.lt.1; omega
                have hbn : ¬ b = wB.heap.size := by have := HB.out.lt.1; omega
                have fx := HEX.out.frozen (off + j * 7 + 6)
                have e6X := hboxc.cell e6
                obtain ⟨G2, hE2, hS2⟩ := HEX.out.setField renR_closed (y := true) (v := .bool true) rfl
                have hc1 := Chg.setCell wX ⟨g, off + j * 7 + 6, none⟩ (.bool true)
                have y5 := hc1.cellNe x5 hgb'
                have by3 := hc1.cellNe bx3 (fun h => hgn h.symm)
                have by5 := hc1.cellNe bx5 (fun h => hgn h.symm)
                clear e0 e1 e2 e3 e4 e5 e6
                go_upto_region 15 with fail
                clear bx3 bx4 bx5
                clear fx e6X x5 f0
                generalize wX.setCell ⟨g, off + j * 7 + 6, none⟩ (.bool true) = wY at *
                have hZ : Chg (fun _ => False) wY wY.drew := (Chg.refl _ wY).drewR
                have hE3 := hE2.drew
                obtain ⟨v3, z0, z1, z2, z3, z4, z5, z6, -⟩ := renCells hE3
                have zf := hE3.frozen (off + j * 7 + 4)
                have zq : wY.drew.cell? ⟨b, o + 5, none⟩ = some (.slice (some ⟨g, off, none⟩) r.l.length cap) := y5
                have zb3 : wY.drew.cell? ⟨wB.heap.size, 3, none⟩ = some (.slice pa y.all.length pc) := by3
                have zb5 : wY.drew.cell? ⟨wB.heap.size, 5, none⟩ = some (.bool y.ended) := by5
                clear y5 by3 by5
                obtain ⟨G3, hE4, hS4⟩ := hE3.setField renR_acked (y := (y.all.length : Int)) (v := .int .i64 (y.all.length : Int)) rfl
                have hp : Post rworldR wB b o (r.setE j { y with closed := true, acked := y.all.length }) F (wY.drew.setCell ⟨g, off + j * 7 + 4, none⟩ (.int .i64 (y.all.length : Int))) :=
                  hback _ _ _ hE4 ((((Step.ofChg hboxc).trans hS2).trans (Step.ofChg hZ)).trans hS4)
                go_still_tail 10, (by kernel_rfl)
                change wpList _ _ _ _ _ wY.drew
                generalize wY.drew = wZ at *
                obtain ⟨F', HMD⟩ := HP.out.mid0 hp
                clear hp hE4 hS4 hE3 hE2 hS2 hZ hback HE
                obtain ⟨g0, g1, g2, g3, ra, rb, rc, rd, r0, r1, r2, r3, fr⟩ := mid_cells HMD
                have HMM := Lib.hid HMD
                clear HMD
                go_wp2_with fail
                refine Do_end (t := ⟨0, [], false, []⟩) (vl := .slice none 0 0) (vn := .slice none 0 0) (F' := F') HMM.out HM.out ?_ ?_ HLT.out.1 HLT.out.2
                · rfl
                · rfl
end Go.Proofs.Ytaacafdlklnegaa
