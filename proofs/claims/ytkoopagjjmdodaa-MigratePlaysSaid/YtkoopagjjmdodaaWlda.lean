/-
  The world of the laws of layer 54: three machines, and the messages that are on their way.
  The laws of layer 54: what the machines send is collected.
  The laws of layer 54: the world at first.
  The laws of layer 54: what happens in the world, and its bounds.
  The laws of layer 54: quiet, running.
  The laws of layer 54: quiet.
-/
import Derived.Test.YtkoopagjjmdodaaPlb
import Derived.Test.YtkoopagjjmdodaaMigh
import Derived.Test.YtkoopagjjmdodaaCopy
namespace Go.Proofs.Ytkoopagjjmdodaa
open Go.RowKit
set_option linter.unusedVariables false
set_option linter.unusedSimpArgs false

structure Wd where
  h0 : Host
  h1 : Host
  h2 : Host
  way : List Msg
  n : Int
def Wd.Own (w : World) (cs : List Value) (s : Wd) (F : List Nat) : Prop :=
  ∃ a0 a1 a2 b0 b1 b2 c0 c1 c2 vw, ∃ F0 F1 F2 Fw, cs = [a0, a1, a2, b0, b1, b2, c0, c1, c2, vw, .int .i64 s.n] ∧ hostR.own w [a0, a1, a2] s.h0 F0 ∧ hostR.own w [b0, b1, b2] s.h1 F1 ∧ hostR.own w [c0, c1, c2] s.h2 F2 ∧ outR.own w [vw] s.way Fw ∧ F = F0 ++ (F1 ++ (F2 ++ Fw))
def wdR : Rep Wd where
  n := 11
  own := Wd.Own
  len := by rintro w cs s F ⟨a0, a1, a2, b0, b1, b2, c0, c1, c2, vw, F0, F1, F2, Fw, rfl, -⟩; rfl
  lt := by
    rintro w cs s F ⟨a0, a1, a2, b0, b1, b2, c0, c1, c2, vw, F0, F1, F2, Fw, rfl, h0, h1, h2, h3, rfl⟩ k hk
    simp only [List.mem_append] at hk
    rcases hk with hk | hk | hk | hk
    · exact hostR.lt h0 k hk
    · exact hostR.lt h1 k hk
    · exact hostR.lt h2 k hk
    · exact outR.lt h3 k hk
  keep := by
    rintro w w2 cs s F ⟨a0, a1, a2, b0, b1, b2, c0, c1, c2, vw, F0, F1, F2, Fw, rfl, h0, h1, h2, h3, rfl⟩ hk
    exact ⟨_, _, _, _, _, _, _, _, _, _, _, _, _, _, rfl, hostR.keep h0 (fun k hm => hk k (by simp [hm])), hostR.keep h1 (fun k hm => hk k (by simp [hm])), hostR.keep h2 (fun k hm => hk k (by simp [hm])), outR.keep h3 (fun k hm => hk k (by simp [hm])), rfl⟩
theorem len3 {α : Type} {l : List α} (h : l.length = 3) : ∃ a b c, l = [a, b, c] := by
  match l, h with
  | [a, b, c], _ => exact ⟨a, b, c, rfl⟩
theorem wdR_h0 : FieldOf wdR hostR 0 (·.h0) (fun s y => { s with h0 := y }) := by
  refine ⟨by show 0 + 3 ≤ 11; omega, ?_⟩
  rintro w cs s F ⟨a0, a1, a2, b0, b1, b2, c0, c1, c2, vw, F0, F1, F2, Fw, rfl, h0, h1, h2, h3, rfl⟩
  refine ⟨[], F0, F1 ++ (F2 ++ Fw), by simp, h0, fun w2 ys y G hk hy => ?_⟩
  obtain ⟨x, y', z, rfl⟩ := len3 (hostR.len hy)
  exact ⟨_, _, _, _, _, _, _, _, _, _, G, F1, F2, Fw, rfl, hy, hostR.keep h1 (fun k hm => hk k (by simp [hm])), hostR.keep h2 (fun k hm => hk k (by simp [hm])), outR.keep h3 (fun k hm => hk k (by simp [hm])), by simp⟩
theorem wdR_h1 : FieldOf wdR hostR 3 (·.h1) (fun s y => { s with h1 := y }) := by
  refine ⟨by show 3 + 3 ≤ 11; omega, ?_⟩
  rintro w cs s F ⟨a0, a1, a2, b0, b1, b2, c0, c1, c2, vw, F0, F1, F2, Fw, rfl, h0, h1, h2, h3, rfl⟩
  refine ⟨F0, F1, F2 ++ Fw, by simp, h1, fun w2 ys y G hk hy => ?_⟩
  obtain ⟨x, y', z, rfl⟩ := len3 (hostR.len hy)
  exact ⟨_, _, _, _, _, _, _, _, _, _, F0, G, F2, Fw, rfl, hostR.keep h0 (fun k hm => hk k (by simp [hm])), hy, hostR.keep h2 (fun k hm => hk k (by simp [hm])), outR.keep h3 (fun k hm => hk k (by simp [hm])), by simp⟩
theorem wdR_h2 : FieldOf wdR hostR 6 (·.h2) (fun s y => { s with h2 := y }) := by
  refine ⟨by show 6 + 3 ≤ 11; omega, ?_⟩
  rintro w cs s F ⟨a0, a1, a2, b0, b1, b2, c0, c1, c2, vw, F0, F1, F2, Fw, rfl, h0, h1, h2, h3, rfl⟩
  refine ⟨F0 ++ F1, F2, Fw, by simp, h2, fun w2 ys y G hk hy => ?_⟩
  obtain ⟨x, y', z, rfl⟩ := len3 (hostR.len hy)
  exact ⟨_, _, _, _, _, _, _, _, _, _, F0, F1, G, Fw, rfl, hostR.keep h0 (fun k hm => hk k (by simp [hm])), hostR.keep h1 (fun k hm => hk k (by simp [hm])), hy, outR.keep h3 (fun k hm => hk k (by simp [hm])), by simp⟩
theorem wdR_way : FieldOf wdR outR 9 (·.way) (fun s y => { s with way := y }) := by
  refine ⟨by show 9 + 1 ≤ 11; omega, ?_⟩
  rintro w cs s F ⟨a0, a1, a2, b0, b1, b2, c0, c1, c2, vw, F0, F1, F2, Fw, rfl, h0, h1, h2, h3, rfl⟩
  refine ⟨F0 ++ (F1 ++ F2), Fw, [], by simp, h3, fun w2 ys y G hk hy => ?_⟩
  obtain ⟨y0, rfl⟩ : ∃ y0, ys = [y0] := List.length_eq_one_iff.1 (outR.len hy)
  exact ⟨_, _, _, _, _, _, _, _, _, _, F0, F1, F2, G, rfl, hostR.keep h0 (fun k hm => hk k (by simp [hm])), hostR.keep h1 (fun k hm => hk k (by simp [hm])), hostR.keep h2 (fun k hm => hk k (by simp [hm])), hy, by simp⟩
theorem wdR_n : FieldOf wdR (Rep.int .i64) 10 (·.n) (fun s y => { s with n := y }) := by
  refine ⟨by show 10 + 1 ≤ 11; omega, ?_⟩
  rintro w cs s F ⟨a0, a1, a2, b0, b1, b2, c0, c1, c2, vw, F0, F1, F2, Fw, rfl, h0, h1, h2, h3, rfl⟩
  refine ⟨F0 ++ (F1 ++ (F2 ++ Fw)), [], [], by simp, ⟨rfl, rfl⟩, fun w2 ys y G hk hy => ?_⟩
  obtain ⟨rfl, rfl⟩ := hy
  exact ⟨_, _, _, _, _, _, _, _, _, _, F0, F1, F2, Fw, rfl, hostR.keep h0 (fun k hm => hk k (by simp [hm])), hostR.keep h1 (fun k hm => hk k (by simp [hm])), hostR.keep h2 (fun k hm => hk k (by simp [hm])), outR.keep h3 (fun k hm => hk k (by simp [hm])), by simp⟩
/-- A machine of the world. -/
def Wd.host (d : Wd) : Nat → Host
  | 0 => d.h0
  | 1 => d.h1
  | _ => d.h2
def Wd.put (d : Wd) (k : Nat) (h : Host) : Wd :=
  match k with
  | 0 => { d with h0 := h }
  | 1 => { d with h1 := h }
  | _ => { d with h2 := h }
/-- The world behind an operation. -/
def WdPost (w : World) (b : Nat) (d' : Wd) (F : List Nat) (w' : World) : Prop := ∃ F', Here wdR w' b 0 d' F' ∧ Step w w' b 0 11 F F'
section
variable {w w' w2 : World} {b : Nat} {d d' : Wd} {F : List Nat}
theorem WdPost.pre {w0 : World} (hc : Chg (fun _ => False) w0 w) (hp : WdPost w b d' F w') : WdPost w0 b d' F w' := by
  obtain ⟨F', h1, h2⟩ := hp
  exact ⟨F', h1, (Step.ofChg hc).trans h2⟩
theorem WdPost.post (hp : WdPost w b d' F w') (hc : Chg (fun _ => False) w' w2) : WdPost w b d' F w2 := by
  obtain ⟨F', h1, h2⟩ := hp
  exact ⟨F', h1.still hc, h2.trans (Step.ofChg hc)⟩
theorem WdPost.then {d2 : Wd} (hp : WdPost w b d' F w') (hq : ∀ F', Here wdR w' b 0 d' F' → WdPost w' b d2 F' w2) : WdPost w b d2 F w2 := by
  obtain ⟨F', h1, h2⟩ := hp
  obtain ⟨F2, h3, h4⟩ := hq F' h1
  exact ⟨F2, h3, h2.trans h4⟩
theorem wdStill (H : Here wdR w b 0 d F) (hc : Chg (fun _ => False) w w') : WdPost w b d F w' := ⟨F, H.still hc, Step.ofChg hc⟩
theorem wdHost (H : Here wdR w b 0 d F) (k : Nat) (hk : k < 3) : ∃ G, Here hostR w b (k * 3) (d.host k) G ∧ (∀ x ∈ G, x ∈ F) ∧ ∀ w' h', HostPost w b (k * 3) h' G w' → WdPost w b (d.put k h') F w' ∧ ∀ j u, 9 ≤ j → w.cell? ⟨b, j, none⟩ = some u → w'.cell? ⟨b, j, none⟩ = some u := by
  match k, hk with
  | 0, _ =>
    obtain ⟨G, h1, h2, h3⟩ := H.field wdR_h0 (by show 0 < 11; decide)
    exact ⟨G, h1, h2, fun w' h' ⟨F', q1, q2⟩ => ⟨h3 _ _ _ q1 q2, fun j u hj hu => q2.cell hu h1.nb (fun _ => by omega) h1.boxed⟩⟩
  | 1, _ =>
    obtain ⟨G, h1, h2, h3⟩ := H.field wdR_h1 (by show 0 < 11; decide)
    exact ⟨G, h1, h2, fun w' h' ⟨F', q1, q2⟩ => ⟨h3 _ _ _ q1 q2, fun j u hj hu => q2.cell hu h1.nb (fun _ => by omega) h1.boxed⟩⟩
  | 2, _ =>
    obtain ⟨G, h1, h2, h3⟩ := H.field wdR_h2 (by show 0 < 11; decide)
    exact ⟨G, h1, h2, fun w' h' ⟨F', q1, q2⟩ => ⟨h3 _ _ _ q1 q2, fun j u hj hu => q2.cell hu h1.nb (fun _ => by omega) h1.boxed⟩⟩
theorem wdWay (H : Here wdR w b 0 d F) : ∃ G, Here outR w b 9 d.way G ∧ (∀ x ∈ G, x ∈ F) ∧ ∀ w' l G', Here outR w' b 9 l G' → Step w w' b 9 1 G G' → WdPost w b { d with way := l } F w' := by
  obtain ⟨G, h1, h2, h3⟩ := H.field wdR_way (by show 0 < 11; decide)
  exact ⟨G, h1, h2, fun w' l G' q1 q2 => h3 _ _ _ q1 q2⟩
end
end Go.Proofs.Ytkoopagjjmdodaa
namespace Go.Proofs.Ytkoopagjjmdodaa
open Go.RowKit
set_option linter.unusedVariables false
set_option linter.unusedSimpArgs false

theorem msg_ones (l : List Msg) : Ones (l.flatMap Msg.cells) := by
  intro u hu
  obtain ⟨m, -, hm⟩ := List.mem_flatMap.1 hu
  simp only [Msg.cells, List.mem_cons, List.not_mem_nil, or_false] at hm
  rcases hm with rfl | rfl | rfl | rfl | rfl | rfl | rfl | rfl <;> rfl
/-- Messages at a place, about to be lengthened. -/
theorem outAppending {w : World} {b o : Nat} {l : List Msg} {G : List Nat} (H : Here outR w b o l G) :
    ∃ a cap, w.cell? ⟨b, o, none⟩ = some (.slice a l.length cap) ∧ RowAt w 39 8 (.slice a l.length cap) l.length (l.flatMap Msg.cells) ∧ l.length ≤ cap ∧ cap ≤ maxLen ∧ w.frozen? ⟨b, o, none⟩ = false ∧
      ∀ w1 w3 v3 m, Chg (fun _ => False) w w1 → RowAt w3 39 8 v3 (l.length + m.length) (l.flatMap Msg.cells ++ m.flatMap Msg.cells) → Chg (fun k => (Value.slice a l.length cap).ownBlock = some k) w1 w3 → (∀ k, v3.ownBlock = some k → (Value.slice a l.length cap).ownBlock = some k ∨ w1.heap.size ≤ k) →
        (∃ G', Here outR (w3.setCell ⟨b, o, none⟩ v3) b o (l ++ m) G' ∧ Step w (w3.setCell ⟨b, o, none⟩ v3) b o 1 G G') ∧ w3.cell? ⟨b, o, none⟩ = some (.slice a l.length cap) ∧ w3.frozen? ⟨b, o, none⟩ = false := by
  obtain ⟨a, cap, xs, Fs, c0, hopen, h1, h2, fz, haft⟩ := H.appending
  obtain ⟨r1, r2, r3⟩ := hopen.flat
  refine ⟨a, cap, c0, r1, h1, h2, fz, fun w1 w3 v3 m k1 k2 k3 k4 => ⟨?_, haft w1 w3 k1 k3⟩⟩
  have hnil : (m.map fun _ => ([] : List Nat)).flatten = [] := by induction m <;> simp_all
  refine hopen.pushAll (ys := m.map Msg.cells) (m := m) (Gs := m.map fun _ => []) H k1 (flat_each Msg.len m) (by rw [hnil]; simp) (by rw [hnil]; simp) ?_ k3 k4
  rw [r2]
  have : (m.map Msg.cells).flatten = m.flatMap Msg.cells := rfl
  rw [this]
  exact k2
theorem Wd.put_way (d : Wd) (k : Nat) (h : Host) : (d.put k h).way = d.way := by
  match k with
  | 0 => rfl
  | 1 => rfl
  | k + 2 => rfl
/-- The messages of a machine are taken. -/
def takeM (d : Wd) (k : Nat) : Wd := { d.put k { d.host k with out := [] } with way := d.way ++ (d.host k).out }
def takeMs (d : Wd) : Nat → Wd
  | 0 => d
  | k + 1 => takeM (takeMs d k) k
def collectM (d : Wd) : Wd := takeMs d 3

set_option maxHeartbeats 3200000 in
set_option maxRecDepth 100000 in
theorem collect_any (w : World) (b : Nat) (d : Wd) (F : List Nat) (H : Here wdR w b 0 d F) (hl : ∀ k, k < 3 → Few ((takeMs d k).way.length + ((takeMs d k).host k).out.length)) :
    Calls Try.prog 31 #[.pointer (some ⟨b, 0, none⟩)] w fun e w' => e = .returned (.tuple #[]) ∧ WdPost w b (collectM d) F w' := by
  have HL := Lib.hid hl
  have H0 := Lib.hid H
  clear hl H
  go_enter Try.func31, Try.ntmps31
  go_wp2_with fail
  go_loopw [2] (fun s2 wr => ∃ k : Nat, k ≤ 3 ∧ s2 = .int .i64 k ∧ WdPost w b (takeMs d k) F wr) (fun s2 _ => 3 - (intOf s2).toNat)
  case atStart => exact ⟨0, by omega, rfl, F, H0.out, Step.refl _ _ _ _ _⟩
  case round =>
    obtain ⟨k, hk, rfl, hp⟩ := hrel
    have k0 : (0 : Int) ≤ (k : Int) := Int.natCast_nonneg _
    clear H0
    by_cases hlt : k < 3
    · obtain ⟨F', Hr, Sr⟩ := hp
      have k1 : (k : Int) < 3 := by omega
      have hle := HL.out k hlt
      have htk : takeMs d (k + 1) = takeM (takeMs d k) k := rfl
      generalize takeMs d k = dk at *
      obtain ⟨G, HS, -, hback⟩ := wdHost Hr.drew k hlt
      obtain ⟨a9, cap9, c9, -⟩ := outAppending (wdWay Hr.drew).choose_spec.1
      have HB := Lib.hid hback
      have HSS := Lib.hid HS
      have HTK := Lib.hid htk
      have HSR := Lib.hid Sr.drewR
      have HLE := Lib.hid hle
      have HLT := Lib.hid hlt
      have HE := Lib.hid elem_msg
      clear hback HS htk Sr hle Hr hlt
      go_upto_region 3 with fail
      go_region_law ((first
        | (go_simp; go_at_call 17; refine (send_any _ b (k * 3) _ G HSS.out).mono ?_; rintro e wy ⟨v, F1, Gs, rfl, hh, hs, hown, -, -⟩; obtain ⟨⟨F2, H2, S2⟩, hkp⟩ := HB.out wy _ ⟨F1, hh, hs⟩; have c9y := hkp 9 _ (by omega) c9; obtain ⟨G9, HW, -, hwb⟩ := wdWay H2; rw [Wd.put_way] at HW; obtain ⟨a', cap', c', hrow, hle1, hle2, fz, haft⟩ := outAppending HW; rw [c9y] at c'; cases c'; obtain ⟨v', e1, hxr, -⟩ := row_flat.1 hown; cases e1; have HAFT := Lib.hid haft; have HWB := Lib.hid hwb; have HS2 := Lib.hid S2; clear haft hwb S2 hkp HW H2 hown hh hs hle1 hle2)
        | (refine step_append_rows (by rfl) _ _ _ (by rfl) 39 8 80 Try.underlying24 HE.out (by decide) _ dk.way.length (dk.way.flatMap Msg.cells) (by rfl) hrow _ (dk.host k).out.length ((dk.host k).out.flatMap Msg.cells) (by rfl) hxr (msg_ones _) (by have := HLE.out.lt; unfold maxLen; omega) (by have := HLE.out.lt; omega) ?_; intro a3 n3 c3 w6 hrow3 hchg3 hold3; obtain ⟨hfin, g3, f3⟩ := HAFT.out wy w6 _ (dk.host k).out (Chg.refl _ _) hrow3 hchg3 hold3; have HFIN := Lib.hid hfin; clear hfin hrow3 hchg3 hold3)))
      all_goals (
        obtain ⟨G', q1, q2⟩ := HFIN.out
        obtain ⟨F3, x1, x2⟩ := HWB.out _ _ _ q1 q2
        have HQ : Hid (WdPost w b (takeM dk k) F (w6.setCell ⟨b, 9, none⟩ (.slice a3 n3 c3))) := Lib.hid ⟨F3, x1, (HSR.out.trans HS2.out).trans x2⟩
        clear q1 q2 x1 x2 HFIN HAFT HWB HS2 HSR g3 f3 c9 c9y hrow hxr fz HB HSS
        go_wp2_with fail
        go_roundw
        case rel => exact ⟨k + 1, HLT.out, by go_num, by rw [HTK.out]; exact HQ.out⟩
        case measure => have := HLT.out; simp [intOf]; omega)
    · have hk3 : k = 3 := by omega
      subst hk3
      rw [show ((3 : Nat) : Int) = 3 from rfl]
      have HP := Lib.hid hp
      clear hp hlt hk k0
      go_wp2_with fail
      go_end0
      exact ⟨rfl, HP.out⟩
end Go.Proofs.Ytkoopagjjmdodaa
namespace Go.Proofs.Ytkoopagjjmdodaa
open Go.RowKit
set_option linter.unusedVariables false
set_option linter.unusedSimpArgs false

def newCells (k : Nat) : Array Value := #[.int .i64 0, .slice none 0 0, .slice none 0 0, .int .i64 (if 1 < k then 1 else 0), .slice none 0 0, .slice none 0 0, .int .i64 (if 2 < k then 2 else 0), .slice none 0 0, .slice none 0 0, .slice none 0 0, .int .i64 0]
theorem newCells_set (k : Nat) (hk : k < 3) : (((newCells k).setIfInBounds (k * 3) (.int .i64 k)).setIfInBounds (k * 3 + 1) (.slice none 0 0)).setIfInBounds (k * 3 + 2) (.slice none 0 0) = newCells (k + 1) := by
  match k, hk with
  | 0, _ => rfl
  | 1, _ => rfl
  | 2, _ => rfl
theorem newCells_get (k : Nat) (hk : k < 3) : (newCells k)[k * 3]? = some (.int .i64 0) ∧ (newCells k)[k * 3 + 1]? = some (.slice none 0 0) ∧ (newCells k)[k * 3 + 2]? = some (.slice none 0 0) := by
  match k, hk with
  | 0, _ => exact ⟨rfl, rfl, rfl⟩
  | 1, _ => exact ⟨rfl, rfl, rfl⟩
  | 2, _ => exact ⟨rfl, rfl, rfl⟩
def wd0 : Wd := ⟨⟨0, [newSeat ⟨#[112]⟩], []⟩, ⟨1, [newSeat ⟨#[113]⟩], []⟩, newHost 2, [], 0⟩

set_option maxHeartbeats 3200000 in
set_option maxRecDepth 100000 in
theorem newWorld_any (w : World) :
    Calls Try.prog 21 #[] w fun e w' => ∃ b F, e = .returned (.pointer (some ⟨b, 0, none⟩)) ∧ Own wdR w w' b 0 wd0 F := by
  go_enter Try.func21, Try.ntmps21
  go_upto_region 2 with fail
  have hb0 : ∃ T, (w.alloc (.cells (newCells 0) 61)).heap[w.heap.size]? = some (.cells (newCells 0) T (0, 0)) := ⟨_, alloc_block w _⟩
  have hc0 := Chg.alloc (fun _ => False) w (.cells (newCells 0) 61)
  change ∃ T, (w.alloc (.cells #[.int .i64 0, .slice none 0 0, .slice none 0 0, .int .i64 0, .slice none 0 0, .slice none 0 0, .int .i64 0, .slice none 0 0, .slice none 0 0, .slice none 0 0, .int .i64 0] 61)).heap[w.heap.size]? = _ at hb0
  change Chg _ w (w.alloc (.cells #[.int .i64 0, .slice none 0 0, .slice none 0 0, .int .i64 0, .slice none 0 0, .slice none 0 0, .int .i64 0, .slice none 0 0, .slice none 0 0, .slice none 0 0, .int .i64 0] 61)) at hc0
  generalize w.alloc (.cells #[.int .i64 0, .slice none 0 0, .slice none 0 0, .int .i64 0, .slice none 0 0, .slice none 0 0, .int .i64 0, .slice none 0 0, .slice none 0 0, .slice none 0 0, .int .i64 0] 61) = w1 at *
  obtain ⟨b, hb⟩ : ∃ b, w.heap.size = b := ⟨_, rfl⟩
  rw [hb] at hb0 ⊢
  have HB0 := Lib.hid hb0
  have HC0 := Lib.hid hc0
  have HB := Lib.hid hb
  clear hb0 hc0 hb
  go_wp2_with fail
  go_loopw [2] (fun s2 wr => ∃ k : Nat, k ≤ 3 ∧ s2 = .int .i64 k ∧ Hid (∃ T, wr.heap[b]? = some (.cells (newCells k) T (0, 0))) ∧ Hid (Chg (fun _ => False) w wr)) (fun s2 _ => 3 - (intOf s2).toNat)
  case atStart => exact ⟨0, by omega, rfl, HB0, HC0⟩
  case round =>
    obtain ⟨k, hk, rfl, HR, HC⟩ := hrel
    clear HB0 HC0
    by_cases hlt : k < 3
    · have k0 : (0 : Int) ≤ (k : Int) := Int.natCast_nonneg _
      have k1 : (k : Int) < 3 := by omega
      go_wp2_with fail
      refine (new_any k wr).mono ?_
      rintro e w2 ⟨rfl, hc2⟩
      rw [if_neg (by omega), if_neg (by omega)]
      go_upto_region 6 with fail
      have hc3 := hc2.allocR (.cells #[.int .i64 k, .slice none 0 0, .slice none 0 0] 26)
      have hbl := alloc_block w2 (.cells #[.int .i64 k, .slice none 0 0, .slice none 0 0] 26)
      generalize w2.alloc (.cells #[.int .i64 k, .slice none 0 0, .slice none 0 0] 26) = w3 at *
      generalize w2.heap.size = hbk at *
      obtain ⟨T, hbw⟩ := HR.out
      have hbw3 := hc3.keep hbw (fun x => x)
      have d0 : w3.drew.cell? ⟨hbk, 0, none⟩ = some (.int .i64 k) := cell_of_block (i := 0) hbl rfl
      have d1 : w3.drew.cell? ⟨hbk, 1, none⟩ = some (.slice none 0 0) := cell_of_block (i := 1) hbl rfl
      have d2 : w3.drew.cell? ⟨hbk, 2, none⟩ = some (.slice none 0 0) := cell_of_block (i := 2) hbl rfl
      have fz : ∀ j, w3.drew.frozen? ⟨b, j, none⟩ = false := fun j => frozen_of_block (w := w3.drew) hbw3
      obtain ⟨t0, t1, t2⟩ := newCells_get k hlt
      have z0 : w3.drew.cell? ⟨b, k * 3, none⟩ = some (.int .i64 0) := cell_of_block hbw3 t0
      have hs1 := setCell_block (w := w3) (i := k * 3) (.int .i64 k) hbw3
      have z1 : (w3.setCell ⟨b, k * 3, none⟩ (.int .i64 k)).drew.cell? ⟨b, k * 3 + 1, none⟩ = some (.slice none 0 0) := cell_of_block (w := (w3.setCell ⟨b, k * 3, none⟩ (.int .i64 k)).drew) hs1 (by rw [Array.getElem?_setIfInBounds_ne (by omega)]; exact t1)
      have hs2 := setCell_block (i := k * 3 + 1) (.slice none 0 0) hs1
      have z2 : ((w3.setCell ⟨b, k * 3, none⟩ (.int .i64 k)).setCell ⟨b, k * 3 + 1, none⟩ (.slice none 0 0)).drew.cell? ⟨b, k * 3 + 2, none⟩ = some (.slice none 0 0) := cell_of_block (w := ((w3.setCell ⟨b, k * 3, none⟩ (.int .i64 k)).setCell ⟨b, k * 3 + 1, none⟩ (.slice none 0 0)).drew) hs2 (by rw [Array.getElem?_setIfInBounds_ne (by omega), Array.getElem?_setIfInBounds_ne (by omega)]; exact t2)
      have y1 := frozen_of_block (w := (w3.setCell ⟨b, k * 3, none⟩ (.int .i64 k)).drew) (i := k * 3 + 1) hs1
      have y2 := frozen_of_block (w := ((w3.setCell ⟨b, k * 3, none⟩ (.int .i64 k)).setCell ⟨b, k * 3 + 1, none⟩ (.slice none 0 0)).drew) (i := k * 3 + 2) hs2
      have hs3 := setCell_block (i := k * 3 + 2) (.slice none 0 0) hs2
      rw [newCells_set k hlt] at hs3
      have hcf := ((((HC.out.trans' hc3).setCellR ⟨b, k * 3, none⟩ (.int .i64 k) (fun x => by have := HB.out; simp at x; omega)).setCellR ⟨b, k * 3 + 1, none⟩ (.slice none 0 0) (fun x => by have := HB.out; simp at x; omega)).setCellR ⟨b, k * 3 + 2, none⟩ (.slice none 0 0) (fun x => by have := HB.out; simp at x; omega)).drewR
      have HS3 := Lib.hid hs3
      have HCF := Lib.hid hcf
      clear hs1 hs2 hs3 hcf hc3 hbl hbw hbw3 t0 t1 t2 hc2
      go_region_law (fail)
      have HF : Hid (∃ T, ((((w3.setCell ⟨b, k * 3, none⟩ (.int .i64 k)).setCell ⟨b, k * 3 + 1, none⟩ (.slice none 0 0)).setCell ⟨b, k * 3 + 2, none⟩ (.slice none 0 0)).drew).heap[b]? = some (.cells (newCells (k + 1)) T (0, 0))) := Lib.hid ⟨T, HS3.out⟩
      clear HS3 z0 z1 z2 y1 y2 d0 d1 d2 fz HR HC
      generalize (((w3.setCell ⟨b, k * 3, none⟩ (.int .i64 k)).setCell ⟨b, k * 3 + 1, none⟩ (.slice none 0 0)).setCell ⟨b, k * 3 + 2, none⟩ (.slice none 0 0)).drew = w4 at *
      go_wp2_with fail
      go_roundw
      case rel => exact ⟨k + 1, by omega, by go_num, HF, HCF⟩
      case measure => simp [intOf]; omega
    · have hk3 : k = 3 := by omega
      subst hk3
      rw [show ((3 : Nat) : Int) = 3 from rfl]
      obtain ⟨T, hbw⟩ := HR.out
      have hlo : w.heap.size ≤ b := by have := HB.out; omega
      have hown : Own wdR w wr b 0 ⟨newHost 0, newHost 1, newHost 2, [], 0⟩ [] :=
        ⟨⟨⟨_, T, hbw, ⟨_, _, _, _, _, _, _, _, _, _, [], [], [], [], rfl, newHost_own wr 0, newHost_own wr 1, newHost_own wr 2, row_flat.2 ⟨_, rfl, RowAt.nil _ _ _, rfl⟩, rfl⟩⟩, by simp, by simp⟩, HC.out, hlo, by simp⟩
      obtain ⟨G, HS, -, hback⟩ := wdHost hown.here 0 (by omega)
      have HO := Lib.hid hown
      have HBK := Lib.hid hback
      clear hown hback hbw HR HC hlo hlt hk
      go_wp2_with fail
      refine (start_any wr b 0 (newHost 0) G ⟨#[112]⟩ HS (by decide) ⟨by decide⟩).mono ?_
      rintro e w2 ⟨rfl, hp⟩
      rw [startM_new 0 ⟨#[112]⟩ (by decide)] at hp ⊢
      obtain ⟨⟨F2, H2, S2⟩, -⟩ := HBK.out _ _ hp
      have O2 := HO.out.step H2 S2
      obtain ⟨G2, HS2, -, hback⟩ := wdHost O2.here 1 (by omega)
      have HO2 := Lib.hid O2
      have HBK2 := Lib.hid hback
      clear O2 hback HBK HO HS hp H2 S2
      go_wp2_with fail
      refine (start_any w2 b 3 (newHost 1) G2 ⟨#[113]⟩ HS2 (by decide) ⟨by decide⟩).mono ?_
      rintro e w3 ⟨rfl, hp⟩
      rw [startM_new 1 ⟨#[113]⟩ (by decide)] at hp ⊢
      obtain ⟨⟨F3, H3, S3⟩, -⟩ := HBK2.out _ _ hp
      have O3 := HO2.out.step H3 S3
      have HO3 := Lib.hid O3
      clear O3 HBK2 HO2 HS2 hp H3 S3
      go_wp2_with fail
      go_ret
      exact ⟨b, F3, rfl, HO3.out⟩
end Go.Proofs.Ytkoopagjjmdodaa
namespace Go.Proofs.Ytkoopagjjmdodaa
open Go.RowKit
set_option linter.unusedVariables false
set_option linter.unusedSimpArgs false

def tickW (d : Wd) (k : Nat) : Wd := d.put k (tickM (d.host k))
def tickWs (d : Wd) : Nat → Wd
  | 0 => d
  | k + 1 => tickW (tickWs d k) k
def recvW (d : Wd) (m : Msg) : Wd := if 0 ≤ m.dst ∧ m.dst < 3 then d.put m.dst.toNat (receiveM (d.host m.dst.toNat) m) else d
def stepQ (d : Wd) : Wd :=
  match d.way with
  | [] => d
  | m :: l => collectM (recvW { d with way := l } m)
def stepsQ (d : Wd) : Nat → Wd
  | 0 => d
  | j + 1 => stepQ (stepsQ d j)
def roundQ (d : Wd) : Wd := stepsQ (collectM (tickWs d 3)) 400
def quietM (d : Wd) : Nat → Wd
  | 0 => d
  | i + 1 => roundQ (quietM d i)
theorem stepsQ_done (d : Wd) (j : Nat) (h : (stepsQ d j).way = []) : ∀ i, stepsQ d (j + i) = stepsQ d j
  | 0 => rfl
  | i + 1 => by
    show stepQ (stepsQ d (j + i)) = _
    rw [stepsQ_done d j h i]
    unfold stepQ
    rw [h]
theorem collect_eq (d : Wd) : collectM d = ⟨{ d.h0 with out := [] }, { d.h1 with out := [] }, { d.h2 with out := [] }, d.way ++ d.h0.out ++ d.h1.out ++ d.h2.out, d.n⟩ := rfl
theorem host_put (d : Wd) (i j : Nat) (h : Host) (hi : i < 3) (hj : j < 3) : (d.put i h).host j = if i = j then h else d.host j := by
  match i, j, hi, hj with
  | 0, 0, _, _ => rfl
  | 0, 1, _, _ => rfl
  | 0, 2, _, _ => rfl
  | 1, 0, _, _ => rfl
  | 1, 1, _, _ => rfl
  | 1, 2, _, _ => rfl
  | 2, 0, _, _ => rfl
  | 2, 1, _, _ => rfl
  | 2, 2, _, _ => rfl
/-- The bounds of the world. -/
structure WdB (n k o : Nat) (d : Wd) : Prop where
  h0 : HostIn n o d.h0
  h1 : HostIn n o d.h1
  h2 : HostIn n o d.h2
  len : d.way.length ≤ k
  ways : ∀ m ∈ d.way, MsgIn n m
theorem WdB.host {n k o : Nat} {d : Wd} (H : WdB n k o d) (i : Nat) : HostIn n o (d.host i) := by
  match i with
  | 0 => exact H.h0
  | 1 => exact H.h1
  | i + 2 => exact H.h2
theorem WdB.mono {n k o n' k' o' : Nat} {d : Wd} (H : WdB n k o d) (hn : n ≤ n') (hk : k ≤ k') (ho : o ≤ o') : WdB n' k' o' d :=
  ⟨H.h0.mono hn ho, H.h1.mono hn ho, H.h2.mono hn ho, by have := H.len; omega, fun m hm => (H.ways m hm).mono hn⟩
theorem WdB.put {n k o n' o' : Nat} {d : Wd} {h : Host} (H : WdB n k o d) (i : Nat) (hh : HostIn n' o' h) (hn : n ≤ n') (ho : o ≤ o') : WdB n' k o' (d.put i h) := by
  have H2 := H.mono hn (Nat.le_refl _) ho
  match i with
  | 0 => exact ⟨hh, H2.h1, H2.h2, H2.len, H2.ways⟩
  | 1 => exact ⟨H2.h0, hh, H2.h2, H2.len, H2.ways⟩
  | i + 2 => exact ⟨H2.h0, H2.h1, hh, H2.len, H2.ways⟩
theorem out_in {n o : Nat} {h : Host} (H : HostIn n o h) : HostIn n 0 { h with out := [] } := ⟨Nat.le_refl _, by simp, H.seats, H.each⟩
theorem WdB.collect {n k o : Nat} {d : Wd} (H : WdB n k o d) : WdB n (k + 3 * o) 0 (collectM d) := by
  rw [collect_eq]
  refine ⟨out_in H.h0, out_in H.h1, out_in H.h2, ?_, ?_⟩
  · show (d.way ++ d.h0.out ++ d.h1.out ++ d.h2.out).length ≤ _
    simp only [List.length_append]
    have := H.len
    have := H.h0.out
    have := H.h1.out
    have := H.h2.out
    omega
  · intro m hm
    simp only [List.mem_append] at hm
    rcases hm with ((hm | hm) | hm) | hm
    · exact H.ways m hm
    · exact H.h0.outs m hm
    · exact H.h1.outs m hm
    · exact H.h2.outs m hm
theorem WdB.collectOk {n k o : Nat} {d : Wd} (H : WdB n k o d) (hb : k + 3 * o < 1000000000) : ∀ i, i < 3 → Few ((takeMs d i).way.length + ((takeMs d i).host i).out.length) := by
  have := H.len
  have := H.h0.out
  have := H.h1.out
  have := H.h2.out
  intro i hi
  match i, hi with
  | 0, _ => exact ⟨by show d.way.length + d.h0.out.length < _; omega⟩
  | 1, _ => exact ⟨by show (d.way ++ d.h0.out).length + d.h1.out.length < _; rw [List.length_append]; omega⟩
  | 2, _ => exact ⟨by show (d.way ++ d.h0.out ++ d.h1.out).length + d.h2.out.length < _; rw [List.length_append, List.length_append]; omega⟩
theorem tickWs_host (d : Wd) : ∀ j, j ≤ 3 → ∀ i, i < 3 → (tickWs d j).host i = if i < j then tickM (d.host i) else d.host i
  | 0, _, i, _ => by rw [if_neg (by omega)]; rfl
  | j + 1, hj, i, hi => by
    show ((tickWs d j).put j (tickM ((tickWs d j).host j))).host i = _
    rw [host_put _ _ _ _ (by omega) hi, tickWs_host d j (by omega) j (by omega), tickWs_host d j (by omega) i hi]
    by_cases h : j = i
    · subst h
      rw [if_pos rfl, if_neg (by omega), if_pos (by omega)]
    · rw [if_neg h]
      by_cases h2 : i < j
      · rw [if_pos h2, if_pos (by omega)]
      · rw [if_neg h2, if_neg (by omega)]
theorem WdB.tick {n k : Nat} {d : Wd} (H : WdB n k 0 d) : ∀ j, j ≤ 3 → WdB n k (n * 16) (tickWs d j)
  | 0, _ => H.mono (Nat.le_refl _) (Nat.le_refl _) (Nat.zero_le _)
  | j + 1, hj => by
    have ih := WdB.tick H j (by omega)
    refine ih.put j ?_ (Nat.le_refl _) (Nat.le_refl _)
    rw [tickWs_host d j (by omega) j (by omega), if_neg (by omega)]
    have := tick_in (H.host j)
    rwa [Nat.zero_add] at this
theorem WdB.recv {n k o : Nat} {d : Wd} {m : Msg} (H : WdB n k o d) (hm : MsgIn n m) : WdB (n + 1) k (o + 1) (recvW d m) := by
  unfold recvW
  split
  · exact H.put _ (receive_in (H.host _) hm) (Nat.le_succ _) (Nat.le_succ _)
  · exact H.mono (Nat.le_succ _) (Nat.le_refl _) (Nat.le_succ _)
theorem WdB.cut {n k o : Nat} {d : Wd} {l : List Msg} (H : WdB n k o d) (h1 : l.length ≤ k) (h2 : ∀ m ∈ l, m ∈ d.way) : WdB n k o { d with way := l } :=
  ⟨H.h0, H.h1, H.h2, h1, fun m hm => H.ways m (h2 m hm)⟩
theorem WdB.step {n k : Nat} {d : Wd} (H : WdB n k 0 d) : WdB (n + 1) (k + 3) 0 (stepQ d) := by
  unfold stepQ
  have hl := H.len
  cases hw : d.way with
  | nil => exact H.mono (Nat.le_succ _) (by omega) (Nat.le_refl _)
  | cons m l =>
    rw [hw, List.length_cons] at hl
    have h1 := H.cut (l := l) (by omega) (fun x hx => by rw [hw]; exact List.mem_cons_of_mem _ hx)
    have h2 := h1.recv (m := m) (H.ways m (by rw [hw]; exact List.mem_cons_self ..))
    exact h2.collect.mono (Nat.le_refl _) (by omega) (Nat.le_refl _)
theorem WdB.steps {n k : Nat} {d : Wd} (H : WdB n k 0 d) : ∀ j, WdB (n + j) (k + 3 * j) 0 (stepsQ d j)
  | 0 => H
  | j + 1 => (WdB.steps H j).step.mono (Nat.le_refl _) (by omega) (Nat.le_refl _)
theorem WdB.round {n k : Nat} {d : Wd} (H : WdB n k 0 d) : WdB (n + 400) (k + 48 * n + 1200) 0 (roundQ d) := by
  have h1 := (H.tick 3 (Nat.le_refl _)).collect
  have h2 := h1.steps
  unfold roundQ
  generalize collectM (tickWs d 3) = d2 at *
  have h3 := h2 400
  generalize stepsQ d2 400 = d3 at *
  exact h3.mono (Nat.le_refl _) (by omega) (Nat.le_refl _)
theorem quietM_succ (d : Wd) (i : Nat) : quietM d (i + 1) = roundQ (quietM d i) := rfl
set_option maxRecDepth 100000 in
theorem WdB.quiet {n k : Nat} {d : Wd} (H : WdB n k 0 d) (M i : Nat) (hM : n + 400 * i ≤ M) : WdB (n + 400 * i) (k + i * (48 * M + 1200)) 0 (quietM d i) := by
  induction i with
  | zero => exact H.mono (Nat.le_add_right _ _) (Nat.le_add_right _ _) (Nat.le_refl _)
  | succ i ih =>
    have ih := (ih (by omega)).round
    rw [quietM_succ]
    generalize roundQ (quietM d i) = d2 at *
    have h1 : 48 * (n + 400 * i) ≤ 48 * M := Nat.mul_le_mul_left _ (by omega)
    have h2 : (i + 1) * (48 * M + 1200) = i * (48 * M + 1200) + (48 * M + 1200) := Nat.succ_mul _ _
    have h3 : n + 400 * i + 400 ≤ n + 400 * (i + 1) := by clear ih hM h1 h2; omega
    have h4 : k + i * (48 * M + 1200) + 48 * (n + 400 * i) + 1200 ≤ k + (i + 1) * (48 * M + 1200) := by rw [h2]; clear ih h3; generalize i * (48 * M + 1200) = y at *; generalize 48 * (n + 400 * i) = x at *; omega
    exact WdB.mono ih h3 h4 (Nat.le_refl _)
/-- The messages on their way, made anew. -/
theorem wayNew {w : World} {b : Nat} {d : Wd} {F : List Nat} (H : Here wdR w b 0 d F) {w3 : World} {v3 : Value} {l : List Msg} (hc : Chg (fun _ => False) w w3) (hr : RowAt w3 39 8 v3 l.length (l.flatMap Msg.cells)) (hn : ∀ k, v3.ownBlock = some k → w.heap.size ≤ k) :
    WdPost w b { d with way := l } F (w3.setCell ⟨b, 9, none⟩ v3) := by
  obtain ⟨G, HW, -, hb⟩ := wdWay H
  obtain ⟨q1, q2⟩ := HW.put (w2 := w3) (v := v3) (y := l) (G' := ownL v3) rfl (hc.mono (fun _ _ x => x.elim)) (row_flat.2 ⟨v3, rfl, hr, rfl⟩) (own_le_one _) (fun k hk => .inr (hn k (mem_ownL.1 hk)))
  exact hb _ _ _ q1 q2
/-- The messages on their way, in memory. -/
theorem wayRow {w : World} {b : Nat} {d : Wd} {F : List Nat} (H : Here wdR w b 0 d F) : ∃ a cap, w.cell? ⟨b, 9, none⟩ = some (.slice a d.way.length cap) ∧ RowAt w 39 8 (.slice a d.way.length cap) d.way.length (d.way.flatMap Msg.cells) ∧ d.way.length ≤ cap ∧ cap ≤ maxLen ∧ w.frozen? ⟨b, 9, none⟩ = false := by
  obtain ⟨G, HW, -⟩ := wdWay H
  obtain ⟨a, cap, h1, h2, h3, h4, h5, -⟩ := outAppending HW
  exact ⟨a, cap, h1, h2, h3, h4, h5⟩
end Go.Proofs.Ytkoopagjjmdodaa
namespace Go.Proofs.Ytkoopagjjmdodaa
open Go.RowKit
set_option linter.unusedVariables false
set_option linter.unusedSimpArgs false

def runningK (d : Wd) (page : ByteArray) : Nat → Nat × Int
  | 0 => (0, 0)
  | k + 1 => if (runsM (d.host k) page).2 = true then ((runningK d page k).1 + 1, (runsM (d.host k) page).1) else runningK d page k
theorem runningK_le (d : Wd) (page : ByteArray) : ∀ k, (runningK d page k).1 ≤ k
  | 0 => Nat.le_refl _
  | k + 1 => by
    have := runningK_le d page k
    rw [runningK]
    split
    · show (runningK d page k).1 + 1 ≤ _; omega
    · omega
set_option maxHeartbeats 1600000 in
set_option maxRecDepth 100000 in
theorem running_any (w : World) (b : Nat) (d : Wd) (F : List Nat) (page : ByteArray) (H : Here wdR w b 0 d F) :
    Calls Try.prog 36 #[.pointer (some ⟨b, 0, none⟩), .string page] w fun e w' => e = .returned (.tuple #[.int .i64 (runningK d page 3).1, .int .i64 (runningK d page 3).2]) ∧ Chg (fun _ => False) w w' := by
  have HH := Lib.hid H
  clear H
  go_enter Try.func36, Try.ntmps36
  go_wp2_with fail
  go_loopw [6, 7, 8] (fun s6 s7 s8 wr => ∃ (k n : Nat) (e : Int), k ≤ 3 ∧ n ≤ k ∧ s8 = .int .i64 k ∧ s6 = .int .i64 n ∧ s7 = .int .i64 e ∧ Hid (runningK d page k = (n, e)) ∧ Chg (fun _ => False) w wr) (fun _ _ s8 _ => 3 - (intOf s8).toNat)
  case atStart => exact ⟨0, 0, 0, by omega, by omega, rfl, rfl, rfl, Lib.hid rfl, Chg.refl _ _⟩
  case round =>
    obtain ⟨k, n, e, hk, hn, rfl, rfl, rfl, HR, hch⟩ := hrel
    have k0 : (0 : Int) ≤ (k : Int) := Int.natCast_nonneg _
    by_cases hlt : k < 3
    · have k1 : (k : Int) < 3 := by omega
      obtain ⟨G, HS, -⟩ := wdHost (HH.out.still hch) k hlt
      have hrn := runs_any wr b (k * 3) (d.host k) G page HS
      have hst : runningK d page (k + 1) = if (runsM (d.host k) page).2 = true then ((runningK d page k).1 + 1, (runsM (d.host k) page).1) else runningK d page k := rfl
      rw [HR.out] at hst
      generalize runsM (d.host k) page = rr at *
      obtain ⟨re, rb⟩ := rr
      have HRN := Lib.hid hrn
      have hn2 : (n : Int) ≤ 3 := by omega
      have n0 : (0 : Int) ≤ (n : Int) := Int.natCast_nonneg _
      cases rb with
      | true =>
        rw [if_pos rfl] at hst
        have HST := Lib.hid hst
        clear hst hrn HS
        go_wp2_with fail
        refine HRN.out.mono ?_
        rintro e2 w2 ⟨rfl, hc2⟩
        go_wp2_with fail
        go_roundw
        case rel => exact ⟨k + 1, n + 1, re, by omega, by omega, by go_num, by go_num, rfl, HST, hch.trans' hc2⟩
        case measure => simp [intOf]; omega
      | false =>
        rw [if_neg (by simp)] at hst
        have HST := Lib.hid hst
        clear hst hrn HS
        go_wp2_with fail
        refine HRN.out.mono ?_
        rintro e2 w2 ⟨rfl, hc2⟩
        go_wp2_with fail
        go_roundw
        case rel => exact ⟨k + 1, n, e, by omega, by omega, by go_num, rfl, rfl, HST, hch.trans' hc2⟩
        case measure => simp [intOf]; omega
    · have hk3 : k = 3 := by omega
      subst hk3
      rw [show ((3 : Nat) : Int) = 3 from rfl]
      have hr := HR.out
      have HR2 := Lib.hid hr
      clear hr hlt hk k0
      go_wp2_with fail
      refine bodyPost_ret (v := .tuple #[.int .i64 n, .int .i64 e]) (by simp [results, Try.results36, go_sem]) rfl ?_
      exact ⟨by rw [HR2.out], hch⟩
end Go.Proofs.Ytkoopagjjmdodaa
namespace Go.Proofs.Ytkoopagjjmdodaa
open Go.RowKit
set_option linter.unusedVariables false
set_option linter.unusedSimpArgs false

theorem cells_drop (m : Msg) (l : List Msg) : ((m :: l).flatMap Msg.cells).drop (1 * 8) = l.flatMap Msg.cells := by
  rw [List.flatMap_cons]
  rfl
theorem quiet_sum {M k i r : Nat} (hk : k ≤ 100000000) (hi : i ≤ 10) : k + i * (48 * 110000 + 1200) ≤ 160000000 := by omega
set_option maxHeartbeats 6400000 in
set_option maxRecDepth 100000 in
theorem quiet_any (w : World) (b : Nat) (d : Wd) (F : List Nat) (r n k : Nat) (H : Here wdR w b 0 d F) (hB : WdB n k 0 d) (hr : r ≤ 10) (hn : n ≤ 100000) (hk : k ≤ 100000000) :
    Calls Try.prog 33 #[.pointer (some ⟨b, 0, none⟩), .int .i64 r] w fun e w' => e = .returned (.tuple #[]) ∧ WdPost w b (quietM d r) F w' := by
  have hBi : ∀ i, i ≤ r → WdB 104000 160000000 0 (quietM d i) := fun i hi =>
    (hB.quiet 110000 i (by omega)).mono (by omega) (by omega) (Nat.le_refl _)
  have HBI := Lib.hid hBi
  have H0 := Lib.hid H
  have r0 : (0 : Int) ≤ (r : Int) := Int.natCast_nonneg _
  have r1 : (r : Int) ≤ 10 := by omega
  clear hB hn hk hBi H hr
  go_enter Try.func33, Try.ntmps33
  go_wp2_with fail
  go_loopw [4] (fun s4 wr => ∃ i : Nat, i ≤ r ∧ s4 = .int .i64 i ∧ WdPost w b (quietM d i) F wr) (fun s4 _ => r - (intOf s4).toNat)
  case atStart => exact ⟨0, Nat.zero_le _, rfl, F, H0.out, Step.refl _ _ _ _ _⟩
  case round =>
    obtain ⟨i, hi, rfl, hp⟩ := hrel
    have HP := Lib.hid hp
    have i0 : (0 : Int) ≤ (i : Int) := Int.natCast_nonneg _
    clear H0 hp
    by_cases hlt : i < r
    · have i1 : (i : Int) < (r : Int) := by omega
      have hB := HBI.out i hi
      have hnx : quietM d (i + 1) = stepsQ (collectM (tickWs (quietM d i) 3)) 400 := rfl
      generalize quietM d i = di at *
      have HNX := Lib.hid hnx
      have HB := Lib.hid hB
      have HLT := Lib.hid hlt
      clear hnx hB hlt hi
      go_wp2_with fail
      go_loopw [5] (fun s5 wr => ∃ j : Nat, j ≤ 3 ∧ s5 = .int .i64 j ∧ WdPost w b (tickWs di j) F wr) (fun s5 _ => 3 - (intOf s5).toNat)
      case atStart => exact ⟨0, by omega, rfl, HP.out⟩
      case round =>
        obtain ⟨j, hj, rfl, hp⟩ := hrel
        have HQ := Lib.hid hp
        have j0 : (0 : Int) ≤ (j : Int) := Int.natCast_nonneg _
        clear HP hp
        by_cases hlt : j < 3
        · have j1 : (j : Int) < 3 := by omega
          obtain ⟨F', Hr, Sr⟩ := HQ.out
          obtain ⟨G, HS, -, hback⟩ := wdHost Hr j hlt
          have hho := HB.out.host j
          rw [tickWs_host di j hj j hlt, if_neg (by omega)] at HS
          have hseats := hho.seats
          have houts := hho.out
          have htk := tick_any wr b (j * 3) (di.host j) G HS (hho.ok (by omega) (by omega)) (by omega)
          have hst : tickWs di (j + 1) = (tickWs di j).put j (tickM (di.host j)) := by
            show (tickWs di j).put j (tickM ((tickWs di j).host j)) = _
            rw [tickWs_host di j hj j hlt, if_neg (by omega)]
          have HTK := Lib.hid htk
          have HBK := Lib.hid hback
          have HST := Lib.hid hst
          have HSR := Lib.hid Sr
          have HLT2 := Lib.hid hlt
          clear htk hback hst Sr hho hseats houts HS Hr hlt hj HQ
          go_wp2_with fail
          refine HTK.out.mono ?_
          rintro e w2 ⟨rfl, hp2⟩
          obtain ⟨F2, H2, S2⟩ := (HBK.out _ _ hp2).1
          have HQ2 : Hid (WdPost w b (tickWs di (j + 1)) F w2) := Lib.hid ⟨F2, by rw [HST.out]; exact H2, HSR.out.trans S2⟩
          clear hp2 H2 S2 HBK HTK
          go_wp2_with fail
          go_roundw
          case rel => exact ⟨j + 1, HLT2.out, by go_num, HQ2.out⟩
          case measure => have := HLT2.out; simp [intOf]; omega
        · have hj3 : j = 3 := by omega
          subst hj3
          rw [show ((3 : Nat) : Int) = 3 from rfl]
          clear hlt hj j0
          obtain ⟨F', Hr, Sr⟩ := HQ.out
          have hBt := HB.out.tick 3 (Nat.le_refl _)
          have hcl := collect_any wr b (tickWs di 3) F' Hr (hBt.collectOk (by omega))
          have hBc := hBt.collect
          have HNX2 := HNX
          generalize tickWs di 3 = dt at *
          generalize hdc : collectM dt = dc at *
          have HBC : Hid (WdB 104000 165000000 0 dc) := Lib.hid (hBc.mono (Nat.le_refl _) (by omega) (Nat.le_refl _))
          have HCL := Lib.hid hcl
          have HSR := Lib.hid Sr
          clear hBt hcl hBc hdc Sr Hr HQ HB HBI HNX
          go_wp2_with fail
          refine HCL.out.mono ?_
          rintro e w2 ⟨rfl, F2, H2, S2⟩
          have HQ2 : Hid (WdPost w b (stepsQ dc 0) F w2) := Lib.hid ⟨F2, H2, HSR.out.trans S2⟩
          clear H2 S2 HSR HCL
          go_wp2_with fail
          go_loopw [6] (fun s6 wr => ∃ j : Nat, j ≤ 400 ∧ s6 = .int .i64 j ∧ WdPost w b (stepsQ dc j) F wr) (fun s6 _ => 400 - (intOf s6).toNat)
          case atStart => exact ⟨0, by omega, rfl, HQ2.out⟩
          case round =>
            obtain ⟨j, hj, rfl, hp⟩ := hrel
            have HR := Lib.hid hp
            have j0 : (0 : Int) ≤ (j : Int) := Int.natCast_nonneg _
            clear HQ2 hp
            obtain ⟨F3, Hr, Sr⟩ := HR.out
            obtain ⟨a, cap, c9, hrow, hle, hcap, fz⟩ := wayRow Hr
            have hBj := HBC.out.steps j
            have hsd := stepsQ_done dc j
            have hnxt : stepsQ dc (j + 1) = stepQ (stepsQ dc j) := rfl
            by_cases hq : j < 400 ∧ (stepsQ dc j).way ≠ []
            · obtain ⟨hlt4, hne⟩ := hq
              have j1 : (j : Int) < 400 := by omega
              generalize stepsQ dc j = dj at *
              obtain ⟨m, l, hml⟩ : ∃ m l, dj.way = m :: l := by
                cases hw : dj.way with
                | nil => exact absurd hw hne
                | cons m l => exact ⟨m, l, rfl⟩
              have hnx2 : stepQ dj = collectM (recvW { dj with way := l } m) := by unfold stepQ; rw [hml]
              rw [hnx2] at hnxt
              have hmin := hBj.ways m (by rw [hml]; exact List.mem_cons_self ..)
              have hlen := hBj.len
              have hBc : WdB (104000 + j) (165000000 + 3 * j) 0 { dj with way := l } := hBj.cut (by rw [hml, List.length_cons] at hlen; omega) (fun x hx => by rw [hml]; exact List.mem_cons_of_mem _ hx)
              rw [hml, List.length_cons] at c9 hrow hle hlen
              obtain ⟨g, off, cap2, hv, -, -⟩ := RowAt.addr hrow (by omega)
              cases hv
              have hcell : ∀ x y, m.cells[x]? = some y → wr.cell? ⟨g, off + x, none⟩ = some y := fun x y hxy => RowAt.cellAt hrow x y (by rw [List.flatMap_cons, List.getElem?_append_left (List.getElem?_eq_some_iff.1 hxy).1]; exact hxy)
              have b0 := hcell 0 _ rfl
              have b1 := hcell 1 _ rfl
              have b2 := hcell 2 _ rfl
              have b3 := hcell 3 _ rfl
              have b4 := hcell 4 _ rfl
              have b5 := hcell 5 _ rfl
              have b6 := hcell 6 _ rfl
              have b7 := hcell 7 _ rfl
              rw [Nat.add_zero] at b0
              have hl0 : (0 : Int) < (l.length : Int) + 1 := by omega
              have HNXT := Lib.hid hnxt
              have HMIN := Lib.hid hmin
              have HLEN := Lib.hid hlen
              have HBJ := Lib.hid hBc
              have HSR := Lib.hid Sr
              have HHR := Lib.hid Hr
              have HLT4 := Lib.hid hlt4
              have HROW := Lib.hid hrow
              have hbl := Hr.lt.1
              clear hcell hnxt hnx2 hmin hBc hBj hsd Sr hlt4 hml hne hj HR hrow Hr
              unfold maxLen at hcap
              go_upto_region 12 with fail
              have hbm := alloc_block wr (.cells #[.int .i64 m.kind, .int .i64 m.frm, .int .i64 m.dst, .string m.page, .int .i64 m.epoch, .int .i64 m.index, .int .i64 m.count, .string m.data] 39)
              have hc1 := Chg.alloc (fun _ => False) wr (.cells #[.int .i64 m.kind, .int .i64 m.frm, .int .i64 m.dst, .string m.page, .int .i64 m.epoch, .int .i64 m.index, .int .i64 m.count, .string m.data] 39)
              generalize hmb : wr.heap.size = mb at *
              generalize wr.alloc (.cells #[.int .i64 m.kind, .int .i64 m.frm, .int .i64 m.dst, .string m.page, .int .i64 m.epoch, .int .i64 m.index, .int .i64 m.count, .string m.data] 39) = w1 at *
              have d9 := hc1.cell c9
              have hmb1 := lt_of_block hbm
              have hrs := fun W => run_reslS (P := Try.prog) W 24 39 8 Try.underlying24 (Try.sizeOf39 W) (some ⟨g, off, none⟩) (l.length + 1) cap 1 (by omega) (by omega)
              have hA := RowAt.freshAt w1 39 8 w1.heap.size rfl
              have hcA := Chg.alloc (fun _ => False) w1 (.cells #[] 39)
              have hrow1 := (((HROW.out.chg hc1 (fun _ _ x => x)).suffix (d := 1) (by omega)).chg hcA (fun _ _ x => x))
              rw [cells_drop, Nat.add_sub_cancel] at hrow1
              rw [show ((1 : Int)).toNat = 1 from rfl] at hrs
              have hca1 := hc1.trans' hcA
              have d9a := hcA.cell d9
              have hbma := hcA.keep hbm (fun x => x)
              have HA := Lib.hid hA
              have HR1 := Lib.hid hrow1
              have HE := Lib.hid elem_msg
              have HCA := Lib.hid hca1
              have C9 := Lib.hid c9
              have HBM := Lib.hid hbma
              generalize hres : reslS 8 (some ⟨g, off, none⟩) (l.length + 1) cap 1 = vr at *
              clear hA hrow1 hca1 hbma hcA c9 hc1 d9 hbm hres b0 b1 b2 b3 b4 b5 b6 b7 hle
              go_upto_region 13 with (first
                | (at_builtin; refine list_append_rows rfl (.tmp 44) (.tmp 49) 24 rfl 39 8 80 Try.underlying24 HE.out (by decide) _ 0 [] (by rfl) HA.out _ l.length (l.flatMap Msg.cells) (by rfl) HR1.out (msg_ones _) (by have := HLEN.out; unfold maxLen; omega) (by have := HLEN.out; omega) ?_; intro a2 n2 c2 w2 hrow2 hch2 hold2; have hc2 := HCA.out.fresh hch2 (own_at (by have := HCA.out.size; omega)); have e9 := hc2.cell C9.out; obtain ⟨_, _, _, _, _, _, fz2⟩ := wayRow (HHR.out.still hc2); have hbm2 := hch2.keep HBM.out (own_at (B := mb + 1) (by omega) mb · |> fun h => by omega); have HC2 := Lib.hid hc2; have HR2 := Lib.hid hrow2; have HO2 := Lib.hid hold2; have HB2 := Lib.hid hbm2; clear hrow2 hch2 hold2 hc2 hbm2))
              have hr2 := HR2.out
              rw [List.nil_append, Nat.zero_add] at hr2
              have hpost := wayNew HHR.out HC2.out hr2 (own_ge HO2.out (own_at (by have := HCA.out.size; omega)) (by have := HCA.out.size; omega))
              have hbe : b ≠ mb := by omega
              obtain ⟨F4, H4, S4⟩ := hpost
              have hbm3 := setCell_other (b := b) (i := 9) (.slice a2 n2 c2) HB2.out (fun e => hbe e.symm)
              have HN4 := Lib.hid (HSR.out.trans S4)
              clear hr2 S4 HR2 HO2 HB2 HC2 HA HR1 HBM C9 HHR e9 fz2 d9a HSR fz hrs hbl hmb1 HROW
              generalize w2.setCell ⟨b, 9, none⟩ (.slice a2 n2 c2) = w3 at *
              have m0 : w3.cell? ⟨mb, 0, none⟩ = some (.int .i64 m.kind) := cell_of_block (i := 0) hbm3 rfl
              have m1 : w3.cell? ⟨mb, 1, none⟩ = some (.int .i64 m.frm) := cell_of_block (i := 1) hbm3 rfl
              have m2 : w3.cell? ⟨mb, 2, none⟩ = some (.int .i64 m.dst) := cell_of_block (i := 2) hbm3 rfl
              have m3 : w3.cell? ⟨mb, 3, none⟩ = some (.string m.page) := cell_of_block (i := 3) hbm3 rfl
              have m4 : w3.cell? ⟨mb, 4, none⟩ = some (.int .i64 m.epoch) := cell_of_block (i := 4) hbm3 rfl
              have m5 : w3.cell? ⟨mb, 5, none⟩ = some (.int .i64 m.index) := cell_of_block (i := 5) hbm3 rfl
              have m6 : w3.cell? ⟨mb, 6, none⟩ = some (.int .i64 m.count) := cell_of_block (i := 6) hbm3 rfl
              have m7 : w3.cell? ⟨mb, 7, none⟩ = some (.string m.data) := cell_of_block (i := 7) hbm3 rfl
              have hBl := HBJ.out
              have hnx := HNXT.out
              generalize ({ dj with way := l } : Wd) = dl at *
              clear hbm3 HBJ HNXT HLEN
              by_cases hd : 0 ≤ m.dst ∧ m.dst < 3
              · have hrv : recvW dl m = dl.put m.dst.toNat (receiveM (dl.host m.dst.toNat) m) := by unfold recvW; rw [if_pos hd]
                have hBr := hBl.recv HMIN.out
                rw [hrv] at hnx hBr
                obtain ⟨G5, HS, -, hback⟩ := wdHost H4.drew m.dst.toNat (by omega)
                have hrc := receive_any w3.drew b (m.dst.toNat * 3) _ G5 m HS (by have := HMIN.out.page; omega) (by have := HMIN.out.data; omega) ((hBl.host _).ok (by have := HLT4.out; omega) (by omega))
                unfold Msg.cells at hrc
                have HRC := Lib.hid hrc
                have HBK := Lib.hid hback
                have HNX3 := Lib.hid hnx
                have HBR := Lib.hid hBr
                obtain ⟨hd1, hd2⟩ := hd
                clear hrc hback hnx hBr hBl hrv HS H4
                go_wp2_with fail
                go_still_tail 7, (by kernel_rfl)
                change wpList _ _ _ _ _ w3.drew
                go_wp2_with fail
                refine HRC.out.mono ?_
                rintro e w4 ⟨rfl, hp4⟩
                obtain ⟨F5, H5, S5⟩ := (HBK.out _ _ hp4).1
                have HN5 := Lib.hid (HN4.out.drewR.trans S5)
                have hcl := collect_any w4 b _ F5 H5 (HBR.out.collectOk (by have := HLT4.out; omega))
                rw [← HNX3.out] at hcl
                have HCL5 := Lib.hid hcl
                clear hcl hp4 H5 S5 HBK HRC HN4 m0 m1 m2 m3 m4 m5 m6 m7
                go_wp2_with fail
                refine HCL5.out.mono ?_
                rintro e w5 ⟨rfl, F6, H6, S6⟩
                have HQ6 : Hid (WdPost w b (stepsQ dc (j + 1)) F w5) := Lib.hid ⟨F6, H6, HN5.out.trans S6⟩
                clear H6 S6 HCL5
                go_wp2_with fail
                go_roundw
                case rel => exact ⟨j + 1, by have := HLT4.out; omega, by go_num, HQ6.out⟩
                case measure => have := HLT4.out; simp [intOf]; omega
              · have hrv : recvW dl m = dl := by unfold recvW; rw [if_neg hd]
                rw [hrv] at hnx
                have hcl := collect_any w3 b _ F4 H4 (hBl.collectOk (by have := HLT4.out; omega))
                rw [← hnx] at hcl
                have HCL5 := Lib.hid hcl
                clear hcl hrv hnx H4 hBl
                by_cases hd1 : 0 ≤ m.dst
                · have hd2 : ¬ m.dst < 3 := fun x => hd ⟨hd1, x⟩
                  clear hd
                  go_wp2_with fail
                  refine HCL5.out.mono ?_
                  rintro e w5 ⟨rfl, F6, H6, S6⟩
                  have HQ6 : Hid (WdPost w b (stepsQ dc (j + 1)) F w5) := Lib.hid ⟨F6, H6, HN4.out.trans S6⟩
                  clear H6 S6 HCL5 m0 m1 m2 m3 m4 m5 m6 m7
                  go_wp2_with fail
                  go_roundw
                  case rel => exact ⟨j + 1, by have := HLT4.out; omega, by go_num, HQ6.out⟩
                  case measure => have := HLT4.out; simp [intOf]; omega
                · clear hd
                  go_wp2_with fail
                  refine HCL5.out.mono ?_
                  rintro e w5 ⟨rfl, F6, H6, S6⟩
                  have HQ6 : Hid (WdPost w b (stepsQ dc (j + 1)) F w5) := Lib.hid ⟨F6, H6, HN4.out.trans S6⟩
                  clear H6 S6 HCL5 m0 m1 m2 m3 m4 m5 m6 m7
                  go_wp2_with fail
                  go_roundw
                  case rel => exact ⟨j + 1, by have := HLT4.out; omega, by go_num, HQ6.out⟩
                  case measure => have := HLT4.out; simp [intOf]; omega
            · have hend : WdPost w b (quietM d (i + 1)) F wr := by
                rw [HNX2.out]
                by_cases h4 : j < 400
                · have hw : (stepsQ dc j).way = [] := Classical.byContradiction fun x => hq ⟨h4, x⟩
                  have := hsd hw (400 - j)
                  rw [show j + (400 - j) = 400 by omega] at this
                  rw [this]
                  exact HR.out
                · rw [show 400 = j by omega]
                  exact HR.out
              have HEND := Lib.hid hend
              by_cases h4 : j < 400
              · have hw : (stepsQ dc j).way = [] := Classical.byContradiction fun x => hq ⟨h4, x⟩
                rw [hw] at c9
                have j1 : (j : Int) < 400 := by omega
                simp only [List.length_nil] at c9
                clear hend hq hsd hnxt hBj hrow hle hcap fz Hr Sr HR hw
                go_wp2_with fail
                go_roundw
                case rel => exact ⟨i + 1, HLT.out, by go_num, HEND.out⟩
                case measure => have := HLT.out; simp [intOf]; omega
              · have j1 : ¬ (j : Int) < 400 := by omega
                clear hend hq hsd hnxt hBj hrow hle hcap fz Hr Sr HR c9
                go_wp2_with fail
                go_roundw
                case rel => exact ⟨i + 1, HLT.out, by go_num, HEND.out⟩
                case measure => have := HLT.out; simp [intOf]; omega
    · have hir : i = r := by omega
      subst hir
      clear hlt hi HBI
      go_wp2_with fail
      go_end0
      exact ⟨rfl, HP.out⟩
end Go.Proofs.Ytkoopagjjmdodaa
