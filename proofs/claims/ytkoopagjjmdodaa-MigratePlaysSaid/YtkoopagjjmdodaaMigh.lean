/-
  The fixed example of the laws of layer 54.
-/
import Derived.Test.YtkoopagjjmdodaaMigg
namespace Go.Proofs.Ytkoopagjjmdodaa
open Go.RowKit
set_option linter.unusedVariables false

def newHost (id : Int) : Host := ⟨id, [], []⟩
theorem newHost_own (w : World) (id : Int) : hostR.own w [.int .i64 id, .slice none 0 0, .slice none 0 0] (newHost id) [] :=
  ⟨_, _, [], [], rfl, ⟨_, [], [], rfl, RowAt.nil _ _ _, .nil, rfl⟩, row_flat.2 ⟨_, rfl, RowAt.nil _ _ _, rfl⟩, rfl⟩
theorem HostPost.own {w0 w w' : World} {b o : Nat} {h h' : Host} {F : List Nat} (H : Own hostR w0 w b o h F) (hp : HostPost w b o h' F w') : ∃ F', Own hostR w0 w' b o h' F' := by
  obtain ⟨F', h1, h2⟩ := hp
  exact ⟨F', H.step h1 h2⟩
theorem findS_self (page : ByteArray) (s : Seat) (l : List Seat) (hs : s.page = page) : findS page (s :: l) 0 = some 0 := by simp [findS, hs]
theorem startM_new (id : Int) (page : ByteArray) (h : 1 ≤ page.size ∧ page.size ≤ 200) : startM (newHost id) page = (0, ⟨id, [newSeat page], []⟩) := by
  unfold startM; rw [if_neg (by simpa using h), if_neg (by simp [newHost, findS])]; rfl
theorem startM_bad (id : Int) (page : ByteArray) (h : ¬ (1 ≤ page.size ∧ page.size ≤ 200)) : startM (newHost id) page = (1, newHost id) := by
  unfold startM; rw [if_pos h]
def gaveSeat (page letter : ByteArray) (dst : Int) : Seat := { newSeat page with state := 2, epoch := 2, peer := dst, letter := letter }
def offered (id : Int) (page letter : ByteArray) (dst : Int) : List Msg := [⟨1, id, dst, page, 2, 0, 1, ⟨#[]⟩⟩, ⟨2, id, dst, page, 2, 0, 1, letter⟩]
/-- Hand on a machine with one seat that runs in epoch 1; a short letter. -/
theorem hand_new (w0 w : World) (b : Nat) (id : Int) (page letter : ByteArray) (dst : Int) (F : List Nat) (hl : letter.size ≤ 1000) (ht : ¬ dst < 0) (ht2 : dst ≠ id) (H : Own hostR w0 w b 0 ⟨id, [newSeat page], []⟩ F) :
    Calls Try.prog 12 #[.pointer (some ⟨b, 0, none⟩), .string page, .string letter, .int .i64 dst] w fun e' w' => e' = .returned (.int .i64 0) ∧ ∃ F', Own hostR w0 w' b 0 ⟨id, [gaveSeat page letter dst], offered id page letter dst⟩ F' := by
  refine (hand_ok w b 0 ⟨id, [newSeat page], []⟩ F page letter dst 0 (by simp) (findS_self page _ _ rfl) rfl ht ht2 (by omega) ⟨by show (-1000000000 : Int) < 1; omega, by show (1 : Int) < 1000000000; omega⟩ H.here ⟨by show 0 + 20000 < 1000000000; omega⟩).mono ?_
  rintro e w' ⟨rfl, hp⟩
  refine ⟨rfl, ?_⟩
  have := hp.own H
  rw [partsL_small (by omega)] at this
  exact this

set_option maxHeartbeats 800000 in
set_option maxRecDepth 100000 in
theorem awake_any (w : World) : Calls Try.prog 10 #[] w fun e w' => e = .returned (.bool true) ∧ Chg (fun _ => False) w w' := by
  go_enter Try.func10, Try.ntmps10
  go_wp2_with fail
  refine (new_any 1 w).mono ?_
  rintro e w1 ⟨rfl, hc1⟩
  rw [show (if (1 : Int) < 0 then (0 : Int) else 1) = 1 from rfl, show (if (1 : Int) < 0 then (1 : Int) else 0) = 0 from rfl]
  have H1 := (Own.made (A := hostR) w1 26 _ (newHost 1) (newHost_own w1 1)).from hc1
  go_wp2_with fail
  refine (start_any _ w1.heap.size 0 (newHost 1) [] ⟨#[112]⟩ H1.here (by decide) ⟨by decide⟩).mono ?_
  rintro e w2 ⟨rfl, hp2⟩
  rw [startM_new 1 ⟨#[112]⟩ (by decide)] at hp2 ⊢
  obtain ⟨F2, H2⟩ := hp2.own H1
  go_wp2_with fail
  refine (hand_new w w2 w1.heap.size 1 ⟨#[112]⟩ ⟨#[97, 98, 99]⟩ 2 F2 (by decide) (by decide) (by decide) H2).mono ?_
  rintro e w3 ⟨rfl, F3, H3⟩
  go_wp2_with fail
  refine (send_any w3 w1.heap.size 0 _ F3 H3.here).mono ?_
  rintro e w4 ⟨v, F4, G, rfl, h4, hs4, hown4, -⟩
  have H4 := H3.step h4 hs4
  obtain ⟨xs, Fs, hopen⟩ := Rep.opened hown4
  obtain ⟨g, off, cap, rfl, _, _, _, _, hat⟩ := hopen.at (by decide)
  obtain ⟨x0, G0, hx0, _, hc0⟩ := hat 0 (by decide)
  obtain ⟨x1, G1, hx1, _, hc1'⟩ := hat 1 (by decide)
  obtain ⟨rfl, _⟩ := hx0
  obtain ⟨rfl, _⟩ := hx1
  have c0 : w4.cell? ⟨g, off + 0 + 4, none⟩ = some (.int .i64 2) := hc0 4 _ rfl
  rw [Nat.add_zero] at c0
  have c1 : w4.cell? ⟨g, off + 8 + 7, none⟩ = some (.string ⟨#[97, 98, 99]⟩) := hc1' 7 _ rfl
  clear hat hc0 hc1'
  simp only [offered, List.length_cons, List.length_nil]
  go_wp2_with fail
  go_ret
  exact ⟨rfl, H4.chg⟩
end Go.Proofs.Ytkoopagjjmdodaa
