/-
  The machine of layer 54 as one page sees it.
-/
import Derived.Test.YtkoopagjjmdodaaMrj
namespace Go.Proofs.Ytkoopagjjmdodaa
open Go.RowKit
set_option linter.unusedVariables false
set_option linter.unusedSimpArgs false

/-- The page's part of a machine: its seat is the last one, or there is none; the others run. -/
structure Sim (page : ByteArray) (h : Host) (id : Int) (pre : List Seat) (s : Option Seat) : Prop where
  id : h.id = id
  seats : h.seats = pre ++ s.toList
  pre : ∀ x ∈ pre, (x.page.toList == page.toList) = false ∧ x.state = 1
  page : ∀ x, s = some x → x.page = page
theorem findS_append (page : ByteArray) : ∀ (pre l : List Seat) (k : Nat), (∀ x ∈ pre, (x.page.toList == page.toList) = false) → findS page (pre ++ l) k = findS page l (k + pre.length)
  | [], l, k, _ => rfl
  | x :: pre, l, k, h => by
    rw [List.cons_append, findS, if_neg (by rw [h x (List.mem_cons_self ..)]; decide), findS_append page pre l (k + 1) (fun y hy => h y (List.mem_cons_of_mem _ hy)), List.length_cons]
    congr 1
    omega
theorem Sim.find {page : ByteArray} {h : Host} {id : Int} {pre : List Seat} {s : Option Seat} (H : Sim page h id pre s) : findS page h.seats 0 = s.map fun _ => pre.length := by
  rw [H.seats, findS_append page pre _ 0 (fun x hx => (H.pre x hx).1)]
  cases s with
  | none => rfl
  | some x =>
    show findS page [x] _ = _
    rw [findS, if_pos (by rw [H.page x rfl]; simp)]
    simp
theorem Sim.get {page : ByteArray} {h : Host} {id : Int} {pre : List Seat} {x d : Seat} (H : Sim page h id pre (some x)) : h.seats.getD pre.length d = x := by
  rw [H.seats]
  simp [List.getD_eq_getElem?_getD]
theorem Sim.put {page : ByteArray} {h : Host} {id : Int} {pre : List Seat} {x y : Seat} {out : List Msg} (H : Sim page h id pre (some x)) (hy : y.page = page) : Sim page { h with seats := h.seats.set pre.length y, out := out } id pre (some y) :=
  ⟨H.id, by show h.seats.set _ _ = _; rw [H.seats]; simp, H.pre, fun z hz => by cases hz; exact hy⟩
theorem Sim.out {page : ByteArray} {h : Host} {id : Int} {pre : List Seat} {s : Option Seat} (out : List Msg) (H : Sim page h id pre s) : Sim page { h with out := out } id pre s := ⟨H.id, H.seats, H.pre, H.page⟩
theorem Sim.push {page : ByteArray} {h : Host} {id : Int} {pre : List Seat} {y : Seat} {out : List Msg} (H : Sim page h id pre none) (hy : y.page = page) : Sim page { h with seats := h.seats ++ [y], out := out } id pre (some y) :=
  ⟨H.id, by show h.seats ++ [y] = _; rw [H.seats]; simp, H.pre, fun z hz => by cases hz; exact hy⟩

def ansP (id : Int) (m : Msg) (kd : Int) : Msg := ⟨kd, id, m.frm, m.page, m.epoch, 0, 0, ⟨#[]⟩⟩
def askedP (s : Option Seat) (m : Msg) : Int := match s with | none => 0 | some x => knownM x m.epoch
def cancelP (id : Int) (s : Option Seat) (m : Msg) : Option Seat × List Msg :=
  match s with
  | none => (some { blankSeat m.page with refuses := [m.epoch] }, [ansP id m 6])
  | some x => if (freeM x || fromB x m) = true then (some (refuseS x m.epoch), [ansP id m 6]) else (some x, [])
def partP (id : Int) (x : Seat) (m : Msg) : Option Seat × List Msg :=
  if partB x m = true then
    if (gotS x m).have_.contains false = true then (some (gotS x m), []) else (some { resetS (gotS x m) 1 m.epoch with letter := joinL (gotS x m).parts }, [ansP id m 4])
  else (some x, [])
def acceptP (id : Int) (s : Option Seat) (m : Msg) : Option Seat × List Msg :=
  match s with
  | none => partP id (recvS (blankSeat m.page) m) m
  | some x => if freeM x = true then partP id (recvS x m) m else partP id x m
def needP (id : Int) (s : Option Seat) (m : Msg) : List Msg :=
  match s with
  | none => []
  | some x => if (x.state == 2 && x.epoch == m.epoch && x.peer == m.frm) = true ∧ m.index.toNat < (partsL x.letter).length then [⟨2, id, x.peer, x.page, x.epoch, m.index, (partsL x.letter).length, (partsL x.letter).getD m.index.toNat ⟨#[]⟩⟩] else []
def recvP (id : Int) (s : Option Seat) (m : Msg) : Option Seat × List Msg :=
  if formedB m = false ∨ m.dst ≠ id then (s, [])
  else if m.kind = 1 ∨ m.kind = 2 ∨ m.kind = 5 then
    if askedP s m ≠ 0 then (s, [ansP id m (askedP s m)])
    else if m.kind = 5 then cancelP id s m else acceptP id s m
  else if m.kind = 3 then (s, needP id s m) else (s.map fun x => settleM x m, [])

theorem settleM_page (s : Seat) (m : Msg) : (settleM s m).page = s.page := by
  unfold settleM
  split
  · split
    · rfl
    · rfl
  · rfl
theorem refuseS_page (s : Seat) (e : Int) : (refuseS s e).page = s.page := by unfold refuseS; split <;> rfl
section
variable {page : ByteArray} {h : Host} {id : Int} {pre : List Seat} {s : Option Seat} {m : Msg}
theorem part_sim {x : Seat} (H : Sim page h id pre (some x)) (hm : m.page = page) : Sim page (partM h pre.length m) id pre (partP id x m).1 ∧ (partM h pre.length m).out = h.out ++ (partP id x m).2 := by
  obtain rfl := H.id
  unfold partM partP
  rw [H.get]
  split
  · split
    · exact ⟨H.put (H.page x rfl), by simp⟩
    · exact ⟨H.put (H.page x rfl), rfl⟩
  · exact ⟨H, by simp⟩
theorem accept_sim (H : Sim page h id pre s) (hm : m.page = page) : Sim page (acceptM h m) id pre (acceptP id s m).1 ∧ (acceptM h m).out = h.out ++ (acceptP id s m).2 := by
  obtain rfl := H.id
  unfold acceptM acceptP
  rw [hm, H.find]
  cases s with
  | none =>
    have hl : h.seats.length = pre.length := by rw [H.seats]; simp
    simp only [Option.map_none]
    rw [hl]
    exact part_sim (h := { h with seats := h.seats ++ [recvS (blankSeat page) m] }) (H.push rfl) hm
  | some x =>
    simp only [Option.map_some]
    rw [H.get]
    split
    · exact part_sim (h := { h with seats := h.seats.set pre.length (recvS x m) }) (H.put (H.page x rfl)) hm
    · exact part_sim H hm
theorem cancel_sim (H : Sim page h id pre s) (hm : m.page = page) : Sim page (cancelM h m) id pre (cancelP id s m).1 ∧ (cancelM h m).out = h.out ++ (cancelP id s m).2 := by
  obtain rfl := H.id
  unfold cancelM cancelP
  rw [hm, H.find]
  cases s with
  | none =>
    simp only [Option.map_none]
    exact ⟨H.push rfl, rfl⟩
  | some x =>
    simp only [Option.map_some]
    rw [H.get]
    split
    · exact ⟨H.put ((refuseS_page x m.epoch).trans (H.page x rfl)), rfl⟩
    · exact ⟨H, by simp⟩
theorem need_sim (H : Sim page h id pre s) (hm : m.page = page) : Sim page (needM h m) id pre s ∧ (needM h m).out = h.out ++ needP id s m := by
  obtain rfl := H.id
  unfold needM needP
  rw [hm, H.find]
  cases s with
  | none => exact ⟨H, by simp⟩
  | some x =>
    simp only [Option.map_some]
    rw [H.get]
    split
    · exact ⟨H.out _, rfl⟩
    · exact ⟨H, by simp⟩
theorem settle_sim (H : Sim page h id pre s) (hm : m.page = page) : Sim page (settledM h m) id pre (s.map fun x => settleM x m) ∧ (settledM h m).out = h.out := by
  unfold settledM
  rw [hm, H.find]
  cases s with
  | none => exact ⟨H, rfl⟩
  | some x =>
    simp only [Option.map_some]
    rw [H.get]
    exact ⟨H.put (out := h.out) ((settleM_page x m).trans (H.page x rfl)), trivial⟩
/-- A message of the page. -/
theorem recv_sim (H : Sim page h id pre s) (hm : m.page = page) : Sim page (receiveM h m) id pre (recvP id s m).1 ∧ (receiveM h m).out = h.out ++ (recvP id s m).2 := by
  obtain rfl := H.id
  unfold receiveM recvP
  have ha : askedM h m = askedP s m := by
    unfold askedM askedP
    rw [hm, H.find]
    cases s with
    | none => rfl
    | some x => simp only [Option.map_some]; rw [H.get]
  rw [ha]
  split
  · exact ⟨H, by simp⟩
  · split
    · split
      · exact ⟨H.out _, rfl⟩
      · split
        · exact cancel_sim H hm
        · exact accept_sim H hm
    · split
      · exact need_sim H hm
      · exact ⟨(settle_sim H hm).1, by rw [(settle_sim H hm).2]; simp⟩
theorem tick_pre (id : Int) : ∀ pre : List Seat, (∀ x ∈ pre, x.state = 1) → pre.flatMap (tickS id) = []
  | [], _ => rfl
  | x :: l, h => by
    rw [List.flatMap_cons, tick_pre id l (fun y hy => h y (List.mem_cons_of_mem _ hy))]
    unfold tickS
    rw [h x (List.mem_cons_self ..)]
    rfl
theorem tick_sim (H : Sim page h id pre s) : Sim page (tickM h) id pre s ∧ (tickM h).out = h.out ++ s.toList.flatMap (tickS id) := by
  refine ⟨H.out _, ?_⟩
  show h.out ++ h.seats.flatMap (tickS h.id) = _
  rw [H.seats, H.id, List.flatMap_append, tick_pre id pre (fun x hx => (H.pre x hx).2), List.nil_append]
theorem runs_sim (H : Sim page h id pre s) : runsM h page = match s with | none => (0, false) | some x => if x.state = 1 then (x.epoch, true) else (0, false) := by
  unfold runsM
  rw [H.find]
  cases s with
  | none => rfl
  | some x => simp only [Option.map_some]; rw [H.get]
theorem letter_sim (H : Sim page h id pre s) : letterM h page = match s with | none => (⟨#[]⟩, false) | some x => if x.state = 1 ∧ 1 < x.epoch then (x.letter, true) else (⟨#[]⟩, false) := by
  unfold letterM
  rw [H.find]
  cases s with
  | none => rfl
  | some x => simp only [Option.map_some]; rw [H.get]
theorem withdraw_sim {x : Seat} (H : Sim page h id pre (some x)) : (x.state ≠ 2 → withdrawM h page = (7, h)) ∧ (x.state = 2 → (withdrawM h page).1 = 0 ∧ Sim page (withdrawM h page).2 id pre (some { x with state := 3 }) ∧ (withdrawM h page).2.out = h.out ++ [cancelMsg id x]) := by
  unfold withdrawM
  rw [H.find]
  simp only [Option.map_some]
  rw [H.get]
  refine ⟨fun hs => by rw [if_pos hs], fun hs => ?_⟩
  rw [if_neg (by omega)]
  refine ⟨rfl, H.put (H.page x rfl), ?_⟩
  show _ = _ ++ [cancelMsg id x]
  unfold cancelMsg
  rw [H.id]
theorem hand_sim {x : Seat} {letter : ByteArray} {dst : Int} (H : Sim page h id pre (some x)) (h1 : x.state = 1) (h2 : ¬ dst < 0) (h3 : dst ≠ id) (h4 : letter.size ≤ 16777216) :
    (handM h page letter dst).1 = 0 ∧ Sim page (handM h page letter dst).2 id pre (some { x with state := 2, peer := dst, letter := letter, epoch := x.epoch + 1 }) ∧
      (handM h page letter dst).2.out = h.out ++ (offerMsg id { x with state := 2, peer := dst, letter := letter, epoch := x.epoch + 1 } (partsL letter).length :: partMsgs id { x with state := 2, peer := dst, letter := letter, epoch := x.epoch + 1 } (partsL letter).length (partsL letter) 0) := by
  unfold handM
  rw [H.find]
  simp only [Option.map_some]
  rw [H.get]
  rw [if_neg (by omega), if_neg (by rw [H.id]; omega), if_neg (by omega)]
  refine ⟨rfl, H.put (H.page x rfl), ?_⟩
  show _ = _
  rw [H.id]
end
end Go.Proofs.Ytkoopagjjmdodaa
