/-
  The protocol of layer 54 in the world of three machines: what the delivery of a message does.
  The protocol of layer 54 in the world of three machines: when everything is delivered, one machine has the page.
  The protocol of layer 54 in the world of three machines: three rounds of delivering everything decide where the page runs.
  The protocol of layer 54 in the world of three machines: three rounds decide where the page runs.
  The protocol of layer 54 in the world of three machines: a trip begins; a page is asked back; who runs it.
  The world at first, for the laws of layer 54 about one page.
-/
import Derived.Test.YtkoopagjjmdodaaPlc
import Derived.Test.YtkoopagjjmdodaaWlda
import Derived.Test.YtkoopagjjmdodaaPld
namespace Go.Proofs.Ytkoopagjjmdodaa
open Go.RowKit
set_option linter.unusedVariables false
set_option linter.unusedSimpArgs false
set_option linter.unusedSectionVars false

inductive SS where
  | off
  | can
  | gone
  | back
inductive RS where
  | fresh
  | recv (hv : List Bool)
  | run
  | ref
def SOk (t : Trip) (x : Seat) : SS → Prop
  | .off => t.Off x 2
  | .can => t.Off x 3
  | .gone => x.state = 5 ∧ x.epoch = t.e
  | .back => x.state = 1 ∧ x.epoch = t.e + 1
def ROk (t : Trip) (s : Option Seat) : RS → Prop
  | .fresh => t.Fresh s
  | .recv hv => ∃ x, s = some x ∧ t.Recv x hv ∧ hv.contains false = true
  | .run => ∃ x, s = some x ∧ t.Run x
  | .ref => ∃ x, s = some x ∧ t.Ref x
def MOk (t : Trip) (σ : SS) (ρ : RS) (m : Msg) : Prop :=
  m = t.offer ∨ (∃ i, i < t.L.length ∧ m = t.part i) ∨ (∃ i, i < t.L.length ∧ m = t.need i) ∨ (m = t.taken ∧ ρ = .run) ∨ (m = t.cancel ∧ σ ≠ .off) ∨ (m = t.refused ∧ ρ = .ref)
/-- How machines and messages hang together. -/
structure Link (wdr : Prop) (σ : SS) (ρ : RS) : Prop where
  gone : σ = .gone → ρ = .run
  back : σ = .back → ρ = .ref
  ref : ρ = .ref → σ ≠ .off
  wdr : σ = .can ∨ σ = .back ∨ ρ = .ref → wdr
/-- The first delivery of a message: what it does to the two machines, and what is sent. -/
inductive Tr (t : Trip) : SS → RS → Msg → SS → RS → List Msg → Prop
  | offerFresh (σ) : Tr t σ .fresh t.offer σ (.recv (List.replicate t.L.length false)) []
  | offerRecv (σ hv) : Tr t σ (.recv hv) t.offer σ (.recv hv) []
  | partHave (σ hv i) (hi : i < t.L.length) (h : hv[i]? = some true) : Tr t σ (.recv hv) (t.part i) σ (.recv hv) []
  | partSet (σ hv i) (hi : i < t.L.length) (hl : hv.length = t.L.length) : Tr t σ (.recv hv) (t.part i) σ (.recv (hv.set i true)) []
  | partFirst (σ i) (hi : i < t.L.length) : Tr t σ .fresh (t.part i) σ (.recv ((List.replicate t.L.length false).set i true)) []
  | partDone (σ hv i) (hi : i < t.L.length) : Tr t σ (.recv hv) (t.part i) σ .run [t.taken]
  | partOnly (σ i) (hi : i < t.L.length) : Tr t σ .fresh (t.part i) σ .run [t.taken]
  | run (σ m) (hm : m = t.offer ∨ (∃ i, i < t.L.length ∧ m = t.part i) ∨ m = t.cancel) : Tr t σ .run m σ .run [t.taken]
  | ref (σ m) (hm : m = t.offer ∨ (∃ i, i < t.L.length ∧ m = t.part i) ∨ m = t.cancel) : Tr t σ .ref m σ .ref [t.refused]
  | cancelFresh (σ) : Tr t σ .fresh t.cancel σ .ref [t.refused]
  | cancelRecv (σ hv) : Tr t σ (.recv hv) t.cancel σ .ref [t.refused]
  | need (ρ i) (hi : i < t.L.length) : Tr t .off ρ (t.need i) .off ρ [t.part i]
  | needNo (σ ρ i) (hi : i < t.L.length) (hs : σ ≠ .off) : Tr t σ ρ (t.need i) σ ρ []
  | taken (σ) (hs : σ = .off ∨ σ = .can) : Tr t σ .run t.taken .gone .run []
  | takenNo (σ) (hs : σ = .gone ∨ σ = .back) : Tr t σ .run t.taken σ .run []
  | refused (σ) (hs : σ = .off ∨ σ = .can) : Tr t σ .ref t.refused .back .ref []
  | refusedNo (σ) (hs : σ = .gone ∨ σ = .back) : Tr t σ .ref t.refused σ .ref []
/-- What goes to the receiver. -/
theorem tr_recv {t : Trip} (T : t.Ok) {σ : SS} {ρ : RS} {s : Option Seat} {m : Msg} (R : ROk t s ρ) (hm : m = t.offer ∨ (∃ i, i < t.L.length ∧ m = t.part i) ∨ m = t.cancel) :
    ∃ ρ', ROk t (recvP t.b s m).1 ρ' ∧ Tr t σ ρ m σ ρ' (recvP t.b s m).2 := by
  cases ρ with
  | fresh =>
    rcases hm with rfl | ⟨i, hi, rfl⟩ | rfl
    · obtain ⟨y, e, h⟩ := T.freshOffer R
      rw [e]
      refine ⟨.recv _, ⟨y, rfl, h, ?_⟩, .offerFresh σ⟩
      rw [List.contains_iff_mem, List.mem_replicate]
      exact ⟨by have := t.pos; omega, rfl⟩
    · obtain ⟨y, h, e⟩ := T.freshPart R hi
      rw [e]
      rcases h.part hi with ⟨-, c⟩ | ⟨-, z, ⟨c1, c2, c3⟩ | ⟨c1, c2, -⟩⟩
      · rw [List.getElem?_replicate, if_pos hi] at c
        cases c
      · rw [c1]
        exact ⟨.recv _, ⟨z, rfl, c2, c3⟩, .partFirst σ i hi⟩
      · rw [c1]
        exact ⟨.run, ⟨z, rfl, c2⟩, .partOnly σ i hi⟩
    · obtain ⟨y, e, h⟩ := T.freshCancel R
      rw [e]
      exact ⟨.ref, ⟨y, rfl, h⟩, .cancelFresh σ⟩
  | recv hv =>
    obtain ⟨x, rfl, h, hc⟩ := R
    rcases hm with rfl | ⟨i, hi, rfl⟩ | rfl
    · rw [T.recvOffer h]
      exact ⟨.recv _, ⟨x, rfl, h, hc⟩, .offerRecv σ hv⟩
    · rw [T.recvPart h hi]
      rcases h.part hi with ⟨c1, c⟩ | ⟨-, z, ⟨c1, c2, c3⟩ | ⟨c1, c2, -⟩⟩
      · rw [c1]
        exact ⟨.recv _, ⟨x, rfl, h, hc⟩, .partHave σ hv i hi c⟩
      · rw [c1]
        exact ⟨.recv _, ⟨z, rfl, c2, c3⟩, .partSet σ hv i hi h.hlen⟩
      · rw [c1]
        exact ⟨.run, ⟨z, rfl, c2⟩, .partDone σ hv i hi⟩
    · obtain ⟨y, e, h2⟩ := T.recvCancel h
      rw [e]
      exact ⟨.ref, ⟨y, rfl, h2⟩, .cancelRecv σ hv⟩
  | run =>
    obtain ⟨x, rfl, h⟩ := R
    rw [T.runs h hm]
    exact ⟨.run, ⟨x, rfl, h⟩, .run σ m hm⟩
  | ref =>
    obtain ⟨x, rfl, h⟩ := R
    rw [T.refs h hm]
    exact ⟨.ref, ⟨x, rfl, h⟩, .ref σ m hm⟩
theorem SOk.not2 {t : Trip} {x : Seat} {σ : SS} (S : SOk t x σ) (h : σ ≠ .off) : x.state ≠ 2 := by
  cases σ with
  | off => exact absurd rfl h
  | can => have := (show t.Off x 3 from S).st; omega
  | gone => have := (show x.state = 5 ∧ _ from S).1; omega
  | back => have := (show x.state = 1 ∧ _ from S).1; omega
/-- What goes back to the sender. -/
theorem tr_send {t : Trip} (T : t.Ok) {wdr : Prop} {σ : SS} {ρ : RS} {x : Seat} {m : Msg} (S : SOk t x σ) (hl : Link wdr σ ρ) (hm : (∃ i, i < t.L.length ∧ m = t.need i) ∨ (m = t.taken ∧ ρ = .run) ∨ (m = t.refused ∧ ρ = .ref)) :
    ∃ σ' y, (recvP t.a (some x) m).1 = some y ∧ SOk t y σ' ∧ Tr t σ ρ m σ' ρ (recvP t.a (some x) m).2 := by
  rcases hm with ⟨i, hi, rfl⟩ | ⟨rfl, rfl⟩ | ⟨rfl, rfl⟩
  · cases σ with
    | off => rw [T.needed S hi]; exact ⟨.off, x, rfl, S, .need ρ i hi⟩
    | can => rw [T.unneeded (S.not2 (by simp)) hi]; exact ⟨.can, x, rfl, S, .needNo _ ρ i hi (by simp)⟩
    | gone => rw [T.unneeded (S.not2 (by simp)) hi]; exact ⟨.gone, x, rfl, S, .needNo _ ρ i hi (by simp)⟩
    | back => rw [T.unneeded (S.not2 (by simp)) hi]; exact ⟨.back, x, rfl, S, .needNo _ ρ i hi (by simp)⟩
  · rw [T.settled (.inl rfl)]
    cases σ with
    | off => rw [T.settle S (.inl rfl) rfl rfl, if_pos (show t.taken.kind = 4 from rfl)]; exact ⟨.gone, _, rfl, ⟨rfl, (show t.Off x 2 from S).ep⟩, .taken _ (.inl rfl)⟩
    | can => rw [T.settle S (.inr rfl) rfl rfl, if_pos (show t.taken.kind = 4 from rfl)]; exact ⟨.gone, _, rfl, ⟨rfl, (show t.Off x 3 from S).ep⟩, .taken _ (.inr rfl)⟩
    | gone =>
      obtain ⟨h1, h2⟩ := (show x.state = 5 ∧ x.epoch = t.e from S)
      rw [T.unsettle (by omega)]
      exact ⟨.gone, x, rfl, S, .takenNo _ (.inl rfl)⟩
    | back =>
      obtain ⟨h1, h2⟩ := (show x.state = 1 ∧ x.epoch = t.e + 1 from S)
      rw [T.unsettle (by omega)]
      exact ⟨.back, x, rfl, S, .takenNo _ (.inr rfl)⟩
  · rw [T.settled (.inr rfl)]
    cases σ with
    | off => rw [T.settle S (.inl rfl) rfl rfl, if_neg (show ¬ t.refused.kind = 4 by show ¬ (6 : Int) = 4; decide)]; exact ⟨.back, _, rfl, ⟨rfl, by show x.epoch + 1 = _; rw [(show t.Off x 2 from S).ep]⟩, .refused _ (.inl rfl)⟩
    | can => rw [T.settle S (.inr rfl) rfl rfl, if_neg (show ¬ t.refused.kind = 4 by show ¬ (6 : Int) = 4; decide)]; exact ⟨.back, _, rfl, ⟨rfl, by show x.epoch + 1 = _; rw [(show t.Off x 3 from S).ep]⟩, .refused _ (.inr rfl)⟩
    | gone =>
      obtain ⟨h1, h2⟩ := (show x.state = 5 ∧ x.epoch = t.e from S)
      rw [T.unsettle (by omega)]
      exact ⟨.gone, x, rfl, S, .refusedNo _ (.inl rfl)⟩
    | back =>
      obtain ⟨h1, h2⟩ := (show x.state = 1 ∧ x.epoch = t.e + 1 from S)
      rw [T.unsettle (by omega)]
      exact ⟨.back, x, rfl, S, .refusedNo _ (.inr rfl)⟩
/-- What holds of the messages holds behind the delivery of one. -/
theorem Tr.mok {t : Trip} {wdr : Prop} {σ σ' : SS} {ρ ρ' : RS} {m : Msg} {out : List Msg} (T : Tr t σ ρ m σ' ρ' out) (hl : Link wdr σ ρ) : (∀ x, MOk t σ ρ x → MOk t σ' ρ' x) ∧ ∀ x ∈ out, MOk t σ' ρ' x := by
  have h1 : ∀ {a b : RS} {τ : SS}, a ≠ .run → a ≠ .ref → ∀ x, MOk t τ a x → MOk t τ b x := fun ha hb x hx => by
    rcases hx with h | h | h | ⟨-, h⟩ | h | ⟨-, h⟩
    · exact .inl h
    · exact .inr (.inl h)
    · exact .inr (.inr (.inl h))
    · exact absurd h ha
    · exact .inr (.inr (.inr (.inr (.inl h))))
    · exact absurd h hb
  have h2 : ∀ {τ τ' : SS} {a : RS}, τ' ≠ .off → ∀ x, MOk t τ a x → MOk t τ' a x := fun ha x hx => by
    rcases hx with h | h | h | h | ⟨h, -⟩ | h
    · exact .inl h
    · exact .inr (.inl h)
    · exact .inr (.inr (.inl h))
    · exact .inr (.inr (.inr (.inl h)))
    · exact .inr (.inr (.inr (.inr (.inl ⟨h, ha⟩))))
    · exact .inr (.inr (.inr (.inr (.inr h))))
  have hn : ∀ {τ : SS} {a : RS}, ∀ x ∈ ([] : List Msg), MOk t τ a x := fun x hx => by cases hx
  have ht : ∀ {τ : SS}, ∀ x ∈ [t.taken], MOk t τ .run x := fun x hx => by
    rw [List.mem_singleton.1 hx]; exact .inr (.inr (.inr (.inl ⟨rfl, rfl⟩)))
  have hr : ∀ {τ : SS}, ∀ x ∈ [t.refused], MOk t τ .ref x := fun x hx => by
    rw [List.mem_singleton.1 hx]; exact .inr (.inr (.inr (.inr (.inr ⟨rfl, rfl⟩))))
  cases T with
  | offerFresh => exact ⟨h1 (by simp) (by simp), hn⟩
  | offerRecv => exact ⟨fun x h => h, hn⟩
  | partHave => exact ⟨fun x h => h, hn⟩
  | partSet => exact ⟨h1 (by simp) (by simp), hn⟩
  | partFirst => exact ⟨h1 (by simp) (by simp), hn⟩
  | partDone => exact ⟨h1 (by simp) (by simp), ht⟩
  | partOnly => exact ⟨h1 (by simp) (by simp), ht⟩
  | run => exact ⟨fun x h => h, ht⟩
  | ref => exact ⟨fun x h => h, hr⟩
  | cancelFresh => exact ⟨h1 (by simp) (by simp), hr⟩
  | cancelRecv => exact ⟨h1 (by simp) (by simp), hr⟩
  | need ρ i hi => exact ⟨fun x h => h, fun x hx => by rw [List.mem_singleton.1 hx]; exact .inr (.inl ⟨i, hi, rfl⟩)⟩
  | needNo => exact ⟨fun x h => h, hn⟩
  | taken => exact ⟨h2 (by simp), hn⟩
  | takenNo => exact ⟨fun x h => h, hn⟩
  | refused => exact ⟨h2 (by simp), hn⟩
  | refusedNo => exact ⟨fun x h => h, hn⟩
theorem Tr.link {t : Trip} {wdr : Prop} {σ σ' : SS} {ρ ρ' : RS} {m : Msg} {out : List Msg} (T : Tr t σ ρ m σ' ρ' out) (hl : Link wdr σ ρ) (hm : MOk t σ ρ m) (hw : m = t.cancel → wdr) : Link wdr σ' ρ' := by
  have hcan : m = t.cancel → σ ≠ .off := fun h => by
    subst h
    rcases hm with h | ⟨i, -, h⟩ | ⟨i, -, h⟩ | ⟨h, -⟩ | ⟨-, h⟩ | ⟨h, -⟩
    · exact absurd (congrArg Msg.kind h) (by show ¬ (5 : Int) = 1; decide)
    · exact absurd (congrArg Msg.kind h) (by show ¬ (5 : Int) = 2; decide)
    · exact absurd (congrArg Msg.kind h) (by show ¬ (5 : Int) = 3; decide)
    · exact absurd (congrArg Msg.kind h) (by show ¬ (5 : Int) = 4; decide)
    · exact h
    · exact absurd (congrArg Msg.kind h) (by show ¬ (5 : Int) = 6; decide)
  have hrun : ∀ {a b : RS}, a ≠ .run → a ≠ .ref → b ≠ .ref → Link wdr σ a → Link wdr σ b := fun ha hb hb2 hk =>
    ⟨fun h => absurd (hk.gone h) ha, fun h => absurd (hk.back h) hb, fun h => absurd h hb2, fun h => by
      rcases h with h | h | h
      · exact hk.wdr (.inl h)
      · exact hk.wdr (.inr (.inl h))
      · exact absurd h hb2⟩
  cases T with
  | offerFresh => exact hrun (by simp) (by simp) (by simp) hl
  | offerRecv => exact hl
  | partHave => exact hl
  | partSet => exact hrun (by simp) (by simp) (by simp) hl
  | partFirst => exact hrun (by simp) (by simp) (by simp) hl
  | partDone => exact hrun (by simp) (by simp) (by simp) hl
  | partOnly => exact hrun (by simp) (by simp) (by simp) hl
  | run => exact hl
  | ref => exact hl
  | cancelFresh => exact ⟨fun h => (by have := hl.gone h; cases this), fun _ => rfl, fun _ => hcan rfl, fun _ => hw rfl⟩
  | cancelRecv => exact ⟨fun h => (by have := hl.gone h; cases this), fun _ => rfl, fun _ => hcan rfl, fun _ => hw rfl⟩
  | need => exact hl
  | needNo => exact hl
  | taken => exact ⟨fun _ => rfl, fun h => (by cases h), fun h => (by cases h), fun h => (by rcases h with h | h | h <;> cases h)⟩
  | takenNo => exact hl
  | refused => exact ⟨fun h => (by cases h), fun _ => rfl, fun _ => (by simp), fun _ => hl.wdr (.inr (.inr rfl))⟩
  | refusedNo => exact hl
/-- The weight of a message: how many deliveries it may cause. -/
def wt (m : Msg) : Nat := if m.kind = 3 then 3 else if m.kind = 1 ∨ m.kind = 2 ∨ m.kind = 5 then 2 else 1
def wts (l : List Msg) : Nat := (l.map wt).sum
theorem wts_append (l k : List Msg) : wts (l ++ k) = wts l + wts k := by unfold wts; rw [List.map_append, List.sum_append]
theorem Tr.light {t : Trip} {σ σ' : SS} {ρ ρ' : RS} {m : Msg} {out : List Msg} (T : Tr t σ ρ m σ' ρ' out) : wts out + 1 ≤ wt m := by
  have h : ∀ {m}, m = t.offer ∨ (∃ i, i < t.L.length ∧ m = t.part i) ∨ m = t.cancel → wt m = 2 := fun hm => by
    rcases hm with rfl | ⟨i, -, rfl⟩ | rfl <;> rfl
  cases T with
  | run _ _ hm => rw [h hm]; exact Nat.le_of_ble_eq_true rfl
  | ref _ _ hm => rw [h hm]; exact Nat.le_of_ble_eq_true rfl
  | _ => exact Nat.le_of_ble_eq_true rfl
end Go.Proofs.Ytkoopagjjmdodaa
namespace Go.Proofs.Ytkoopagjjmdodaa
open Go.RowKit
set_option linter.unusedVariables false
set_option linter.unusedSimpArgs false
set_option linter.unusedSectionVars false

def preOf (i : Nat) : List Seat := if i = 1 then [newSeat ⟨#[113]⟩] else []
/-- What a machine is in a trip. -/
structure At (t : Trip) (a b : Nat) (wdr : Prop) (σ : SS) (ρ : RS) (i : Nat) (s : Option Seat) : Prop where
  snd : i = a → ∃ x, s = some x ∧ SOk t x σ
  rcv : i = b → ROk t s ρ
  third : i ≠ a → i ≠ b → t.Fresh s
  nr : ¬ wdr → ∀ x, s = some x → x.refuses = []
structure WI (t : Trip) (a b : Nat) (wdr : Prop) (σ : SS) (ρ : RS) (d : Wd) : Prop where
  ok : t.Ok
  a3 : a < 3
  b3 : b < 3
  ne : a ≠ b
  ta : t.a = (a : Int)
  tb : t.b = (b : Int)
  hosts : ∀ i, i < 3 → ∃ s, Sim t.pg (d.host i) i (preOf i) s ∧ (d.host i).out = [] ∧ At t a b wdr σ ρ i s
  ways : ∀ m ∈ d.way, MOk t σ ρ m
  link : Link wdr σ ρ
  can : t.cancel ∈ d.way → wdr
theorem collect_put (d : Wd) (i : Nat) (hi : i < 3) (h : Host) (ho : ∀ j, j < 3 → j ≠ i → (d.host j).out = []) : (collectM (d.put i h)).way = d.way ++ h.out ∧ ∀ j, j < 3 → (collectM (d.put i h)).host j = { (if i = j then h else d.host j) with out := [] } := by
  rw [collect_eq]
  match i, hi with
  | 0, _ =>
    have h1 : d.h1.out = [] := ho 1 (by omega) (by omega)
    have h2 : d.h2.out = [] := ho 2 (by omega) (by omega)
    refine ⟨by show d.way ++ h.out ++ d.h1.out ++ d.h2.out = _; rw [h1, h2]; simp, fun j hj => ?_⟩
    match j, hj with
    | 0, _ => rfl
    | 1, _ => rfl
    | 2, _ => rfl
  | 1, _ =>
    have h1 : d.h0.out = [] := ho 0 (by omega) (by omega)
    have h2 : d.h2.out = [] := ho 2 (by omega) (by omega)
    refine ⟨by show d.way ++ d.h0.out ++ h.out ++ d.h2.out = _; rw [h1, h2]; simp, fun j hj => ?_⟩
    match j, hj with
    | 0, _ => rfl
    | 1, _ => rfl
    | 2, _ => rfl
  | 2, _ =>
    have h1 : d.h0.out = [] := ho 0 (by omega) (by omega)
    have h2 : d.h1.out = [] := ho 1 (by omega) (by omega)
    refine ⟨by show d.way ++ d.h0.out ++ d.h1.out ++ h.out = _; rw [h1, h2]; simp, fun j hj => ?_⟩
    match j, hj with
    | 0, _ => rfl
    | 1, _ => rfl
    | 2, _ => rfl
/-- Refusals come from withdrawals alone. -/
theorem partP_refuses (id : Int) (x : Seat) (m : Msg) : ∀ y, (partP id x m).1 = some y → y.refuses = x.refuses := by
  intro y hy
  unfold partP at hy
  split at hy
  · split at hy
    · cases hy; rfl
    · cases hy; rfl
  · cases hy; rfl
theorem recvP_refuses (id : Int) (s : Option Seat) (m : Msg) (hm : m.kind ≠ 5) (hs : ∀ x, s = some x → x.refuses = []) : ∀ y, (recvP id s m).1 = some y → y.refuses = [] := by
  intro y hy
  unfold recvP at hy
  split at hy
  · exact hs y hy
  · split at hy
    · split at hy
      · exact hs y hy
      · unfold acceptP at hy
        cases s with
        | none => exact partP_refuses _ _ _ y hy
        | some x =>
          simp only at hy
          split at hy
          · exact (partP_refuses _ _ _ y hy).trans (hs x rfl)
          · exact (partP_refuses _ _ _ y hy).trans (hs x rfl)
    · split at hy
      · exact hs y hy
      · cases s with
        | none => cases hy
        | some x =>
          simp only [Option.map_some, Option.some.injEq] at hy
          subst hy
          have := hs x rfl
          unfold settleM
          split
          · split
            · exact this
            · exact this
          · exact this
section
variable {t : Trip} {a b : Nat} {wdr : Prop} {σ σ' : SS} {ρ ρ' : RS} {d : Wd} {m : Msg} {l out : List Msg}
/-- The page of a message, and its receiver. -/
theorem MOk.dest (h : MOk t σ ρ m) : m.page = t.pg ∧ m.epoch = t.e ∧ (((m = t.offer ∨ (∃ i, i < t.L.length ∧ m = t.part i) ∨ m = t.cancel) ∧ m.dst = t.b) ∨ (((∃ i, i < t.L.length ∧ m = t.need i) ∨ (m = t.taken ∧ ρ = .run) ∨ (m = t.refused ∧ ρ = .ref)) ∧ m.dst = t.a)) := by
  rcases h with rfl | ⟨i, hi, rfl⟩ | ⟨i, hi, rfl⟩ | ⟨rfl, h⟩ | ⟨rfl, h⟩ | ⟨rfl, h⟩
  · exact ⟨rfl, rfl, .inl ⟨.inl rfl, rfl⟩⟩
  · exact ⟨rfl, rfl, .inl ⟨.inr (.inl ⟨i, hi, rfl⟩), rfl⟩⟩
  · exact ⟨rfl, rfl, .inr ⟨.inl ⟨i, hi, rfl⟩, rfl⟩⟩
  · exact ⟨rfl, rfl, .inr ⟨.inr (.inl ⟨rfl, h⟩), rfl⟩⟩
  · exact ⟨rfl, rfl, .inl ⟨.inr (.inr rfl), rfl⟩⟩
  · exact ⟨rfl, rfl, .inr ⟨.inr (.inr ⟨rfl, h⟩), rfl⟩⟩
theorem MOk.data (T : t.Ok) (h : MOk t σ ρ m) : m.data.size ≤ 1000 := by
  rcases h with rfl | ⟨i, hi, rfl⟩ | ⟨i, hi, rfl⟩ | ⟨rfl, h⟩ | ⟨rfl, h⟩ | ⟨rfl, h⟩
  · show 0 ≤ 1000; omega
  · show (t.L.getD i ⟨#[]⟩).size ≤ _
    rw [List.getD_eq_getElem?_getD, List.getElem?_eq_getElem hi]
    exact partsL_each _ _ (Nat.le_refl _) _ (List.getElem_mem _)
  · show 0 ≤ 1000; omega
  · show 0 ≤ 1000; omega
  · show 0 ≤ 1000; omega
  · show 0 ≤ 1000; omega
theorem Tr.out5 (T : Tr t σ ρ m σ' ρ' out) : ∀ y ∈ out, y.kind ≠ 5 := by
  have hn : ∀ y ∈ ([] : List Msg), y.kind ≠ 5 := fun y hy => by cases hy
  have ht : ∀ y ∈ [t.taken], y.kind ≠ 5 := fun y hy => by rw [List.mem_singleton.1 hy]; show ¬ (4 : Int) = 5; decide
  have hr : ∀ y ∈ [t.refused], y.kind ≠ 5 := fun y hy => by rw [List.mem_singleton.1 hy]; show ¬ (6 : Int) = 5; decide
  cases T with
  | need ρ i hi => intro y hy; rw [List.mem_singleton.1 hy]; show ¬ (2 : Int) = 5; decide
  | _ => first | exact hn | exact ht | exact hr
/-- A message is delivered. -/
theorem WI.deliver (W : WI t a b wdr σ ρ d) (hm : m ∈ d.way) (hl : ∀ x ∈ l, x ∈ d.way) :
    ∃ σ' ρ' out, WI t a b wdr σ' ρ' (collectM (recvW { d with way := l } m)) ∧ (collectM (recvW { d with way := l } m)).way = l ++ out ∧ Tr t σ ρ m σ' ρ' out := by
  have hk := W.ways m hm
  obtain ⟨hpg, -, hd⟩ := hk.dest
  have hcan : m.kind = 5 → m = t.cancel := fun h5 => by
    rcases hk with rfl | ⟨i, hi, rfl⟩ | ⟨i, hi, rfl⟩ | ⟨rfl, h⟩ | ⟨rfl, h⟩ | ⟨rfl, h⟩
    · exact absurd h5 (by show ¬ (1 : Int) = 5; decide)
    · exact absurd h5 (by show ¬ (2 : Int) = 5; decide)
    · exact absurd h5 (by show ¬ (3 : Int) = 5; decide)
    · exact absurd h5 (by show ¬ (4 : Int) = 5; decide)
    · rfl
    · exact absurd h5 (by show ¬ (6 : Int) = 5; decide)
  have hnr : ¬ wdr → m.kind ≠ 5 := fun hw h5 => hw (W.can (by rw [← hcan h5]; exact hm))
  -- the machine that receives, in either case
  have main : ∀ (i : Nat) (hi : i < 3) (σ' : SS) (ρ' : RS) (s : Option Seat) , m.dst = (i : Int) → Sim t.pg (d.host i) i (preOf i) s → (d.host i).out = [] → At t a b wdr σ' ρ' i (recvP i s m).1 →
      (∀ j, j < 3 → j ≠ i → ∀ sj, At t a b wdr σ ρ j sj → At t a b wdr σ' ρ' j sj) → Tr t σ ρ m σ' ρ' (recvP i s m).2 →
      ∃ σ' ρ' out, WI t a b wdr σ' ρ' (collectM (recvW { d with way := l } m)) ∧ (collectM (recvW { d with way := l } m)).way = l ++ out ∧ Tr t σ ρ m σ' ρ' out := by
    intro i hi σ' ρ' s hdst hs ho hat hoth htr
    have hrw : recvW { d with way := l } m = ({ d with way := l } : Wd).put i (receiveM (({ d with way := l } : Wd).host i) m) := by
      unfold recvW
      rw [hdst, if_pos (by omega), Int.toNat_natCast]
    have hsame : ∀ j, ({ d with way := l } : Wd).host j = d.host j := fun j => by
      match j with
      | 0 => rfl
      | 1 => rfl
      | j + 2 => rfl
    rw [hrw, hsame i]
    obtain ⟨r1, r2⟩ := recv_sim hs hpg
    obtain ⟨c1, c2⟩ := collect_put { d with way := l } i hi (receiveM (d.host i) m) (fun j hj hne => by
      rw [hsame j]
      obtain ⟨_, _, h, _⟩ := W.hosts j hj
      exact h)
    rw [ho, List.nil_append] at r2
    rw [r2] at c1
    obtain ⟨k1, k2⟩ := htr.mok W.link
    refine ⟨σ', ρ', _, ⟨W.ok, W.a3, W.b3, W.ne, W.ta, W.tb, fun j hj => ?_, fun x hx => ?_, htr.link W.link hk (fun h => W.can (h ▸ hm)), fun hx => ?_⟩, c1, htr⟩
    · rw [c2 j hj]
      by_cases hij : i = j
      · subst hij
        rw [if_pos rfl]
        exact ⟨_, r1.out [], rfl, hat⟩
      · rw [if_neg hij, hsame j]
        obtain ⟨sj, h1, h2, h3⟩ := W.hosts j hj
        exact ⟨sj, h1.out [], rfl, hoth j hj (fun e => hij e.symm) sj h3⟩
    · rw [c1] at hx
      rcases List.mem_append.1 hx with hx | hx
      · exact k1 x (W.ways x (hl x hx))
      · exact k2 x hx
    · rw [c1] at hx
      rcases List.mem_append.1 hx with hx | hx
      · exact W.can (hl _ hx)
      · have := k2 _ hx
        exfalso
        have hout := htr.out5
        exact hout _ hx rfl
  rcases hd with ⟨hk2, hdst⟩ | ⟨hk2, hdst⟩
  · obtain ⟨s, hs, ho, hat⟩ := W.hosts b W.b3
    have hrk := hat.rcv rfl
    rw [W.tb] at hdst
    obtain ⟨ρ', q1, q2⟩ := tr_recv (σ := σ) W.ok hrk hk2
    rw [W.tb] at q1 q2
    refine main b W.b3 σ ρ' s hdst hs ho ⟨fun e => absurd e W.ne.symm, fun _ => q1, fun _ e => absurd rfl e, fun hw x hx => ?_⟩ (fun j hj hne sj h => ⟨h.snd, fun e => absurd e hne, h.third, h.nr⟩) q2
    exact recvP_refuses b s m (hnr hw) (hat.nr hw) x hx
  · obtain ⟨s, hs, ho, hat⟩ := W.hosts a W.a3
    obtain ⟨x, rfl, hsk⟩ := hat.snd rfl
    rw [W.ta] at hdst
    obtain ⟨σ', y, q0, q1, q2⟩ := tr_send W.ok hsk W.link hk2
    rw [W.ta] at q0 q2
    refine main a W.a3 σ' ρ (some x) hdst hs ho ⟨fun _ => ⟨y, q0, q1⟩, fun e => absurd e W.ne, fun e _ => absurd rfl e, fun hw x hx => ?_⟩ (fun j hj hne sj h => ⟨fun e => absurd e hne, h.rcv, h.third, h.nr⟩) q2
    exact recvP_refuses a _ m (hnr hw) (hat.nr hw) x hx
end
end Go.Proofs.Ytkoopagjjmdodaa
namespace Go.Proofs.Ytkoopagjjmdodaa
open Go.RowKit
set_option linter.unusedVariables false
set_option linter.unusedSimpArgs false
set_option linter.unusedSectionVars false

def sT (t : Trip) : SS → List Msg
  | .off => [t.offer]
  | .can => [t.cancel]
  | _ => []
def rT (t : Trip) : RS → List Msg
  | .recv hv => ((missing hv 0).take 16).map t.need
  | _ => []
section
variable {t : Trip} {a b : Nat} {wdr : Prop} {σ σ' : SS} {ρ ρ' : RS} {d : Wd} {m : Msg} {l out : List Msg}
theorem tick_sender {x : Seat} (S : SOk t x σ) : tickS t.a x = sT t σ := by
  cases σ with
  | off => exact Trip.tickOff S
  | can => exact Trip.tickCan S
  | gone => exact tick_else (.inr (.inr S.1))
  | back => exact tick_else (.inr (.inl S.1))
theorem tick_receiver {s : Option Seat} (R : ROk t s ρ) (hp : ∀ x, s = some x → x.page = t.pg) : s.toList.flatMap (tickS t.b) = rT t ρ := by
  cases ρ with
  | fresh =>
    cases s with
    | none => rfl
    | some x =>
      have := tick_else (id := t.b) (x := x) (.inr (.inr (R x rfl).1))
      show tickS t.b x ++ [] = []
      rw [this]; rfl
  | recv hv =>
    obtain ⟨x, rfl, h, -⟩ := R
    show tickS t.b x ++ [] = _
    rw [Trip.tickRecv h (hp x rfl), List.append_nil]
    rfl
  | run =>
    obtain ⟨x, rfl, h⟩ := R
    show tickS t.b x ++ [] = []
    rw [tick_else (.inr (.inl h.st))]; rfl
  | ref =>
    obtain ⟨x, rfl, h⟩ := R
    show tickS t.b x ++ [] = []
    rw [tick_else (h.st.elim .inl (fun h => .inr (.inr h)))]; rfl
theorem missing_lt : ∀ (l : List Bool) (n : Nat), ∀ k ∈ missing l n, n ≤ k ∧ k < n + l.length
  | [], _, k, h => by cases h
  | true :: l, n, k, h => by
    have := missing_lt l (n + 1) k h
    rw [List.length_cons]; omega
  | false :: l, n, k, h => by
    rcases List.mem_cons.1 h with rfl | h
    · rw [List.length_cons]; omega
    · have := missing_lt l (n + 1) k h
      rw [List.length_cons]; omega
theorem missing_mem : ∀ (l : List Bool) (n i : Nat), l[i]? = some false → n + i ∈ missing l n
  | [], _, _, h => by simp at h
  | true :: l, n, 0, h => by simp at h
  | true :: l, n, i + 1, h => by
    have := missing_mem l (n + 1) i (by simpa using h)
    rw [missing, show n + (i + 1) = n + 1 + i by omega]; exact this
  | false :: l, n, 0, h => by rw [missing]; exact List.mem_cons_self ..
  | false :: l, n, i + 1, h => by
    have := missing_mem l (n + 1) i (by simpa using h)
    rw [missing, show n + (i + 1) = n + 1 + i by omega]; exact List.mem_cons_of_mem _ this
theorem missing_len : ∀ (l : List Bool) (n : Nat), (missing l n).length ≤ l.length
  | [], _ => Nat.le_refl _
  | true :: l, n => by have := missing_len l (n + 1); rw [missing, List.length_cons]; omega
  | false :: l, n => by have := missing_len l (n + 1); rw [missing, List.length_cons, List.length_cons]; omega
/-- All machines tick, and what they send is collected. -/
theorem WI.tick (W : WI t a b wdr σ ρ d) : WI t a b wdr σ ρ (collectM (tickWs d 3)) ∧ (∀ x ∈ d.way, x ∈ (collectM (tickWs d 3)).way) ∧ (∀ x ∈ sT t σ, x ∈ (collectM (tickWs d 3)).way) ∧ (∀ x ∈ rT t ρ, x ∈ (collectM (tickWs d 3)).way) ∧
    wts (collectM (tickWs d 3)).way = wts d.way + wts (sT t σ) + wts (rT t ρ) := by
  have hhost : ∀ i, i < 3 → (tickWs d 3).host i = tickM (d.host i) := fun i hi => by rw [tickWs_host d 3 (Nat.le_refl _) i hi, if_pos hi]
  have hway : (tickWs d 3).way = d.way := by
    show (((d.put 0 _).put 1 _).put 2 _).way = _
    rw [Wd.put_way, Wd.put_way, Wd.put_way]
  -- what a machine sends
  let o : Nat → List Msg := fun i => if i = a then sT t σ else if i = b then rT t ρ else []
  have hout : ∀ i, i < 3 → ∃ s, Sim t.pg (tickM (d.host i)) i (preOf i) s ∧ At t a b wdr σ ρ i s ∧ (tickM (d.host i)).out = o i := by
    intro i hi
    obtain ⟨s, hs, ho, hat⟩ := W.hosts i hi
    obtain ⟨t1, t2⟩ := tick_sim hs
    refine ⟨s, t1, hat, ?_⟩
    rw [t2, ho, List.nil_append]
    show _ = if i = a then sT t σ else if i = b then rT t ρ else []
    by_cases ha : i = a
    · rw [if_pos ha]
      obtain ⟨x, rfl, hx⟩ := hat.snd ha
      show tickS i x ++ [] = _
      rw [List.append_nil, ← tick_sender hx, W.ta, ha]
    · rw [if_neg ha]
      by_cases hb : i = b
      · rw [if_pos hb, ← tick_receiver (hat.rcv hb) hs.page, W.tb, hb]
      · rw [if_neg hb]
        have hf := hat.third ha hb
        cases s with
        | none => rfl
        | some x =>
          show tickS i x ++ [] = []
          rw [tick_else (.inr (.inr (hf x rfl).1))]; rfl
  have hcw : (collectM (tickWs d 3)).way = d.way ++ o 0 ++ o 1 ++ o 2 := by
    obtain ⟨_, _, _, e0⟩ := hout 0 (by omega)
    obtain ⟨_, _, _, e1⟩ := hout 1 (by omega)
    obtain ⟨_, _, _, e2⟩ := hout 2 (by omega)
    have h0 := hhost 0 (by omega)
    have h1 := hhost 1 (by omega)
    have h2 := hhost 2 (by omega)
    rw [collect_eq]
    show (tickWs d 3).way ++ ((tickWs d 3).host 0).out ++ ((tickWs d 3).host 1).out ++ ((tickWs d 3).host 2).out = _
    rw [hway, h0, h1, h2, e0, e1, e2]
  have hoa : o a = sT t σ := if_pos rfl
  have hob : o b = rT t ρ := by show (if b = a then _ else _) = _; rw [if_neg W.ne.symm, if_pos rfl]
  have hmem : ∀ i, i < 3 → ∀ x ∈ o i, x ∈ (collectM (tickWs d 3)).way := by
    intro i hi x hx
    rw [hcw]
    simp only [List.mem_append]
    match i, hi with
    | 0, _ => exact .inl (.inl (.inr hx))
    | 1, _ => exact .inl (.inr hx)
    | 2, _ => exact .inr hx
  have hohost : ∀ i, i < 3 → (collectM (tickWs d 3)).host i = { tickM (d.host i) with out := [] } := by
    intro i hi
    rw [← hhost i hi, collect_eq]
    match i, hi with
    | 0, _ => rfl
    | 1, _ => rfl
    | 2, _ => rfl
  have hsok : ∀ x ∈ sT t σ, MOk t σ ρ x := by
    intro x hx
    cases hσ : σ with
    | off => rw [hσ] at hx; rw [List.mem_singleton.1 hx]; exact .inl rfl
    | can => rw [hσ] at hx; rw [List.mem_singleton.1 hx]; exact .inr (.inr (.inr (.inr (.inl ⟨rfl, by simp⟩))))
    | gone => rw [hσ] at hx; cases hx
    | back => rw [hσ] at hx; cases hx
  have hrok : ∀ x ∈ rT t ρ, MOk t σ ρ x := by
    intro x hx
    cases hρ : ρ with
    | recv hv =>
      rw [hρ] at hx
      obtain ⟨k, hk, rfl⟩ := List.mem_map.1 hx
      have hk2 := missing_lt hv 0 k (List.mem_of_mem_take hk)
      obtain ⟨s, hs, ho, hat⟩ := W.hosts b W.b3
      have hr := hat.rcv rfl
      rw [hρ] at hr
      obtain ⟨y, rfl, hy, -⟩ := hr
      exact .inr (.inr (.inl ⟨k, by have := hy.hlen; omega, rfl⟩))
    | fresh => rw [hρ] at hx; cases hx
    | run => rw [hρ] at hx; cases hx
    | ref => rw [hρ] at hx; cases hx
  have hall : ∀ x ∈ (collectM (tickWs d 3)).way, x ∈ d.way ∨ x ∈ sT t σ ∨ x ∈ rT t ρ := by
    intro x hx
    have ho : ∀ i, x ∈ o i → x ∈ sT t σ ∨ x ∈ rT t ρ := by
      intro i hi
      change x ∈ (if i = a then sT t σ else if i = b then rT t ρ else []) at hi
      split at hi
      · exact .inl hi
      · split at hi
        · exact .inr hi
        · cases hi
    rw [hcw] at hx
    simp only [List.mem_append] at hx
    rcases hx with ((hx | hx) | hx) | hx
    · exact .inl hx
    · exact .inr (ho 0 hx)
    · exact .inr (ho 1 hx)
    · exact .inr (ho 2 hx)
  refine ⟨⟨W.ok, W.a3, W.b3, W.ne, W.ta, W.tb, fun i hi => ?_, fun x hx => ?_, W.link, fun hx => ?_⟩, fun x hx => ?_, fun x hx => hmem a W.a3 x (by rw [hoa]; exact hx), fun x hx => hmem b W.b3 x (by rw [hob]; exact hx), ?_⟩
  · obtain ⟨s, h1, h2, -⟩ := hout i hi
    rw [hohost i hi]
    exact ⟨s, h1.out [], rfl, h2⟩
  · rcases hall x hx with h | h | h
    · exact W.ways x h
    · exact hsok x h
    · exact hrok x h
  · rcases hall _ hx with h | h | h
    · exact W.can h
    · refine W.link.wdr (.inl ?_)
      cases hσ : σ with
      | off => rw [hσ] at h; have := congrArg Msg.kind (List.mem_singleton.1 h); exact absurd this (by show ¬ (5 : Int) = 1; decide)
      | can => rfl
      | gone => rw [hσ] at h; cases h
      | back => rw [hσ] at h; cases h
    · exfalso
      cases hρ : ρ with
      | recv hv =>
        rw [hρ] at h
        obtain ⟨k, -, he⟩ := List.mem_map.1 h
        exact absurd (congrArg Msg.kind he) (by show ¬ (3 : Int) = 5; decide)
      | fresh => rw [hρ] at h; cases h
      | run => rw [hρ] at h; cases h
      | ref => rw [hρ] at h; cases h
  · rw [hcw]
    simp only [List.mem_append]
    exact .inl (.inl (.inl hx))
  · rw [hcw, wts_append, wts_append, wts_append]
    have hsum : wts (o 0) + wts (o 1) + wts (o 2) = wts (sT t σ) + wts (rT t ρ) := by
      have ha := W.a3
      have hb := W.b3
      have hne := W.ne
      have hz : ∀ i, i ≠ a → i ≠ b → wts (o i) = 0 := fun i h1 h2 => by
        show wts (if i = a then _ else if i = b then _ else _) = 0
        rw [if_neg h1, if_neg h2]; rfl
      rcases (show a = 0 ∨ a = 1 ∨ a = 2 by omega) with rfl | rfl | rfl <;> rcases (show b = 0 ∨ b = 1 ∨ b = 2 by omega) with rfl | rfl | rfl
      · omega
      · rw [hoa, hob, hz 2 (by omega) (by omega)]; omega
      · rw [hoa, hob, hz 1 (by omega) (by omega)]; omega
      · rw [hoa, hob, hz 2 (by omega) (by omega)]; omega
      · omega
      · rw [hoa, hob, hz 0 (by omega) (by omega)]; omega
      · rw [hoa, hob, hz 1 (by omega) (by omega)]; omega
      · rw [hoa, hob, hz 0 (by omega) (by omega)]; omega
      · omega
    omega
end
end Go.Proofs.Ytkoopagjjmdodaa
namespace Go.Proofs.Ytkoopagjjmdodaa
open Go.RowKit
set_option linter.unusedVariables false
set_option linter.unusedSimpArgs false
set_option linter.unusedSectionVars false

def J1 (t : Trip) (σ : SS) (ρ : RS) (l : List Msg) : Prop := ρ ≠ .fresh ∨ t.offer ∈ l ∨ t.cancel ∈ l
def J2 (t : Trip) (σ : SS) (ρ : RS) (l : List Msg) : Prop :=
  ρ = .run ∨ ρ = .ref ∨ t.cancel ∈ l ∨ ∃ hv, ρ = .recv hv ∧ σ = .off ∧ ∀ i : Nat, i < t.L.length → hv[i]? = some true ∨ t.need i ∈ l ∨ t.part i ∈ l
def J3 (t : Trip) (σ : SS) (ρ : RS) (l : List Msg) : Prop := (ρ = .run ∨ ρ = .ref) ∧ (σ = .gone ∨ σ = .back ∨ t.offer ∈ l ∨ t.cancel ∈ l ∨ t.taken ∈ l ∨ t.refused ∈ l)
section
variable {t : Trip} {a b : Nat} {wdr : Prop} {σ σ' : SS} {ρ ρ' : RS} {d : Wd} {m : Msg} {l out : List Msg}
theorem mem_next {x : Msg} (h : x ∈ m :: l) (hne : x ≠ m) : x ∈ l ++ out := by
  rcases List.mem_cons.1 h with h | h
  · exact absurd h hne
  · exact List.mem_append_left _ h
theorem kind_ne {x y : Msg} (h : x.kind ≠ y.kind) : x ≠ y := fun e => h (by rw [e])
theorem J1.next (T : Tr t σ ρ m σ' ρ' out) (J : J1 t σ ρ (m :: l)) : J1 t σ' ρ' (l ++ out) := by
  have ho : ∀ {y : Msg} {τ : RS}, y.kind ≠ 1 → y.kind ≠ 5 → (t.offer ∈ y :: l ∨ t.cancel ∈ y :: l) → (τ ≠ .fresh ∨ t.offer ∈ l ++ out ∨ t.cancel ∈ l ++ out) := fun h1 h5 h => by
    rcases h with h | h
    · exact .inr (.inl (mem_next h (kind_ne fun e => h1 e.symm)))
    · exact .inr (.inr (mem_next h (kind_ne fun e => h5 e.symm)))
  unfold J1 at J ⊢
  cases T with
  | need ρ i hi =>
    rcases J with h | h
    · exact .inl h
    · exact ho (by show (3 : Int) ≠ 1; decide) (by show (3 : Int) ≠ 5; decide) h
  | needNo σ ρ i hi hs =>
    rcases J with h | h
    · exact .inl h
    · exact ho (by show (3 : Int) ≠ 1; decide) (by show (3 : Int) ≠ 5; decide) h
  | _ => exact .inl (by simp)
theorem J2.next (T : Tr t σ ρ m σ' ρ' out) (J : J2 t σ ρ (m :: l)) : J2 t σ' ρ' (l ++ out) := by
  unfold J2 at J ⊢
  have hc : ∀ {y : Msg}, y.kind ≠ 5 → t.cancel ∈ y :: l → t.cancel ∈ l ++ out := fun h5 h => mem_next h (kind_ne fun e => h5 e.symm)
  cases T with
  | offerFresh =>
    rcases J with h | h | h | ⟨hv, h, -⟩
    · cases h
    · cases h
    · exact .inr (.inr (.inl (hc (by show (1 : Int) ≠ 5; decide) h)))
    · cases h
  | offerRecv σ hv =>
    rcases J with h | h | h | ⟨hv', h, hs, hi⟩
    · cases h
    · cases h
    · exact .inr (.inr (.inl (hc (by show (1 : Int) ≠ 5; decide) h)))
    · cases h
      refine .inr (.inr (.inr ⟨hv, rfl, hs, fun i hlt => ?_⟩))
      rcases hi i hlt with h | h | h
      · exact .inl h
      · exact .inr (.inl (mem_next h (kind_ne (by show (3 : Int) ≠ 1; decide))))
      · exact .inr (.inr (mem_next h (kind_ne (by show (2 : Int) ≠ 1; decide))))
  | partHave σ hv j hj he =>
    rcases J with h | h | h | ⟨hv', h, hs, hi⟩
    · cases h
    · cases h
    · exact .inr (.inr (.inl (hc (by show (2 : Int) ≠ 5; decide) h)))
    · cases h
      refine .inr (.inr (.inr ⟨hv, rfl, hs, fun i hlt => ?_⟩))
      rcases hi i hlt with h | h | h
      · exact .inl h
      · exact .inr (.inl (mem_next h (kind_ne (by show (3 : Int) ≠ 2; decide))))
      · by_cases hij : i = j
        · subst hij; exact .inl he
        · exact .inr (.inr (mem_next h (fun e => hij (by have := congrArg Msg.index e; have h2 : (i : Int) = (j : Int) := this; omega))))
  | partSet σ hv j hj hl =>
    rcases J with h | h | h | ⟨hv', h, hs, hi⟩
    · cases h
    · cases h
    · exact .inr (.inr (.inl (hc (by show (2 : Int) ≠ 5; decide) h)))
    · cases h
      refine .inr (.inr (.inr ⟨_, rfl, hs, fun i hlt => ?_⟩))
      by_cases hij : j = i
      · subst hij
        exact .inl (by rw [List.getElem?_set_self (by omega)])
      · rw [List.getElem?_set_ne hij]
        rcases hi i hlt with h | h | h
        · exact .inl h
        · exact .inr (.inl (mem_next h (kind_ne (by show (3 : Int) ≠ 2; decide))))
        · exact .inr (.inr (mem_next h (fun e => hij (by have := congrArg Msg.index e; have h2 : (i : Int) = (j : Int) := this; omega))))
  | partFirst =>
    rcases J with h | h | h | ⟨hv, h, -⟩
    · cases h
    · cases h
    · exact .inr (.inr (.inl (hc (by show (2 : Int) ≠ 5; decide) h)))
    · cases h
  | partDone => exact .inl rfl
  | partOnly => exact .inl rfl
  | run => exact .inl rfl
  | ref => exact .inr (.inl rfl)
  | cancelFresh => exact .inr (.inl rfl)
  | cancelRecv => exact .inr (.inl rfl)
  | need ρ j hj =>
    rcases J with h | h | h | ⟨hv, h, hs, hi⟩
    · exact .inl h
    · exact .inr (.inl h)
    · exact .inr (.inr (.inl (hc (by show (3 : Int) ≠ 5; decide) h)))
    · subst h
      refine .inr (.inr (.inr ⟨hv, rfl, rfl, fun i hlt => ?_⟩))
      rcases hi i hlt with h | h | h
      · exact .inl h
      · by_cases hij : i = j
        · subst hij; exact .inr (.inr (by simp))
        · exact .inr (.inl (mem_next h (fun e => hij (by have := congrArg Msg.index e; have h2 : (i : Int) = (j : Int) := this; omega))))
      · exact .inr (.inr (mem_next h (kind_ne (by show (2 : Int) ≠ 3; decide))))
  | needNo σ ρ j hj hno =>
    rcases J with h | h | h | ⟨hv, h, hs, hi⟩
    · exact .inl h
    · exact .inr (.inl h)
    · exact .inr (.inr (.inl (hc (by show (3 : Int) ≠ 5; decide) h)))
    · exact absurd hs hno
  | taken => exact .inl rfl
  | takenNo => exact .inl rfl
  | refused => exact .inr (.inl rfl)
  | refusedNo => exact .inr (.inl rfl)
theorem J3.next (T : Tr t σ ρ m σ' ρ' out) (J : J3 t σ ρ (m :: l)) : J3 t σ' ρ' (l ++ out) := by
  unfold J3 at J ⊢
  obtain ⟨hr, J⟩ := J
  -- what is left of the messages
  have keep : ∀ {y : Msg} {τ : SS}, y.kind = 3 → (τ = .gone ∨ τ = .back ∨ t.offer ∈ y :: l ∨ t.cancel ∈ y :: l ∨ t.taken ∈ y :: l ∨ t.refused ∈ y :: l) → (τ = .gone ∨ τ = .back ∨ t.offer ∈ l ++ out ∨ t.cancel ∈ l ++ out ∨ t.taken ∈ l ++ out ∨ t.refused ∈ l ++ out) := fun hy h => by
    rcases h with h | h | h | h | h | h
    · exact .inl h
    · exact .inr (.inl h)
    · exact .inr (.inr (.inl (mem_next h (kind_ne (by rw [hy]; show (1 : Int) ≠ 3; decide)))))
    · exact .inr (.inr (.inr (.inl (mem_next h (kind_ne (by rw [hy]; show (5 : Int) ≠ 3; decide))))))
    · exact .inr (.inr (.inr (.inr (.inl (mem_next h (kind_ne (by rw [hy]; show (4 : Int) ≠ 3; decide)))))))
    · exact .inr (.inr (.inr (.inr (.inr (mem_next h (kind_ne (by rw [hy]; show (6 : Int) ≠ 3; decide)))))))
  cases T with
  | run => exact ⟨.inl rfl, .inr (.inr (.inr (.inr (.inl (by simp)))))⟩
  | ref => exact ⟨.inr rfl, .inr (.inr (.inr (.inr (.inr (by simp)))))⟩
  | need ρ i hi => exact ⟨hr, keep rfl J⟩
  | needNo σ ρ i hi hs => exact ⟨hr, keep rfl J⟩
  | taken => exact ⟨.inl rfl, .inl rfl⟩
  | takenNo σ hs => exact ⟨.inl rfl, hs.elim .inl (fun h => .inr (.inl h))⟩
  | refused => exact ⟨.inr rfl, .inr (.inl rfl)⟩
  | refusedNo σ hs => exact ⟨.inr rfl, hs.elim .inl (fun h => .inr (.inl h))⟩
  | _ => exact absurd hr (by simp)
theorem stepsQ_front (d : Wd) : ∀ j, stepsQ d (j + 1) = stepsQ (stepQ d) j
  | 0 => rfl
  | j + 1 => by
    show stepQ (stepsQ d (j + 1)) = stepQ (stepsQ (stepQ d) j)
    rw [stepsQ_front d j]
/-- Everything is delivered. -/
theorem WI.drain (J : SS → RS → List Msg → Prop) (hJ : ∀ σ ρ m σ' ρ' l out, Tr t σ ρ m σ' ρ' out → J σ ρ (m :: l) → J σ' ρ' (l ++ out)) :
    ∀ (n : Nat) (σ : SS) (ρ : RS) (d : Wd), WI t a b wdr σ ρ d → J σ ρ d.way → wts d.way ≤ n → ∃ σ' ρ', WI t a b wdr σ' ρ' (stepsQ d n) ∧ (stepsQ d n).way = [] ∧ J σ' ρ' []
  | 0, σ, ρ, d, W, j, hw => by
    cases hd : d.way with
    | nil => exact ⟨σ, ρ, W, hd, by rw [← hd]; exact j⟩
    | cons m l =>
      rw [hd] at hw
      unfold wts at hw
      rw [List.map_cons, List.sum_cons] at hw
      have : 1 ≤ wt m := by
        unfold wt
        split
        · omega
        · split
          · omega
          · omega
      omega
  | n + 1, σ, ρ, d, W, j, hw => by
    rw [stepsQ_front]
    cases hd : d.way with
    | nil =>
      have e : stepQ d = d := by unfold stepQ; rw [hd]
      rw [e]
      exact WI.drain J hJ n σ ρ d W j (by rw [hd]; exact Nat.zero_le _)
    | cons m l =>
      have e : stepQ d = collectM (recvW { d with way := l } m) := by unfold stepQ; rw [hd]
      obtain ⟨σ', ρ', out, W', h1, h2⟩ := W.deliver (m := m) (l := l) (by rw [hd]; exact List.mem_cons_self ..) (fun x hx => by rw [hd]; exact List.mem_cons_of_mem _ hx)
      rw [← e] at W' h1
      rw [hd] at j hw
      refine WI.drain J hJ n σ' ρ' (stepQ d) W' (by rw [h1]; exact hJ _ _ _ _ _ _ _ h2 j) ?_
      rw [h1, wts_append]
      have hl := h2.light
      unfold wts at hw ⊢
      rw [List.map_cons, List.sum_cons] at hw
      unfold wts at hl
      omega
theorem rT_wts (ρ : RS) : wts (rT t ρ) ≤ 48 := by
  cases ρ with
  | recv hv =>
    show wts (((missing hv 0).take 16).map t.need) ≤ 48
    have h : ∀ l : List Nat, wts (l.map t.need) = 3 * l.length := by
      intro l
      induction l with
      | nil => rfl
      | cons x l ih =>
        rw [List.map_cons]
        unfold wts at ih ⊢
        rw [List.map_cons, List.sum_cons, ih, List.length_cons]
        show 3 + _ = _
        omega
    rw [h, List.length_take]
    omega
  | fresh => show 0 ≤ 48; omega
  | run => show 0 ≤ 48; omega
  | ref => show 0 ≤ 48; omega
theorem sT_wts (σ : SS) : wts (sT t σ) ≤ 2 := by
  cases σ with
  | off => exact Nat.le_refl _
  | can => exact Nat.le_refl _
  | gone => exact Nat.zero_le _
  | back => exact Nat.zero_le _
/-- One round. -/
theorem WI.round (J : SS → RS → List Msg → Prop) (hJ : ∀ σ ρ m σ' ρ' l out, Tr t σ ρ m σ' ρ' out → J σ ρ (m :: l) → J σ' ρ' (l ++ out)) (W : WI t a b wdr σ ρ d) (hw : wts d.way ≤ 300)
    (h0 : ∀ way : List Msg, (∀ x ∈ sT t σ, x ∈ way) → (∀ x ∈ rT t ρ, x ∈ way) → J σ ρ way) : ∃ σ' ρ', WI t a b wdr σ' ρ' (roundQ d) ∧ (roundQ d).way = [] ∧ J σ' ρ' [] := by
  obtain ⟨W2, k1, k2, k3, k4⟩ := W.tick
  have h1 := rT_wts (t := t) ρ
  have h2 := sT_wts (t := t) σ
  unfold roundQ
  exact WI.drain J hJ 400 σ ρ _ W2 (h0 _ k2 k3) (by omega)
/-- Three rounds. -/
theorem WI.quiet (W : WI t a b wdr σ ρ d) (hw : wts d.way ≤ 300) (hP : t.L.length ≤ 16) : ∃ σ' ρ', WI t a b wdr σ' ρ' (quietM d 3) ∧ (quietM d 3).way = [] ∧ (σ' = .gone ∧ ρ' = .run ∨ σ' = .back ∧ ρ' = .ref) := by
  have hz : wts [] ≤ 300 := Nat.zero_le _
  obtain ⟨σ1, ρ1, W1, e1, j1⟩ := W.round (J1 t) (fun _ _ _ _ _ _ _ => J1.next) hw (fun way hs hr => by
    cases hσ : σ with
    | off => rw [hσ] at hs; exact .inr (.inl (hs _ (List.mem_singleton.2 rfl)))
    | can => rw [hσ] at hs; exact .inr (.inr (hs _ (List.mem_singleton.2 rfl)))
    | gone => exact .inl (by rw [W.link.gone hσ]; simp)
    | back => exact .inl (by rw [W.link.back hσ]; simp))
  have n1 : ρ1 ≠ .fresh := by
    rcases j1 with h | h | h
    · exact h
    · cases h
    · cases h
  obtain ⟨σ2, ρ2, W2, e2, j2⟩ := W1.round (J2 t) (fun _ _ _ _ _ _ _ => J2.next) (by rw [e1]; exact hz) (fun way hs hr => by
    cases hρ : ρ1 with
    | fresh => exact absurd hρ n1
    | run => exact .inl rfl
    | ref => exact .inr (.inl rfl)
    | recv hv =>
      cases hσ : σ1 with
      | can => rw [hσ] at hs; exact .inr (.inr (.inl (hs _ (List.mem_singleton.2 rfl))))
      | gone => have := W1.link.gone hσ; rw [hρ] at this; cases this
      | back => have := W1.link.back hσ; rw [hρ] at this; cases this
      | off =>
        refine .inr (.inr (.inr ⟨hv, rfl, rfl, fun i hi => ?_⟩))
        obtain ⟨s, -, -, hat⟩ := W1.hosts b W1.b3
        have hrk := hat.rcv rfl
        rw [hρ] at hrk
        obtain ⟨x, -, hx, -⟩ := hrk
        have hl := hx.hlen
        cases hb : hv[i]? with
        | none => rw [List.getElem?_eq_none_iff] at hb; omega
        | some v =>
          cases v with
          | true => exact .inl rfl
          | false =>
            refine .inr (.inl (hr _ ?_))
            rw [hρ]
            refine List.mem_map.2 ⟨i, ?_, rfl⟩
            have := missing_mem hv 0 i hb
            rw [Nat.zero_add] at this
            rw [List.take_of_length_le (by have := missing_len hv 0; omega)]
            exact this)
  have n2 : ρ2 = .run ∨ ρ2 = .ref := by
    rcases j2 with h | h | h | ⟨hv, h, hs, hi⟩
    · exact .inl h
    · exact .inr h
    · cases h
    · exfalso
      obtain ⟨s, -, -, hat⟩ := W2.hosts b W2.b3
      have hrk := hat.rcv rfl
      rw [h] at hrk
      obtain ⟨x, -, hx, hc⟩ := hrk
      rw [List.contains_iff_mem] at hc
      obtain ⟨i, hil, he⟩ := List.getElem_of_mem hc
      have hl := hx.hlen
      rcases hi i (by omega) with h | h | h
      · rw [List.getElem?_eq_getElem hil, he] at h
        cases h
      · cases h
      · cases h
  obtain ⟨σ3, ρ3, W3, e3, j3⟩ := W2.round (J3 t) (fun _ _ _ _ _ _ _ => J3.next) (by rw [e2]; exact hz) (fun way hs hr => by
    refine ⟨n2, ?_⟩
    cases hσ : σ2 with
    | off => rw [hσ] at hs; exact .inr (.inr (.inl (hs _ (List.mem_singleton.2 rfl))))
    | can => rw [hσ] at hs; exact .inr (.inr (.inr (.inl (hs _ (List.mem_singleton.2 rfl)))))
    | gone => exact .inl rfl
    | back => exact .inr (.inl rfl))
  refine ⟨σ3, ρ3, W3, e3, ?_⟩
  obtain ⟨-, h | h | h | h | h | h⟩ := j3
  · exact .inl ⟨h, W3.link.gone h⟩
  · exact .inr ⟨h, W3.link.back h⟩
  · cases h
  · cases h
  · cases h
  · cases h
end
end Go.Proofs.Ytkoopagjjmdodaa
namespace Go.Proofs.Ytkoopagjjmdodaa
open Go.RowKit
set_option linter.unusedVariables false
set_option linter.unusedSimpArgs false
set_option linter.unusedSectionVars false

section
variable {t : Trip} {a b : Nat} {wdr : Prop} {σ σ' : SS} {ρ ρ' : RS} {d : Wd} {m : Msg} {l out : List Msg}
/-- Before a trip: the page runs at one machine. -/
structure Rest (t : Trip) (a b : Nat) (d : Wd) : Prop where
  ok : t.Ok
  a3 : a < 3
  b3 : b < 3
  ne : a ≠ b
  ta : t.a = (a : Int)
  tb : t.b = (b : Int)
  size : t.letter.size ≤ 16777216
  way : d.way = []
  hosts : ∀ i, i < 3 → ∃ s, Sim t.pg (d.host i) i (preOf i) s ∧ (d.host i).out = [] ∧ (i = a → ∃ x, s = some x ∧ x.state = 1 ∧ x.epoch + 1 = t.e ∧ x.refuses = []) ∧ (i ≠ a → t.Fresh s ∧ ∀ x, s = some x → x.refuses = [])
theorem Rest.begin (R : Rest t a b d) : (handM (d.host a) t.pg t.letter t.b).1 = 0 ∧ WI t a b False .off .fresh (collectM (d.put a (handM (d.host a) t.pg t.letter t.b).2)) ∧ (collectM (d.put a (handM (d.host a) t.pg t.letter t.b).2)).way = t.msgs := by
  obtain ⟨s, hs, ho, hsa, -⟩ := R.hosts a R.a3
  obtain ⟨x, rfl, x1, x2, x3⟩ := hsa rfl
  have hb := R.ok.b
  have hne := R.ok.ne
  obtain ⟨q1, q2, q3⟩ := hand_sim (letter := t.letter) (dst := t.b) hs x1 (by omega) (by rw [← R.ta]; exact fun e => hne e.symm) R.size
  rw [ho, List.nil_append, ← R.ta] at q3
  have hsent := Trip.sent t { x with state := 2, peer := t.b, letter := t.letter, epoch := x.epoch + 1 } rfl (hs.page x rfl) x2
  have q4 := q3.trans hsent
  obtain ⟨c1, c2⟩ := collect_put d a R.a3 (handM (d.host a) t.pg t.letter t.b).2 (fun j hj hne => by
    obtain ⟨_, _, h, _⟩ := R.hosts j hj
    exact h)
  rw [R.way, List.nil_append, q4] at c1
  have hmsgs : ∀ m ∈ t.msgs, m = t.offer ∨ ∃ i, i < t.L.length ∧ m = t.part i := fun m hm => by
    rcases List.mem_cons.1 hm with h | h
    · exact .inl h
    · obtain ⟨i, hi, rfl⟩ := List.mem_map.1 h
      exact .inr ⟨i, List.mem_range.1 hi, rfl⟩
  refine ⟨q1, ⟨R.ok, R.a3, R.b3, R.ne, R.ta, R.tb, fun j hj => ?_, fun m hm => ?_, ⟨fun h => (by cases h), fun h => (by cases h), fun h => (by cases h), fun h => (by rcases h with h | h | h <;> cases h)⟩, fun hc => ?_⟩, c1⟩
  · rw [c2 j hj]
    by_cases hij : a = j
    · subst hij
      rw [if_pos rfl]
      refine ⟨_, q2.out [], rfl, fun _ => ⟨_, rfl, ⟨rfl, x2, rfl, rfl, hs.page x rfl⟩⟩, fun e => absurd e R.ne, fun e _ => absurd rfl e, fun _ y hy => ?_⟩
      cases hy
      exact x3
    · rw [if_neg hij]
      obtain ⟨sj, h1, h2, h3, h4⟩ := R.hosts j hj
      obtain ⟨h5, h6⟩ := h4 (fun e => hij e.symm)
      exact ⟨sj, h1.out [], rfl, fun e => absurd e.symm hij, fun _ => h5, fun _ _ => h5, fun _ => h6⟩
  · rw [c1] at hm
    rcases hmsgs m hm with h | h
    · exact .inl h
    · exact .inr (.inl h)
  · rw [c1] at hc
    rcases hmsgs _ hc with h | ⟨i, hi, h⟩
    · exact absurd (congrArg Msg.kind h) (by show ¬ (5 : Int) = 1; decide)
    · exact absurd (congrArg Msg.kind h) (by show ¬ (5 : Int) = 2; decide)
theorem WI.weak {wdr' : Prop} (h : wdr → wdr') (W : WI t a b wdr σ ρ d) : WI t a b wdr' σ ρ d :=
  ⟨W.ok, W.a3, W.b3, W.ne, W.ta, W.tb, fun i hi => by
    obtain ⟨s, h1, h2, h3⟩ := W.hosts i hi
    exact ⟨s, h1, h2, h3.snd, h3.rcv, h3.third, fun hn => h3.nr (fun x => hn (h x))⟩, W.ways, ⟨W.link.gone, W.link.back, W.link.ref, fun x => h (W.link.wdr x)⟩, fun x => h (W.can x)⟩
/-- A message is lost. -/
theorem WI.lose (W : WI t a b wdr σ ρ d) (hl : ∀ x ∈ l, x ∈ d.way) : WI t a b wdr σ ρ { d with way := l } :=
  ⟨W.ok, W.a3, W.b3, W.ne, W.ta, W.tb, fun i hi => by
    obtain ⟨s, h1, h2, h3⟩ := W.hosts i hi
    have e : ({ d with way := l } : Wd).host i = d.host i := by
      match i with
      | 0 => rfl
      | 1 => rfl
      | i + 2 => rfl
    rw [e]
    exact ⟨s, h1, h2, h3⟩, fun m hm => W.ways m (hl m hm), W.link, fun h => W.can (hl _ h)⟩
/-- The page is asked back. -/
theorem WI.withdraw (W : WI t a b wdr σ ρ d) (hw : wdr) : (σ = .off → (withdrawM (d.host a) t.pg).1 = 0 ∧ WI t a b wdr .can ρ (collectM (d.put a (withdrawM (d.host a) t.pg).2)) ∧ (collectM (d.put a (withdrawM (d.host a) t.pg).2)).way = d.way ++ [t.cancel]) ∧
    (σ ≠ .off → (withdrawM (d.host a) t.pg).1 = 7 ∧ WI t a b wdr σ ρ (collectM (d.put a (withdrawM (d.host a) t.pg).2)) ∧ (collectM (d.put a (withdrawM (d.host a) t.pg).2)).way = d.way) := by
  obtain ⟨s, hs, ho, hat⟩ := W.hosts a W.a3
  obtain ⟨x, rfl, hx⟩ := hat.snd rfl
  obtain ⟨w1, w2⟩ := withdraw_sim hs
  have hoth : ∀ j, j < 3 → j ≠ a → (d.host j).out = [] := fun j hj _ => by
    obtain ⟨_, _, h, _⟩ := W.hosts j hj
    exact h
  refine ⟨fun h => ?_, fun h => ?_⟩
  · subst h
    have hx : t.Off x 2 := hx
    obtain ⟨e1, e2, e3⟩ := w2 hx.st
    obtain ⟨c1, c2⟩ := collect_put d a W.a3 (withdrawM (d.host a) t.pg).2 hoth
    have hcm : cancelMsg (a : Int) x = t.cancel := by
      unfold cancelMsg Trip.cancel
      rw [hx.peer, hx.page, hx.ep, W.ta]
    rw [e3, ho, List.nil_append, hcm] at c1
    refine ⟨e1, ⟨W.ok, W.a3, W.b3, W.ne, W.ta, W.tb, fun j hj => ?_, fun m hm => ?_, ⟨fun h => (by cases h), fun h => (by cases h), fun h => (by simp), fun _ => hw⟩, fun _ => hw⟩, c1⟩
    · rw [c2 j hj]
      by_cases hij : a = j
      · subst hij
        rw [if_pos rfl]
        exact ⟨_, e2.out [], rfl, fun _ => ⟨_, rfl, ⟨rfl, hx.ep, hx.peer, hx.letter, hx.page⟩⟩, fun e => absurd e W.ne, fun e _ => absurd rfl e, fun hn => absurd hw hn⟩
      · rw [if_neg hij]
        obtain ⟨sj, h1, h2, h3⟩ := W.hosts j hj
        exact ⟨sj, h1.out [], rfl, fun e => absurd e.symm hij, h3.rcv, h3.third, h3.nr⟩
    · rw [c1] at hm
      rcases List.mem_append.1 hm with hm | hm
      · rcases W.ways m hm with h | h | h | h | ⟨h, -⟩ | h
        · exact .inl h
        · exact .inr (.inl h)
        · exact .inr (.inr (.inl h))
        · exact .inr (.inr (.inr (.inl h)))
        · exact .inr (.inr (.inr (.inr (.inl ⟨h, by simp⟩))))
        · exact .inr (.inr (.inr (.inr (.inr h))))
      · rw [List.mem_singleton.1 hm]
        exact .inr (.inr (.inr (.inr (.inl ⟨rfl, by simp⟩))))
  · have e := w1 (hx.not2 h)
    rw [e]
    obtain ⟨c1, c2⟩ := collect_put d a W.a3 (d.host a) hoth
    rw [ho, List.append_nil] at c1
    refine ⟨rfl, ⟨W.ok, W.a3, W.b3, W.ne, W.ta, W.tb, fun j hj => ?_, fun m hm => W.ways m (by rw [← c1]; exact hm), W.link, fun hc => W.can (by rw [← c1]; exact hc)⟩, c1⟩
    rw [c2 j hj]
    obtain ⟨sj, h1, h2, h3⟩ := W.hosts j hj
    by_cases hij : a = j
    · subst hij
      rw [if_pos rfl]
      exact ⟨sj, h1.out [], rfl, h3⟩
    · rw [if_neg hij]
      exact ⟨sj, h1.out [], rfl, h3⟩
/-- Who runs the page. -/
theorem WI.runsA (W : WI t a b wdr σ ρ d) : (σ = .back → runsM (d.host a) t.pg = (t.e + 1, true)) ∧ (σ ≠ .back → runsM (d.host a) t.pg = (0, false)) := by
  obtain ⟨s, hs, ho, hat⟩ := W.hosts a W.a3
  obtain ⟨x, rfl, hx⟩ := hat.snd rfl
  have hr := runs_sim hs
  simp only at hr
  rw [hr]
  refine ⟨fun h => ?_, fun h => ?_⟩
  · subst h
    rw [if_pos hx.1, hx.2]
  · rw [if_neg]
    cases σ with
    | off => have := (show t.Off x 2 from hx).st; omega
    | can => have := (show t.Off x 3 from hx).st; omega
    | gone => have := (show x.state = 5 ∧ _ from hx).1; omega
    | back => exact absurd rfl h
theorem WI.runsB (W : WI t a b wdr σ ρ d) : (ρ = .run → runsM (d.host b) t.pg = (t.e, true) ∧ letterM (d.host b) t.pg = (t.letter, true)) ∧ (ρ ≠ .run → runsM (d.host b) t.pg = (0, false)) := by
  obtain ⟨s, hs, ho, hat⟩ := W.hosts b W.b3
  have hr := runs_sim hs
  have hl := letter_sim hs
  have hk := hat.rcv rfl
  have he := W.ok.e
  rw [hr, hl]
  refine ⟨fun h => ?_, fun h => ?_⟩
  · subst h
    obtain ⟨x, rfl, hx⟩ := hk
    simp only
    rw [if_pos hx.st, hx.ep, if_pos ⟨hx.st, by omega⟩, hx.letter]
    exact ⟨rfl, rfl⟩
  · cases ρ with
    | fresh =>
      cases s with
      | none => rfl
      | some x => simp only; rw [if_neg (by have := (hk x rfl).1; omega)]
    | recv hv => obtain ⟨x, rfl, hx, -⟩ := hk; simp only; rw [if_neg (by have := hx.st; omega)]
    | run => exact absurd rfl h
    | ref => obtain ⟨x, rfl, hx⟩ := hk; simp only; rw [if_neg (by have := hx.st; omega)]
theorem WI.runsC (W : WI t a b wdr σ ρ d) {c : Nat} (hc : c < 3) (h1 : c ≠ a) (h2 : c ≠ b) : runsM (d.host c) t.pg = (0, false) := by
  obtain ⟨s, hs, ho, hat⟩ := W.hosts c hc
  rw [runs_sim hs]
  have hf := hat.third h1 h2
  cases s with
  | none => rfl
  | some x => simp only; rw [if_neg (by have := (hf x rfl).1; omega)]
theorem WI.running (W : WI t a b wdr σ ρ d) : (runningK d t.pg 3).1 ≤ 1 := by
  have hone : ∀ i, i < 3 → (runsM (d.host i) t.pg).2 = true → (i = a ∧ σ = .back) ∨ (i = b ∧ ρ = .run) := by
    intro i hi h
    by_cases ha : i = a
    · subst ha
      refine .inl ⟨rfl, Classical.byContradiction fun x => ?_⟩
      rw [W.runsA.2 x] at h
      cases h
    · by_cases hb : i = b
      · subst hb
        refine .inr ⟨rfl, Classical.byContradiction fun x => ?_⟩
        rw [W.runsB.2 x] at h
        cases h
      · rw [W.runsC hi ha hb] at h
        cases h
  have hex : ∀ i j, i < 3 → j < 3 → i ≠ j → (runsM (d.host i) t.pg).2 = true → (runsM (d.host j) t.pg).2 = true → False := by
    intro i j hi hj hne h1 h2
    rcases hone i hi h1 with ⟨e1, s1⟩ | ⟨e1, s1⟩ <;> rcases hone j hj h2 with ⟨e2, s2⟩ | ⟨e2, s2⟩
    · omega
    · have := W.link.back s1; rw [s2] at this; cases this
    · have := W.link.back s2; rw [s1] at this; cases this
    · omega
  have step : ∀ k, runningK d t.pg (k + 1) = if (runsM (d.host k) t.pg).2 = true then ((runningK d t.pg k).1 + 1, (runsM (d.host k) t.pg).1) else runningK d t.pg k := fun k => rfl
  have n0 : (runningK d t.pg 0).1 = 0 := rfl
  rw [step 2]
  by_cases h2 : (runsM (d.host 2) t.pg).2 = true
  · rw [if_pos h2, step 1, if_neg (fun h => hex 1 2 (by omega) (by omega) (by omega) h h2), step 0, if_neg (fun h => hex 0 2 (by omega) (by omega) (by omega) h h2)]
    show 0 + 1 ≤ 1; omega
  · rw [if_neg h2, step 1]
    by_cases h1 : (runsM (d.host 1) t.pg).2 = true
    · rw [if_pos h1, step 0, if_neg (fun h => hex 0 1 (by omega) (by omega) (by omega) h h1)]
      show 0 + 1 ≤ 1; omega
    · rw [if_neg h1, step 0]
      split
      · show 0 + 1 ≤ 1; omega
      · show 0 ≤ 1; omega
theorem wts_cut (l : List Msg) (j : Nat) (h : j < l.length) : wts (l.take j ++ l.drop (j + 1)) + wt l[j] = wts l := by
  have e : l = l.take j ++ l[j] :: l.drop (j + 1) := by rw [← List.drop_eq_getElem_cons h, List.take_append_drop]
  have h2 : wts (l[j] :: l.drop (j + 1)) = wt l[j] + wts (l.drop (j + 1)) := by unfold wts; rw [List.map_cons, List.sum_cons]
  have h3 : wts l = wts (l.take j) + (wt l[j] + wts (l.drop (j + 1))) := by
    rw [← h2, ← wts_append, ← e]
  rw [wts_append, h3]
  omega
theorem mem_cut {l : List Msg} {j : Nat} {x : Msg} (h : x ∈ l.take j ++ l.drop (j + 1)) : x ∈ l := by
  rcases List.mem_append.1 h with h | h
  · exact List.mem_of_mem_take h
  · exact List.mem_of_mem_drop h
theorem wts_msgs (t : Trip) : wts t.msgs = 2 + 2 * t.L.length := by
  have h : ∀ l : List Nat, wts (l.map t.part) = 2 * l.length := by
    intro l
    induction l with
    | nil => rfl
    | cons x l ih =>
      rw [List.map_cons]
      unfold wts at ih ⊢
      rw [List.map_cons, List.sum_cons, ih, List.length_cons]
      show 2 + _ = _
      omega
  unfold Trip.msgs
  have h2 : wts (t.offer :: (List.range t.L.length).map t.part) = wt t.offer + wts ((List.range t.L.length).map t.part) := by unfold wts; rw [List.map_cons, List.sum_cons]
  rw [h2, h, List.length_range]
  rfl
end
end Go.Proofs.Ytkoopagjjmdodaa
namespace Go.Proofs.Ytkoopagjjmdodaa
open Go.RowKit
set_option linter.unusedVariables false
set_option linter.unusedSimpArgs false

theorem q_not_p : ((newSeat ⟨#[113]⟩).page.toList == (⟨#[112]⟩ : ByteArray).toList) = false := by
  rw [ByteArray.toList_eq, ByteArray.toList_eq]
  rfl
theorem wd0_hosts (t : Trip) (hp : t.pg = ⟨#[112]⟩) (he : t.e = 2) : ∀ i, i < 3 → ∃ s, Sim t.pg (wd0.host i) i (preOf i) s ∧ (wd0.host i).out = [] ∧ (i = 0 → ∃ x, s = some x ∧ x.state = 1 ∧ x.epoch + 1 = t.e ∧ x.refuses = []) ∧ (i ≠ 0 → t.Fresh s ∧ ∀ x, s = some x → x.refuses = []) := by
  intro i hi
  rw [hp, he]
  have hnil : ∀ (P : Seat → Prop), ∀ x ∈ ([] : List Seat), P x := fun P x hx => (by cases hx)
  have hnone : ∀ (P : Seat → Prop), ∀ x, (none : Option Seat) = some x → P x := fun P x hx => (by cases hx)
  match i, hi with
  | 0, _ => exact ⟨some (newSeat ⟨#[112]⟩), ⟨rfl, rfl, hnil _, fun x hx => (by cases hx; rfl)⟩, rfl, fun _ => ⟨_, rfl, rfl, rfl, rfl⟩, fun h => absurd rfl h⟩
  | 1, _ => exact ⟨none, ⟨rfl, rfl, fun x hx => (by rw [List.mem_singleton.1 (show x ∈ [newSeat ⟨#[113]⟩] from hx)]; exact ⟨q_not_p, rfl⟩), hnone _⟩, rfl, fun h => absurd h (by decide), fun _ => ⟨hnone _, hnone _⟩⟩
  | 2, _ => exact ⟨none, ⟨rfl, rfl, hnil _, hnone _⟩, rfl, fun h => absurd h (by decide), fun _ => ⟨hnone _, hnone _⟩⟩
theorem seat_new_in {page : ByteArray} (hp : page.size ≤ 200) : SeatIn 1 (newSeat page) := new_in hp (Nat.le_refl _)
theorem wd0_in : WdB 1 0 0 wd0 :=
  ⟨⟨Nat.le_refl _, by simp [wd0], Nat.le_refl _, fun s hs => by rw [List.mem_singleton.1 (show s ∈ [newSeat ⟨#[112]⟩] from hs)]; exact seat_new_in (by decide)⟩,
   ⟨Nat.le_refl _, by simp [wd0], Nat.le_refl _, fun s hs => by rw [List.mem_singleton.1 (show s ∈ [newSeat ⟨#[113]⟩] from hs)]; exact seat_new_in (by decide)⟩,
   ⟨Nat.le_refl _, by simp [wd0, newHost], by simp [wd0, newHost], by simp [wd0, newHost]⟩, Nat.le_refl _, by simp [wd0]⟩
end Go.Proofs.Ytkoopagjjmdodaa
