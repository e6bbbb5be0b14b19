/-
  A state is decoded from its bytes (plain laws of layer 53).
-/
import Derived.Test.YtaacafdlklnegaaTilb
namespace Go.Proofs.Ytaacafdlklnegaa
open Go.RowKit
set_option linter.unusedVariables false

theorem restSplit {s : ByteArray} {p : Nat} {a r : List UInt8} (hp : p ≤ s.size) (h : s.data.toList.drop p = a ++ r) : p + a.length ≤ s.size ∧ s.data.toList.drop (p + a.length) = r := by
  have h2 := congrArg List.length h
  have hl : s.data.toList.length = s.size := by simp
  rw [List.length_drop, hl, List.length_append] at h2
  refine ⟨by omega, ?_⟩
  rw [← List.drop_drop, h, List.drop_left]
/-- What is written is read again. -/
def Fwd {α : Type} (s : ByteArray) (f : RS → α × RS) (enc : α → List UInt8) (x : α) : Prop :=
  ∀ (p : Nat) (rest : List UInt8), p ≤ s.size → s.data.toList.drop p = enc x ++ rest → f ((p : Int), 0) = (x, ((p + (enc x).length : Nat) : Int), 0)
theorem rT_f (s t : ByteArray) (ht : t.size ≤ 9223372036854775807) : Fwd s (rT s) bytesOf t := by
  intro p r hp h
  unfold rT
  simp only
  rw [rS_enc s t p r hp (by omega) (by rw [h, bytesOf, List.append_assoc])]
  simp [bytesOf, Nat.add_assoc]
theorem rI_f (s : ByteArray) (n : Int) (hn : I64 n) : Fwd s (rI s) encI n := by
  intro p r hp h
  unfold rI
  simp only
  rw [rU_enc s p (Kn.zig n) r hp (Kn.zig_lt hn.lo hn.hi) h]
  simp only [Kn.unzig_zig hn.lo hn.hi]
  rfl
theorem rO_f (s : ByteArray) (t : Bool) : Fwd s (rO s) bit t := by
  intro p r hp h
  unfold rO
  simp only
  rw [rB_enc s p t r hp h]
  rfl
theorem rN_f (s : ByteArray) (m : Int) (n : Nat) (hn : n < 18446744073709551616) (hm : (n : Int) ≤ m) : Fwd s (rN s m) Kn.enc n := by
  intro p r hp h
  unfold rN
  simp only
  rw [rC_enc s p n m r hp hn hm h]
theorem rMany_f {α : Type} {s : ByteArray} {f : RS → α × RS} {enc : α → List UInt8} : ∀ (l : List α), (∀ x ∈ l, Fwd s f enc x) → Fwd s (rMany f l.length) (fun l => l.flatMap enc) l
  | [], _ => fun p r hp h => by simp [rMany]
  | x :: l, hl => fun p r hp h => by
    have h' : s.data.toList.drop p = enc x ++ (l.flatMap enc ++ r) := by rw [h]; simp
    obtain ⟨p2, d2⟩ := restSplit hp h'
    have a1 := hl x (List.mem_cons_self ..) p _ hp h'
    have a2 := rMany_f l (fun y hy => hl y (List.mem_cons_of_mem _ hy)) _ r p2 d2
    rw [List.length_cons, rMany_succ _ _ _ rfl, a1]
    simp only
    rw [a2]
    simp [Nat.add_assoc]
theorem decO_f (s : ByteArray) (x : Owner) (h1 : x.page.size ≤ 9223372036854775807) (h2 : I64 x.epoch) : Fwd s (decO s) encO x := by
  intro p r hp h
  have h' : s.data.toList.drop p = bytesOf x.page ++ (encI x.epoch ++ r) := by rw [h]; simp [encO]
  obtain ⟨p2, d2⟩ := restSplit hp h'
  have a1 := rT_f s x.page h1 p _ hp h'
  have a2 := rI_f s x.epoch h2 _ _ p2 d2
  simp only [decO, a1, a2]
  simp [encO, Nat.add_assoc]
theorem decE_f (s : ByteArray) (most : Int) (x : Entry) (hx : EncE x) (h1 : x.page.size ≤ 9223372036854775807) (h2 : x.request.size ≤ 9223372036854775807) (h3 : ∀ y ∈ x.pieces, y.size ≤ 9223372036854775807) (h4 : x.pieces.length < 18446744073709551616) (h5 : (x.pieces.length : Int) ≤ most) : Fwd s (decE s most) encE x := by
  intro p r hp h
  have h' : s.data.toList.drop p = bytesOf x.page ++ (encI x.number ++ (bytesOf x.request ++ (Kn.enc x.pieces.length ++ (x.pieces.flatMap bytesOf ++ (encI x.acked ++ (bit x.ended ++ (bit x.closed ++ r))))))) := by rw [h]; simp [encE]
  obtain ⟨p1, d1⟩ := restSplit hp h'
  have a0 := rT_f s x.page h1 p _ hp h'
  have a1 := rI_f s x.number hx.num _ _ p1 d1
  obtain ⟨p2, d2⟩ := restSplit p1 d1
  have a2 := rT_f s x.request h2 _ _ p2 d2
  obtain ⟨p3, d3⟩ := restSplit p2 d2
  have a3 := rN_f s most x.pieces.length h4 h5 _ _ p3 d3
  obtain ⟨p4, d4⟩ := restSplit p3 d3
  have a4 := rMany_f (f := rT s) x.pieces (fun y hy => rT_f s y (h3 y hy)) _ _ p4 d4
  obtain ⟨p5, d5⟩ := restSplit p4 d4
  have a5 := rI_f s x.acked hx.ack _ _ p5 d5
  obtain ⟨p6, d6⟩ := restSplit p5 d5
  have a6 := rO_f s x.ended _ _ p6 d6
  obtain ⟨p7, d7⟩ := restSplit p6 d6
  have a7 := rO_f s x.closed _ _ p7 d7
  simp only [decE, a0, a1, a2, a3, a4, a5, a6, a7]
  simp [encE, Nat.add_assoc]
theorem flat_ge {α : Type} (f : α → List UInt8) : ∀ (l : List α), (∀ x ∈ l, 0 < (f x).length) → l.length ≤ (l.flatMap f).length
  | [], _ => by simp
  | a :: l, h => by
    have := flat_ge f l (fun x hx => h x (List.mem_cons_of_mem _ hx))
    have h1 := h a (List.mem_cons_self ..)
    rw [List.flatMap_cons, List.length_append, List.length_cons]; omega
theorem bytesOf_pos (s : ByteArray) : 0 < (bytesOf s).length := by
  have := Kn.enc_pos s.size
  unfold bytesOf; rw [List.length_append]; omega
theorem bytesOf_ge (t : ByteArray) : t.size ≤ (bytesOf t).length := by
  have h2 : t.data.toList.length = t.size := by simp
  unfold bytesOf; rw [List.length_append]; omega
/-- A state is decoded from its bytes. -/
theorem decS_enc (st : State) (hs : st.sent = st.entries.map (·.request)) (he : EncOk st) : decS ⟨(encS st).toArray⟩ = (st, (((encS st).length : Nat) : Int), 0) := by
  generalize hb : (⟨(encS st).toArray⟩ : ByteArray) = s
  have hsz : s.size = (encS st).length := by rw [← hb]; rfl
  have hlen := he.len
  have hE : encS st = Kn.enc st.owners.length ++ (st.owners.flatMap encO ++ (Kn.enc st.entries.length ++ (st.entries.flatMap encE ++ []))) := by simp [encS]
  have h0 : s.data.toList.drop 0 = Kn.enc st.owners.length ++ (st.owners.flatMap encO ++ (Kn.enc st.entries.length ++ (st.entries.flatMap encE ++ []))) := by
    rw [← hE, ← hb]; rfl
  have hl : (encS st).length = (Kn.enc st.owners.length).length + (st.owners.flatMap encO).length + (Kn.enc st.entries.length).length + (st.entries.flatMap encE).length := by
    unfold encS; simp only [List.length_append]
  have g1 := flat_ge encO st.owners (fun x _ => by have := bytesOf_pos x.page; unfold encO; rw [List.length_append]; omega)
  have g2 := flat_ge encE st.entries (fun x _ => by have := bytesOf_pos x.page; unfold encE; simp only [List.length_append]; omega)
  have hO : ∀ x ∈ st.owners, Fwd s (decO s) encO x := fun x hx => by
    obtain ⟨k, hk, rfl⟩ := List.getElem_of_mem hx
    have h1 := (take_flat encO st.owners k hk).2
    have h2 := bytesOf_ge st.owners[k].page
    have h3 : (encO st.owners[k]).length = (bytesOf st.owners[k].page).length + (encI st.owners[k].epoch).length := by unfold encO; rw [List.length_append]
    exact decO_f s _ (by omega) (he.os _ hx)
  have hEn : ∀ x ∈ st.entries, Fwd s (decE s (s.size : Int)) encE x := fun x hx => by
    obtain ⟨k, hk, rfl⟩ := List.getElem_of_mem hx
    have h1 := (take_flat encE st.entries k hk).2
    have h2 := bytesOf_ge st.entries[k].page
    have h4 := bytesOf_ge st.entries[k].request
    have h5 := flat_ge bytesOf st.entries[k].pieces (fun y _ => bytesOf_pos y)
    have h3 : (bytesOf st.entries[k].page).length + (bytesOf st.entries[k].request).length + (st.entries[k].pieces.flatMap bytesOf).length ≤ (encE st.entries[k]).length := by unfold encE; simp only [List.length_append]; omega
    refine decE_f s _ _ (he.es _ hx) (by omega) (by omega) (fun y hy => ?_) (by omega) (by omega)
    obtain ⟨j, hj, rfl⟩ := List.getElem_of_mem hy
    have := (take_flat bytesOf st.entries[k].pieces j hj).2
    have := bytesOf_ge (st.entries[k].pieces[j])
    omega
  have a0 := rN_f s (s.size : Int) st.owners.length (by omega) (by omega) 0 _ (Nat.zero_le _) h0
  obtain ⟨p1, d1⟩ := restSplit (Nat.zero_le _) h0
  have a1 := rMany_f st.owners hO _ _ p1 d1
  obtain ⟨p2, d2⟩ := restSplit p1 d1
  have a2 := rN_f s (s.size : Int) st.entries.length (by omega) (by omega) _ _ p2 d2
  obtain ⟨p3, d3⟩ := restSplit p2 d2
  have a3 := rMany_f st.entries hEn _ _ p3 d3
  have a0' : rN s (s.size : Int) (0, 0) = _ := a0
  simp only [decS, a0', a1, a2, a3]
  rw [hl, ← hs]
  simp only [Nat.zero_add]
theorem good_enc (st : State) (hf : Formed st) (he : EncOk st) : Good ⟨(encS st).toArray⟩ ∧ (decS ⟨(encS st).toArray⟩).1 = st := by
  have h := decS_enc st hf.sent he
  refine ⟨⟨by rw [h], by rw [h]; rfl, by rw [h]; exact hf.allOk⟩, by rw [h]⟩
end Go.Proofs.Ytaacafdlklnegaa
