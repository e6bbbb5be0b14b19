/-
  The law's operations as the walk meets them.
  The law's plain and few.
  The law's fixed example.
  The law HistoryEvict: the walk.
  The law's operations as the walk meets them, with a bound of their strings.
  The messages of a history are small enough for their bytes.
  What the reference of layer 47 says of a message, plainly: it is what port.Valid says.
  What the reference of layer 47 says of a message, plainly (second part): the order of its walk, the keys of maps, its nodes.
-/
import Derived.Test.YtiecgbmeobpomaaDoorPHistoryNewk
import Derived.Test.YtiecgbmeobpomaaDoorPHistoryNewa
import Derived.SizedLaws
import Derived.Test.YtiecgbmeobpomaaDoorPHistoryNewe
import Derived.Test.YtiecgbmeobpomaaDoorPHistoryNewj
namespace Go.Proofs.YtiecgbmeobpomaaDoor
open Go.ChangeShapes Go.WideShapes Go.ChangeAt Go.RowKit
set_option linter.unusedVariables false
set_option linter.unusedSimpArgs false

section
variable {H : Type} {enc : TypeId × Value → H} {P : Program} {w : World}
/-- A slice in a field: its elements, each read by its own type. -/
theorem open_field {t e : TypeId} {x : List Value} {o fuel : Nat} {y : DataW H × List MemPlace} (ht : P.underlying t = some (.slice e)) (hc : P.cellsOf t = 1) (hn : 0 < P.cellsOf e) (h : DataW.trod enc P w 0 (fun _ => true) true fuel t ((x.drop o).take (P.cellsOf t)) = some y) :
    ∃ (a : Option Addr) (cap : Nat) (xs : List (List Value)), x[o]? = some (.slice a xs.length cap) ∧ ArgRows w (.slice a xs.length cap) (P.cellsOf e) xs ∧ ∀ z ∈ xs, z.length = P.cellsOf e ∧ ∃ fuel y, DataW.trod enc P w 0 (fun _ => true) true fuel e z = some y := by
  rw [hc] at h
  rcases DataW.trod_slice ht h with ⟨hcs, -⟩ | ⟨ad, len, cap, elems, rest, n, -, hcs, -, -, hl, hm, hlen, hel, -, -⟩
  · exact ⟨none, 0, [], one_get hcs, ⟨none, 0, rfl, Nat.le_refl _, by simp, fun h => absurd rfl h⟩, by simp⟩
  · have each : ∀ i, i < len → ∃ cs, w.cells? 0 (ad.add (i * P.cellsOf e)) (P.cellsOf e) = some cs ∧ ∃ y, DataW.trod enc P w 0 (fun _ => true) true n e cs = some y := by
      intro i hi
      have h1 := hel i hi
      rw [List.getElem?_eq_getElem (by omega), Option.bind_eq_some_iff] at h1
      obtain ⟨cs, h2, h3⟩ := h1
      exact ⟨cs, h2, _, h3⟩
    let f : Nat → List Value := fun i => (w.cells? 0 (ad.add (i * P.cellsOf e)) (P.cellsOf e)).getD []
    have hlf : ((List.range len).map f).length = len := by simp
    refine ⟨some ad, cap, (List.range len).map f, by rw [hlf]; exact one_get hcs, ⟨some ad, cap, by rw [hlf], by rw [hlf]; exact hl, hm, fun hne => ?_⟩, fun x hx => ?_⟩
    · have h0 : 0 < len := by
        apply Nat.pos_of_ne_zero
        rintro rfl
        simp at hne
      obtain ⟨cs0, hc0, -⟩ := each 0 h0
      obtain ⟨-, hl0, hg0⟩ := World.cells?_some hc0
      have h1 := hg0 0 hn
      rw [List.getElem?_eq_getElem (by omega), Nat.zero_mul] at h1
      obtain ⟨g, off, hh⟩ := addr_none h1
      have hadd0 : ad.add 0 = ad := by obtain ⟨b', o', s'⟩ := ad; unfold Addr.add; split <;> simp_all
      rw [hadd0] at hh
      subst hh
      refine ⟨g, off, rfl, fun j i x u hj hi => ?_⟩
      rw [List.getElem?_map] at hj
      obtain ⟨k, hk, rfl⟩ := Option.map_eq_some_iff.1 hj
      obtain ⟨hk1, hk2⟩ := List.getElem?_eq_some_iff.1 hk
      rw [List.length_range] at hk1
      rw [List.getElem_range] at hk2
      subst hk2
      obtain ⟨cs, hc, -⟩ := each j hk1
      have hfx : f j = cs := by show (w.cells? 0 _ _).getD [] = cs; rw [hc]; rfl
      rw [hfx] at hi
      obtain ⟨-, hl', hg'⟩ := World.cells?_some hc
      have hi' : i < P.cellsOf e := by rw [← hl']; exact (List.getElem?_eq_some_iff.1 hi).1
      have h2 := hg' i hi'
      rw [hi, add_none, add_none] at h2
      exact h2
    · obtain ⟨i, hi, rfl⟩ := List.mem_map.1 hx
      rw [List.mem_range] at hi
      obtain ⟨cs, hc, y, hy⟩ := each i hi
      have hfx : f i = cs := by show (w.cells? 0 _ _).getD [] = cs; rw [hc]; rfl
      rw [hfx]
      obtain ⟨-, hl', -⟩ := World.cells?_some hc
      exact ⟨hl', n, y, hy⟩
end
theorem cell_bool {H : Type} {enc : TypeId × Value → H} {P : Program} {w : World} {x : List Value} {y : DataW H × List MemPlace} {fuel o : Nat} {t : TypeId} (ht : P.underlying t = some .bool) (hc : P.cellsOf t = 1) (h : DataW.trod enc P w 0 (fun _ => true) true fuel t ((x.drop o).take (P.cellsOf t)) = some y) : ∃ b, x[o]? = some (.bool b) := by
  obtain ⟨b, h1, -⟩ := DataW.trod_bool ht h
  rw [hc] at h1
  exact ⟨b, one_get h1⟩
theorem flat_one {α β : Type} (f : α → β) : ∀ l : List α, l.flatMap (fun z => [f z]) = l.map f
  | [] => rfl
  | a :: l => by rw [List.flatMap_cons, flat_one f l]; rfl
theorem map_of {α : Type} {f : α → List Value} {Q : α → Prop} : ∀ (xs : List (List Value)), (∀ x ∈ xs, ∃ a, x = f a ∧ Q a) → ∃ l : List α, xs = l.map f ∧ ∀ a ∈ l, Q a
  | [], _ => ⟨[], rfl, by simp⟩
  | x :: xs, h => by
    obtain ⟨a, rfl, ha⟩ := h x (by simp)
    obtain ⟨l, rfl, hl⟩ := map_of xs fun y hy => h y (by simp [hy])
    exact ⟨a :: l, rfl, fun b hb => (List.mem_cons.1 hb).elim (fun e => e ▸ ha) (hl b)⟩
/-- An argument's slice is only read, and lies in old blocks. -/
theorem seen_args {α : Type} {w : World} {v : Value} {n : Nat} {f : α → List Value} (hn : 0 < n) (hf : ∀ a, (f a).length = n) {l : List α} (h : ArgRows w v n (l.map f)) : SeenN (fun k => w.heap.size ≤ k) w n v l.length (l.flatMap f) := by
  obtain ⟨a, cap, rfl, h1, h2, h3⟩ := h
  rw [List.length_map] at h1 ⊢
  have hlen : (l.flatMap f).length = l.length * n := by
    clear h1 h2 h3
    induction l with
    | nil => simp
    | cons x l ih => rw [List.flatMap_cons, List.length_append, hf, ih, List.length_cons, Nat.succ_mul]; omega
  have hz : 0 < l.length → ∃ g off, a = some ⟨g, off, none⟩ ∧ ∀ (j i : Nat) (x : List Value) (u : Value), (l.map f)[j]? = some x → x[i]? = some u → w.cell? ⟨g, off + j * n + i, none⟩ = some u := fun hl => h3 (by intro e; rw [List.map_eq_nil_iff] at e; subst e; simp at hl)
  refine ⟨a, cap, rfl, h1, h2, hlen, fun e => ?_, fun hl => ?_⟩
  · apply Nat.eq_zero_of_not_pos
    intro hl
    obtain ⟨g, off, rfl, -⟩ := hz hl
    cases e
  · obtain ⟨g, off, rfl, hc⟩ := hz hl
    have hcell : ∀ j u, (l.flatMap f)[j]? = some u → w.cell? ⟨g, off + j, none⟩ = some u := fun j u hu => by
      have hj : j < l.length * n := by rw [← hlen]; exact (List.getElem?_eq_some_iff.1 hu).1
      have hq : j / n < l.length := Nat.div_lt_of_lt_mul (by rw [Nat.mul_comm]; exact hj)
      have hm := Nat.mod_lt j hn
      have he : j = j / n * n + j % n := by rw [Nat.mul_comm]; exact (Nat.div_add_mod j n).symm
      rw [he, flat_get _ n hf l (j / n) (j % n) hq hm] at hu
      have := hc (j / n) (j % n) (f l[j / n]) u (by rw [List.getElem?_map, List.getElem?_eq_getElem hq]; rfl) hu
      rw [Nat.add_assoc, ← he] at this
      exact this
    have h0 : ∃ u, (l.flatMap f)[0]? = some u := ⟨_, List.getElem?_eq_getElem (by rw [hlen]; exact Nat.mul_pos hl hn)⟩
    obtain ⟨u, hu⟩ := h0
    have hlt := World.block_lt_of_cell? w _ (hcell 0 u hu)
    exact ⟨g, off, rfl, by show ¬ w.heap.size ≤ g; have : g < w.heap.size := hlt; omega, hlt, hcell⟩
/-- What is known of any node. -/
structure NodRaw (n : Nod) : Prop where
  kind : I64 n.kind
  int : I64 n.int
  str : n.str.size ≤ maxLen
  keys : ∀ x ∈ n.keys, x.size ≤ maxLen
  kids : ∀ x ∈ n.kids, I64 x
structure MsgRaw (m : Msg) : Prop where
  nodes : ∀ x ∈ m.nodes, NodRaw x
  ports : ∀ x ∈ m.ports, I64 x
theorem i64_of {n : Int} (h : IntKind.i64.min ≤ n ∧ n ≤ IntKind.i64.max) : I64 n := by
  have e1 : IntKind.i64.min = -9223372036854775808 := by decide
  have e2 : IntKind.i64.max = 9223372036854775807 := by decide
  rw [e1, e2] at h
  exact h
theorem lst5 {x : List Value} {a b c d e : Value} (hl : x.length = 5) (h0 : x[0]? = some a) (h1 : x[1]? = some b) (h2 : x[2]? = some c) (h3 : x[3]? = some d) (h4 : x[4]? = some e) : x = [a, b, c, d, e] := by
  match x, hl with
  | [_, _, _, _, _], _ => simp_all
theorem lst6 {x : List Value} {a b c d e f : Value} (hl : x.length = 6) (h0 : x[0]? = some a) (h1 : x[1]? = some b) (h2 : x[2]? = some c) (h3 : x[3]? = some d) (h4 : x[4]? = some e) (h5 : x[5]? = some f) : x = [a, b, c, d, e, f] := by
  match x, hl with
  | [_, _, _, _, _, _], _ => simp_all
section
variable {H : Type} {enc : TypeId × Value → H} {w : World}
theorem cI : Tryd.prog.cellsOf 3 = 1 := by kernel_rfl
theorem cI64 : Tryd.prog.cellsOf 2 = 1 := by kernel_rfl
theorem cS : Tryd.prog.cellsOf 9 = 1 := by kernel_rfl
theorem open_ints {x : List Value} {o fuel : Nat} {y : DataW H × List MemPlace} (h : DataW.trod enc Tryd.prog w 0 (fun _ => true) true fuel 26 ((x.drop o).take (Tryd.prog.cellsOf 26)) = some y) :
    ∃ (a : Option Addr) (cap : Nat) (l : List Int), x[o]? = some (.slice a l.length cap) ∧ SeenN (fun k => w.heap.size ≤ k) w 1 (.slice a l.length cap) l.length (intC l) ∧ ∀ z ∈ l, I64 z := by
  obtain ⟨a, cap, xs, h1, h2, h3⟩ := open_field Tryd.underlying26 (by kernel_rfl) (by rw [cI]; decide) h
  rw [cI] at h2 h3
  obtain ⟨l, rfl, hl⟩ := map_of (f := fun z : Int => [Value.int .i64 z]) (Q := I64) xs (fun z hz => by
    obtain ⟨hzl, f2, y2, h4⟩ := h3 z hz
    obtain ⟨n, h5, h6⟩ := cell_int (x := z) (o := 0) Tryd.underlying3 cI (by rw [cI, List.drop_zero, List.take_of_length_le (by omega)]; exact h4)
    refine ⟨n, ?_, i64_of h6⟩
    match z, hzl, h5 with
    | [_], _, h5 => simp_all)
  rw [List.length_map] at h1 h2
  have h7 := seen_args (f := fun z : Int => [Value.int .i64 z]) (by decide) (fun _ => rfl) h2
  have h8 : l.flatMap (fun z : Int => [Value.int .i64 z]) = intC l := flat_one _ l
  rw [h8] at h7
  exact ⟨a, cap, l, h1, h7, hl⟩
theorem open_strs {x : List Value} {o fuel : Nat} {y : DataW H × List MemPlace} (h : DataW.trod enc Tryd.prog w 0 (fun _ => true) true fuel 83 ((x.drop o).take (Tryd.prog.cellsOf 83)) = some y) :
    ∃ (a : Option Addr) (cap : Nat) (l : List ByteArray), x[o]? = some (.slice a l.length cap) ∧ SeenN (fun k => w.heap.size ≤ k) w 1 (.slice a l.length cap) l.length (strC l) ∧ ∀ z ∈ l, z.size ≤ maxLen := by
  obtain ⟨a, cap, xs, h1, h2, h3⟩ := open_field Tryd.underlying83 (by kernel_rfl) (by rw [cS]; decide) h
  rw [cS] at h2 h3
  obtain ⟨l, rfl, hl⟩ := map_of (f := fun z : ByteArray => [Value.string z]) (Q := fun z => z.size ≤ maxLen) xs (fun z hz => by
    obtain ⟨hzl, f2, y2, h4⟩ := h3 z hz
    obtain ⟨n, h5, h6⟩ := cell_string (x := z) (o := 0) Tryd.underlying9 cS (by rw [cS, List.drop_zero, List.take_of_length_le (by omega)]; exact h4)
    refine ⟨n, ?_, h6⟩
    match z, hzl, h5 with
    | [_], _, h5 => simp_all)
  rw [List.length_map] at h1 h2
  have h7 := seen_args (f := fun z : ByteArray => [Value.string z]) (by decide) (fun _ => rfl) h2
  have h8 : l.flatMap (fun z : ByteArray => [Value.string z]) = strC l := flat_one _ l
  rw [h8] at h7
  exact ⟨a, cap, l, h1, h7, hl⟩
set_option maxRecDepth 100000 in
/-- A message in two cells. -/
theorem open_msg {x : List Value} {fuel : Nat} {y : DataW H × List MemPlace} (h : DataW.trod enc Tryd.prog w 0 (fun _ => true) true fuel 32 x = some y) :
    ∃ (sn sp : Option Addr) (nn cn np cp : Nat) (m : Msg), x[0]? = some (.slice sn nn cn) ∧ x[1]? = some (.slice sp np cp) ∧ MsgAt (fun k => w.heap.size ≤ k) w (.slice sn nn cn) (.slice sp np cp) m ∧ MsgRaw m := by
  obtain ⟨ys, f1, _, _, _, hxl, hx⟩ := DataW.trod_struct Tryd.underlying32 h
  obtain ⟨y0, k0⟩ : ∃ y0, DataW.trod enc Tryd.prog w 0 (fun _ => true) true f1 30 ((x.drop 0).take (Tryd.prog.cellsOf 30)) = some y0 := ⟨ys[0]'(by rw [hxl]; decide), by rw [← List.getElem?_eq_getElem (by rw [hxl]; decide)] ; exact hx 0 _ rfl⟩
  obtain ⟨y1, k1⟩ : ∃ y1, DataW.trod enc Tryd.prog w 0 (fun _ => true) true f1 26 ((x.drop 1).take (Tryd.prog.cellsOf 26)) = some y1 := ⟨ys[1]'(by rw [hxl]; decide), by rw [← List.getElem?_eq_getElem (by rw [hxl]; decide)] ; exact hx 1 _ rfl⟩
  obtain ⟨a1, c1, ports, p1, p2, p3⟩ := open_ints k1
  have c5 : Tryd.prog.cellsOf 85 = 5 := by kernel_rfl
  obtain ⟨a0, c0, xs, h1, h2, h3⟩ := open_field Tryd.underlying30 (by kernel_rfl) (by rw [c5]; decide) k0
  rw [c5] at h2 h3
  obtain ⟨l, rfl, hl⟩ := map_of (f := fun z : NodR × Nod => z.1.cells) (Q := fun z => NodAt (fun k => w.heap.size ≤ k) w z.1 z.2 ∧ NodRaw z.2) xs (fun z hz => by
    obtain ⟨hzl, f2, y2, h4⟩ := h3 z hz
    obtain ⟨zs, f3, _, _, _, hzl2, hzx⟩ := DataW.trod_struct Tryd.underlying85 h4
    have get : ∀ (i : Nat) (hi : i < 5), ∃ y, zs[i]? = some y := fun i hi => ⟨_, List.getElem?_eq_getElem (by rw [hzl2]; exact hi)⟩
    obtain ⟨q0, e0⟩ := get 0 (by decide)
    obtain ⟨q1, e1⟩ := get 1 (by decide)
    obtain ⟨q2, e2⟩ := get 2 (by decide)
    obtain ⟨q3, e3⟩ := get 3 (by decide)
    obtain ⟨q4, e4⟩ := get 4 (by decide)
    have z0 := hzx 0 _ rfl
    have z1 := hzx 1 _ rfl
    have z2 := hzx 2 _ rfl
    have z3 := hzx 3 _ rfl
    have z4 := hzx 4 _ rfl
    rw [e0] at z0
    rw [e1] at z1
    rw [e2] at z2
    rw [e3] at z3
    rw [e4] at z4
    obtain ⟨v0, b0, r0⟩ := cell_int Tryd.underlying3 cI z0
    obtain ⟨v1, b1, r1⟩ := cell_int Tryd.underlying2 cI64 z1
    obtain ⟨v2, b2, r2⟩ := cell_string Tryd.underlying9 cS z2
    obtain ⟨a3, d3, l3, b3, s3, r3⟩ := open_strs z3
    obtain ⟨a4, d4, l4, b4, s4, r4⟩ := open_ints z4
    exact ⟨(⟨v0, v1, v2, .slice a3 l3.length d3, .slice a4 l4.length d4⟩, ⟨v0, v1, v2, l3, l4⟩), lst5 hzl b0 b1 b2 b3 b4, ⟨rfl, rfl, rfl, s3, s4⟩, ⟨i64_of r0, i64_of r1, r2, r3, r4⟩⟩)
  rw [List.length_map] at h1 h2
  have h7 := seen_args (f := fun z : NodR × Nod => z.1.cells) (by decide) (fun z => NodR.len z.1) h2
  refine ⟨a0, a1, l.length, c0, ports.length, c1, ⟨l.map (fun z => z.2), ports⟩, h1, p1, ⟨⟨l.map (fun z => z.1), by simp, fun i hi hi' => ?_, ?_⟩, p2⟩, ⟨fun n hn => ?_, p3⟩⟩
  · simp only [List.getElem_map]
    exact (hl _ (List.getElem_mem _)).1
  · rw [List.length_map, List.flatMap_map]
    exact h7
  · obtain ⟨z, hz, rfl⟩ := List.mem_map.1 hn
    exact (hl z hz).2
end
/-- An operation as it came in. -/
structure OpR where
  o : COp
  sn : Option Addr
  sp : Option Addr
  nn : Nat
  cn : Nat
  np : Nat
  cp : Nat
def OpR.cells (r : OpR) : List Value := [.int .u8 (r.o.kind : Int), .string r.o.url, .bool r.o.keep, .int .i8 r.o.delta, .slice r.sn r.nn r.cn, .slice r.sp r.np r.cp]
structure OpOk (w : World) (r : OpR) : Prop where
  kind : r.o.kind < 256
  url : r.o.url.size ≤ maxLen
  delta : -128 ≤ r.o.delta ∧ r.o.delta ≤ 127
  msg : MsgAt (fun k => w.heap.size ≤ k) w (.slice r.sn r.nn r.cn) (.slice r.sp r.np r.cp) r.o.msg
  raw : MsgRaw r.o.msg
set_option maxRecDepth 100000 in
theorem open_ops {H : Type} {enc : TypeId × Value → H} {w : World} {base : Nat} {v : Value} {d : DataW H} {ps : List MemPlace} (hv : Value.okWide Tryd.prog w .any base 22 v) (h : DataW.Trod enc Tryd.prog w 0 (fun _ => true) true 22 v d ps) :
    ∃ x : Value × List OpR, v = x.1 ∧ ArgRows w x.1 6 (x.2.map OpR.cells) ∧ ∀ r ∈ x.2, OpOk w r := by
  have h6 : Tryd.prog.cellsOf 38 = 6 := by kernel_rfl
  have h2c : Tryd.prog.cellsOf 32 = 2 := by kernel_rfl
  obtain ⟨xs, h1, h2⟩ := open_rows Tryd.underlying22 Tryd.underlying38 (by rw [h6]; decide) hv h
  rw [h6] at h1 h2
  have cu : Tryd.prog.cellsOf 5 = 1 := by kernel_rfl
  have ci : Tryd.prog.cellsOf 36 = 1 := by kernel_rfl
  have cb : Tryd.prog.cellsOf 4 = 1 := by kernel_rfl
  have e1 : IntKind.u8.min = 0 := by decide
  have e2 : IntKind.u8.max = 255 := by decide
  have e3 : IntKind.i8.min = -128 := by decide
  have e4 : IntKind.i8.max = 127 := by decide
  obtain ⟨l, rfl, hl⟩ := map_of (f := OpR.cells) (Q := OpOk w) xs (fun x hx => by
    obtain ⟨hlx, hf⟩ := h2 x hx
    obtain ⟨n0, y0, k0⟩ := hf 0 _ rfl
    obtain ⟨n1, y1, k1⟩ := hf 1 _ rfl
    obtain ⟨n2, y2, k2⟩ := hf 2 _ rfl
    obtain ⟨n3, y3, k3⟩ := hf 3 _ rfl
    obtain ⟨n4, y4, k4⟩ := hf 4 _ rfl
    obtain ⟨a0, b0, r0⟩ := cell_int Tryd.underlying5 cu k0
    obtain ⟨a1, b1, r1⟩ := cell_string Tryd.underlying9 cS k1
    obtain ⟨a2, b2⟩ := cell_bool Tryd.underlying4 cb k2
    obtain ⟨a3, b3, r3⟩ := cell_int Tryd.underlying36 ci k3
    have k4' : DataW.trod enc Tryd.prog w 0 (fun _ => true) true n4 32 ((x.drop 4).take (Tryd.prog.cellsOf 32)) = some y4 := k4
    rw [h2c] at k4'
    obtain ⟨sn, sp, nn, cn, np, cp, m, m0, m1, hm, hr⟩ := open_msg k4'
    rw [e1, e2] at r0
    rw [e3, e4] at r3
    have q4 : x[4]? = some (.slice sn nn cn) := by rw [List.getElem?_take, if_pos (by decide), List.getElem?_drop] at m0; exact m0
    have q5 : x[5]? = some (.slice sp np cp) := by rw [List.getElem?_take, if_pos (by decide), List.getElem?_drop] at m1; exact m1
    obtain ⟨k, rfl⟩ : ∃ k : Nat, a0 = (k : Int) := ⟨a0.toNat, by omega⟩
    exact ⟨⟨⟨k, a1, a2, a3, m⟩, sn, sp, nn, cn, np, cp⟩, lst6 hlx b0 b1 b2 b3 q4 q5, by show k < 256; omega, r1, r3, hm, hr⟩)
  exact ⟨(v, l), rfl, h1, hl⟩
end Go.Proofs.YtiecgbmeobpomaaDoor
namespace Go.Proofs.YtiecgbmeobpomaaDoor
open Go.RowKit
set_option linter.unusedVariables false
set_option linter.unusedSimpArgs false

def plainN (n : Nod) : Bool := decide (n.keys.length ≤ 10) && (decide (n.kids.length ≤ 10) && decide (n.str.size ≤ 100))
def plainB (m : Msg) : Bool := m.nodes.all plainN && (decide (m.nodes.length ≤ 12) && decide (m.ports.length ≤ 5))
theorem all_take_false {α : Type} {p : α → Bool} {l : List α} {k : Nat} (hk : k < l.length) (h : p l[k] = false) : l.all p = false := by
  rw [List.all_eq_false]
  exact ⟨l[k], List.getElem_mem hk, by rw [h]; decide⟩
theorem all_take_succ {α : Type} {p : α → Bool} {l : List α} {k : Nat} (hk : k < l.length) (h : (l.take k).all p = true) (h2 : p l[k] = true) : (l.take (k + 1)).all p = true := by
  rw [List.take_succ_eq_append_getElem hk, List.all_append, h]
  simp [h2]
set_option maxHeartbeats 3200000 in
set_option maxRecDepth 100000 in
theorem plain_any {D : Nat → Prop} (w : World) (sn sp : Option Addr) (nn cn np cp : Nat) (m : Msg) (hm : MsgAt D w (.slice sn nn cn) (.slice sp np cp) m) :
    Calls Tryd.prog 23 #[.agg #[.slice sn nn cn, .slice sp np cp]] w fun e w' => e = .returned (.bool (plainB m)) ∧ Chg (fun _ => False) w w' := by
  obtain ⟨⟨rsN, hrl, hre, hrs⟩, hmp⟩ := hm
  have hnn : nn = rsN.length := by obtain ⟨_, _, e, -⟩ := hrs; cases e; rfl
  have hnp : np = m.ports.length := by obtain ⟨_, _, e, -⟩ := hmp; cases e; rfl
  have hmax : (nn : Int) ≤ 9223372036854775807 := by
    obtain ⟨_, _, e, h1, h2, -⟩ := hrs
    unfold maxLen at h2
    omega
  have hca := Chg.alloc (fun _ => False) w (.cells #[.slice sn nn cn, .slice sp np cp] 32)
  have HB := Lib.hid (alloc_block w (.cells #[.slice sn nn cn, .slice sp np cp] 32))
  have HCA := Lib.hid hca
  have HRL := Lib.hid hrl
  have HRE := Lib.hid hre
  have HRS := Lib.hid hrs
  have HNN := Lib.hid hnn
  have HNP := Lib.hid hnp
  have HMX := Lib.hid hmax
  clear hrl hre hrs hmp hnn hnp hca hmax
  go_enter Tryd.func23, Tryd.ntmps23
  go_upto_region 1 with fail
  generalize w.alloc (.cells #[.slice sn nn cn, .slice sp np cp] 32) = w1 at *
  generalize w.heap.size = b1 at *
  have y0 := cell_of_block (i := 0) HB.out rfl
  simp only [List.getElem_toArray, List.getElem_cons_zero, List.getElem_cons_succ] at y0
  go_wp2_with fail
  clear y0
  go_loopw [4, 8] (fun _ i wr => ∃ k : Nat, k ≤ nn ∧ i = .int .i64 k ∧ Hid ((m.nodes.take k).all plainN = true) ∧ Hid (Chg (fun _ => False) w1 wr)) (fun _ i _ => nn - (intOf i).toNat)
  case atStart => exact ⟨0, Nat.zero_le _, rfl, Lib.hid (by simp), Lib.hid (Chg.refl _ _)⟩
  case round =>
    obtain ⟨k, hk, rfl, HA, HC⟩ := hrel
    by_cases hlt : k < nn
    · have k0 : (0 : Int) ≤ (k : Int) := by omega
      have k1 : (k : Int) < (nn : Int) := by omega
      have w64 : IntKind.i64.wrap ((k : Int) + 1) = ((k + 1 : Nat) : Int) := IntWalk.i64_in _ (by have := HMX.out; omega)
      have hkr : k < rsN.length := by rw [← HNN.out]; exact hlt
      have hkm : k < m.nodes.length := by rw [← HRL.out]; exact hkr
      obtain ⟨g, off, cn', hv1, -, -, hc1⟩ := HRS.out.at (by omega)
      have hat := HRE.out k hkr hkm
      obtain ⟨xp, xc, hxk, -, -⟩ := hat.keys.val
      obtain ⟨yp, yc, hxd, -, -⟩ := hat.kids.val
      have hg : sn = some ⟨g, off, none⟩ := by injection hv1
      subst hg
      have hcel : ∀ c u, (rsN[k]).cells[c]? = some u → c < 5 → w.cell? ⟨g, off + k * 5 + c, none⟩ = some u := fun c u hu hcc => by
        rw [Nat.add_assoc]
        exact hc1 (k * 5 + c) u (by rw [flat_get _ 5 NodR.len rsN k c hkr hcc]; exact hu)
      have hrc : rsN[k].cells = [.int .i64 m.nodes[k].kind, .int .i64 m.nodes[k].int, .string m.nodes[k].str, .slice xp m.nodes[k].keys.length xc, .slice yp m.nodes[k].kids.length yc] := by
        unfold NodR.cells
        rw [hat.kind, hat.int, hat.str, hxk, hxd]
      rw [hrc] at hcel
      have hcw := HCA.out.trans' HC.out
      have e0 := hcw.cell (hcel 0 _ rfl (by omega))
      have e1 := hcw.cell (hcel 1 _ rfl (by omega))
      have e2 := hcw.cell (hcel 2 _ rfl (by omega))
      have e3 := hcw.cell (hcel 3 _ rfl (by omega))
      have e4 := hcw.cell (hcel 4 _ rfl (by omega))
      rw [Nat.add_zero] at e0
      have HNO := Lib.hid (fun (h : plainN m.nodes[k] = false) => (show plainB m = false by unfold plainB; rw [all_take_false hkm h]; rfl))
      have HYES := Lib.hid (fun (h : plainN m.nodes[k] = true) => all_take_succ hkm HA.out h)
      have HNX : Hid (k + 1 ≤ nn) := Lib.hid hlt
      have HCW := Lib.hid hcw
      clear hk hlt hkr hv1 hc1 hat hxk hxd hcel hrc hcw
      generalize m.nodes[k] = x at *
      clear hkm
      unfold plainN at HNO HYES
      by_cases p1 : x.keys.length ≤ 10
      · have z1 : ¬ (10 : Int) < (x.keys.length : Int) := by omega
        by_cases p2 : x.kids.length ≤ 10
        · have z2 : ¬ (10 : Int) < (x.kids.length : Int) := by omega
          by_cases p3 : x.str.size ≤ 100
          · have z3 : ¬ (100 : Int) < (x.str.size : Int) := by omega
            have HY := Lib.hid (HYES.out (by simp [p1, p2, p3]))
            clear p1 p2 p3
            go_wp2_with fail
            go_roundw
            case rel => exact ⟨k + 1, HNX.out, rfl, HY, Lib.hid (HC.out.allocR _)⟩
            case measure => have := HNX.out; simp [intOf, w64]; omega
          · have z3 : (100 : Int) < (x.str.size : Int) := by omega
            have HY := Lib.hid (HNO.out (by simp [p3]))
            clear p1 p2 p3
            go_wp2_with fail
            go_ret
            exact ⟨by rw [HY.out]; rfl, HCW.out.allocR _⟩
        · have z2 : (10 : Int) < (x.kids.length : Int) := by omega
          have HY := Lib.hid (HNO.out (by simp [p2]))
          clear p1 p2
          go_wp2_with fail
          go_ret
          exact ⟨by rw [HY.out]; rfl, HCW.out.allocR _⟩
      · have z1 : (10 : Int) < (x.keys.length : Int) := by omega
        have HY := Lib.hid (HNO.out (by simp [p1]))
        clear p1
        go_wp2_with fail
        go_ret
        exact ⟨by rw [HY.out]; rfl, HCW.out.allocR _⟩
    · have hke : k = nn := by omega
      have i1 : ¬ (k : Int) < (nn : Int) := by omega
      have HALL : Hid (m.nodes.all plainN = true) := Lib.hid (by have := HA.out; rwa [List.take_of_length_le (by rw [← HRL.out, ← HNN.out]; omega)] at this)
      have hb := HC.out.keep HB.out (fun x => x)
      have y0 := cell_of_block (i := 0) hb rfl
      have y1 := cell_of_block (i := 1) hb rfl
      simp only [List.getElem_toArray, List.getElem_cons_zero, List.getElem_cons_succ] at y0 y1
      have HCW := Lib.hid (HCA.out.trans' HC.out)
      have HR : Hid (plainB m = (decide (nn ≤ 12) && decide (np ≤ 5))) := Lib.hid (by unfold plainB; rw [HALL.out, HNN.out, HRL.out, HNP.out]; rfl)
      clear hke hlt hk hb HB HC HA
      by_cases p1 : nn ≤ 12
      · have z1 : (nn : Int) ≤ 12 := by omega
        have HP := Lib.hid p1
        clear p1
        go_wp2_with fail
        go_ret
        exact ⟨by rw [HR.out, decide_eq_true HP.out, Bool.true_and, show decide (np ≤ 5) = decide ((np : Int) ≤ 5) from decide_eq_decide.2 (by omega)]; rfl, HCW.out⟩
      · have z1 : ¬ (nn : Int) ≤ 12 := by omega
        have HP := Lib.hid p1
        clear p1
        go_wp2_with fail
        go_ret
        exact ⟨by rw [HR.out, decide_eq_false HP.out]; rfl, HCW.out⟩
def fewO (r : OpR) : Bool := decide (r.o.url.size ≤ 100) && plainB r.o.msg
def fewB (l : List OpR) : Bool := l.all fewO && decide (l.length ≤ 60)
theorem opCell {w w' : World} {a : Option Addr} {n cap : Nat} {l : List OpR} (h : ArgRows w (.slice a n cap) 6 (l.map OpR.cells)) (hc : Chg (fun _ => False) w w') {k : Nat} (hk : k < l.length) :
    ∃ g off, a = some ⟨g, off, none⟩ ∧ n = l.length ∧ ∀ c u, l[k].cells[c]? = some u → w'.cell? ⟨g, off + k * 6 + c, none⟩ = some u := by
  obtain ⟨a', cap', hv, h1, h2, h3⟩ := h
  obtain ⟨g, off, rfl, h4⟩ := h3 (by intro e; rw [List.map_eq_nil_iff] at e; subst e; simp at hk)
  cases hv
  exact ⟨g, off, rfl, by simp, fun c u hu => hc.cell (h4 k c l[k].cells u (by rw [List.getElem?_map, List.getElem?_eq_getElem hk]; rfl) hu)⟩
set_option maxHeartbeats 3200000 in
set_option maxRecDepth 100000 in
theorem few_any (w : World) (v : Value) (l : List OpR) (h : ArgRows w v 6 (l.map OpR.cells)) (hok : ∀ r ∈ l, OpOk w r) (w1 : World) (hw : Chg (fun _ => False) w w1) :
    Calls Tryd.prog 12 #[v] w1 fun e w' => e = .returned (.bool (fewB l)) ∧ Chg (fun _ => False) w1 w' := by
  obtain ⟨a, cap, rfl, hlc, hcm, -⟩ := id h
  have hmax : (l.length : Int) ≤ 9223372036854775807 := by rw [List.length_map] at hlc; unfold maxLen at hcm; omega
  have HA := Lib.hid h
  have HOK := Lib.hid hok
  have HW := Lib.hid hw
  rw [List.length_map] at HA ⊢
  clear h hok hw hlc hcm
  go_enter Tryd.func12, Tryd.ntmps12
  go_wp2_with fail
  go_loopw [4, 7] (fun _ i wr => ∃ k : Nat, k ≤ l.length ∧ i = .int .i64 k ∧ Hid ((l.take k).all fewO = true) ∧ Hid (Chg (fun _ => False) w1 wr)) (fun _ i _ => l.length - (intOf i).toNat)
  case atStart => exact ⟨0, Nat.zero_le _, rfl, Lib.hid (by simp), Lib.hid (Chg.refl _ _)⟩
  case round =>
    obtain ⟨k, hk, rfl, HALL, HC⟩ := hrel
    by_cases hlt : k < l.length
    · have k0 : (0 : Int) ≤ (k : Int) := by omega
      have k1 : (k : Int) < (l.length : Int) := by omega
      have w64 : IntKind.i64.wrap ((k : Int) + 1) = ((k + 1 : Nat) : Int) := IntWalk.i64_in _ (by omega)
      have hcw := HW.out.trans' HC.out
      obtain ⟨g, off, rfl, -, hcel⟩ := opCell HA.out hcw hlt
      have hro := HOK.out _ (List.getElem_mem hlt)
      have HNO := Lib.hid (fun (h : fewO l[k] = false) => (show fewB l = false by unfold fewB; rw [all_take_false hlt h]; rfl))
      have HYES := Lib.hid (fun (h : fewO l[k] = true) => all_take_succ hlt HALL.out h)
      have HNX : Hid (k + 1 ≤ l.length) := Lib.hid hlt
      generalize l[k] = r at *
      have e0 := hcel 0 _ rfl
      have e1 := hcel 1 _ rfl
      have e2 := hcel 2 _ rfl
      have e3 := hcel 3 _ rfl
      have e4 := hcel 4 _ rfl
      have e5 := hcel 5 _ rfl
      rw [Nat.add_zero] at e0
      have HPL := Lib.hid (fun W (hc : Chg (fun _ => False) wr W) => plain_any W r.sn r.sp r.nn r.cn r.np r.cp r.o.msg (hro.msg.chg (hcw.trans' hc) (fun _ _ x => x.elim) (fun _ _ x => x)))
      unfold fewO at HNO HYES
      clear hcel hro hcw hlt hk
      by_cases p1 : r.o.url.size ≤ 100
      · have z1 : ¬ (100 : Int) < (r.o.url.size : Int) := by omega
        rw [decide_eq_true p1, Bool.true_and] at HNO HYES
        clear p1
        generalize plainB r.o.msg = pb at *
        cases pb with
        | true =>
          have HY := Lib.hid (HYES.out rfl)
          go_wp2_with (go_at_call 23; refine (HPL.out _ (Chg.alloc _ _ _)).mono ?_; rintro _ w5 ⟨rfl, hc5⟩; have HC5 := Lib.hid ((Chg.alloc _ _ _).trans' hc5); clear hc5)
          go_roundw
          case rel => exact ⟨k + 1, HNX.out, rfl, HY, Lib.hid (HC.out.trans' HC5.out)⟩
          case measure => have := HNX.out; simp [intOf, w64]; omega
        | false =>
          have HY := Lib.hid (HNO.out rfl)
          go_wp2_with (go_at_call 23; refine (HPL.out _ (Chg.alloc _ _ _)).mono ?_; rintro _ w5 ⟨rfl, hc5⟩; have HC5 := Lib.hid ((Chg.alloc _ _ _).trans' hc5); clear hc5)
          go_ret
          exact ⟨by rw [HY.out]; rfl, HC.out.trans' HC5.out⟩
      · have z1 : (100 : Int) < (r.o.url.size : Int) := by omega
        rw [decide_eq_false p1, Bool.false_and] at HNO
        have HY := Lib.hid (HNO.out rfl)
        clear p1
        go_wp2_with fail
        go_ret
        exact ⟨by rw [HY.out]; rfl, HC.out.allocR _⟩
    · have i1 : ¬ (k : Int) < (l.length : Int) := by omega
      have HAL : Hid (fewB l = decide ((l.length : Int) ≤ 60)) := Lib.hid (by
        have := HALL.out
        rw [List.take_of_length_le (by omega)] at this
        unfold fewB
        rw [this, Bool.true_and]
        exact decide_eq_decide.2 (by omega))
      clear hlt hk
      go_wp2_with fail
      go_ret
      exact ⟨by rw [HAL.out]; rfl, HC.out⟩
theorem MsgRaw.fit {m : Msg} (h : MsgRaw m) (hp : plainB m = true) : MsgFit m := by
  unfold plainB at hp
  simp only [Bool.and_eq_true, decide_eq_true_eq, List.all_eq_true] at hp
  obtain ⟨h1, h2, h3⟩ := hp
  refine ⟨fun x hx => ?_, h.ports, ⟨by omega⟩, ⟨by omega⟩⟩
  have h4 := h1 x hx
  unfold plainN at h4
  simp only [Bool.and_eq_true, decide_eq_true_eq] at h4
  have h5 := h.nodes x hx
  exact ⟨h5.kind, h5.int, by omega, h5.keys, h5.kids, ⟨by omega⟩, ⟨by omega⟩⟩
theorem fewB_fit {w : World} {l : List OpR} (h : fewB l = true) (hok : ∀ r ∈ l, OpOk w r) : l.length ≤ 60 ∧ ∀ r ∈ l, MsgFit r.o.msg := by
  unfold fewB at h
  simp only [Bool.and_eq_true, decide_eq_true_eq, List.all_eq_true] at h
  refine ⟨h.2, fun r hr => (hok r hr).raw.fit ?_⟩
  have := h.1 r hr
  unfold fewO at this
  simp only [Bool.and_eq_true] at this
  exact this.2
end Go.Proofs.YtiecgbmeobpomaaDoor
namespace Go.Proofs.YtiecgbmeobpomaaDoor
open Go.RowKit
set_option linter.unusedVariables false
set_option linter.unusedSimpArgs false

def bA : ByteArray := ⟨#[97]⟩
def bB : ByteArray := ⟨#[98]⟩
def ent1 : Ent := ⟨1, 1, ⟨#[97]⟩, ⟨#[]⟩, Msg0, 0, 0⟩
def ent2 : Ent := ⟨2, 2, ⟨#[98]⟩, ⟨#[]⟩, Msg0, 0, 0⟩
theorem sorted1 (x : Int) : sorted [x] = [x] := by simp [sorted]
theorem fitH : navH (newH ⟨#[97]⟩) ⟨#[98]⟩ = ⟨[ent1, ent2], 1, 3, 3, []⟩ := by
  simp [navH, newH, addM, addL, navE, ent1, ent2]
theorem fitC : curE (newH ⟨#[97]⟩) = ent1 := rfl
theorem fitS : navS (newH ⟨#[97]⟩) ⟨#[98]⟩ true = true := by
  unfold navS
  rw [fitH, fitC]
  simp [shownP, ent1]
theorem fitN : navM (newH ⟨#[97]⟩) ⟨#[98]⟩ true = ⟨[ent1, ent2], 1, 3, 3, [1]⟩ := by
  unfold navM
  rw [if_pos fitS, fitH, fitC]
  simp [sleepM, cleanM, keptL, sorted1, ent1]
theorem fitV : navV (newH ⟨#[97]⟩) ⟨#[98]⟩ true = ⟨ent2, 2, false, true, []⟩ := by
  unfold navV
  rw [fitS, fitH]
  simp [curE, goneL, ent2, newH]
def fit2 : Hist := ⟨[ent1, ent2], 1, 3, 3, [1]⟩
theorem fitG : GoOk fit2 (-1) := by unfold GoOk fit2; simp
theorem fitGH : goH fit2 (-1) = ⟨[ent1, ent2], 0, 3, 3, [1]⟩ := by simp [goH, fit2]
theorem fitGM : goM fit2 (-1) = ⟨[ent1, ent2], 0, 3, 3, [2]⟩ := by
  unfold goM
  rw [fitGH]
  simp [curE, fit2, ent1, ent2, sleepM, sorted1]
theorem fitGV : goV fit2 (-1) = ⟨ent1, 1, true, true, []⟩ := by
  unfold goV
  rw [fitGH]
  simp [curE, fit2, ent1, ent2]
set_option maxHeartbeats 3200000 in
set_option maxRecDepth 100000 in
theorem fit_any (w : World) : Calls Tryd.prog 11 #[] w fun e w' => e = .returned (.bool true) ∧ Chg (fun _ => False) w w' := by
  have HNEW := Lib.hid (new_any w ⟨#[97]⟩)
  go_enter Tryd.func11, Tryd.ntmps11
  go_upto_region 2 with (go_at_call 13; refine HNEW.out.mono ?_; rintro _ w1 ⟨vl, rfl, hc1, hr1, ho1⟩; obtain ⟨al, cl, rfl, -, -⟩ := hr1.slice)
  have hca := Chg.alloc (fun _ => False) w1 (.cells #[.slice al 1 cl, .int .i64 0, .int .i64 2, .int .i64 2, .slice none 0 0] 28)
  have hb1 := alloc_block w1 (.cells #[.slice al 1 cl, .int .i64 0, .int .i64 2, .int .i64 2, .slice none 0 0] 28)
  have h2 := newHi (w0 := ⟨w, fun _ => False⟩) (url := ⟨#[97]⟩) hb1 (hr1.chg hca (fun _ _ x => x)) (hc1.trans' hca) (fun k hk => ⟨ho1 k hk, by have := hr1.lt k hk; omega⟩) hc1.size (fun k x => x.elim)
  have HH2 := Lib.hid h2
  have HB0 : Hid (w.heap.size ≤ w1.heap.size) := Lib.hid hc1.size
  clear hca hb1 h2 hc1 hr1 ho1
  generalize w1.alloc (.cells #[.slice al 1 cl, .int .i64 0, .int .i64 2, .int .i64 2, .slice none 0 0] 28) = w2 at *
  generalize w1.heap.size = b1 at *
  have hnav := navigate_any ⟨w, fun _ => False⟩ w2 b1 _ _ _ _ HH2.out ⟨#[98]⟩ true (by show 1 ≤ 60; omega) (by show 0 ≤ 900; omega) (by show (0 : Int) ≤ 2 ∧ (2 : Int) ≤ 1000000; omega) (by show (0 : Int) ≤ 2 ∧ (2 : Int) ≤ 1000000; omega)
  rw [fitN, fitV] at hnav
  have HNAV := Lib.hid hnav
  have HML := Lib.hid HH2.out.mutLt
  clear hnav
  go_upto_region 3 with (go_at_call 22; refine HNAV.out.mono ?_; rintro _ w3 ⟨zv, rfl, vl3, vs3, rs3, h3, hc3, hm3, vn3, vp3, vc3, rfl, hms3, hrow3, hown3⟩; obtain ⟨⟨rn, rn2, rc, rfl⟩, rp, rp2, rc2, rfl⟩ := hms3.vals; obtain ⟨ra, ra3, rfl, -, -⟩ := hrow3.slice; unfold MvC ent2)
  have HC3 := Lib.hid (hc3.mono (S' := fun k => w.heap.size ≤ k) (fun k _ x => HH2.out.lo k x))
  obtain ⟨w04, he4, hx4, h4⟩ := h3.beside (.cells #[.int .i64 2, .int .i64 2, .string ⟨#[98]⟩, .string ⟨#[]⟩, .slice rn rn2 rc, .slice rp rp2 rc2, .int .i64 0, .int .i64 0, .int .i64 2, .bool false, .bool true, .slice ra 0 ra3] 40)
  have HE4 := Lib.hid he4
  have HX4 := Lib.hid hx4
  have HB4 := Lib.hid (alloc_block w3 (.cells #[.int .i64 2, .int .i64 2, .string ⟨#[98]⟩, .string ⟨#[]⟩, .slice rn rn2 rc, .slice rp rp2 rc2, .int .i64 0, .int .i64 0, .int .i64 2, .bool false, .bool true, .slice ra 0 ra3] 40))
  have HCA4 := Lib.hid (Chg.alloc (fun _ => False) w3 (.cells #[.int .i64 2, .int .i64 2, .string ⟨#[98]⟩, .string ⟨#[]⟩, .slice rn rn2 rc, .slice rp rp2 rc2, .int .i64 0, .int .i64 0, .int .i64 2, .bool false, .bool true, .slice ra 0 ra3] 40))
  have HH4 := Lib.hid h4
  have HXM := Lib.hid h4.xm
  clear hc3 h3 hm3 hms3 hrow3 hown3 he4 hx4 h4 HNAV
  have hgo := go_any w04 _ b1 _ _ _ _ HH4.out (-1) fitG (by show 2 ≤ 60; omega) (by show 1 ≤ 900; omega)
  rw [show (⟨[ent1, ent2], 1, 3, 3, [1]⟩ : Hist) = fit2 from rfl, fitGM, fitGV] at hgo
  have HGO := Lib.hid hgo
  clear hgo
  generalize w3.alloc (.cells #[.int .i64 2, .int .i64 2, .string ⟨#[98]⟩, .string ⟨#[]⟩, .slice rn rn2 rc, .slice rp rp2 rc2, .int .i64 0, .int .i64 0, .int .i64 2, .bool false, .bool true, .slice ra 0 ra3] 40) = w4 at *
  generalize hb2e : w3.heap.size = b2 at HX4 HB4 ⊢
  clear hb2e
  have HB2N : Hid (¬ Mut b1 vl3 vs3 b2) := Lib.hid (fun x => HXM.out b2 x ((HX4.out b2).2 (.inr rfl)))
  have HLO4 := Lib.hid HH4.out.lo
  go_upto_region 4 with (go_at_call 20; refine HGO.out.mono ?_; rintro _ w5 ⟨zv, rfl, vl5, vs5, rs5, h5, hc5, hm5, vn5, vp5, vc5, rfl, hms5, hrow5, hown5⟩; obtain ⟨⟨sn, sn2, sc, rfl⟩, sp, sp2, sc2, rfl⟩ := hms5.vals; obtain ⟨sa, sa3, rfl, -, -⟩ := hrow5.slice; unfold MvC ent1)
  have hbb2 := hc5.keep HB4.out HB2N.out
  have hca6 := Chg.alloc (fun _ => False) w5 (.cells #[.int .i64 1, .int .i64 1, .string ⟨#[97]⟩, .string ⟨#[]⟩, .slice sn sn2 sc, .slice sp sp2 sc2, .int .i64 0, .int .i64 0, .int .i64 1, .bool true, .bool true, .slice sa 0 sa3] 40)
  have b2b := hca6.keep hbb2 (fun x => x)
  have b3b := alloc_block w5 (.cells #[.int .i64 1, .int .i64 1, .string ⟨#[97]⟩, .string ⟨#[]⟩, .slice sn sn2 sc, .slice sp sp2 sc2, .int .i64 0, .int .i64 0, .int .i64 1, .bool true, .bool true, .slice sa 0 sa3] 40)
  have h6 := h5.still hca6
  obtain ⟨ax5, cx5, hvs, -, -⟩ := h6.slp.slice
  subst hvs
  obtain ⟨gs, offs, caps, hvs2, -, -⟩ := h6.slp.addr (by show 0 < 1; omega)
  have p8 := cell_of_block (i := 8) b2b rfl
  have p10 := cell_of_block (i := 10) b2b rfl
  have n2 := cell_of_block (i := 2) b3b rfl
  have n9 := cell_of_block (i := 9) b3b rfl
  have s4 := cell_of_block (i := 4) h6.box rfl
  simp only [List.getElem_toArray, List.getElem_cons_zero, List.getElem_cons_succ] at p8 p10 n2 n9 s4
  cases hvs2
  have se := h6.slp.cellAt 0 (.int .i64 2) rfl
  rw [Nat.add_zero] at se
  have hCF : Chg (fun _ => False) w (w5.alloc (.cells #[.int .i64 1, .int .i64 1, .string ⟨#[97]⟩, .string ⟨#[]⟩, .slice sn sn2 sc, .slice sp sp2 sc2, .int .i64 0, .int .i64 0, .int .i64 1, .bool true, .bool true, .slice sa 0 sa3] 40)) := by
    have k1 : Chg (fun _ => False) w w2 := HH2.out.chg
    have k2 := k1.trans HC3.out (S'' := fun k => w.heap.size ≤ k) (fun _ _ x => x.elim) (fun _ _ x => x)
    have k3 := k2.trans HCA4.out (S'' := fun k => w.heap.size ≤ k) (fun _ _ x => x) (fun _ _ x => x.elim)
    have k4 := k3.trans hc5 (S'' := fun k => w.heap.size ≤ k) (fun _ _ x => x) (fun k _ x => by have := HLO4.out k x; rw [HE4.out] at this; exact this)
    exact (k4.trans hca6 (S'' := fun k => w.heap.size ≤ k) (fun _ _ x => x) (fun _ _ x => x.elim)).mono (fun k hk x => by omega)
  have HCF := Lib.hid hCF
  clear h5 hc5 hm5 hms5 hrow5 hown5 hbb2 hca6 b2b b3b h6 hCF HGO HXM HX4 HB4 HH4
  generalize w5.alloc (.cells #[.int .i64 1, .int .i64 1, .string ⟨#[97]⟩, .string ⟨#[]⟩, .slice sn sn2 sc, .slice sp sp2 sc2, .int .i64 0, .int .i64 0, .int .i64 1, .bool true, .bool true, .slice sa 0 sa3] 40) = w6 at *
  generalize w5.heap.size = b3 at *
  go_wp2_with fail
  go_ret
  exact ⟨by first | rfl | simp, HCF.out⟩
end Go.Proofs.YtiecgbmeobpomaaDoor
namespace Go.Proofs.YtiecgbmeobpomaaDoor
open Go.RowKit
set_option linter.unusedVariables false
set_option linter.unusedSimpArgs false

/-- The operations so far. -/
noncomputable def histK (url : ByteArray) (l : List OpR) (k : Nat) : Hist := doAll allowedB (newH url) ((l.take k).map OpR.o)
theorem histK_succ {url : ByteArray} {l : List OpR} {k : Nat} (hk : k < l.length) : histK url l (k + 1) = doH allowedB (histK url l k) l[k].o := by
  unfold histK doAll
  rw [List.take_succ_eq_append_getElem hk, List.map_append, List.foldl_append]
  rfl
theorem histK_ok {url : ByteArray} {l : List OpR} (hl : l.length ≤ 60) (hf : ∀ r ∈ l, MsgFit r.o.msg) (k : Nat) : HOk 800 (histK url l k) ∧ PgOk (histK url l k) := by
  have h1 := doAll_ok allowedB ((l.take k).map OpR.o) 0 (newH url) (fun o ho => by
    obtain ⟨r, hr, rfl⟩ := List.mem_map.1 ho
    exact (hf r (List.mem_of_mem_take hr)).ok) (HOk.new url) (PgOk.new url)
  refine ⟨h1.1.mono ?_, h1.2⟩
  rw [List.length_map, List.length_take]
  omega
/-- One operation of the law's loop. -/
theorem do_step {w wr : World} {b : Nat} {url : ByteArray} {l : List OpR} {k : Nat} {X : Nat → Prop} {vl vs : Value} {rs : List EntR} (hok : ∀ r ∈ l, OpOk w r) (hU : Lib.Utf8Tabs 0 1 w) (hl : l.length ≤ 60) (hf : ∀ r ∈ l, MsgFit r.o.msg) (hk : k < l.length) (H : HiAt ⟨w, X⟩ wr b (histK url l k) vl vs rs) :
    Calls Tryd.prog 15 #[.pointer (some ⟨b, 0, none⟩), .agg l[k].cells.toArray] wr fun z w' => ∃ zv, z = .returned (.tuple #[zv, .int .i64 (doE allowedB (histK url l k) l[k].o)]) ∧ OpV ⟨w, X⟩ wr b (Mut b vl vs) (histK url l (k + 1)) (doV allowedB (histK url l k) l[k].o) zv w' := by
  have hr := hok _ (List.getElem_mem hk)
  rw [histK_succ hk]
  exact do_any _ wr b _ vl vs rs l[k].o l[k].sn l[k].sp l[k].nn l[k].cn l[k].np l[k].cp H ⟨hU, hr.msg.chg H.chg (fun _ _ x => x.elim) (fun _ _ x => x), hf _ (List.getElem_mem hk), hr.kind, hr.delta, (histK_ok hl hf k).1⟩
def asleepB (l : List Int) (p : Int) : Bool := l.any (fun s => s == p)
theorem asleepB_true {l : List Int} {p : Int} : asleepB l p = true ↔ p ∈ l := by
  unfold asleepB
  rw [List.any_eq_true]
  constructor
  · rintro ⟨x, hx, he⟩
    have : x = p := by simpa using he
    exact this ▸ hx
  · intro h; exact ⟨p, h, by simp⟩
theorem asleepB_succ {l : List Int} {p : Int} {k : Nat} (hk : k < l.length) : asleepB (l.take (k + 1)) p = (asleepB (l.take k) p || (l[k] == p)) := by
  unfold asleepB
  rw [List.take_succ_eq_append_getElem hk, List.any_append]
  simp
theorem evict_gone {h : Hist} (P : PgOk h) {p : Int} (hp : p ∈ h.sleeping) : ¬ p ∈ (evictM h p).sleeping ∧ (evictM h p).sleeping.length = h.sleeping.length - 1 :=
  ⟨fun hx => (P.nd.mem_erase_iff.1 hx).1 rfl, List.length_erase_of_mem hp⟩
theorem evict_go {h : Hist} (P : PgOk h) {p d : Int} (hp : p ∈ h.sleeping) (hq : (goV (evictM h p) d).page = p) : (goV (evictM h p) d).awake = false := by
  have hc : curE (evictM h p) = curE h := rfl
  unfold goV at hq ⊢
  split
  · rename_i he
    rw [if_pos he] at hq
    exfalso
    apply P.cur
    rw [← hc, ← he]
    have hq : (curE (goH (evictM h p) d)).page = p := hq
    rw [hq]
    exact hp
  · rename_i he
    rw [if_neg he] at hq
    have hq : (curE (goH (evictM h p) d)).page = p := hq
    exact decide_eq_false (by rw [hq]; exact (evict_gone P hp).1)
set_option maxHeartbeats 6400000 in
set_option maxRecDepth 100000 in
theorem historyEvict_walk (w : World) (v : Value) (l : List OpR) (page delta : Int) (h : ArgRows w v 6 (l.map OpR.cells)) (hok : ∀ r ∈ l, OpOk w r) (hU : Lib.Utf8Tabs 0 1 w) :
    Calls Tryd.prog 9 #[v, .int .i64 page, .int .i64 delta] w fun e w' => e = .returned (.bool true) ∧ Below w.heap.size w w' := by
  have HFIT := Lib.hid (fit_any w)
  have HFEW := Lib.hid (fun W hc => few_any w v l h hok W hc)
  obtain ⟨a, cap, rfl, hlc, hcm, -⟩ := id h
  have HA := Lib.hid h
  rw [List.length_map] at HA HFEW ⊢
  have HOK := Lib.hid hok
  have HU := Lib.hid hU
  have HFF := Lib.hid (fun (e : fewB l = true) => fewB_fit e hok)
  clear h hok hU hlc hcm
  generalize hfb : fewB l = fb at *
  cases fb with
  | false =>
    clear HFF hfb
    go_enter Tryd.func9, Tryd.ntmps9
    go_wp2_with (first
      | (go_at_call 11; refine HFIT.out.mono ?_; rintro _ w1 ⟨rfl, hc1⟩; have HC1 := Lib.hid hc1; clear hc1)
      | (go_at_call 12; refine (HFEW.out _ HC1.out).mono ?_; rintro _ w2 ⟨rfl, hc2⟩; have HC2 := Lib.hid hc2; clear hc2))
    go_ret
    exact ⟨rfl, (HC1.out.trans' HC2.out).below (Nat.le_refl _) (fun k x => x.elim)⟩
  | true =>
    obtain ⟨hl60, hff⟩ := HFF.out rfl
    have HL60 := Lib.hid hl60
    have HFT := Lib.hid hff
    have hll : (l.length : Int) ≤ 60 := by omega
    clear HFF hfb hl60 hff
    go_enter Tryd.func9, Tryd.ntmps9
    go_upto_region 5 with (first
      | (go_at_call 11; refine HFIT.out.mono ?_; rintro _ w1 ⟨rfl, hc1⟩; have HC1 := Lib.hid hc1; clear hc1)
      | (go_at_call 12; refine (HFEW.out _ HC1.out).mono ?_; rintro _ w2 ⟨rfl, hc2⟩; have HC2 := Lib.hid hc2; clear hc2))
    have HNEW := Lib.hid (new_any w2 ⟨#[]⟩)
    go_upto_region 6 with (go_at_call 13; refine HNEW.out.mono ?_; rintro _ w3 ⟨vl, rfl, hc3, hr3, ho3⟩; obtain ⟨al, cl, rfl, -, -⟩ := hr3.slice)
    have hca := Chg.alloc (fun _ => False) w3 (.cells #[.slice al 1 cl, .int .i64 0, .int .i64 2, .int .i64 2, .slice none 0 0] 28)
    have hb1 := alloc_block w3 (.cells #[.slice al 1 cl, .int .i64 0, .int .i64 2, .int .i64 2, .slice none 0 0] 28)
    have hc0 := (HC1.out.trans' HC2.out).trans' hc3
    have h4 := newHi (w0 := ⟨w, fun _ => False⟩) (url := ⟨#[]⟩) hb1 (hr3.chg hca (fun _ _ x => x)) (hc0.trans' hca) (fun k hk => ⟨Nat.le_trans (HC1.out.trans' HC2.out).size (ho3 k hk), by have := hr3.lt k hk; omega⟩) hc0.size (fun k x => x.elim)
    have HH0 : Hid (∃ vl vs rs, HiAt ⟨w, fun _ => False⟩ (w3.alloc (.cells #[.slice al 1 cl, .int .i64 0, .int .i64 2, .int .i64 2, .slice none 0 0] 28)) w3.heap.size (histK ⟨#[]⟩ l 0) vl vs rs) := Lib.hid ⟨_, _, _, h4⟩
    clear hca hb1 hc0 h4 hc3 hr3 ho3 HFIT HFEW HNEW
    generalize w3.alloc (.cells #[.slice al 1 cl, .int .i64 0, .int .i64 2, .int .i64 2, .slice none 0 0] 28) = w4 at *
    generalize w3.heap.size = b7 at *
    go_wp2_with fail
    go_loopw [9, 25] (fun _ i wr => ∃ k : Nat, k ≤ l.length ∧ i = .int .i64 k ∧ Hid (∃ vl vs rs, HiAt ⟨w, fun _ => False⟩ wr b7 (histK ⟨#[]⟩ l k) vl vs rs)) (fun _ i _ => l.length - (intOf i).toNat)
    case atStart => exact ⟨0, Nat.zero_le _, rfl, HH0⟩
    case round =>
      obtain ⟨k, hk, rfl, HX⟩ := hrel
      by_cases hlt : k < l.length
      · have k0 : (0 : Int) ≤ (k : Int) := by omega
        have k1 : (k : Int) < (l.length : Int) := by omega
        have w64 : IntKind.i64.wrap ((k : Int) + 1) = ((k + 1 : Nat) : Int) := IntWalk.i64_in _ (by omega)
        obtain ⟨vl, vs, rs, hx⟩ := HX.out
        obtain ⟨g, off, rfl, -, hcel⟩ := opCell HA.out hx.chg hlt
        have e0 := hcel 0 _ rfl
        have e1 := hcel 1 _ rfl
        have e2 := hcel 2 _ rfl
        have e3 := hcel 3 _ rfl
        have e4 := hcel 4 _ rfl
        have e5 := hcel 5 _ rfl
        rw [Nat.add_zero] at e0
        have hst := hx.still (Chg.alloc (fun _ => False) wr (.cells l[k].cells.toArray 38))
        have hdo := do_step HOK.out HU.out HL60.out HFT.out hlt hst
        have HNX : Hid (k + 1 ≤ l.length) := Lib.hid hlt
        unfold OpR.cells at hdo
        have HDO := Lib.hid hdo
        clear hcel hx hst hdo HX hk
        generalize l[k] = r at *
        clear hlt
        go_wp2_with (go_at_call 15; refine HDO.out.mono ?_; rintro _ w6 ⟨zv, rfl, hX6⟩; obtain ⟨vl6, vs6, rs6, h6, -, -⟩ := hX6.opx; have HH6 := Lib.hid h6; clear h6 hX6)
        go_roundw
        case rel => exact ⟨k + 1, HNX.out, rfl, Lib.hid ⟨_, _, _, HH6.out⟩⟩
        case measure => have := HNX.out; simp [intOf, w64]; omega
      · have hke : k = l.length := by omega
        subst hke
        have i1 : ¬ (l.length : Int) < (l.length : Int) := by omega
        obtain ⟨hOK, hPG⟩ := histK_ok (url := ⟨#[]⟩) HL60.out HFT.out l.length
        obtain ⟨vl, vs, rs, hx⟩ := HX.out
        clear hlt hk HX
        generalize histK ⟨#[]⟩ l l.length = h at *
        have HOK8 := Lib.hid hOK
        have HPG := Lib.hid hPG
        have HHX := Lib.hid hx
        obtain ⟨asl, csl, rfl, -, -⟩ := hx.slp.slice
        have s4 := cell_of_block (i := 4) hx.box rfl
        simp only [List.getElem_toArray, List.getElem_cons_zero, List.getElem_cons_succ] at s4
        have HSL : Hid (h.sleeping.length ≤ 800) := Lib.hid hOK.slp
        clear hOK hPG hx
        go_wp2_with fail
        clear s4
        go_loopw [10, 12, 35] (fun u10 _ i wr => ∃ k : Nat, k ≤ h.sleeping.length ∧ u10 = .bool (asleepB (h.sleeping.take k) page) ∧ i = .int .i64 k ∧ Hid (HiAt ⟨w, fun _ => False⟩ wr b7 h vl (.slice asl h.sleeping.length csl) rs)) (fun _ _ i _ => h.sleeping.length - (intOf i).toNat)
        case atStart => exact ⟨0, Nat.zero_le _, by simp [asleepB], rfl, HHX⟩
        case round =>
          clear HHX
          obtain ⟨k, hk, rfl, rfl, HHX⟩ := hrel
          by_cases hlt : k < h.sleeping.length
          · have k0 : (0 : Int) ≤ (k : Int) := by omega
            have k1 : (k : Int) < (h.sleeping.length : Int) := by omega
            have w64 : IntKind.i64.wrap ((k : Int) + 1) = ((k + 1 : Nat) : Int) := IntWalk.i64_in _ (by have := HSL.out; omega)
            obtain ⟨g, off, cap', hv, -, -⟩ := HHX.out.slp.addr (by omega)
            simp only [Value.slice.injEq] at hv
            obtain ⟨rfl, _, rfl⟩ := hv
            have c0 := HHX.out.slp.cellAt k (.int .i64 h.sleeping[k]) (by simp [intC, hlt])
            have HSU := Lib.hid (asleepB_succ (p := page) hlt)
            have HNX : Hid (k + 1 ≤ h.sleeping.length) := Lib.hid hlt
            generalize h.sleeping[k] = s at *
            clear hlt hk
            generalize asleepB (h.sleeping.take k) page = bq at *
            cases bq with
            | true =>
              go_wp2_with fail
              go_roundw
              case rel => exact ⟨k + 1, HNX.out, by rw [HSU.out]; rfl, rfl, HHX⟩
              case measure => have := HNX.out; simp [intOf, w64]; omega
            | false =>
              go_wp2_with fail
              go_roundw
              case rel => exact ⟨k + 1, HNX.out, by rw [HSU.out]; rfl, rfl, HHX⟩
              case measure => have := HNX.out; simp [intOf, w64]; omega
          · have hke : k = h.sleeping.length := by omega
            have i1 : ¬ (k : Int) < (h.sleeping.length : Int) := by omega
            rw [List.take_of_length_le (show h.sleeping.length ≤ k by omega)]
            have HSB := Lib.hid (asleepB_true (l := h.sleeping) (p := page))
            have hx := HHX.out
            have s4 := cell_of_block (i := 4) hx.box rfl
            simp only [List.getElem_toArray, List.getElem_cons_zero, List.getElem_cons_succ] at s4
            have HEV := Lib.hid (evict_any _ wr b7 h _ _ _ hx page)
            clear hx hlt hk hke
            generalize hsb : asleepB h.sleeping page = sb at *
            clear hsb
            by_cases hm : page ∈ h.sleeping
            · obtain rfl : sb = true := HSB.out.2 hm
              obtain ⟨hgone, hlen⟩ := evict_gone HPG.out hm
              have hE : evictE h page = 0 := by unfold evictE; rw [if_pos hm]
              have hX : evictX h page = evictM h page := by unfold evictX; rw [if_pos hm]
              rw [hE, hX] at HEV
              have hpos : 0 < h.sleeping.length := List.length_pos_of_mem hm
              have HAW := Lib.hid (fun (q : (goV (evictM h page) delta).page = page) => evict_go HPG.out hm q)
              have wsub : IntKind.i64.wrap ((h.sleeping.length : Int) - 1) = ((evictM h page).sleeping.length : Int) := by
                rw [hlen, show ((h.sleeping.length - 1 : Nat) : Int) = (h.sleeping.length : Int) - 1 by omega]
                exact IntWalk.i64_in _ (by have := HSL.out; omega)
              have HOKE := Lib.hid (HOK8.out.evict page)
              have hE2 : evictE (evictM h page) page = 6 := by unfold evictE; rw [if_neg hgone]
              have hX2 : evictX (evictM h page) page = evictM h page := by unfold evictX; rw [if_neg hgone]
              have HE2 := Lib.hid hE2
              have HX2 := Lib.hid hX2
              clear hm hgone hlen hE hX hpos hE2 hX2 HSB
              generalize evictM h page = h2 at *
              go_upto_region 21 with (go_at_call 29; refine HEV.out.mono ?_; rintro _ w9 ⟨rfl, vl9, vs9, rs9, h9, -, -⟩)
              have HEV2 := Lib.hid (evict_any _ w9 b7 h2 _ _ _ h9 page)
              rw [HE2.out, HX2.out] at HEV2
              obtain ⟨a9, c9, rfl, -, -⟩ := h9.slp.slice
              have s9 := cell_of_block (i := 4) h9.box rfl
              simp only [List.getElem_toArray, List.getElem_cons_zero, List.getElem_cons_succ] at s9
              clear s4 h9 HEV
              go_upto_region 23 with (go_at_call 29; refine HEV2.out.mono ?_; rintro _ w10 ⟨rfl, vl10, vs10, rs10, h10, -, -⟩)
              have HH10 := Lib.hid h10
              by_cases hg : GoOk h2 delta
              · have HGO := Lib.hid (go_any _ w10 b7 h2 _ _ _ h10 delta hg (by have := HOKE.out.len; omega) (by have := HOKE.out.slp; omega))
                clear h10 s9 hg
                generalize hgv : goV h2 delta = M at *
                clear hgv
                go_upto_region 24 with (go_at_call 20; refine HGO.out.mono ?_; rintro _ w11 ⟨zv, rfl, vl11, vs11, rs11, h11, -, -, vn11, vp11, vc11, rfl, hms11, hrow11, -⟩; obtain ⟨⟨rn, rn2, rc, rfl⟩, rp, rp2, rc2, rfl⟩ := hms11.vals; obtain ⟨ra, ra3, rfl, -, -⟩ := hrow11.slice; unfold MvC)
                have HFIN := Lib.hid ((h11.chg.allocR (.cells #[.int .i64 M.entry.id, .int .i64 M.entry.page, .string M.entry.url, .string M.entry.title, .slice rn rn2 rc, .slice rp rp2 rc2, .int .i64 M.entry.x, .int .i64 M.entry.y, .int .i64 M.page, .bool M.awake, .bool M.sleeps, .slice ra M.closed.length ra3] 40)).below (Nat.le_refl _) (fun k x => x.elim))
                clear h11 hms11 hrow11
                by_cases hp : M.page = page
                · have HHW := Lib.hid (HAW.out hp)
                  have z1 : (M.page != page) = false := by simp [hp]
                  have HHP := Lib.hid hp
                  clear hp
                  go_wp2_with fail
                  go_ret
                  exact ⟨by show Ending.returned (.bool (!M.awake)) = _; rw [HHW.out]; rfl, HFIN.out⟩
                · have z1 : (M.page != page) = true := by simp [hp]
                  clear hp
                  go_wp2_with fail
                  go_ret
                  exact ⟨rfl, HFIN.out⟩
              · have HGO := Lib.hid (go_bad _ w10 b7 h2 _ _ _ h10 delta hg (by have := HOKE.out.len; omega))
                clear h10 s9 hg
                go_upto_region 24 with (go_at_call 20; refine HGO.out.mono ?_; rintro _ w11 ⟨zv, rfl, vl11, vs11, rs11, h11, -, -, vn11, vp11, vc11, rfl, hms11, hrow11, -⟩; obtain ⟨⟨rn, rn2, rc, rfl⟩, rp, rp2, rc2, rfl⟩ := hms11.vals; obtain ⟨ra, ra3, rfl, -, -⟩ := hrow11.slice; unfold MvC)
                have HCG := Lib.hid h11.chg
                clear h11 hms11 hrow11
                go_wp2_with fail
                go_ret
                exact ⟨rfl, (HCG.out.allocR _).below (Nat.le_refl _) (fun k x => x.elim)⟩
            · obtain rfl : sb = false := by
                cases sb with
                | false => rfl
                | true => exact (hm (HSB.out.1 rfl)).elim
              have hE : evictE h page = 6 := by unfold evictE; rw [if_neg hm]
              have hX : evictX h page = h := by unfold evictX; rw [if_neg hm]
              rw [hE, hX] at HEV
              clear hm hE hX HSB
              go_upto_region 20 with (go_at_call 29; refine HEV.out.mono ?_; rintro _ w9 ⟨rfl, vl9, vs9, rs9, h9, -, -⟩)
              obtain ⟨a9, c9, rfl, -, -⟩ := h9.slp.slice
              have s9 := cell_of_block (i := 4) h9.box rfl
              simp only [List.getElem_toArray, List.getElem_cons_zero, List.getElem_cons_succ] at s9
              have HFIN := Lib.hid (h9.chg.below (Nat.le_refl _) (fun k x => x.elim))
              clear s4 h9 HEV
              go_wp2_with fail
              go_ret
              exact ⟨by first | rfl | simp, HFIN.out⟩
end Go.Proofs.YtiecgbmeobpomaaDoor
namespace Go.Proofs.YtiecgbmeobpomaaDoor
open Go.ChangeShapes Go.WideShapes Go.ChangeAt Go.RowKit
set_option linter.unusedVariables false
set_option linter.unusedSimpArgs false

section
variable {H : Type} {enc : TypeId × Value → H} {P : Program} {w : World}
/-- What was read weighs no more than a machine holds. -/
def Light (P : Program) (t : TypeId) (y : DataW H × List MemPlace) : Prop := ∀ n ∈ y.1.weights P t, n ≤ reachBytes
theorem weightsAll_mem {e : TypeId} : ∀ {l : List (DataW H)} {d : DataW H}, d ∈ l → ∀ n ∈ d.weights P e, n ∈ DataW.weightsAll P e l
  | x :: l, d, hd, n, hn => by
    simp only [DataW.weightsAll, List.mem_append]
    rcases List.mem_cons.1 hd with rfl | hd
    · exact .inl hn
    · exact .inr (weightsAll_mem hd n hn)
theorem light_field {t : TypeId} {fs : Array Field} {fuel : Nat} {cs : List Value} {y : DataW H × List MemPlace} (ht : P.underlying t = some (.struct fs)) (h : DataW.trod enc P w 0 (fun _ => true) true fuel t cs = some y) (hw : Light P t y) {i : Nat} {f : Field} (hf : fs[i]? = some f) :
    ∃ n y', DataW.trod enc P w 0 (fun _ => true) true n f.type ((cs.drop f.offset).take (P.cellsOf f.type)) = some y' ∧ Light P f.type y' := by
  obtain ⟨ys, m, _, rfl, _, hxl, hx⟩ := DataW.trod_struct ht h
  have hi : i < ys.length := by rw [hxl]; exact (Array.getElem?_eq_some_iff.1 hf).1
  refine ⟨m, ys[i], by rw [← List.getElem?_eq_getElem hi]; exact hx i f hf, fun n hn => hw n ?_⟩
  show n ∈ DataW.weights P t (.agg (ys.map (·.1)))
  unfold DataW.weights
  rw [ht]
  refine DataW.weights_mem_each (j := i) (t := f.type) (d := ys[i].1) ?_ ?_ n hn
  · rw [List.getElem?_map, Array.getElem?_toList, hf]; rfl
  · rw [List.getElem?_map, List.getElem?_eq_getElem hi]; rfl
theorem cell_stringS {t : TypeId} {x : List Value} {y : DataW H × List MemPlace} {fuel o : Nat} (ht : P.underlying t = some .string) (hc : P.cellsOf t = 1) (h : DataW.trod enc P w 0 (fun _ => true) true fuel t ((x.drop o).take (P.cellsOf t)) = some y) (hw : Light P t y) : ∃ s : ByteArray, x[o]? = some (.string s) ∧ s.size ≤ maxLen ∧ s.size ≤ reachBytes := by
  obtain ⟨s, h1, h3, h2⟩ := DataW.trod_string ht h
  rw [hc] at h1
  refine ⟨s, one_get h1, h2, ?_⟩
  subst h3
  have := hw s.data.toList.length (by simp [DataW.weights])
  simpa using this
/-- A slice in a field: its elements, each read by its own type. -/
theorem open_fieldS {t e : TypeId} {x : List Value} {o fuel : Nat} {y : DataW H × List MemPlace} (ht : P.underlying t = some (.slice e)) (hc : P.cellsOf t = 1) (hn : 0 < P.cellsOf e) (h : DataW.trod enc P w 0 (fun _ => true) true fuel t ((x.drop o).take (P.cellsOf t)) = some y) (hw : Light P t y) :
    ∃ (a : Option Addr) (cap : Nat) (xs : List (List Value)), x[o]? = some (.slice a xs.length cap) ∧ ArgRows w (.slice a xs.length cap) (P.cellsOf e) xs ∧ ∀ z ∈ xs, z.length = P.cellsOf e ∧ ∃ fuel y, DataW.trod enc P w 0 (fun _ => true) true fuel e z = some y ∧ Light P e y := by
  rw [hc] at h
  rcases DataW.trod_slice ht h with ⟨hcs, -⟩ | ⟨ad, len, cap, elems, rest, n, -, hcs, rfl, -, hl, hm, hlen, hel, -, -⟩
  · exact ⟨none, 0, [], one_get hcs, ⟨none, 0, rfl, Nat.le_refl _, by simp, fun h => absurd rfl h⟩, by simp⟩
  · have each : ∀ i, i < len → ∃ cs, w.cells? 0 (ad.add (i * P.cellsOf e)) (P.cellsOf e) = some cs ∧ ∃ y, DataW.trod enc P w 0 (fun _ => true) true n e cs = some y ∧ Light P e y := by
      intro i hi
      have h1 := hel i hi
      rw [List.getElem?_eq_getElem (by omega), Option.bind_eq_some_iff] at h1
      obtain ⟨cs, h2, h3⟩ := h1
      refine ⟨cs, h2, _, h3, fun k hk => hw k ?_⟩
      show k ∈ DataW.weights P t (.slice (elems.map (·.1)) (rest.map (·.1)))
      unfold DataW.weights
      rw [ht]
      refine List.mem_cons_of_mem _ (List.mem_append_left _ ?_)
      exact weightsAll_mem (List.mem_map_of_mem (List.getElem_mem _)) k hk
    let f : Nat → List Value := fun i => (w.cells? 0 (ad.add (i * P.cellsOf e)) (P.cellsOf e)).getD []
    have hlf : ((List.range len).map f).length = len := by simp
    refine ⟨some ad, cap, (List.range len).map f, by rw [hlf]; exact one_get hcs, ⟨some ad, cap, by rw [hlf], by rw [hlf]; exact hl, hm, fun hne => ?_⟩, fun x hx => ?_⟩
    · have h0 : 0 < len := by
        apply Nat.pos_of_ne_zero
        rintro rfl
        simp at hne
      obtain ⟨cs0, hc0, -⟩ := each 0 h0
      obtain ⟨-, hl0, hg0⟩ := World.cells?_some hc0
      have h1 := hg0 0 hn
      rw [List.getElem?_eq_getElem (by omega), Nat.zero_mul] at h1
      obtain ⟨g, off, hh⟩ := addr_none h1
      have hadd0 : ad.add 0 = ad := by obtain ⟨b', o', s'⟩ := ad; unfold Addr.add; split <;> simp_all
      rw [hadd0] at hh
      subst hh
      refine ⟨g, off, rfl, fun j i x u hj hi => ?_⟩
      rw [List.getElem?_map] at hj
      obtain ⟨k, hk, rfl⟩ := Option.map_eq_some_iff.1 hj
      obtain ⟨hk1, hk2⟩ := List.getElem?_eq_some_iff.1 hk
      rw [List.length_range] at hk1
      rw [List.getElem_range] at hk2
      subst hk2
      obtain ⟨cs, hc, -⟩ := each j hk1
      have hfx : f j = cs := by show (w.cells? 0 _ _).getD [] = cs; rw [hc]; rfl
      rw [hfx] at hi
      obtain ⟨-, hl', hg'⟩ := World.cells?_some hc
      have hi' : i < P.cellsOf e := by rw [← hl']; exact (List.getElem?_eq_some_iff.1 hi).1
      have h2 := hg' i hi'
      rw [hi, add_none, add_none] at h2
      exact h2
    · obtain ⟨i, hi, rfl⟩ := List.mem_map.1 hx
      rw [List.mem_range] at hi
      obtain ⟨cs, hc, y, hy⟩ := each i hi
      have hfx : f i = cs := by show (w.cells? 0 _ _).getD [] = cs; rw [hc]; rfl
      rw [hfx]
      obtain ⟨-, hl', -⟩ := World.cells?_some hc
      exact ⟨hl', n, y, hy⟩
end
section
variable {H : Type} {enc : TypeId × Value → H} {w : World}
/-- The strings of a message's keys are no longer than a machine holds. -/
def MsgLite (m : Msg) : Prop := ∀ n ∈ m.nodes, ∀ s ∈ n.keys, s.size ≤ reachBytes
theorem open_strsS {x : List Value} {o fuel : Nat} {y : DataW H × List MemPlace} (h : DataW.trod enc Tryd.prog w 0 (fun _ => true) true fuel 83 ((x.drop o).take (Tryd.prog.cellsOf 83)) = some y) (hw : Light Tryd.prog 83 y) :
    ∃ (a : Option Addr) (cap : Nat) (l : List ByteArray), x[o]? = some (.slice a l.length cap) ∧ SeenN (fun k => w.heap.size ≤ k) w 1 (.slice a l.length cap) l.length (strC l) ∧ ∀ z ∈ l, z.size ≤ maxLen ∧ z.size ≤ reachBytes := by
  obtain ⟨a, cap, xs, h1, h2, h3⟩ := open_fieldS Tryd.underlying83 (by kernel_rfl) (by rw [cS]; decide) h hw
  rw [cS] at h2 h3
  obtain ⟨l, rfl, hl⟩ := map_of (f := fun z : ByteArray => [Value.string z]) (Q := fun z => z.size ≤ maxLen ∧ z.size ≤ reachBytes) xs (fun z hz => by
    obtain ⟨hzl, f2, y2, h4, h4w⟩ := h3 z hz
    obtain ⟨n, h5, h6⟩ := cell_stringS (x := z) (o := 0) Tryd.underlying9 cS (by rw [cS, List.drop_zero, List.take_of_length_le (by omega)]; exact h4) h4w
    refine ⟨n, ?_, h6⟩
    match z, hzl, h5 with
    | [_], _, h5 => simp_all)
  rw [List.length_map] at h1 h2
  have h7 := seen_args (f := fun z : ByteArray => [Value.string z]) (by decide) (fun _ => rfl) h2
  have h8 : l.flatMap (fun z : ByteArray => [Value.string z]) = strC l := flat_one _ l
  rw [h8] at h7
  exact ⟨a, cap, l, h1, h7, hl⟩
set_option maxRecDepth 100000 in
/-- A message in two cells. -/
theorem open_msgS {x : List Value} {fuel : Nat} {y : DataW H × List MemPlace} (h : DataW.trod enc Tryd.prog w 0 (fun _ => true) true fuel 32 x = some y) (hw : Light Tryd.prog 32 y) :
    ∃ (sn sp : Option Addr) (nn cn np cp : Nat) (m : Msg), x[0]? = some (.slice sn nn cn) ∧ x[1]? = some (.slice sp np cp) ∧ MsgAt (fun k => w.heap.size ≤ k) w (.slice sn nn cn) (.slice sp np cp) m ∧ MsgRaw m ∧ MsgLite m := by
  obtain ⟨f0, y0, k0, l0⟩ := light_field Tryd.underlying32 h hw (i := 0) rfl
  obtain ⟨f1, y1, k1, l1⟩ := light_field Tryd.underlying32 h hw (i := 1) rfl
  have k0' : DataW.trod enc Tryd.prog w 0 (fun _ => true) true f0 30 ((x.drop 0).take (Tryd.prog.cellsOf 30)) = some y0 := k0
  have k1' : DataW.trod enc Tryd.prog w 0 (fun _ => true) true f1 26 ((x.drop 1).take (Tryd.prog.cellsOf 26)) = some y1 := k1
  obtain ⟨a1, c1, ports, p1, p2, p3⟩ := open_ints k1'
  have c5 : Tryd.prog.cellsOf 85 = 5 := by kernel_rfl
  obtain ⟨a0, c0, xs, h1, h2, h3⟩ := open_fieldS Tryd.underlying30 (by kernel_rfl) (by rw [c5]; decide) k0' l0
  rw [c5] at h2 h3
  obtain ⟨l, rfl, hl⟩ := map_of (f := fun z : NodR × Nod => z.1.cells) (Q := fun z => NodAt (fun k => w.heap.size ≤ k) w z.1 z.2 ∧ NodRaw z.2 ∧ ∀ s ∈ z.2.keys, s.size ≤ reachBytes) xs (fun z hz => by
    obtain ⟨hzl, f2, y2, h4, h4w⟩ := h3 z hz
    obtain ⟨n0, q0, z0, -⟩ := light_field Tryd.underlying85 h4 h4w (i := 0) rfl
    obtain ⟨n1, q1, z1, -⟩ := light_field Tryd.underlying85 h4 h4w (i := 1) rfl
    obtain ⟨n2, q2, z2, -⟩ := light_field Tryd.underlying85 h4 h4w (i := 2) rfl
    obtain ⟨n3, q3, z3, z3w⟩ := light_field Tryd.underlying85 h4 h4w (i := 3) rfl
    obtain ⟨n4, q4, z4, -⟩ := light_field Tryd.underlying85 h4 h4w (i := 4) rfl
    obtain ⟨v0, b0, r0⟩ := cell_int Tryd.underlying3 cI z0
    obtain ⟨v1, b1, r1⟩ := cell_int Tryd.underlying2 cI64 z1
    obtain ⟨v2, b2, r2⟩ := cell_string Tryd.underlying9 cS z2
    obtain ⟨a3, d3, l3, b3, s3, r3⟩ := open_strsS z3 z3w
    obtain ⟨a4, d4, l4, b4, s4, r4⟩ := open_ints z4
    exact ⟨(⟨v0, v1, v2, .slice a3 l3.length d3, .slice a4 l4.length d4⟩, ⟨v0, v1, v2, l3, l4⟩), lst5 hzl b0 b1 b2 b3 b4, ⟨rfl, rfl, rfl, s3, s4⟩, ⟨i64_of r0, i64_of r1, r2, fun s hs => (r3 s hs).1, r4⟩, fun s hs => (r3 s hs).2⟩)
  rw [List.length_map] at h1 h2
  have h7 := seen_args (f := fun z : NodR × Nod => z.1.cells) (by decide) (fun z => NodR.len z.1) h2
  refine ⟨a0, a1, l.length, c0, ports.length, c1, ⟨l.map (fun z => z.2), ports⟩, h1, p1, ⟨⟨l.map (fun z => z.1), by simp, fun i hi hi' => ?_, ?_⟩, p2⟩, ⟨fun n hn => ?_, p3⟩, fun n hn => ?_⟩
  · simp only [List.getElem_map]
    exact (hl _ (List.getElem_mem _)).1
  · rw [List.length_map, List.flatMap_map]
    exact h7
  · obtain ⟨z, hz, rfl⟩ := List.mem_map.1 hn
    exact (hl z hz).2.1
  · obtain ⟨z, hz, rfl⟩ := List.mem_map.1 hn
    exact (hl z hz).2.2
end
set_option maxRecDepth 100000 in
theorem open_opsS {H : Type} {enc : TypeId × Value → H} {w : World} {base : Nat} {v : Value} {d : DataW H} {ps : List MemPlace} (hv : Value.okWide Tryd.prog w .any base 22 v) (h : DataW.Trod enc Tryd.prog w 0 (fun _ => true) true 22 v d ps) (hw : ∀ n ∈ d.weights Tryd.prog 22, n ≤ reachBytes) :
    ∃ x : Value × List OpR, v = x.1 ∧ ArgRows w x.1 6 (x.2.map OpR.cells) ∧ (∀ r ∈ x.2, OpOk w r) ∧ ∀ r ∈ x.2, MsgLite r.o.msg := by
  have h6 : Tryd.prog.cellsOf 38 = 6 := by kernel_rfl
  have hcT : Tryd.prog.cellsOf 22 = 1 := by kernel_rfl
  have h2c : Tryd.prog.cellsOf 32 = 2 := by kernel_rfl
  obtain ⟨a, len, cap, rfl⟩ := okWide_slice Tryd.underlying22 hv
  obtain ⟨fuel, hf⟩ := h
  obtain ⟨a', cap', xs, e1, h1, h2⟩ := open_fieldS (x := [.slice a len cap]) (o := 0) (y := (d, ps)) Tryd.underlying22 hcT (by rw [h6]; decide) (by rw [hcT]; exact hf) hw
  simp only [List.getElem?_cons_zero, Option.some.injEq, Value.slice.injEq] at e1
  obtain ⟨rfl, rfl, rfl⟩ := e1
  rw [h6] at h1 h2
  have cu : Tryd.prog.cellsOf 5 = 1 := by kernel_rfl
  have ci : Tryd.prog.cellsOf 36 = 1 := by kernel_rfl
  have cb : Tryd.prog.cellsOf 4 = 1 := by kernel_rfl
  have e1 : IntKind.u8.min = 0 := by decide
  have e2 : IntKind.u8.max = 255 := by decide
  have e3 : IntKind.i8.min = -128 := by decide
  have e4 : IntKind.i8.max = 127 := by decide
  obtain ⟨l, rfl, hl⟩ := map_of (f := OpR.cells) (Q := fun r => OpOk w r ∧ MsgLite r.o.msg) xs (fun x hx => by
    obtain ⟨hlx, f2, y2, h4, h4w⟩ := h2 x hx
    obtain ⟨n0, y0, k0, -⟩ := light_field Tryd.underlying38 h4 h4w (i := 0) rfl
    obtain ⟨n1, y1, k1, -⟩ := light_field Tryd.underlying38 h4 h4w (i := 1) rfl
    obtain ⟨n2, y2, k2, -⟩ := light_field Tryd.underlying38 h4 h4w (i := 2) rfl
    obtain ⟨n3, y3, k3, -⟩ := light_field Tryd.underlying38 h4 h4w (i := 3) rfl
    obtain ⟨n4, y4, k4, k4w⟩ := light_field Tryd.underlying38 h4 h4w (i := 4) rfl
    obtain ⟨a0, b0, r0⟩ := cell_int Tryd.underlying5 cu k0
    obtain ⟨a1, b1, r1⟩ := cell_string Tryd.underlying9 cS k1
    obtain ⟨a2, b2⟩ := cell_bool Tryd.underlying4 cb k2
    obtain ⟨a3, b3, r3⟩ := cell_int Tryd.underlying36 ci k3
    have k4' : DataW.trod enc Tryd.prog w 0 (fun _ => true) true n4 32 ((x.drop 4).take (Tryd.prog.cellsOf 32)) = some y4 := k4
    rw [h2c] at k4'
    obtain ⟨sn, sp, nn, cn, np, cp, m, m0, m1, hm, hr, hlt⟩ := open_msgS k4' k4w
    rw [e1, e2] at r0
    rw [e3, e4] at r3
    have q4 : x[4]? = some (.slice sn nn cn) := by rw [List.getElem?_take, if_pos (by decide), List.getElem?_drop] at m0; exact m0
    have q5 : x[5]? = some (.slice sp np cp) := by rw [List.getElem?_take, if_pos (by decide), List.getElem?_drop] at m1; exact m1
    obtain ⟨k, rfl⟩ : ∃ k : Nat, a0 = (k : Int) := ⟨a0.toNat, by omega⟩
    exact ⟨⟨⟨k, a1, a2, a3, m⟩, sn, sp, nn, cn, np, cp⟩, lst6 hlx b0 b1 b2 b3 q4 q5, ⟨by show k < 256; omega, r1, r3, hm, hr⟩, hlt⟩)
  exact ⟨(.slice a _ cap, l), rfl, h1, fun r hr => (hl r hr).1, fun r hr => (hl r hr).2⟩
end Go.Proofs.YtiecgbmeobpomaaDoor
namespace Go.Proofs.YtiecgbmeobpomaaDoor
open Go.RowKit
set_option linter.unusedVariables false
set_option linter.unusedSimpArgs false

theorem encOk0 : EncOk Msg0 := ⟨⟨by decide, fun n hn => by cases hn⟩, ⟨by decide, fun k hk => by cases hk⟩⟩
theorem encOk_of {m : Msg} (h : MsgRaw m) (hp : plainB m = true) (hl : MsgLite m) : EncOk m := by
  unfold plainB at hp
  simp only [Bool.and_eq_true, decide_eq_true_eq, List.all_eq_true] at hp
  obtain ⟨h1, h2, h3⟩ := hp
  have i64 : ∀ k, I64 k → -9223372036854775808 ≤ k ∧ k ≤ 9223372036854775807 := fun k h => h
  refine ⟨⟨by omega, fun n hn => ?_⟩, ⟨by omega, fun k hk => i64 k (h.ports k hk)⟩⟩
  have hn1 := h1 n hn
  unfold plainN at hn1
  simp only [Bool.and_eq_true, decide_eq_true_eq] at hn1
  have hr := h.nodes n hn
  refine ⟨i64 _ hr.kind, i64 _ hr.int, by omega, ⟨by omega, fun s hs => ?_⟩, ⟨by omega, fun k hk => i64 _ (hr.kids k hk)⟩⟩
  have := hl n hn s hs
  unfold reachBytes at this
  omega
theorem fewB_enc {w : World} {l : List OpR} (h : fewB l = true) (hok : ∀ r ∈ l, OpOk w r) (hlt : ∀ r ∈ l, MsgLite r.o.msg) : ∀ r ∈ l, EncOk r.o.msg := by
  unfold fewB at h
  simp only [Bool.and_eq_true, List.all_eq_true] at h
  intro r hr
  have := h.1 r hr
  unfold fewO at this
  simp only [Bool.and_eq_true] at this
  exact encOk_of (hok r hr).raw this.2 (hlt r hr)
theorem HEnc.set {h : Hist} (H : HEnc h) {e : Ent} (he : EncOk e.msg) : HEnc { h with list := h.list.set h.at_ e } := fun x hx => by
  rcases List.mem_or_eq_of_mem_set hx with y | y
  · exact H x y
  · subst y; exact he
theorem HEnc.add {h : Hist} (H : HEnc h) {e : Ent} (he : EncOk e.msg) : HEnc (addM h e) := fun x hx => by
  rcases addL_mem (h := h) (e := e) hx with y | y
  · exact H x y
  · subst y; exact he
theorem HEnc.step {h : Hist} (H : HEnc h) (ok : h.at_ < h.list.length) (A : Msg → Bool) (o : COp) (ho : EncOk o.msg) : HEnc (doH A h o) := by
  have hc : EncOk (curE h).msg := H _ (curE_mem h ok)
  unfold doH
  split
  · unfold navM
    split
    · exact HEnc.add H (e := navE h o.url) encOk0
    · exact HEnc.add H (e := navE h o.url) encOk0
  · split
    · split
      · exact HEnc.add H (e := pushE h o.url o.msg) ho
      · exact H
    · split
      · split
        · exact H.set (e := pushE h o.url o.msg) ho
        · exact H
      · split
        · split
          · unfold goM
            split
            · exact H
            · exact H
          · exact H
        · split
          · exact H.set (e := { curE h with x := o.delta, y := o.url.size }) hc
          · split
            · exact H.set (e := { curE h with title := o.url }) hc
            · split <;> exact H
theorem histK_enc {url : ByteArray} {l : List OpR} (hl : l.length ≤ 60) (hf : ∀ r ∈ l, MsgFit r.o.msg) (he : ∀ r ∈ l, EncOk r.o.msg) (k : Nat) : HEnc (histK url l k) := by
  induction k with
  | zero =>
    intro e h
    simp only [histK, doAll, newH, List.take_zero, List.map_nil, List.foldl_nil, List.mem_singleton] at h
    subst h
    exact encOk0
  | succ k ih =>
    by_cases hk : k < l.length
    · rw [histK_succ hk]
      exact ih.step (histK_ok hl hf k).1.ok _ _ (he _ (List.getElem_mem hk))
    · have : histK url l (k + 1) = histK url l k := by
        unfold histK
        rw [List.take_of_length_le (by omega), List.take_of_length_le (by omega)]
      rw [this]
      exact ih
/-- Going there and back. -/
theorem go_back {n : Nat} {h : Hist} (H : HOk n h) (P : PgOk h) {d : Int} (hd : GoOk h d) :
    GoOk (goM h d) (-d) ∧ curE (goM (goM h d) (-d)) = curE h ∧ (goV (goM h d) (-d)).entry = curE h ∧ (goV (goM h d) (-d)).awake = true ∧ (goV (goM h d) (-d)).sleeps = (goV h d).sleeps ∧ (goV (goM h d) (-d)).closed = [] ∧ (goV h d).closed = [] ∧ (goM (goM h d) (-d)).list = h.list := by
  have hl : (goM h d).list = h.list := by unfold goM; split <;> rfl
  have ha : (goM h d).at_ = ((h.at_ : Int) + d).toNat := by unfold goM; split <;> rfl
  have hok := H.ok
  unfold GoOk at hd
  have h1 : GoOk (goM h d) (-d) := by
    unfold GoOk
    rw [hl, ha]
    omega
  have hb : ∀ x : Hist, x.list = h.list → x.at_ = ((h.at_ : Int) + d).toNat → curE (goH x (-d)) = curE h := by
    intro x hx1 hx2
    unfold curE goH
    rw [hx1]
    simp only
    rw [hx2]
    have : (((((h.at_ : Int) + d).toNat : Nat) : Int) + -d).toNat = h.at_ := by omega
    rw [this]
  have hc : curE (goH (goM h d) (-d)) = curE h := hb _ hl ha
  have hc1 : curE (goM h d) = curE (goH h d) := by unfold curE; rw [hl, ha]; rfl
  have hcm : ∀ (x : Hist) (y : Int), curE (goM x y) = curE (goH x y) := by
    intro x y
    unfold goM
    split <;> rfl
  have hclosed : ∀ (x : Hist) (y : Int), (goV x y).closed = [] := by
    intro x y
    unfold goV
    split <;> rfl
  have hent : ∀ (x : Hist) (y : Int), (goV x y).entry = curE (goH x y) := by
    intro x y
    unfold goV
    split <;> rfl
  have hlist : ∀ (x : Hist) (y : Int), (goM x y).list = x.list := by
    intro x y
    unfold goM
    split <;> rfl
  refine ⟨h1, by rw [hcm, hc], by rw [hent, hc], ?_, ?_, hclosed _ _, hclosed _ _, by rw [hlist, hl]⟩
  · unfold goV
    split
    · rfl
    · rename_i hne
      show decide ((curE (goH (goM h d) (-d))).page ∈ (goM h d).sleeping) = true
      rw [hc, hc1] at hne
      rw [hc]
      refine decide_eq_true ?_
      have : goM h d = sleepM { goH h d with sleeping := h.sleeping.erase (curE (goH h d)).page } (curE h).page := by
        unfold goM
        rw [if_neg (fun e => hne e.symm)]
      rw [this]
      unfold sleepM
      simp only
      exact mem_snoc.2 (.inr rfl)
  · by_cases hp : (curE (goH h d)).page = (curE h).page
    · have e1 : (goV h d).sleeps = false := by unfold goV; rw [if_pos hp]
      have e2 : (goV (goM h d) (-d)).sleeps = false := by unfold goV; rw [if_pos (by rw [hc, hc1, hp])]
      rw [e1, e2]
    · have e1 : (goV h d).sleeps = true := by unfold goV; rw [if_neg hp]
      have e2 : (goV (goM h d) (-d)).sleeps = true := by unfold goV; rw [if_neg (by rw [hc, hc1]; exact fun e => hp e.symm)]
      rw [e1, e2]
end Go.Proofs.YtiecgbmeobpomaaDoor
namespace Go.Proofs.YtiecgbmeobpomaaDoor
set_option linter.unusedVariables false
set_option linter.unusedSimpArgs false

section
variable (ns : List Nod)
/-- The walk of the nodes alone: the next number behind it. -/
def kidsS (v : Int → Nat → Option Nat) : List Int → Nat → Option Nat
  | [], nx => some nx
  | k :: ks, nx => match v k nx with
    | none => none
    | some r => kidsS v ks r
def visSt (rec : Int → Nat → Option Nat) (i : Int) (nx : Nat) : Option Nat :=
  if i < 0 ∨ (nx : Int) < i ∨ (ns.length : Int) ≤ i then none
  else if i < nx then (if 10 ≤ (nodN ns i).kind then some nx else none)
  else kidsS rec (nodN ns i).kids (nx + 1)
def visS : Nat → Int → Nat → Option Nat
  | 0 => visSt ns (fun _ _ => none)
  | f + 1 => visSt ns (visS f)
/-- The ports ahead of a node. -/
def pcN (k : Nat) : Nat := ((ns.take k).filter fun n => n.kind == 14).length
theorem pcN_succ {k : Nat} (hk : k < ns.length) : pcN ns (k + 1) = pcN ns k + if ns[k].kind = 14 then 1 else 0 := by
  unfold pcN
  rw [List.take_succ_eq_append_getElem hk, List.filter_append, List.length_append]
  congr 1
  by_cases h : ns[k].kind = 14 <;> simp [h]
theorem nodN_get {k : Nat} (hk : k < ns.length) : nodN ns (k : Int) = ns[k] := by
  unfold nodN
  rw [Int.toNat_natCast, List.getD_eq_getElem?_getD, List.getElem?_eq_getElem hk]
  rfl
structure GoodN (j : Nat) : Prop where
  formed : formedB (nodN ns j) = true
  port : (nodN ns j).kind = 14 → (nodN ns j).int = pcN ns j
  keys : (nodN ns j).kind = 12 → keysB ns (nodN ns j) = true
end
variable {ns : List Nod}
theorem formedB_port {n : Nod} (h : formedB n = true) (hk : n.kind = 14) : n.kids = [] := by
  unfold formedB at h
  rw [if_neg (show ¬ n.kind ≤ 4 by omega)] at h
  split at h
  · simp at h
  · rw [if_neg (show ¬ (¬ n.kind = 14 ∧ ¬ n.int = 0) by omega), if_neg (show ¬ (n.kind = 10 ∨ n.kind = 13) by omega), if_neg (show ¬ n.kind = 11 by omega), if_neg (show ¬ n.kind = 12 by omega)] at h
    split at h
    · simp at h
    · simp only [decide_eq_true_eq] at h
      exact List.eq_nil_of_length_eq_zero h
theorem visS_le (f : Nat) : ∀ (i : Int) (nx nx' : Nat), visS ns f i nx = some nx' → nx ≤ ns.length → nx ≤ nx' ∧ nx' ≤ ns.length := by
  have kids : ∀ (v : Int → Nat → Option Nat), (∀ (i : Int) (nx nx' : Nat), v i nx = some nx' → nx ≤ ns.length → nx ≤ nx' ∧ nx' ≤ ns.length) → ∀ (ks : List Int) (nx nx' : Nat), kidsS v ks nx = some nx' → nx ≤ ns.length → nx ≤ nx' ∧ nx' ≤ ns.length := by
    intro v hv ks
    induction ks with
    | nil => intro nx nx' h hn; simp only [kidsS, Option.some.injEq] at h; omega
    | cons k ks ih =>
      intro nx nx' h hn
      unfold kidsS at h
      split at h
      · simp at h
      · rename_i r hr
        have h1 := hv k nx r hr hn
        have h2 := ih r nx' h h1.2
        omega
  have step : ∀ (v : Int → Nat → Option Nat), (∀ (i : Int) (nx nx' : Nat), v i nx = some nx' → nx ≤ ns.length → nx ≤ nx' ∧ nx' ≤ ns.length) → ∀ (i : Int) (nx nx' : Nat), visSt ns v i nx = some nx' → nx ≤ ns.length → nx ≤ nx' ∧ nx' ≤ ns.length := by
    intro v hv i nx nx' h hn
    unfold visSt at h
    split at h
    · simp at h
    · split at h
      · split at h
        · simp only [Option.some.injEq] at h; omega
        · simp at h
      · have := kids v hv _ _ _ h (by omega)
        omega
  induction f with
  | zero => exact fun i nx nx' h hn => step _ (fun _ _ _ h => by simp at h) i nx nx' h hn
  | succ f ih => exact fun i nx nx' h hn => step _ ih i nx nx' h hn
/-- The walk with its checks is the walk without, and each node's check. -/
theorem visitM_iff (f : Nat) : ∀ (i : Int) (nx : Nat) (r : Nat × Nat), nx ≤ ns.length → (visitM ns f i nx (pcN ns nx) = some r ↔ visS ns f i nx = some r.1 ∧ r.2 = pcN ns r.1 ∧ ∀ j, nx ≤ j → j < r.1 → GoodN ns j) := by
  have kids : ∀ (v : Int → Nat → Option Nat) (V : Int → Nat → Nat → Option (Nat × Nat)), (∀ (i : Int) (nx nx' : Nat), v i nx = some nx' → nx ≤ ns.length → nx ≤ nx' ∧ nx' ≤ ns.length) →
      (∀ (i : Int) (nx : Nat) (r : Nat × Nat), nx ≤ ns.length → (V i nx (pcN ns nx) = some r ↔ v i nx = some r.1 ∧ r.2 = pcN ns r.1 ∧ ∀ j, nx ≤ j → j < r.1 → GoodN ns j)) →
      ∀ (ks : List Int) (nx : Nat) (r : Nat × Nat), nx ≤ ns.length → (kidsM V ks nx (pcN ns nx) = some r ↔ kidsS v ks nx = some r.1 ∧ r.2 = pcN ns r.1 ∧ ∀ j, nx ≤ j → j < r.1 → GoodN ns j) := by
    intro v V hle hv ks
    induction ks with
    | nil =>
      intro nx r hn
      simp only [kidsM, kidsS, Option.some.injEq]
      constructor
      · rintro rfl
        exact ⟨rfl, rfl, fun j h1 h2 => by omega⟩
      · rintro ⟨h1, h2, -⟩
        obtain ⟨a, b⟩ := r
        simp only at h1 h2
        subst h1
        rw [h2]
    | cons k ks ih =>
      intro nx r hn
      rw [kidsM, kidsS]
      cases hk : v k nx with
      | none =>
        have : V k nx (pcN ns nx) = none := by
          cases hV : V k nx (pcN ns nx) with
          | none => rfl
          | some q => have := ((hv k nx q hn).1 hV).1; rw [hk] at this; cases this
        rw [this]
        simp
      | some a =>
        obtain ⟨la, ua⟩ := hle k nx a hk hn
        simp only
        by_cases hg : ∀ j, nx ≤ j → j < a → GoodN ns j
        · have : V k nx (pcN ns nx) = some (a, pcN ns a) := (hv k nx (a, pcN ns a) hn).2 ⟨hk, rfl, hg⟩
          rw [this]
          simp only
          rw [ih a r ua]
          constructor
          · rintro ⟨h1, h2, h3⟩
            exact ⟨h1, h2, fun j p q => if hj : j < a then hg j p hj else h3 j (by omega) q⟩
          · rintro ⟨h1, h2, h3⟩
            exact ⟨h1, h2, fun j p q => h3 j (by omega) q⟩
        · have : V k nx (pcN ns nx) = none := by
            cases hV : V k nx (pcN ns nx) with
            | none => rfl
            | some q =>
              obtain ⟨h1, -, h3⟩ := (hv k nx q hn).1 hV
              rw [hk] at h1
              simp only [Option.some.injEq] at h1
              exact (hg (by rw [h1]; exact h3)).elim
          rw [this]
          simp only [reduceCtorEq, false_iff]
          rintro ⟨h1, -, h3⟩
          have hks : ∀ (ks : List Int) (nx nx' : Nat), kidsS v ks nx = some nx' → nx ≤ ns.length → nx ≤ nx' := by
            intro ks
            induction ks with
            | nil => intro nx nx' h hn; simp only [kidsS, Option.some.injEq] at h; omega
            | cons k ks ih =>
              intro nx nx' h hn
              unfold kidsS at h
              split at h
              · simp at h
              · rename_i r hr
                have h1 := hle k nx r hr hn
                have h2 := ih r nx' h h1.2
                omega
          have := hks ks a r.1 h1 ua
          exact hg fun j p q => h3 j p (by omega)
  have step : ∀ (v : Int → Nat → Option Nat) (V : Int → Nat → Nat → Option (Nat × Nat)), (∀ (i : Int) (nx nx' : Nat), v i nx = some nx' → nx ≤ ns.length → nx ≤ nx' ∧ nx' ≤ ns.length) →
      (∀ (i : Int) (nx : Nat) (r : Nat × Nat), nx ≤ ns.length → (V i nx (pcN ns nx) = some r ↔ v i nx = some r.1 ∧ r.2 = pcN ns r.1 ∧ ∀ j, nx ≤ j → j < r.1 → GoodN ns j)) →
      ∀ (i : Int) (nx : Nat) (r : Nat × Nat), nx ≤ ns.length → (visitStep ns V i nx (pcN ns nx) = some r ↔ visSt ns v i nx = some r.1 ∧ r.2 = pcN ns r.1 ∧ ∀ j, nx ≤ j → j < r.1 → GoodN ns j) := by
    intro v V hle hv i nx r hn
    unfold visitStep visSt
    by_cases h0 : i < 0 ∨ (nx : Int) < i ∨ (ns.length : Int) ≤ i
    · rw [if_pos h0, if_pos h0]
      simp
    rw [if_neg h0, if_neg h0]
    by_cases h1 : i < nx
    · rw [if_pos h1, if_pos h1]
      by_cases h2 : 10 ≤ (nodN ns i).kind
      · rw [if_pos h2, if_pos h2]
        obtain ⟨a, b⟩ := r
        simp only [Option.some.injEq, Prod.mk.injEq]
        constructor
        · rintro ⟨rfl, rfl⟩
          exact ⟨rfl, rfl, fun j p q => by omega⟩
        · rintro ⟨rfl, h, -⟩
          exact ⟨rfl, h.symm⟩
      · rw [if_neg h2, if_neg h2]
        simp
    rw [if_neg h1, if_neg h1]
    obtain rfl : i = (nx : Int) := by omega
    have hnl : nx < ns.length := by omega
    have hpc := pcN_succ ns hnl
    rw [← nodN_get ns hnl] at hpc
    have hkl : ∀ (ks : List Int) (a nx' : Nat), kidsS v ks a = some nx' → a ≤ ns.length → a ≤ nx' := by
      intro ks
      induction ks with
      | nil => intro nx nx' h hn; simp only [kidsS, Option.some.injEq] at h; omega
      | cons k ks ih =>
        intro nx nx' h hn
        unfold kidsS at h
        split at h
        · simp at h
        · rename_i r hr
          have h1 := hle k nx r hr hn
          have h2 := ih r nx' h h1.2
          omega
    by_cases hf : formedB (nodN ns nx) = true
    · rw [if_neg (by simp [hf])]
      by_cases h14 : (nodN ns nx).kind = 14
      · rw [if_pos h14, formedB_port hf h14]
        rw [if_pos h14] at hpc
        simp only [kidsS, Option.some.injEq]
        obtain ⟨a, b⟩ := r
        by_cases hi : (nodN ns nx).int = (pcN ns nx : Int)
        · rw [if_pos hi]
          simp only [Option.some.injEq, Prod.mk.injEq]
          constructor
          · rintro ⟨rfl, rfl⟩
            refine ⟨rfl, hpc.symm, fun j p q => ?_⟩
            obtain rfl : j = nx := by omega
            exact ⟨hf, fun _ => hi, fun h => by omega⟩
          · rintro ⟨rfl, h, -⟩
            exact ⟨rfl, by rw [h, hpc]⟩
        · rw [if_neg hi]
          simp only [reduceCtorEq, false_iff]
          rintro ⟨rfl, -, h⟩
          exact hi ((h nx (Nat.le_refl _) (by omega)).port h14)
      · rw [if_neg h14]
        have hpc : pcN ns (nx + 1) = pcN ns nx := by rw [hpc, if_neg h14]; rfl
        rw [← hpc]
        have hks := kids v V hle hv (nodN ns nx).kids (nx + 1) r (by omega)
        cases hc : kidsM V (nodN ns nx).kids (nx + 1) (pcN ns (nx + 1)) with
        | none =>
          rw [hc] at hks
          simp only [reduceCtorEq, false_iff] at hks ⊢
          rintro ⟨h1, h2, h3⟩
          exact hks ⟨h1, h2, fun j p q => h3 j (by omega) q⟩
        | some a =>
          rw [hc] at hks
          simp only
          by_cases hk : (nodN ns nx).kind ≠ 12 ∨ keysB ns (nodN ns nx) = true
          · have hgood : GoodN ns nx := ⟨hf, fun h => (h14 h).elim, fun h => hk.elim (fun x => (x h).elim) id⟩
            rw [if_pos hk, hks]
            constructor
            · rintro ⟨h1, h2, h3⟩
              exact ⟨h1, h2, fun j p q => if hj : j = nx then hj ▸ hgood else h3 j (by omega) q⟩
            · rintro ⟨h1, h2, h3⟩
              exact ⟨h1, h2, fun j p q => h3 j (by omega) q⟩
          · rw [if_neg hk]
            simp only [reduceCtorEq, false_iff]
            rintro ⟨h1, -, h3⟩
            have hle2 := hkl _ _ _ h1 (by omega)
            have hg := h3 nx (Nat.le_refl _) (by omega)
            rw [not_or] at hk
            exact hk.2 (hg.keys (Classical.not_not.1 hk.1))
    · rw [if_pos hf]
      simp only [reduceCtorEq, false_iff]
      rintro ⟨h1, -, h3⟩
      have hle2 := hkl _ _ _ h1 (by omega)
      exact hf (h3 nx (Nat.le_refl _) (by omega)).formed
  induction f with
  | zero => exact step _ _ (fun _ _ _ h => by simp at h) (fun _ _ _ _ => by simp)
  | succ f ih => exact step _ _ (visS_le f) ih
end Go.Proofs.YtiecgbmeobpomaaDoor
namespace Go.Proofs.YtiecgbmeobpomaaDoor
set_option linter.unusedVariables false
set_option linter.unusedSimpArgs false

def rangeI (n : Nat) : List Int := (List.range n).map fun (j : Nat) => (j : Int)
theorem rangeI_length (n : Nat) : (rangeI n).length = n := by simp [rangeI]
theorem rangeI_mem {n : Nat} {i : Int} : i ∈ rangeI n ↔ 0 ≤ i ∧ i < n := by
  unfold rangeI
  rw [List.mem_map]
  constructor
  · rintro ⟨j, hj, rfl⟩
    have := List.mem_range.1 hj
    omega
  · rintro ⟨h1, h2⟩
    exact ⟨i.toNat, List.mem_range.2 (by omega), by omega⟩
theorem rangeI_succ (n : Nat) : rangeI (n + 1) = rangeI n ++ [(n : Int)] := by
  unfold rangeI
  rw [List.range_succ, List.map_append]; rfl
theorem rangeI_get {n k : Nat} (h : k < n) : (rangeI n)[k]? = some (k : Int) := by
  unfold rangeI
  rw [List.getElem?_map, List.getElem?_range h]
  rfl
theorem rangeI_prefix {s : List Int} {n : Nat} (h : s <+: rangeI n) : s = rangeI s.length := by
  obtain ⟨t, ht⟩ := h
  have hl : s.length ≤ n := by have := congrArg List.length ht; rw [List.length_append, rangeI_length] at this; omega
  refine List.ext_getElem? fun k => ?_
  by_cases hk : k < s.length
  · rw [rangeI_get hk]
    have : (s ++ t)[k]? = s[k]? := List.getElem?_append_left hk
    rw [← this, ht, rangeI_get (by omega)]
  · rw [List.getElem?_eq_none (by omega), List.getElem?_eq_none (by rw [rangeI_length]; omega)]
theorem rangeI_inj {a b : Nat} (h : rangeI a = rangeI b) : a = b := by
  have := congrArg List.length h
  rwa [rangeI_length, rangeI_length] at this
section
variable (ns : List Nod)
def ordKids (v : Int → List Int → List Int × Bool) : List Int → List Int → List Int × Bool
  | [], s => (s, true)
  | k :: ks, s => if (v k s).2 = true then ordKids v ks (v k s).1 else ((v k s).1, false)
def ordSt (rec : Int → List Int → List Int × Bool) (i : Int) (s : List Int) : List Int × Bool :=
  if i < 0 ∨ (ns.length : Int) ≤ i then (s, false)
  else if i ∈ s then (s, decide (10 ≤ (nodN ns i).kind))
  else ordKids rec (nodN ns i).kids (s ++ [i])
/-- The order of a walk. -/
def ordM : Nat → Int → List Int → List Int × Bool
  | 0 => ordSt ns (fun _ s => (s, false))
  | f + 1 => ordSt ns (ordM f)
end
variable {ns : List Nod}
theorem ordM_grows (f : Nat) : ∀ (i : Int) (s : List Int), s <+: (ordM ns f i s).1 := by
  have kids : ∀ v : Int → List Int → List Int × Bool, (∀ i s, s <+: (v i s).1) → ∀ ks s, s <+: (ordKids v ks s).1 := by
    intro v hv ks
    induction ks with
    | nil => exact fun s => List.prefix_refl s
    | cons k ks ih =>
      intro s
      unfold ordKids
      split
      · exact List.IsPrefix.trans (hv k s) (ih _)
      · exact hv k s
  have step : ∀ v : Int → List Int → List Int × Bool, (∀ i s, s <+: (v i s).1) → ∀ i s, s <+: (ordSt ns v i s).1 := by
    intro v hv i s
    unfold ordSt
    split
    · exact List.prefix_refl s
    · split
      · exact List.prefix_refl s
      · exact List.IsPrefix.trans (List.prefix_append s [i]) (kids v hv _ _)
  induction f with
  | zero => exact step _ (fun _ s => List.prefix_refl s)
  | succ f ih => exact step _ ih
theorem ordKids_grows (f : Nat) (ks : List Int) : ∀ s : List Int, s <+: (ordKids (ordM ns f) ks s).1 := by
  induction ks with
  | nil => exact fun s => List.prefix_refl s
  | cons k ks ih =>
    intro s
    unfold ordKids
    split
    · exact List.IsPrefix.trans (ordM_grows f k s) (ih _)
    · exact ordM_grows f k s
theorem ordM_of_visS (f : Nat) : ∀ (i : Int) (nx nx' : Nat), visS ns f i nx = some nx' → ordM ns f i (rangeI nx) = (rangeI nx', true) := by
  have kids : ∀ (v : Int → Nat → Option Nat) (V : Int → List Int → List Int × Bool), (∀ i nx nx', v i nx = some nx' → V i (rangeI nx) = (rangeI nx', true)) →
      ∀ ks nx nx', kidsS v ks nx = some nx' → ordKids V ks (rangeI nx) = (rangeI nx', true) := by
    intro v V hv ks
    induction ks with
    | nil => intro nx nx' h; simp only [kidsS, Option.some.injEq] at h; rw [ordKids, h]
    | cons k ks ih =>
      intro nx nx' h
      unfold kidsS at h
      split at h
      · simp at h
      · rename_i r hr
        rw [ordKids, hv k nx r hr, if_pos rfl]
        exact ih r nx' h
  have step : ∀ (v : Int → Nat → Option Nat) (V : Int → List Int → List Int × Bool), (∀ i nx nx', v i nx = some nx' → V i (rangeI nx) = (rangeI nx', true)) →
      ∀ i nx nx', visSt ns v i nx = some nx' → ordSt ns V i (rangeI nx) = (rangeI nx', true) := by
    intro v V hv i nx nx' h
    unfold visSt at h
    unfold ordSt
    split at h
    · simp at h
    · rename_i h0
      rw [if_neg (fun x => h0 (x.elim .inl (fun y => .inr (.inr y))))]
      split at h
      · rename_i h1
        rw [if_pos (rangeI_mem.2 ⟨by omega, h1⟩)]
        split at h
        · rename_i h2
          simp only [Option.some.injEq] at h
          rw [decide_eq_true h2, h]
        · simp at h
      · rename_i h1
        obtain rfl : i = (nx : Int) := by omega
        rw [if_neg (fun x => by have := rangeI_mem.1 x; omega), ← rangeI_succ]
        exact kids v V hv _ _ _ h
  induction f with
  | zero => exact step _ _ (fun _ _ _ h => by simp at h)
  | succ f ih => exact step _ _ ih
theorem kids_grow {V : Int → List Int → List Int × Bool} (hg : ∀ i s, s <+: (V i s).1) (ks : List Int) : ∀ s : List Int, s <+: (ordKids V ks s).1 := by
  induction ks with
  | nil => exact fun s => List.prefix_refl s
  | cons k ks ih =>
    intro s
    unfold ordKids
    split
    · exact List.IsPrefix.trans (hg k s) (ih _)
    · exact hg k s
theorem visS_of_ordM (f : Nat) : ∀ (i : Int) (nx nx' : Nat), nx' ≤ ns.length → ordM ns f i (rangeI nx) = (rangeI nx', true) → visS ns f i nx = some nx' := by
  have kids : ∀ (v : Int → Nat → Option Nat) (V : Int → List Int → List Int × Bool), (∀ i s, s <+: (V i s).1) → (∀ i nx nx', nx' ≤ ns.length → V i (rangeI nx) = (rangeI nx', true) → v i nx = some nx') →
      ∀ ks nx nx', nx' ≤ ns.length → ordKids V ks (rangeI nx) = (rangeI nx', true) → kidsS v ks nx = some nx' := by
    intro v V hg hv ks
    induction ks with
    | nil =>
      intro nx nx' hn' h
      simp only [ordKids, Prod.mk.injEq, and_true] at h
      rw [kidsS, rangeI_inj h]
    | cons k ks ih =>
      intro nx nx' hn' h
      unfold ordKids at h
      split at h
      · rename_i ht
        have hp : (V k (rangeI nx)).1 <+: rangeI nx' := by have := kids_grow hg ks (V k (rangeI nx)).1; rw [h] at this; exact this
        have he := rangeI_prefix hp
        have hl : (V k (rangeI nx)).1.length ≤ ns.length := by have := hp.length_le; rw [rangeI_length] at this; omega
        have hv1 := hv k nx (V k (rangeI nx)).1.length hl (by rw [← he]; exact Prod.ext rfl ht)
        rw [kidsS, hv1]
        rw [he] at h
        exact ih _ _ hn' h
      · simp at h
  have step : ∀ (v : Int → Nat → Option Nat) (V : Int → List Int → List Int × Bool), (∀ i s, s <+: (V i s).1) → (∀ i nx nx', nx' ≤ ns.length → V i (rangeI nx) = (rangeI nx', true) → v i nx = some nx') →
      ∀ i nx nx', nx' ≤ ns.length → ordSt ns V i (rangeI nx) = (rangeI nx', true) → visSt ns v i nx = some nx' := by
    intro v V hg hv i nx nx' hn' h
    unfold ordSt at h
    unfold visSt
    split at h
    · simp at h
    · rename_i h0
      by_cases h1 : i ∈ rangeI nx
      · rw [if_pos h1] at h
        have h2 := rangeI_mem.1 h1
        simp only [Prod.mk.injEq, decide_eq_true_eq] at h
        rw [if_neg (by omega), if_pos h2.2, if_pos h.2, rangeI_inj h.1]
      · rw [if_neg h1] at h
        have hp : rangeI nx ++ [i] <+: rangeI nx' := by have := kids_grow hg (nodN ns i).kids (rangeI nx ++ [i]); rw [h] at this; exact this
        have he := rangeI_prefix hp
        rw [List.length_append, rangeI_length, List.length_singleton, rangeI_succ] at he
        have hi : i = (nx : Int) := by simpa using List.append_cancel_left he
        subst hi
        rw [if_neg (by omega), if_neg (by omega)]
        rw [← rangeI_succ] at h
        exact kids v V hg hv _ _ _ hn' h
  induction f with
  | zero => exact step _ _ (fun _ s => List.prefix_refl s) (fun _ _ _ _ h => by simp at h)
  | succ f ih => exact step _ _ (ordM_grows f) ih
/-- Two keys of a map that differ. -/
def KeyNe (ns : List Nod) (a b : Int) : Prop := a ≠ b ∧ ¬ ((nodN ns b).kind < 10 ∧ (nodN ns b).kind = (nodN ns a).kind ∧ (nodN ns b).int = (nodN ns a).int ∧ (nodN ns b).str = (nodN ns a).str)
def evenK (l : List Int) : List Int := evN l ((l.length + 1) / 2)
theorem keysB_iff (n : Nod) : keysB ns n = true ↔ (evenK n.kids).Pairwise (KeyNe ns) := by
  unfold keysB
  rw [Bool.and_eq_true, diffB_iff, diffB_iff]
  show (keyObjs ns (evenK n.kids)).Nodup ∧ (keyVals ns (evenK n.kids)).Nodup ↔ _
  generalize evenK n.kids = E
  unfold keyObjs keyVals List.Nodup
  rw [List.pairwise_filter, List.pairwise_map, List.pairwise_filter, ← List.pairwise_and_iff]
  constructor
  · refine fun h => h.imp fun {a b} hab => ?_
    obtain ⟨h1, h2⟩ := hab
    refine ⟨fun e => ?_, fun ⟨k1, k2, k3, k4⟩ => ?_⟩
    · subst e
      by_cases ho : objN ns a = true
      · exact h1 ho ho rfl
      · exact h2 (by simp [ho]) (by simp [ho]) rfl
    · have ob : objN ns b = false := by unfold objN; exact decide_eq_false (by omega)
      have oa : objN ns a = false := by unfold objN; exact decide_eq_false (by omega)
      exact h2 (by simp [oa]) (by simp [ob]) (by unfold valOf; rw [k2, k3, k4])
  · refine fun h => h.imp fun {a b} hab => ?_
    obtain ⟨h1, h2⟩ := hab
    refine ⟨fun _ _ => h1, fun oa ob e => h2 ?_⟩
    have : (nodN ns b).kind < 10 := by unfold objN at ob; simpa using ob
    unfold valOf at e
    simp only [Vl.mk.injEq] at e
    exact ⟨this, e.1.symm, e.2.1.symm, e.2.2.1.symm⟩
open Classical in
/-- A simple node, as the reference says it. -/
noncomputable def simpleB (n : Nod) : Bool := if n.kind < 0 ∨ 4 < n.kind ∨ 0 < n.keys.length + n.kids.length then false else decide (normM (valOf n) = valOf n)
theorem simple_formed {n : Nod} (h : simpleB n = true) : formedB n = true := by
  unfold simpleB at h
  split at h
  · simp at h
  · rename_i h0
    rw [not_or, not_or] at h0
    have hn : normM (valOf n) = valOf n := by simpa using h
    unfold formedB
    rw [if_pos (by omega), if_neg (by omega), if_neg (by simp [hn]), if_neg (by omega)]
    exact decide_eq_true (by omega)
structure RefN (n : Nod) : Prop where
  many : ¬ (20000 < n.kids.length ∨ (n.kind ≠ 12 ∧ 10000 < n.kids.length))
  kind : ¬ (n.kind < 10 ∨ 14 < n.kind ∨ n.str.toList ≠ [] ∨ (n.kind ≠ 14 ∧ n.int ≠ 0))
  port : n.kind = 14 → n.keys.length + n.kids.length = 0
  plain : n.kind = 10 ∨ n.kind = 13 → n.keys.length = n.kids.length ∧ n.keys.Nodup
  other : ¬ (n.kind = 10 ∨ n.kind = 13) → n.keys.length = 0 ∧ (n.kind = 12 → n.kids.length % 2 = 0)
theorem formed_iff {n : Nod} (h : simpleB n = false) : formedB n = true ↔ RefN n := by
  unfold formedB
  by_cases h4 : n.kind ≤ 4
  · rw [if_pos h4]
    constructor
    · intro hf
      split at hf
      · simp at hf
      · rename_i h0
        split at hf
        · simp at hf
        · rename_i h1
          split at hf
          · simp at hf
          · rename_i h2
            have := of_decide_eq_true hf
            unfold simpleB at h
            rw [if_neg (by omega)] at h
            exact absurd (Classical.not_not.1 h1) (by simpa using h)
    · intro r
      exact (r.kind (.inl (by omega))).elim
  rw [if_neg h4]
  by_cases hs : n.str.toList = []
  · rw [if_neg (by simp [hs])]
    by_cases hi : ¬ n.kind = 14 ∧ ¬ n.int = 0
    · rw [if_pos hi]
      constructor
      · simp
      · exact fun r => (r.kind (.inr (.inr (.inr hi)))).elim
    rw [if_neg hi]
    by_cases k1 : n.kind = 10 ∨ n.kind = 13
    · rw [if_pos k1]
      by_cases e1 : n.keys.length = n.kids.length
      · rw [if_neg (by simp [e1])]
        by_cases e2 : n.kids.length ≤ 10000
        · rw [if_neg (by simp [e2]), diffB_iff]
          constructor
          · exact fun hn => ⟨by omega, (by rintro (h | h | h | h) <;> first | omega | exact h hs), fun h => by omega, fun _ => ⟨e1, hn⟩, fun h => (h k1).elim⟩
          · exact fun r => (r.plain k1).2
        · rw [if_pos e2]
          constructor
          · simp
          · exact fun r => (r.many (.inr (by omega))).elim
      · rw [if_pos e1]
        constructor
        · simp
        · exact fun r => (e1 (r.plain k1).1).elim
    rw [if_neg k1]
    by_cases k2 : n.kind = 11
    · rw [if_pos k2]
      by_cases e1 : n.keys.length = 0
      · rw [if_neg (by simp [e1]), decide_eq_true_eq]
        constructor
        · exact fun e2 => ⟨by omega, (by rintro (h | h | h | h) <;> first | omega | exact h hs), fun h => by omega, fun h => (k1 h).elim, fun _ => ⟨e1, fun h => by omega⟩⟩
        · intro r
          have := r.many
          omega
      · rw [if_pos e1]
        constructor
        · simp
        · exact fun r => (e1 (r.other k1).1).elim
    rw [if_neg k2]
    by_cases k3 : n.kind = 12
    · rw [if_pos k3]
      by_cases e1 : n.keys.length = 0
      · rw [if_neg (by simp [e1])]
        by_cases e2 : n.kids.length % 2 = 0
        · rw [if_neg (by simp [e2]), decide_eq_true_eq]
          constructor
          · exact fun e3 => ⟨by omega, (by rintro (h | h | h | h) <;> first | omega | exact h hs), fun h => by omega, fun h => (k1 h).elim, fun _ => ⟨e1, fun h => e2⟩⟩
          · intro r
            have := r.many
            omega
        · rw [if_pos e2]
          constructor
          · simp
          · exact fun r => (e2 ((r.other k1).2 k3)).elim
      · rw [if_pos e1]
        constructor
        · simp
        · exact fun r => (e1 (r.other k1).1).elim
    rw [if_neg k3]
    by_cases k4 : n.kind = 14
    · rw [if_neg (by simp [k4])]
      by_cases e1 : n.keys.length = 0
      · rw [if_neg (by simp [e1]), decide_eq_true_eq]
        constructor
        · exact fun e2 => ⟨by omega, (by rintro (h | h | h | h) <;> first | omega | exact h hs), fun h => by omega, fun h => (k1 h).elim, fun _ => ⟨e1, fun h => by omega⟩⟩
        · intro r
          have := r.port k4
          omega
      · rw [if_pos e1]
        constructor
        · simp
        · exact fun r => (e1 (r.other k1).1).elim
    rw [if_pos k4]
    constructor
    · simp
    · intro r
      have := r.kind
      simp only [not_or] at this
      omega
  · rw [if_pos hs]
    constructor
    · simp
    · exact fun r => (r.kind (.inr (.inr (.inl hs)))).elim
/-- What the reference asks of a node. -/
structure NodeR (ns : List Nod) (j : Nat) : Prop where
  formed : formedB (nodN ns j) = true
  port : (nodN ns j).kind = 14 → (nodN ns j).int = pcN ns j
open Classical in
/-- What the reference says of a message. -/
noncomputable def refB (m : Msg) : Bool := decide ((¬ m.nodes.length = 0 ∧ m.nodes.length ≤ 10000) ∧ (∀ j, j < m.nodes.length → NodeR m.nodes j) ∧ pcN m.nodes m.nodes.length = m.ports.length ∧ m.ports.Nodup ∧
  ordM m.nodes m.nodes.length 0 [] = (rangeI m.nodes.length, true) ∧ ∀ j, j < m.nodes.length → (nodN m.nodes j).kind = 12 → (evenK (nodN m.nodes j).kids).Pairwise (KeyNe m.nodes))
open Classical in
theorem refB_eq (m : Msg) : refB m = validB m := by
  refine Bool.eq_iff_iff.2 ?_
  unfold refB
  rw [decide_eq_true_eq]
  unfold validB
  by_cases h0 : m.nodes.length = 0
  · rw [if_pos h0]
    simp [h0]
  rw [if_neg h0]
  by_cases h1 : 10000 < m.nodes.length
  · rw [if_pos h1]
    simp only [Bool.false_eq_true, iff_false]
    rintro ⟨⟨-, h⟩, -⟩
    omega
  rw [if_neg h1]
  by_cases hd : m.ports.Nodup
  · rw [if_neg (by rw [diffB_true hd]; decide)]
    have hv := fun r => visitM_iff (ns := m.nodes) m.nodes.length 0 0 r (Nat.zero_le _)
    have p0 : pcN m.nodes 0 = 0 := by simp [pcN]
    rw [p0] at hv
    constructor
    · rintro ⟨-, h2, h3, -, h5, h6⟩
      have h7 := visS_of_ordM (ns := m.nodes) m.nodes.length 0 0 m.nodes.length (Nat.le_refl _) h5
      have h8 := (hv (m.nodes.length, pcN m.nodes m.nodes.length)).2 ⟨h7, rfl, fun j _ hj => ⟨(h2 j hj).formed, (h2 j hj).port, fun hk => (keysB_iff _).2 (h6 j hj hk)⟩⟩
      rw [h8]
      simp [validR, h3]
    · intro h
      cases hr : visitM m.nodes m.nodes.length 0 0 0 with
      | none => rw [hr] at h; simp [validR] at h
      | some r =>
        rw [hr] at h
        simp only [validR, Bool.and_eq_true, decide_eq_true_eq] at h
        obtain ⟨g1, g2, g3⟩ := (hv r).1 hr
        rw [h.1] at g1 g2 g3
        exact ⟨⟨h0, by omega⟩, fun j hj => ⟨(g3 j (Nat.zero_le _) hj).formed, (g3 j (Nat.zero_le _) hj).port⟩, by rw [← g2, h.2], hd, ordM_of_visS m.nodes.length 0 0 _ g1, fun j hj hk => (keysB_iff _).1 ((g3 j (Nat.zero_le _) hj).keys hk)⟩
  · rw [if_pos (diffB_false hd)]
    simp only [Bool.false_eq_true, iff_false]
    exact fun h => hd h.2.2.2.1
end Go.Proofs.YtiecgbmeobpomaaDoor
