/-
  Plain laws of the checksum: it is affine, and it sees one changed byte. No program in sight.
-/
import Derived.Test.YtehdimblkaefhaaPlain
namespace Go.Proofs.Ytehdimblkaefhaa.Kn
set_option linter.unusedVariables false

theorem crcStep_eq (r : Nat) : crcStep r = (r / 2) ^^^ (if r % 2 = 1 then 3988292384 else 0) := by
  unfold crcStep; split <;> simp
theorem crcStep_xor (a b : Nat) : crcStep (a ^^^ b) = crcStep a ^^^ crcStep b := by
  rw [crcStep_eq, crcStep_eq, crcStep_eq, Nat.xor_div_two]
  have h : (a ^^^ b) % 2 = (a + b) % 2 := by
    have h2 := @Nat.xor_mod_two_eq_one a b
    have h3 := Nat.mod_two_eq_zero_or_one (a ^^^ b)
    omega
  have key : (if (a ^^^ b) % 2 = 1 then 3988292384 else 0) = (if a % 2 = 1 then 3988292384 else 0) ^^^ (if b % 2 = 1 then 3988292384 else 0) := by
    rw [h]
    rcases Nat.mod_two_eq_zero_or_one a with ha | ha <;> rcases Nat.mod_two_eq_zero_or_one b with hb | hb <;> simp [ha, hb, Nat.add_mod]
  rw [key]
  ac_rfl
theorem crcSteps_xor (k : Nat) : ∀ a b, crcSteps k (a ^^^ b) = crcSteps k a ^^^ crcSteps k b := by
  induction k with
  | zero => intro a b; rfl
  | succ k ih => intro a b; simp only [crcSteps]; rw [ih, crcStep_xor]
theorem crcByte_xor (r s : Nat) (a b : UInt8) : crcByte (r ^^^ s) (a ^^^ b) = crcByte r a ^^^ crcByte s b := by
  unfold crcByte
  rw [← crcSteps_xor, UInt8.toNat_xor]
  congr 1
  ac_rfl

def x3 : List UInt8 → List UInt8 → List UInt8 → List UInt8
  | a :: l, b :: m, c :: n => (a ^^^ b ^^^ c) :: x3 l m n
  | _, _, _ => []
theorem x3_snoc : ∀ (l m n : List UInt8) (a b c : UInt8), l.length = m.length → m.length = n.length → x3 (l ++ [a]) (m ++ [b]) (n ++ [c]) = x3 l m n ++ [a ^^^ b ^^^ c]
  | [], [], [], _, _, _, _, _ => rfl
  | _ :: l, _ :: m, _ :: n, _, _, _, h1, h2 => by simp only [List.cons_append, x3]; rw [x3_snoc l m n _ _ _ (by simpa using h1) (by simpa using h2)]
  | [], _ :: _, _, _, _, _, h1, _ => by simp at h1
  | _ :: _, [], _, _, _, _, h1, _ => by simp at h1
  | [], [], _ :: _, _, _, _, _, h2 => by simp at h2
  | _ :: _, _ :: _, [], _, _, _, _, h2 => by simp at h2
theorem foldl_x3 : ∀ (l m n : List UInt8) (x y z : Nat), l.length = m.length → m.length = n.length → (x3 l m n).foldl crcByte (x ^^^ y ^^^ z) = l.foldl crcByte x ^^^ m.foldl crcByte y ^^^ n.foldl crcByte z
  | [], [], [], _, _, _, _, _ => rfl
  | a :: l, b :: m, c :: n, x, y, z, h1, h2 => by
    simp only [x3, List.foldl_cons]
    rw [crcByte_xor, crcByte_xor]
    exact foldl_x3 l m n _ _ _ (by simpa using h1) (by simpa using h2)
  | [], _ :: _, _, _, _, _, h1, _ => by simp at h1
  | _ :: _, [], _, _, _, _, h1, _ => by simp at h1
  | [], [], _ :: _, _, _, _, _, h2 => by simp at h2
  | _ :: _, _ :: _, [], _, _, _, _, h2 => by simp at h2
theorem crc_eq_xor (l : List UInt8) : crc l = 4294967295 ^^^ crcReg l := (xor_max _ (crcReg_lt l)).symm
theorem crc_x3 (l m n : List UInt8) (h1 : l.length = m.length) (h2 : m.length = n.length) : crc (x3 l m n) = crc l ^^^ crc m ^^^ crc n := by
  have h := foldl_x3 l m n 4294967295 4294967295 4294967295 h1 h2
  rw [show (4294967295 ^^^ 4294967295 ^^^ 4294967295 : Nat) = 4294967295 from by decide] at h
  rw [crc_eq_xor, crc_eq_xor, crc_eq_xor, crc_eq_xor]
  unfold crcReg
  rw [h]
  generalize l.foldl crcByte 4294967295 = x
  generalize m.foldl crcByte 4294967295 = y
  generalize n.foldl crcByte 4294967295 = z
  have e : (4294967295 ^^^ x) ^^^ (4294967295 ^^^ y) ^^^ (4294967295 ^^^ z) = (4294967295 ^^^ 4294967295 ^^^ 4294967295) ^^^ (x ^^^ y ^^^ z) := by ac_rfl
  rw [e, show (4294967295 ^^^ 4294967295 ^^^ 4294967295 : Nat) = 4294967295 from by decide]
theorem x3_length : ∀ (l m n : List UInt8), l.length = m.length → m.length = n.length → (x3 l m n).length = l.length
  | [], [], [], _, _ => rfl
  | _ :: l, _ :: m, _ :: n, h1, h2 => by simp only [x3, List.length_cons]; rw [x3_length l m n (by simpa using h1) (by simpa using h2)]
  | [], _ :: _, _, h1, _ => by simp at h1
  | _ :: _, [], _, h1, _ => by simp at h1
  | [], [], _ :: _, _, h2 => by simp at h2
  | _ :: _, _ :: _, [], _, h2 => by simp at h2

/-- One step back: a step loses nothing. -/
theorem crcStep_inj {a b : Nat} (ha : a < 4294967296) (hb : b < 4294967296) (h : crcStep a = crcStep b) : a = b := by
  have key : ∀ r, r < 4294967296 → crcStep r = 0 → r = 0 := by
    intro r hr h
    rw [crcStep_eq] at h
    by_cases h2 : r % 2 = 1
    · rw [if_pos h2] at h
      have h3 : r / 2 = 3988292384 := by
        have := congrArg (· ^^^ 3988292384) h
        simpa [Nat.xor_assoc] using this
      omega
    · rw [if_neg h2] at h
      simp at h
      omega
  have h1 : crcStep (a ^^^ b) = 0 := by rw [crcStep_xor, h, Nat.xor_self]
  have h2 := key _ (Nat.xor_lt_two_pow (n := 32) ha hb) h1
  have := congrArg (· ^^^ b) h2
  simpa [Nat.xor_assoc] using this
theorem crcSteps_inj (k : Nat) : ∀ {a b : Nat}, a < 4294967296 → b < 4294967296 → crcSteps k a = crcSteps k b → a = b := by
  induction k with
  | zero => intro a b _ _ h; exact h
  | succ k ih => intro a b ha hb h; exact ih ha hb (crcStep_inj (crcSteps_lt ha k) (crcSteps_lt hb k) h)
theorem xor_right_cancel {a b c : Nat} (h : a ^^^ c = b ^^^ c) : a = b := by
  have := congrArg (· ^^^ c) h
  simpa [Nat.xor_assoc] using this
theorem crcByte_inj {r s : Nat} (c : UInt8) (hr : r < 4294967296) (hs : s < 4294967296) (h : crcByte r c = crcByte s c) : r = s :=
  xor_right_cancel (crcSteps_inj 8 (Nat.xor_lt_two_pow (n := 32) hr (by have := c.toNat_lt; omega)) (Nat.xor_lt_two_pow (n := 32) hs (by have := c.toNat_lt; omega)) h)
theorem crcByte_inj2 {r : Nat} {c d : UInt8} (hr : r < 4294967296) (h : crcByte r c = crcByte r d) : c = d := by
  have h1 := crcSteps_inj 8 (Nat.xor_lt_two_pow (n := 32) hr (by have := c.toNat_lt; omega)) (Nat.xor_lt_two_pow (n := 32) hr (by have := d.toNat_lt; omega)) h
  rw [Nat.xor_comm r, Nat.xor_comm r] at h1
  exact UInt8.toNat_inj.1 (xor_right_cancel h1)
theorem foldl_inj (l : List UInt8) : ∀ {r s : Nat}, r < 4294967296 → s < 4294967296 → l.foldl crcByte r = l.foldl crcByte s → r = s := by
  induction l with
  | nil => intro r s _ _ h; exact h
  | cons c l ih => intro r s hr hs h; exact crcByte_inj c hr hs (ih (crcByte_lt c hr) (crcByte_lt c hs) h)
/-- One byte is changed: the checksum changes. -/
theorem crc_one (l r : List UInt8) {c d : UInt8} (h : crc (l ++ c :: r) = crc (l ++ d :: r)) : c = d := by
  rw [crc_eq_xor, crc_eq_xor, Nat.xor_comm 4294967295, Nat.xor_comm 4294967295] at h
  have h1 := xor_right_cancel h
  unfold crcReg at h1
  simp only [List.foldl_append, List.foldl_cons] at h1
  have hl := foldl_crc_lt l 4294967295 (by omega)
  exact crcByte_inj2 hl (foldl_inj r (crcByte_lt c hl) (crcByte_lt d hl) h1)

/-- The four bytes of a checksum. -/
def tailOf (n : Nat) : List UInt8 := [UInt8.ofNat n, UInt8.ofNat (n / 256), UInt8.ofNat (n / 65536), UInt8.ofNat (n / 16777216)]
theorem tailOf_inj {n m : Nat} (hn : n < 4294967296) (hm : m < 4294967296) (h : tailOf n = tailOf m) : n = m := by
  simp only [tailOf, List.cons.injEq] at h
  obtain ⟨h0, h1, h2, h3, _⟩ := h
  have e0 := congrArg UInt8.toNat h0
  have e1 := congrArg UInt8.toNat h1
  have e2 := congrArg UInt8.toNat h2
  have e3 := congrArg UInt8.toNat h3
  simp at e0 e1 e2 e3
  omega
/-- Sealed bytes. -/
def sealL (l : List UInt8) : List UInt8 := l ++ tailOf (crc l)
theorem sealL_length (l : List UInt8) : (sealL l).length = l.length + 4 := by simp [sealL, tailOf]
/-- Is it sealed? -/
def openL (l : List UInt8) : Bool := decide (l.drop (l.length - 4) = tailOf (crc (l.take (l.length - 4))))
theorem openL_seal (l : List UInt8) : openL (sealL l) = true := by
  unfold openL
  rw [sealL_length, show l.length + 4 - 4 = l.length from by omega, decide_eq_true_iff, sealL, List.drop_left, List.take_left]
theorem sealL_of_open {l : List UInt8} (h : openL l = true) : sealL (l.take (l.length - 4)) = l := by
  unfold openL at h
  rw [sealL, ← of_decide_eq_true h, List.take_append_drop]
theorem open_of_sealL {l : List UInt8} (h4 : 4 ≤ l.length) (h : sealL (l.take (l.length - 4)) = l) : openL l = true := by
  have := openL_seal (l.take (l.length - 4))
  rwa [h] at this
/-- One byte of a sealed string is changed: it is not sealed. -/
theorem openL_set (l : List UInt8) (i : Nat) (hi : i < (sealL l).length) (c : UInt8) (h : openL ((sealL l).set i c) = true) : (sealL l)[i] = c := by
  have hl := sealL_length l
  unfold openL at h
  rw [List.length_set, hl, show l.length + 4 - 4 = l.length from by omega] at h
  have h := of_decide_eq_true h
  by_cases hb : i < l.length
  · rw [List.drop_set_of_lt hb, List.take_set, sealL, List.drop_left, List.take_left] at h
    have h1 := tailOf_inj (crc_lt _) (crc_lt _) h
    have h2 : l = l.take i ++ l[i] :: l.drop (i + 1) := by rw [← List.drop_eq_getElem_cons hb, List.take_append_drop]
    have h3 : l.set i c = l.take i ++ c :: l.drop (i + 1) := by rw [List.set_eq_take_append_cons_drop, if_pos hb]
    rw [h3] at h1
    have h4 := crc_one (l.take i) (l.drop (i + 1)) (c := l[i]) (d := c) (by rw [← h2]; exact h1)
    simp only [sealL]
    rw [List.getElem_append_left hb, h4]
  · rw [List.take_set_of_le (by omega), sealL, List.take_left, List.drop_set, if_neg (by omega), List.drop_left] at h
    have hk : i - l.length < (tailOf (crc l)).length := by simp [tailOf]; omega
    simp only [sealL]
    rw [List.getElem_append_right (by omega)]
    have h5 : ((tailOf (crc l)).set (i - l.length) c)[i - l.length]? = (tailOf (crc l))[i - l.length]? := by rw [h]
    rw [List.getElem?_set_self (by simpa using hk), List.getElem?_eq_getElem hk] at h5
    exact (Option.some.inj h5).symm
end Go.Proofs.Ytehdimblkaefhaa.Kn
