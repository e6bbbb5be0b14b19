/-
  The bytes of a Writer as a string.
-/
import Derived.Test.YtaacafdlklnegaaWrite
import Derived.Test.YtaacafdlklnegaaReadb
import Derived.Test.YtaacafdlklnegaaPlainb
import Derived.Laws.BytesArg
import Derived.Lib.Strings
import Derived.Lib.IndexBytes
namespace Go.Proofs.Ytaacafdlklnegaa
set_option linter.unusedVariables false
open Go.RowKit

theorem bytes_ext {a b : ByteArray} (h : a.data.toList = b.data.toList) : a = b := ByteArray.ext (Array.toList_inj.1 h)
set_option maxRecDepth 100000 in
theorem run_convert_row {w : World} {v : Value} {bs : List UInt8} (h : RowAt w 5 1 v bs.length (bs.map byteV)) :
    (convert 35 9 v).run Try.prog w = .ok (.string ⟨bs.toArray⟩) w := by
  rcases h.2 with ⟨rfl, hn⟩ | ⟨g, off, cap, cur, rfl, hg, _⟩
  · have : bs = [] := List.eq_nil_of_length_eq_zero hn
    subst this
    exact run_convert_bytes_nil w 35 5 Try.underlying35 Try.underlying5 0 0 9 Try.underlying9
  · have := run_convert_bytes_arg (P := Try.prog) w 35 5 Try.underlying35 Try.underlying5 g off bs.length cap (bs.map fun b => (b.toNat : Int)) (by simp) (by
      intro i hi
      have := h.cells rfl i (byteV bs[i]) (by simp [hi])
      have hadd : (⟨g, off, none⟩ : Addr).add i = ⟨g, off + i, none⟩ := by unfold Addr.add; split <;> simp_all
      rw [hadd] at this
      rw [this]
      simp [byteV, List.getD, hi]) 9 Try.underlying9
    rw [this]
    congr 3
    simp only [strOfNums, List.map_map]
    rw [show ((fun n : Int => UInt8.ofNat n.toNat) ∘ fun b : UInt8 => (b.toNat : Int)) = id from by funext b; simp, List.map_id]

end Go.Proofs.Ytaacafdlklnegaa
