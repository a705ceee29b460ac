/- A slice of bytes, turned to a string. -/
import Derived.Test.YtnlkjhhocehhaaaFrame
import Derived.Laws.BytesArg
import Derived.Laws.IdiomStrings
namespace Go.Proofs.Ytnlkjhhocehhaaa
open Go Go.RowKit Go.Proofs
theorem back_text (w : World) (A : Option Addr) (n c : Nat) (l : List UInt8) (hn : n = l.length) (h : Bytes w A l) :
    (convert 22 9 (.slice A n c)).run Try.prog w = .ok (.string ⟨l.toArray⟩) w := by
  subst hn
  rcases l with _ | ⟨x, l⟩
  · rcases A with _ | a
    · exact Go.run_convert_bytes_nil w 22 5 Try.underlying22 Try.underlying5 0 c 9 Try.underlying9
    · exact run_convert_bytes_back w 22 9 5 a c [] Try.underlying22 Try.underlying5 Try.underlying9 (fun j hj => absurd hj (by simp))
  · obtain ⟨g, o, rfl, hg, hc⟩ := h.2 (by simp)
    refine run_convert_bytes_back w 22 9 5 ⟨g, o, none⟩ c (x :: l) Try.underlying22 Try.underlying5 Try.underlying9 (fun j hj => ?_)
    rw [show (⟨g, o, none⟩ : Addr).add j = ⟨g, o + j, none⟩ by simp [Addr.add]]
    refine hc j _ ?_
    simp only [byteVals, List.getElem?_map, List.getElem?_eq_getElem hj, Option.map_some]
    rfl
end Go.Proofs.Ytnlkjhhocehhaaa
