/- Bytes as strings. -/
import Derived.Test.YtddcdhmeknkphaaBase
import Derived.Test.YtddcdhmeknkphaaProg
import Derived.Laws.IdiomStrings
import Derived.Laws.BytesArg
namespace Go.Proofs.Ytddcdhmeknkphaa
open Go.RowKit

/-- a string of these bytes -/
def strOf (l : List UInt8) : ByteArray := ⟨l.toArray⟩
theorem strOf_inj {l m : List UInt8} : strOf l = strOf m ↔ l = m := by
  unfold strOf
  simp

theorem strOf_beq (l m : List UInt8) : ((strOf l).toList == (strOf m).toList) = decide (l = m) := by
  unfold strOf
  rw [ByteArray.toList_mk, ByteArray.toList_mk]
  by_cases h : l = m
  · subst h; simp
  · rw [decide_eq_false h, beq_eq_false_iff_ne]; exact h

theorem str_bytes {w : World} {v : Value} {l : List UInt8} (h : Bytes w v l) : (convert 29 9 v).run Try.prog w = .ok (.string (strOf l)) w := by
  rcases h with ⟨rfl, rfl⟩ | ⟨x, cap, rfl, hc, hs, h⟩
  · exact run_convert_bytes_nil (P := Try.prog) w 29 5 Try.underlying29 Try.underlying5 0 0 9 Try.underlying9
  · exact run_convert_bytes_back (P := Try.prog) w 29 9 5 x cap l Try.underlying29 Try.underlying5 Try.underlying9 fun j hj => by
      have := h j hj
      simp [List.getD, hj] at this
      exact this

end Go.Proofs.Ytddcdhmeknkphaa
