/- Lists of ints as cells. No program in sight. -/
import Derived.Test.YtddcdhmeknkphaaBase
namespace Go.Proofs.Ytddcdhmeknkphaa
open Go.RowKit

def intVals (l : List Int) : List Value := l.map (Value.int .i64)
theorem intVals_length (l : List Int) : (intVals l).length = l.length := by simp [intVals]
theorem intVals_get (l : List Int) (i : Nat) (h : i < l.length) : (intVals l)[i]? = some (.int .i64 (l.getD i 0)) := by
  simp [intVals, List.getD, h]

theorem eq_of_take {α : Type} (a b : List α) (hl : a.length = b.length) (h : ∀ j, j < a.length → a[j]? = b[j]?) : a = b := by
  apply List.ext_getElem?
  intro j
  rcases Nat.lt_or_ge j a.length with h1 | h1
  · exact h j h1
  · rw [List.getElem?_eq_none h1, List.getElem?_eq_none (by omega)]

end Go.Proofs.Ytddcdhmeknkphaa
