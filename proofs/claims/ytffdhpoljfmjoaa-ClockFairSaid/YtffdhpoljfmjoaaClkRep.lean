/- How clocks lie in memory: the program's and the reference's. -/
import Derived.Test.YtffdhpoljfmjoaaClkPlain
namespace Go.Proofs.Ytffdhpoljfmjoaa
open Go.RowKit

/-- the cells of the places -/
def placeCell (s : Clk.St) (j : Nat) : Value := if j % 2 = 0 then .int .i64 ((s.pins.getD (j / 2) 0 : Nat) : Int) else .bool (s.used.getD (j / 2) false)
def placeCells (s : Clk.St) : Array Value := ((List.range (2 * s.pins.length)).map (placeCell s)).toArray

theorem placeCells_size (s : Clk.St) : (placeCells s).size = 2 * s.pins.length := by simp [placeCells]
theorem placeCells_get (s : Clk.St) (j : Nat) (h : j < 2 * s.pins.length) : (placeCells s)[j]? = some (placeCell s j) := by simp [placeCells, h]
theorem placeCells_ge (s : Clk.St) (j : Nat) (h : ¬ j < 2 * s.pins.length) : (placeCells s)[j]? = none := Array.getElem?_eq_none (by rw [placeCells_size]; omega)

theorem getD_set_ne {α : Type} (l : List α) (i j : Nat) (x d : α) (h : i ≠ j) : (l.set i x).getD j d = l.getD j d := by
  rw [List.getD_eq_getElem?_getD, List.getElem?_set_ne h, ← List.getD_eq_getElem?_getD]
theorem getD_set_self {α : Type} (l : List α) (i : Nat) (x d : α) (h : i < l.length) : (l.set i x).getD i d = x := by
  rw [List.getD_eq_getElem?_getD, List.getElem?_set_self h]; rfl

theorem placeCells_used (s : Clk.St) (hl : s.used.length = s.pins.length) (i : Nat) (b : Bool) (h : i < s.pins.length) :
    (placeCells s).setIfInBounds (i * 2 + 1) (.bool b) = placeCells { s with used := s.used.set i b } := by
  apply Array.ext_getElem?
  intro j
  rw [Array.getElem?_setIfInBounds]
  by_cases hj : j < 2 * s.pins.length
  · rw [placeCells_get _ _ hj, placeCells_get _ _ (by exact hj)]
    by_cases e : i * 2 + 1 = j
    · subst e
      rw [if_pos rfl, if_pos (by rw [placeCells_size]; exact hj)]
      unfold placeCell
      rw [if_neg (by omega), show (i * 2 + 1) / 2 = i by omega, getD_set_self _ _ _ _ (by omega)]
    · rw [if_neg e]
      unfold placeCell
      by_cases h2 : j % 2 = 0
      · rw [if_pos h2, if_pos h2]
      · rw [if_neg h2, if_neg h2]
        simp only
        rw [getD_set_ne _ _ _ _ _ (by omega)]
  · rw [placeCells_ge _ _ hj, placeCells_ge _ _ (by exact hj), if_neg (by omega)]

theorem placeCells_pins (s : Clk.St) (i : Nat) (x : Nat) (h : i < s.pins.length) :
    (placeCells s).setIfInBounds (i * 2) (.int .i64 (x : Int)) = placeCells { s with pins := s.pins.set i x } := by
  apply Array.ext_getElem?
  intro j
  rw [Array.getElem?_setIfInBounds]
  have hlen : ({ s with pins := s.pins.set i x } : Clk.St).pins.length = s.pins.length := by simp
  by_cases hj : j < 2 * s.pins.length
  · rw [placeCells_get _ _ hj, placeCells_get _ _ (by rw [hlen]; exact hj)]
    by_cases e : i * 2 = j
    · subst e
      rw [if_pos rfl, if_pos (by rw [placeCells_size]; exact hj)]
      unfold placeCell
      rw [if_pos (by omega), show (i * 2) / 2 = i by omega]
      simp only
      rw [getD_set_self _ _ _ _ h]
    · rw [if_neg e]
      unfold placeCell
      by_cases h2 : j % 2 = 0
      · rw [if_pos h2, if_pos h2]
        simp only
        rw [getD_set_ne _ _ _ _ _ (by omega)]
      · rw [if_neg h2, if_neg h2]
  · rw [placeCells_ge _ _ hj, placeCells_ge _ _ (by rw [hlen]; exact hj), if_neg (by omega)]

theorem placeCells_new (n : Nat) : madeCells (Value.agg #[.int .i64 0, .bool false]).cells (n * 2) = placeCells (Clk.new n) := by
  have hn : (Clk.new n).pins.length = n := by simp [Clk.new]
  apply Array.ext_getElem?
  intro j
  by_cases hj : j < 2 * n
  · rw [placeCells_get _ _ (by rw [hn]; exact hj)]
    have : j < n * 2 := by omega
    simp only [madeCells, Value.cells, Array.getElem?_map, Array.getElem?_range, if_pos this, Option.map_some, Option.some.injEq]
    unfold placeCell
    have hd : j / 2 < n := by omega
    by_cases h2 : j % 2 = 0
    · rw [if_pos h2]
      show (#[Value.int IntKind.i64 0, Value.bool false])[j % 2]! = _
      rw [h2]
      simp [Clk.new, List.getD, hd]
    · rw [if_neg h2]
      show (#[Value.int IntKind.i64 0, Value.bool false])[j % 2]! = _
      rw [show j % 2 = 1 by omega]
      simp [Clk.new, List.getD, hd]
  · rw [placeCells_ge _ _ (by rw [hn]; exact hj)]
    exact Array.getElem?_eq_none (by rw [size_madeCells]; omega)

theorem placeCells_hand (s : Clk.St) (h : Nat) : placeCells { s with hand := h } = placeCells s := rfl

attribute [irreducible] placeCells

/-- the program's clock: its struct in block c, its places in block L -/
structure ClkAt (w : World) (c L : Nat) (s : Clk.St) : Prop where
  top : w.heap[c]? = some (.cells #[.slice (some ⟨L, 0, none⟩) s.pins.length s.pins.length, .int .i64 (s.hand : Int)] 53 (0, 0))
  row : w.heap[L]? = some (.cells (placeCells s) 55 (0, 0))
  ok : Clk.Ok s

theorem ClkAt.ne {w : World} {c L : Nat} {s : Clk.St} (h : ClkAt w c L s) : c ≠ L := by
  intro e
  have h1 := h.top
  rw [e, h.row] at h1
  simp at h1

theorem ClkAt.kept {fs : List Nat} {w w' : World} {c L : Nat} {s : Clk.St} (h : ClkAt w c L s) (hc : Chg fs w w') (h1 : c ∉ fs) (h2 : L ∉ fs) : ClkAt w' c L s :=
  ⟨(hc.block c (lt_of_block h.top) h1).trans h.top, (hc.block L (lt_of_block h.row) h2).trans h.row, h.ok⟩

theorem ClkAt.below {w w' : World} {c L : Nat} {s : Clk.St} (h : ClkAt w c L s) (hc : Below w.heap.size w w') : ClkAt w' c L s :=
  h.kept (Chg.of_below (fs := []) hc) (by simp) (by simp)

theorem clk_used {w : World} {c L : Nat} {s : Clk.St} (h : ClkAt w c L s) {i : Nat} (hi : i < s.pins.length) (b : Bool) :
    ClkAt (w.setCell ⟨L, i * 2 + 1, none⟩ (.bool b)) c L { s with used := s.used.set i b } :=
  ⟨by rw [heap_setCell_other _ _ _ _ h.ne]; exact h.top, by rw [heap_setCell_same _ _ _ _ _ _ h.row, placeCells_used s h.ok.len i b hi], ⟨by simp [h.ok.len], h.ok.pos, h.ok.most, h.ok.hand⟩⟩

theorem clk_pins {w : World} {c L : Nat} {s : Clk.St} (h : ClkAt w c L s) {i : Nat} (hi : i < s.pins.length) (x : Nat) :
    ClkAt (w.setCell ⟨L, i * 2, none⟩ (.int .i64 (x : Int))) c L { s with pins := s.pins.set i x } :=
  ⟨by rw [heap_setCell_other _ _ _ _ h.ne]; simpa using h.top, by rw [heap_setCell_same _ _ _ _ _ _ h.row, placeCells_pins s i x hi], ⟨by simp [h.ok.len], by simpa using h.ok.pos, by simpa using h.ok.most, by simpa using h.ok.hand⟩⟩

theorem clk_hand {w : World} {c L : Nat} {s : Clk.St} (h : ClkAt w c L s) :
    ClkAt (w.setCell ⟨c, 1, none⟩ (.int .i64 (((s.hand + 1) % s.pins.length : Nat) : Int))) c L (Clk.next s) :=
  ⟨by rw [heap_setCell_same _ _ _ _ _ _ h.top]; rfl, by rw [heap_setCell_other _ _ _ _ (Ne.symm h.ne)]; exact h.row.trans (congrArg (fun x => some (Obj.cells x _ _)) (placeCells_hand s _).symm), Clk.ok_next h.ok⟩

end Go.Proofs.Ytffdhpoljfmjoaa
