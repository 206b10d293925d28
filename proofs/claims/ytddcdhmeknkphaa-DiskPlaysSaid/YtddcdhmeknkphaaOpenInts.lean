/- Arguments that came in, opened: slices of ints. No program in sight. -/
import Derived.Test.YtddcdhmeknkphaaOpen
import Derived.Test.YtddcdhmeknkphaaIntVals
namespace Go.Proofs.Ytddcdhmeknkphaa
open Go.ChangeShapes Go.WideShapes Go.ChangeAt Go.RowKit

theorem nums_row {W : World} {x : Addr} {len cap : Nat} {zs : List Int} (hl : len ≤ cap) (hz : len ≤ zs.length) (hcell : ∀ i, i < zs.length → W.cell? (x.add i) = some (.int .i64 (zs.getD i 0))) :
    Row W (.slice (some x) len cap) (intVals (zs.take len)) := by
  have e : (intVals (zs.take len)).length = len := by rw [intVals_length]; simp; omega
  refine .inr ⟨x, cap, by rw [e], by rw [e]; exact hl, fun hn => ?_, fun i u hu => ?_⟩
  · have h0 : 0 < zs.length := by
      rcases Nat.eq_zero_or_pos len with h | h
      · subst h; simp [intVals] at hn
      · omega
    have := hcell 0 h0
    simpa [Go.Addr.add] using World.cell?_spot this
  · have hi : i < len := by
      rcases Nat.lt_or_ge i len with h' | h'
      · exact h'
      · rw [List.getElem?_eq_none (by rw [e]; exact h')] at hu; cases hu
    rw [intVals_get _ i (by simp; omega)] at hu
    obtain rfl := Option.some.inj hu
    rw [hcell i (by omega)]
    simp [List.getD, hi]

theorem open_nums {H : Type} {enc : TypeId × Value → H} {P : Program} {W : World} {t e : TypeId} (ht : P.underlying t = some (.slice e)) (he : P.underlying e = some (.int .i64)) (hc : P.cellsOf e = 1)
    {base : Nat} {spare : Nat → Bool} {held : Bool} {v : Value} {d : DataW H} {p : List MemPlace} (hv : ∃ a len cap, v = .slice a len cap) (h : DataW.Trod enc P W base spare held t v d p) : ∃ l, Row W v (intVals l) := by
  obtain ⟨a, len, cap, rfl⟩ := hv
  obtain ⟨fuel, hf⟩ := h
  rcases open_ints ht he hc hf with ⟨hcs, _⟩ | ⟨x, l, c, zs, hcs, _, hl, hm, hz, _, hcell, hwz⟩
  · simp [Value.cells] at hcs
    obtain ⟨rfl, rfl, rfl⟩ := hcs
    exact ⟨[], .inl ⟨rfl, rfl⟩⟩
  · simp [Value.cells] at hcs
    obtain ⟨rfl, rfl, rfl⟩ := hcs
    exact ⟨_, nums_row hl (by rw [hz]; split <;> omega) hcell⟩

end Go.Proofs.Ytddcdhmeknkphaa
