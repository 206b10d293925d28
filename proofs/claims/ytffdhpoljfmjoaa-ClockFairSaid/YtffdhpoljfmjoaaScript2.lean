/- A slice of structs of two numbers, read as a list of pairs. -/
import Derived.Test.YtffdhpoljfmjoaaOpen
import Derived.Deep.SlicePairs
namespace Go.Proofs.Ytffdhpoljfmjoaa
open Go.ChangeShapes Go.WideShapes Go.ChangeAt Go.RowKit

/-- a script: of each call its kind and its number -/
def Script (w : World) (v : Value) (l : List (Int × Int)) : Prop :=
  (v = .slice none 0 0 ∧ l = []) ∨
  ∃ x cap, v = .slice (some x) l.length cap ∧ l.length ≤ cap ∧ (l ≠ [] → x.spot = none) ∧
    ∀ i, i < l.length → w.cell? (x.add (i * 2)) = some (.int .i64 (l.getD i (0, 0)).1) ∧ w.cell? (x.add (i * 2 + 1)) = some (.int .i64 (l.getD i (0, 0)).2)

theorem Script.opened {w : World} {v : Value} {l : List (Int × Int)} (h : Script w v l) : ∃ a cap, v = .slice a l.length cap ∧
    ∃ b o, (l ≠ [] → a = some ⟨b, o, none⟩) ∧ Hid (∀ i, i < l.length → w.cell? ⟨b, o + i * 2, none⟩ = some (.int .i64 (l.getD i (0, 0)).1) ∧ w.cell? ⟨b, o + i * 2 + 1, none⟩ = some (.int .i64 (l.getD i (0, 0)).2)) := by
  rcases h with ⟨rfl, rfl⟩ | ⟨⟨b, o, sp⟩, cap, rfl, hc, hs, h⟩
  · exact ⟨none, 0, rfl, 0, 0, fun h => absurd rfl h, fun i hi => by simp at hi⟩
  · refine ⟨_, cap, rfl, b, o, fun hn => by rw [show sp = none from hs hn], fun i hi => ?_⟩
    have hn : l ≠ [] := by intro e; subst e; simp at hi
    obtain rfl : sp = none := hs hn
    have h1 := h i hi
    rw [addr_add, addr_add] at h1
    exact h1

theorem Script.below {w w' : World} {v : Value} {l : List (Int × Int)} (h : Script w v l) (hb : Below w.heap.size w w') : Script w' v l := by
  rcases h with h | ⟨x, cap, rfl, hc, hs, h⟩
  · exact .inl h
  · refine .inr ⟨x, cap, rfl, hc, hs, fun i hi => ?_⟩
    obtain ⟨h1, h2⟩ := h i hi
    exact ⟨(hb.cell (block_lt_of_cell h1)).trans h1, (hb.cell (block_lt_of_cell h2)).trans h2⟩

theorem Script.old {w : World} {v : Value} {l : List (Int × Int)} (h : Script w v l) (hl : l ≠ []) : ∀ k, v.ownBlock = some k → k < w.heap.size := by
  intro k hk
  rcases h with ⟨rfl, rfl⟩ | ⟨x, cap, rfl, hc, hs, h⟩
  · exact absurd rfl hl
  · have h1 := (h 0 (List.length_pos_iff.mpr hl)).1
    have := block_lt_of_cell h1
    rw [Addr.add_block] at this
    simp only [Value.ownBlock, Option.some.injEq] at hk
    omega

def numOfVal : Value → Int | .int _ n => n | _ => 0

theorem open_script {H : Type} {enc : TypeId × Value → H} {P : Program} {W : World} {t e : TypeId} {f0 f1 : Field} (ht : P.underlying t = some (.slice e)) (he : P.underlying e = some (.struct #[f0, f1])) (ce : P.cellsOf e = 2) (o0 : f0.offset = 0) (o1 : f1.offset = 1)
    (c0 : P.cellsOf f0.type = 1) (c1 : P.cellsOf f1.type = 1) (u0 : P.underlying f0.type = some (.int .i64)) (u1 : P.underlying f1.type = some (.int .i64))
    {base : Nat} {spare : Nat → Bool} {held : Bool} {v : Value} {d : DataW H} {p : List MemPlace} (hv : ∃ a len cap, v = .slice a len cap) (h : DataW.Trod enc P W base spare held t v d p) : ∃ l, Script W v l := by
  obtain ⟨a, len, cap, rfl⟩ := hv
  obtain ⟨fuel, hf⟩ := h
  rcases Go.Deep.open_slice_pairs ht he ce o0 o1 c0 c1 hf with ⟨hcs, _⟩ | ⟨x, l, c, m, n, V0, V1, D0, D1, P0, P1, hcs, _, hl, hm, hmm, _, hx⟩
  · simp [Value.cells] at hcs
    obtain ⟨rfl, rfl, rfl⟩ := hcs
    exact ⟨[], .inl ⟨rfl, rfl⟩⟩
  · simp [Value.cells] at hcs
    obtain ⟨rfl, rfl, rfl⟩ := hcs
    have hle : len ≤ m := by rw [hmm]; split <;> omega
    refine ⟨(List.range len).map fun i => (numOfVal (V0 i), numOfVal (V1 i)), .inr ⟨x, cap, by simp, by simpa using hl, fun hn => ?_, fun i hi => ?_⟩⟩
    · have h0 : 0 < len := by
        rcases Nat.eq_zero_or_pos len with h | h
        · subst h; simp at hn
        · exact h
      have := (hx 0 (by omega)).1
      simpa [Go.Addr.add] using World.cell?_spot this
    · simp only [List.length_map, List.length_range] at hi
      obtain ⟨g0, g1, g2, g3⟩ := hx i (by omega)
      obtain ⟨z0, e0, _, _⟩ := DataW.trod_int u0 g2
      obtain ⟨z1, e1, _, _⟩ := DataW.trod_int u1 g3
      simp at e0 e1
      rw [g0, g1, e0, e1]
      simp [List.getD, hi, e0, e1, numOfVal]

end Go.Proofs.Ytffdhpoljfmjoaa
