/- Arguments that came in, opened: numbers, bytes, slices of bytes. No program in sight. -/
import Derived.Test.YtddcdhmeknkphaaBase
import Derived.ProofKit
import Derived.OpenShut
import Derived.ShutString
import Derived.ChangeOld
namespace Go.Proofs.Ytddcdhmeknkphaa
open Go.ChangeShapes Go.WideShapes Go.ChangeAt Go.RowKit

theorem u8_of_wf {n : Int} (h : (Lit.int .u8 n).wf = true) : ∃ x : UInt8, n = (x.toNat : Int) := by
  have hb : 0 ≤ n ∧ n ≤ 255 := by simpa [Lit.wf, IntKind.min, IntKind.max, IntKind.signed, IntKind.bits] using h
  refine ⟨UInt8.ofNat n.toNat, ?_⟩
  simp
  omega

theorem u32_of_wf {n : Int} (h : (Lit.int .u32 n).wf = true) : ∃ x : BitVec 32, n = num32 x := by
  have hb : 0 ≤ n ∧ n ≤ 4294967295 := by simpa [Lit.wf, IntKind.min, IntKind.max, IntKind.signed, IntKind.bits] using h
  exact ⟨BitVec.ofInt 32 n, u32_of n hb.1 (by omega)⟩

theorem i64_of_wf {n : Int} (h : (Lit.int .i64 n).wf = true) : -9223372036854775808 ≤ n ∧ n ≤ 9223372036854775807 := by
  simpa [Lit.wf, IntKind.min, IntKind.max, IntKind.signed, IntKind.bits] using h

/-- bytes out of the numbers of a row -/
def bytesOf (zs : List Int) : List UInt8 := zs.map fun z => UInt8.ofNat z.toNat

theorem bytesOf_getD (zs : List Int) (hw : ∀ n ∈ zs, (Lit.int .u8 n).wf = true) (i : Nat) (h : i < zs.length) : (((bytesOf zs).getD i 0).toNat : Int) = zs.getD i 0 := by
  obtain ⟨x, hx⟩ := u8_of_wf (hw zs[i] (List.getElem_mem h))
  simp only [bytesOf, List.getD, List.getElem?_map, List.getElem?_eq_getElem h, Option.map_some, Option.getD_some]
  rw [hx]
  simp

theorem bytes_row {W : World} {x : Addr} {len cap : Nat} {zs : List Int} (hl : len ≤ cap) (hz : len ≤ zs.length) (hcell : ∀ i, i < zs.length → W.cell? (x.add i) = some (.int .u8 (zs.getD i 0))) (hw : ∀ n ∈ zs, (Lit.int .u8 n).wf = true) :
    Bytes W (.slice (some x) len cap) ((bytesOf zs).take len) := by
  have e : ((bytesOf zs).take len).length = len := by simp [bytesOf]; omega
  refine .inr ⟨x, cap, by rw [e], by rw [e]; exact hl, fun hn => ?_, fun i hi => ?_⟩
  · have h0 : 0 < zs.length := by
      rcases Nat.eq_zero_or_pos len with h | h
      · subst h; simp at hn
      · omega
    have := hcell 0 h0
    simpa [Go.Addr.add] using World.cell?_spot this
  · rw [e] at hi
    rw [hcell i (by omega), ← bytesOf_getD zs hw i (by omega)]
    simp [List.getD, hi]

theorem open_bytes {H : Type} {enc : TypeId × Value → H} {P : Program} {W : World} {t e : TypeId} (ht : P.underlying t = some (.slice e)) (he : P.underlying e = some (.int .u8)) (hc : P.cellsOf e = 1)
    {base : Nat} {spare : Nat → Bool} {held : Bool} {v : Value} {d : DataW H} {p : List MemPlace} (hv : ∃ a len cap, v = .slice a len cap) (h : DataW.Trod enc P W base spare held t v d p) : ∃ l, Bytes W v l := by
  obtain ⟨a, len, cap, rfl⟩ := hv
  obtain ⟨fuel, hf⟩ := h
  rcases open_ints ht he hc hf with ⟨hcs, _⟩ | ⟨x, l, c, zs, hcs, _, hl, hm, hz, _, hcell, hwz⟩
  · simp [Value.cells] at hcs
    obtain ⟨rfl, rfl, rfl⟩ := hcs
    exact ⟨[], .inl ⟨rfl, rfl⟩⟩
  · simp [Value.cells] at hcs
    obtain ⟨rfl, rfl, rfl⟩ := hcs
    exact ⟨_, bytes_row hl (by rw [hz]; split <;> omega) hcell hwz⟩

theorem trod_lt' {H : Type} {enc : TypeId × Value → H} {P : Program} {W : World} {base : Nat} {spare : Nat → Bool} {held : Bool} {t : TypeId} {v : Value} {d : DataW H} {p : List MemPlace}
    (h : DataW.Trod enc P W base spare held t v d p) : ∀ x ∈ p, x.block < W.heap.size := by
  obtain ⟨m, hm⟩ := h
  exact DataW.trod_lt m _ _ _ hm

end Go.Proofs.Ytddcdhmeknkphaa
