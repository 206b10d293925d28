/- maps.Copy over maps of bytes; the keys of one, sorted. -/
import Derived.Test.YtddcdhmeknkphaaMap
import Derived.Test.YtddcdhmeknkphaaDskShelf
import Derived.WalkKit
import Derived.Shelf.AbstractIn
namespace Go.Proofs.Ytddcdhmeknkphaa
open Go.RowKit Go.Maps Go.Shelf Go.Sort

theorem view_chg {w w' : World} {D : DataW Value} {F : Int → Option (List UInt8)} {k : Int} {fs : List Nat} (h : View w D F k) (hc : Chg fs w w') (hn : ∀ k ∈ fs, NoU8 w k) : View w' D F k := by
  unfold View at *
  cases hf : F k with
  | none => rw [hf] at h; exact h
  | some l =>
    rw [hf] at h
    obtain ⟨v, g1, g2⟩ := h
    exact ⟨v, g1, g2.off hc hn⟩

theorem copy_any {w : World} {bd bs : Nat} {F G : Int → Option (List UInt8)} (hd : MapAt w bd F) (hs : MapAt w bs G) (hne : bd ≠ bs) :
    Calls Try.prog 29 #[.map (some bd), .map (some bs)] w fun e w' => e = .returned (.tuple #[]) ∧ MapAt w' bd (both F G) ∧ MapAt w' bs G ∧ Chg [bd] w w' := by
  obtain ⟨es, clock, hblk⟩ := hd.block
  obtain ⟨hF, D, o1, v1⟩ := hd
  obtain ⟨hG, E, o2, v2⟩ := hs
  have f1 := MapAt.few hF o1 v1
  have f2 := MapAt.few hG o2 v2
  have hc := AnyX.maps_Copy Try.copyL mlaw rawElem bd bs (Maps.size D) (Maps.size E) D E w o1 o2 hne (by unfold maxLen; omega)
  change Calls Try.prog 29 _ _ _ at hc
  refine hc.mono ?_
  rintro e w' ⟨rfl, g1, g2, gr⟩
  have hch := grown_chg gr
  have hn : ∀ j ∈ [bd], NoU8 w j := by
    intro j hj
    simp only [List.mem_singleton] at hj
    subst hj
    exact noU8_map hblk
  refine ⟨rfl, ⟨?_, _, ownsMap_tight g1, fun k hk => ?_⟩, ⟨hG, E, g2, fun k hk => view_chg (v2 k hk) hch hn⟩, hch⟩
  · intro k l h
    unfold both at h
    split at h
    · rename_i m hm; exact hG k m hm
    · exact hF k l h
  · exact view_merge o1.isMap (o2.tidy mlaw) (intLits o2) (view_chg (v1 k hk) hch hn) (view_chg (v2 k hk) hch hn)

/-- slices.Sort's two contracts, at the fence that asks nothing -/
theorem sorts_in (m : Nat) : AnyZI.SortsIn Try.prog Try.sortedL_ren Fence.wide m :=
  ⟨fun blk off cap ss W hH hblk hsz => callsIn_wide.2 (AnyM.slices_Sort_int Try.sortL blk off cap ss W hH hblk hsz),
   fun p cap W => callsIn_wide.2 (AnyM.slices_Sort_int_none Try.sortL p cap W)⟩

/-- maps.Keys -/
theorem keys_call (mb : Option Nat) (W : World) : Calls Try.prog 43 #[.map mb] W fun e w' => e = .returned (.func (.func 49) #[] #[.pointer (some ⟨W.heap.size, 0, none⟩)]) ∧ w' = W.alloc (.cells #[.map mb] 59) :=
  (callsIn_wide (n := 5)).1 (AnyZI.keys_in Try.keysL Fence.wide 5 trivial rfl mb W)

theorem enc_ints (l : List Int) : l.map encZ = l.map (Value.int .i64) := rfl

/-- slices.Sorted over the keys of a map of bytes, behind maps.Keys -/
theorem sorted_call {w : World} {b : Nat} {F : Int → Option (List UInt8)} (h : MapAt w b F) (n : Nat) (hn : ∀ k l, F k = some l → 0 ≤ k ∧ k < n) :
    Calls Try.prog 42 #[.func (.func 49) #[] #[.pointer (some ⟨w.heap.size, 0, none⟩)]] (w.alloc (.cells #[.map (some b)] 59)) fun e w' =>
      ∃ v, e = .returned v ∧ w'.ownsRow (w.heap.size + 1) 3 1 v (keysOf n F).length ((keysOf n F).map (Value.int .i64)) ∧ Below (w.heap.size + 1) (w.alloc (.cells #[.map (some b)] 59)) w' := by
  obtain ⟨hF, D, o1, v1⟩ := h
  have hfew := MapAt.few hF o1 v1
  have hperm := MapAt.perm hF n hn o1 v1
  have hbl := o1.lt
  have hseq : SeqGives Fence.wide 2 Try.prog 49 #[.pointer (some ⟨w.heap.size, 0, none⟩)] encZ (fun ss => ss.Perm (intKeys D)) (Maps.size D) (w.alloc (.cells #[.map (some b)] 59)) :=
    AnyZI.keys_gives (ρ := Try.keysL_ren) { Try.keysL with } Fence.wide _ trivial rfl (by omega) w.heap.size b (Maps.size D) D _ (by simp) (by simp) (by
      obtain ⟨es, clock, hb, Ft, hs, hD⟩ := o1
      exact ⟨es, clock, (Below.heap_alloc _ _ b hbl).trans hb, Ft, hs, hD⟩)
  have cS := AnyZI.sorted_in Try.sortedL Fence.wide 5 trivial trivial trivial trivial rfl (by omega) (sorts_in _) (enters_of Try.func48 (by kernel_rfl) rfl) 49 #[.pointer (some ⟨w.heap.size, 0, none⟩)] trivial (enters_of Try.func49 (by kernel_rfl) rfl) _ _ (by unfold maxLen; omega) (by omega) _ hseq
  change CallsIn _ _ Try.prog 42 _ _ _ at cS
  refine ((callsIn_wide (n := 5)).1 cS).mono ?_
  rintro e w' ⟨v, ss, rfl, hS, hrow, hnil, hb⟩
  have hms : ss.mergeSort leI = keysOf n F := by
    rw [mergeSort_of_perm_i (hS.trans hperm.symm)]
    exact List.mergeSort_of_pairwise (keysOf_sorted n F)
  have hlen : ss.length = (keysOf n F).length := (hS.trans hperm.symm).length_eq
  refine ⟨v, rfl, ?_, ?_⟩
  · have hrow' := hrow
    rw [enc_ints] at hrow'
    change w'.ownsRow _ _ 1 v ss.length ((ss.mergeSort leI).map _) at hrow'
    rw [hms, hlen] at hrow'
    simp only [World.size_alloc] at hrow'
    exact hrow'
  · simpa using hb

end Go.Proofs.Ytddcdhmeknkphaa
