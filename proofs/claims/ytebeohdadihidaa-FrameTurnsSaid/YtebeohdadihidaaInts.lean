/- The walk of the reference's Ints: are two lists of numbers the same? -/
import Derived.Test.YtebeohdadihidaaProg
import Derived.Test.YtebeohdadihidaaBase
import Derived.Deep.RegionHeld3
import Derived.Deep.DrawnRows
namespace Go.Proofs.Ytebeohdadihidaa
open Go.RowKit

def intVals (l : List Int) : List Value := l.map (Value.int .i64)
theorem intVals_length (l : List Int) : (intVals l).length = l.length := by simp [intVals]
theorem intVals_get (l : List Int) (i : Nat) (h : i < l.length) : (intVals l)[i]? = some (.int .i64 (l.getD i 0)) := by
  simp [intVals, List.getD, h]

theorem eq_of_take {α : Type} (a b : List α) (hl : a.length = b.length) (h : ∀ j, j < a.length → a[j]? = b[j]?) : a = b := by
  apply List.ext_getElem?
  intro j
  rcases Nat.lt_or_ge j a.length with h1 | h1
  · exact h j h1
  · rw [List.getElem?_eq_none h1, List.getElem?_eq_none (by omega)]

attribute [local go_sem ↓] Go.wp_at_zero Go.wp_at_succ

set_option maxHeartbeats 1000000 in
theorem ints_any (va vb : Value) (a b : List Int) (w : World) (ha : Row w va (intVals a)) (hb : Row w vb (intVals b)) (hla : a.length ≤ 140737488351232) :
    Calls Try.prog 18 #[va, vb] w fun e w' => e = .returned (.bool (decide (a = b))) ∧ Below w.heap.size w w' := by
  obtain ⟨aa, ca, rfl, -, ba, oa, HA, HCA⟩ := ha.opened
  obtain ⟨ab, cb, rfl, -, bb, ob, HB, HCB⟩ := hb.opened
  rw [intVals_length] at *
  clear ha hb
  by_cases hlen : a.length = b.length
  · rw [intVals_length, ← hlen]
    have HL := Lib.hid hlen
    clear hlen
    go_enter Try.func18, Try.ntmps18
    go_wp2_with fail
    go_loopw [5] (fun i wr => ∃ k : Nat, k ≤ a.length ∧ i = .int .i64 k ∧ (∀ j, j < k → a[j]? = b[j]?) ∧ Below w.heap.size w wr) (fun i _ => a.length - (intOf i).toNat)
    case atStart => exact ⟨0, by omega, rfl, fun j hj => by omega, Below.refl _ _⟩
    case round =>
      obtain ⟨k, hk, rfl, hall, hbel⟩ := hrel
      have HALL := Lib.hid hall
      have HBW := Lib.hid hbel
      clear hall
      by_cases hlt : k < a.length
      · obtain rfl := HA (List.ne_nil_of_length_pos (by rw [intVals_length]; omega))
        obtain rfl := HB (List.ne_nil_of_length_pos (by rw [intVals_length]; have := HL.out; omega))
        have ka := cell_later hbel (HCA.out k _ (intVals_get a k hlt))
        have kb := cell_later hbel (HCB.out k _ (intVals_get b k (by have := HL.out; omega)))
        have l0 : (0 : Int) ≤ (k : Int) := by omega
        have l1 : (k : Int) < (a.length : Int) := by omega
        have HLT := Lib.hid hlt
        have ea : Hid (a[k]? = some (a.getD k 0)) := by unfold Hid; rw [List.getD_eq_getElem?_getD, List.getElem?_eq_getElem hlt]; rfl
        have eb : Hid (b[k]? = some (b.getD k 0)) := by unfold Hid; rw [List.getD_eq_getElem?_getD, List.getElem?_eq_getElem (by have := HL.out; omega)]; rfl
        obtain ⟨x, HX⟩ : ∃ x, Hid (a.getD k 0 = x) := ⟨_, rfl⟩
        obtain ⟨y, HY⟩ : ∃ y, Hid (b.getD k 0 = y) := ⟨_, rfl⟩
        rw [HX.out] at ka ea
        rw [HY.out] at kb eb
        clear hbel hk hlt
        by_cases hxy : x = y
        · have n1 : (x != y) = false := bne_eq_false_iff_eq.2 hxy
          have HXY := Lib.hid hxy
          clear hxy
          go_wp2_with fail
          go_region_held3 (fun w' => w'.cell? ⟨ba, oa + k, none⟩ = some (.int .i64 x) ∧ w'.cell? ⟨bb, ob + k, none⟩ = some (.int .i64 y)) (go_keep) (first | fail)
          go_wp2
          go_roundw
          case rel => exact ⟨k + 1, by have := HLT.out; omega, by go_num, fun j hj => by
            rcases Nat.lt_or_ge j k with h1 | h1
            · exact HALL.out j h1
            · obtain rfl : j = k := by omega
              rw [ea.out, eb.out, HXY.out], HBW.out.drew⟩
          case measure => simp [intOf]; have := HLT.out; omega
        · have n1 : (x != y) = true := bne_iff_ne.2 hxy
          have HXY := Lib.hid hxy
          clear hxy
          go_wp2_with fail
          go_region_held3 (fun w' => w'.cell? ⟨ba, oa + k, none⟩ = some (.int .i64 x) ∧ w'.cell? ⟨bb, ob + k, none⟩ = some (.int .i64 y)) (go_keep) (first | fail)
          go_wp2
          go_ret
          refine ⟨?_, HBW.out.drew⟩
          have : ¬ a = b := by
            intro e
            have h1 := ea.out
            rw [e, eb.out] at h1
            cases h1
            exact HXY.out rfl
          rw [decide_eq_false this]
          rfl
      · obtain rfl : k = a.length := by omega
        clear hbel hlt hk
        go_wp2_with fail
        go_ret
        refine ⟨?_, HBW.out⟩
        rw [decide_eq_true (eq_of_take a b HL.out HALL.out)]
        rfl
  · have n1 : ((a.length : Int) != ((intVals b).length : Int)) = true := bne_iff_ne.2 (by rw [intVals_length]; omega)
    have HL := Lib.hid hlen
    clear hlen
    go_enter Try.func18, Try.ntmps18
    go_wp2_with fail
    go_ret
    refine ⟨?_, Below.refl _ _⟩
    have : ¬ a = b := by intro e; exact HL.out (by rw [e])
    rw [decide_eq_false this]
    rfl

end Go.Proofs.Ytebeohdadihidaa
