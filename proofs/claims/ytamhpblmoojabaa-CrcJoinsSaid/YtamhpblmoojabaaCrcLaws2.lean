/- Walks of the statements' own functions over package crc, the second half. -/
import Derived.Test.YtamhpblmoojabaaCrcLaws
namespace Go.Proofs.Ytamhpblmoojabaa
open Go.RowKit

theorem hid_trans {w a b : World} (h : Hid (Below w.heap.size w a)) (k : Below a.heap.size a b) : Hid (Below w.heap.size w b) := h.out.trans (k.mono h.out.size)

set_option maxHeartbeats 400000 in
theorem crcSums_walk (s : BitVec 32) (v : Value) (l : List UInt8) (w : World) (h : Bytes w v l) :
    Calls Try.prog 4 #[.int .u32 (num32 s), v] w fun e w' => e = .returned (.bool true) ∧ Below w.heap.size w w' := by
  obtain ⟨a, cap, rfl, -, -⟩ := h.opened
  by_cases hbig : l.length ≤ 2000
  · have hb1 : (l.length : Int) ≤ 2000 := by omega
    have hl : l.length ≤ 140737488351232 := by omega
    go_enter Try.func4, Try.ntmps4
    go_wp2_with (first
      | (go_at_call 9; refine (awake_any _).mono ?_; rintro e w1 ⟨rfl, HB⟩; have h1 := h.below HB; have B1 := Lib.hid HB; clear HB)
      | (go_at_call 12; refine (more_any s _ l _ h1 hl).mono ?_; rintro e w2 ⟨rfl, HB⟩; have h2 := h1.below HB; have B2 := hid_trans B1 HB; clear HB)
      | (go_at_call 13; refine (refmore_any s _ l _ h2 hl).mono ?_; rintro e w3 ⟨rfl, rfl⟩)
      | (go_at_call 14; refine (sum_any _ l _ h2 hl).mono ?_; rintro e w3 ⟨rfl, HB⟩; have h3 := h2.below HB; have B3 := hid_trans B2 HB; clear HB)
      | (go_at_call 15; refine (refsum_any _ l _ h3 hl).mono ?_; rintro e w4 ⟨rfl, rfl⟩))
    go_ret
    exact ⟨rfl, B3.out⟩
  · have hb1 : (2000 : Int) < (l.length : Int) := by omega
    go_enter Try.func4, Try.ntmps4
    go_wp2_with (first
      | (go_at_call 9; refine (awake_any _).mono ?_; rintro e w1 ⟨rfl, HB⟩; have B1 := Lib.hid HB; clear HB))
    go_ret
    exact ⟨rfl, B1.out⟩

theorem Try.info8 : (Try.prog.info? 5).map (fun i => (i.zero, i.size, i.bytes)) = some (some (.int .u8 0), 1, 1) := by kernel_rfl

/-- a new slice of no bytes -/
theorem own_none8 (w : World) (e : TypeId) : (w.alloc (.cells #[] e)).ownsRow w.heap.size e 1 (.slice (some ⟨w.heap.size, 0, none⟩) 0 0) ([] : List UInt8).length (byteVals []) :=
  World.ownsRow_lit w #[] 0 (Nat.le_refl _) (by unfold maxLen; omega) rfl

theorem own_below_alloc {w w' : World} {o : Obj} {e : TypeId} {size : Nat} {v : Value} {n : Nat} {xs : List Value} (h : (w.alloc o).ownsRow w.heap.size e size v n xs) (hg : (w.alloc o).grownBy w' v.ownBlock) : Below w.heap.size w w' :=
  ((Below.refl _ _).alloc (Nat.le_refl _) _).trans (own_below h hg (by simp))

/-- a copy of bytes: append([]byte{}, src...) -/
theorem copy_bytes {P : Program} (w : World) {t e : TypeId} (ty : TypeId) (ht : P.underlying t = some (.slice e)) (hi : (P.info? e).map (fun i => (i.zero, i.size, i.bytes)) = some (some (.int .u8 0), 1, 1))
    {src : Value} {m : List UInt8} (hsrc : Bytes w src m) (h63 : m.length ≤ 140737488355328) :
    ∃ v' w', (Builtin.append_ #[t, t] ty #[.slice (some ⟨w.heap.size, 0, none⟩) 0 0, src]).run P (w.alloc (.cells #[] e)) = .ok v' w' ∧ w'.ownsRow w.heap.size e 1 v' m.length (byteVals m) ∧ Below w.heap.size w w' := by
  obtain ⟨v', w', r, o, g⟩ := append_bytes ty ht hi (own_none8 w e) (hsrc.below ((Below.refl _ _).alloc (Nat.le_refl _) _)) (by simpa using h63) (by simp)
  exact ⟨v', w', r, o, own_below_alloc (own_none8 w e) g⟩

set_option maxHeartbeats 1000000 in
theorem crcJoins_walk (s : BitVec 32) (va : Value) (a : List UInt8) (vb : Value) (b : List UInt8) (w : World) (ha : Bytes w va a) (hb : Bytes w vb b) :
    Calls Try.prog 5 #[.int .u32 (num32 s), va, vb] w fun e w' => e = .returned (.bool true) ∧ Below w.heap.size w w' := by
  obtain ⟨aa, ca, rfl, -, -⟩ := ha.opened
  obtain ⟨ab, cb, rfl, -, -⟩ := hb.opened
  by_cases hbig : a.length ≤ 2000
  · have hb1 : (a.length : Int) ≤ 2000 := by omega
    by_cases hbig2 : b.length ≤ 2000
    · have hb2 : (b.length : Int) ≤ 2000 := by omega
      have hla : a.length ≤ 140737488351232 := by omega
      have hlb : b.length ≤ 140737488351232 := by omega
      have M1 := Lib.hid (Crc.more_append s a b)
      have M2 := Lib.hid (Crc.more_append 0#32 a b)
      have M3 := Lib.hid (Crc.more_nil s)
      go_enter Try.func5, Try.ntmps5
      go_wp2_with fail
      refine (awake_any _).mono ?_
      rintro e w1 ⟨rfl, HB⟩
      have a1 := ha.below HB
      have b1 := hb.below HB
      have B1 := Lib.hid HB
      clear HB
      obtain ⟨v1, W1, r1, o1, g1⟩ := copy_bytes (P := Try.prog) w1 26 Try.underlying26 Try.info8 a1 (by omega)
      have HR1 := Lib.hid r1
      clear r1
      have b2 := b1.below g1
      obtain ⟨v2, W2, r2, o2, g2⟩ := append_bytes (P := Try.prog) 26 Try.underlying26 Try.info8 o1 b2 (by omega) g1.size
      have HR2 := Lib.hid r2
      clear r2
      have g3 := g1.trans (own_below o1 g2 g1.size)
      have a2 := a1.below g3
      have b2 := b1.below g3
      have ab := own_bytes o2
      have hab : (a ++ b).length ≤ 140737488351232 := by rw [List.length_append]; omega
      have B2 : Hid (Below w.heap.size w W2) := hid_trans B1 g3
      clear B1 g3 g2 o2 o1 g1
      go_wp2_with (first
        | (at_builtin; refine Lib.wpList_append_run _ rfl (.tmp 19) (.tmp 20) _ _ rfl _ _ rfl rfl _ _ HR1.out ?_)
        | (at_builtin; refine Lib.wpList_append_run _ rfl (.tmp 21) (.tmp 22) _ _ rfl _ _ rfl rfl _ _ HR2.out ?_))
      refine (more_any s _ _ _ ab hab).mono ?_
      rintro e w3 ⟨rfl, HB⟩
      rw [M1.out]
      replace a2 := a2.below HB
      replace b2 := b2.below HB
      replace ab := ab.below HB
      have B3 := hid_trans B2 HB
      clear B2 HB
      go_wp2_with fail
      refine (more_any s _ _ _ a2 hla).mono ?_
      rintro e w4 ⟨rfl, HB⟩
      replace a2 := a2.below HB
      replace b2 := b2.below HB
      replace ab := ab.below HB
      have B4 := hid_trans B3 HB
      clear B3 HB
      go_wp2_with fail
      refine (more_any _ _ _ _ b2 hlb).mono ?_
      rintro e w5 ⟨rfl, HB⟩
      replace a2 := a2.below HB
      replace b2 := b2.below HB
      replace ab := ab.below HB
      have B5 := hid_trans B4 HB
      clear B4 HB
      go_wp2_with fail
      refine (sum_any _ _ _ ab hab).mono ?_
      rintro e w6 ⟨rfl, HB⟩
      rw [M2.out]
      replace a2 := a2.below HB
      replace b2 := b2.below HB
      replace ab := ab.below HB
      have B6 := hid_trans B5 HB
      clear B5 HB
      go_wp2_with fail
      refine (sum_any _ _ _ a2 hla).mono ?_
      rintro e w7 ⟨rfl, HB⟩
      replace a2 := a2.below HB
      replace b2 := b2.below HB
      replace ab := ab.below HB
      have B7 := hid_trans B6 HB
      clear B6 HB
      go_wp2_with fail
      refine (more_any _ _ _ _ b2 hlb).mono ?_
      rintro e w8 ⟨rfl, HB⟩
      replace a2 := a2.below HB
      replace b2 := b2.below HB
      replace ab := ab.below HB
      have B8 := hid_trans B7 HB
      clear B7 HB
      go_wp2_with fail
      refine (more_any s _ _ _ (Bytes.nil _) (by simp)).mono ?_
      rintro e w9 ⟨rfl, HB⟩
      rw [M3.out]
      replace a2 := a2.below HB
      replace b2 := b2.below HB
      replace ab := ab.below HB
      have B9 := hid_trans B8 HB
      clear B8 HB
      go_wp2_with fail
      go_ret
      exact ⟨rfl, B9.out⟩
    · have hb2 : (2000 : Int) < (b.length : Int) := by omega
      go_enter Try.func5, Try.ntmps5
      go_wp2_with (first
        | (go_at_call 9; refine (awake_any _).mono ?_; rintro e w1 ⟨rfl, HB⟩; have B1 := Lib.hid HB; clear HB))
      go_ret
      exact ⟨rfl, B1.out⟩
  · have hb1 : (2000 : Int) < (a.length : Int) := by omega
    go_enter Try.func5, Try.ntmps5
    go_wp2_with (first
      | (go_at_call 9; refine (awake_any _).mono ?_; rintro e w1 ⟨rfl, HB⟩; have B1 := Lib.hid HB; clear HB))
    go_ret
    exact ⟨rfl, B1.out⟩

end Go.Proofs.Ytamhpblmoojabaa
