/- tailracelaw05.awake. -/
import Derived.Test.YtebeohdadihidaaFrmUnpack
import Derived.Test.YtebeohdadihidaaFrmRefRead
import Derived.Test.YtebeohdadihidaaFrmPlain3
namespace Go.Proofs.Ytebeohdadihidaa
open Go.RowKit

/-- one byte in a block of its own -/
theorem one_byte (w : World) (x : UInt8) (e : TypeId) : Bytes (w.alloc (.cells #[.int .u8 (x.toNat : Int)] e)) (.slice (some ⟨w.heap.size, 0, none⟩) 1 1) [x] :=
  bytes_block (heap_alloc_new _ _) [x] 1 1 rfl (Nat.le_refl _) fun i hi => by
    simp only [List.length_cons, List.length_nil] at hi
    obtain rfl : i = 0 := by omega
    rfl

theorem two_ints (w : World) (x y : Int) (e : TypeId) : Row (w.alloc (.cells #[.int .i64 x, .int .i64 y] e)) (.slice (some ⟨w.heap.size, 0, none⟩) 2 2) (intVals [x, y]) :=
  row_block (heap_alloc_new _ _) (intVals [x, y]) 2 2 rfl (Nat.le_refl _) fun i u hu => by rw [List.getElem?_toArray]; exact hu

/-- an answer of bytes, the call's own, and an error number -/
def BytesErr (l : List UInt8) (n : Int) (w : World) (e : Ending) (w' : World) : Prop :=
  ∃ a c, e = .returned (.tuple #[.slice a l.length c, .int .i64 n]) ∧ Bytes w' (.slice a l.length c) l ∧ (∀ k, (Value.slice a l.length c).ownBlock = some k → w.heap.size ≤ k) ∧ Below w.heap.size w w'

def NumBytesErr (m : Int) (l : List UInt8) (n : Int) (w : World) (e : Ending) (w' : World) : Prop :=
  ∃ a c, e = .returned (.tuple #[.int .i64 m, .slice a l.length c, .int .i64 n]) ∧ Bytes w' (.slice a l.length c) l ∧ (∀ k, (Value.slice a l.length c).ownBlock = some k → w.heap.size ≤ k) ∧ Below w.heap.size w w'

theorem packed_good {k p : Int} {d : List UInt8} {w : World} (hg : Frm.good k p d = true) {e : Ending} {w' : World} (h : Packed k p d w e w') : BytesErr (Frm.pack k p d) 0 w e w' := by
  obtain ⟨r, h1, h2, h3, h4⟩ := h
  rw [hg] at h1 h2
  obtain ⟨a, c, rfl, -, -⟩ := Bytes.opened h2
  exact ⟨a, c, h1, h2, h3, h4⟩

theorem packed_not {k p : Int} {d : List UInt8} {w : World} (hg : Frm.good k p d = false) {e : Ending} {w' : World} (h : Packed k p d w e w') : BytesErr [] 1 w e w' := by
  obtain ⟨r, h1, h2, h3, h4⟩ := h
  rw [hg] at h1 h2
  obtain ⟨a, c, rfl, -, -⟩ := Bytes.opened h2
  exact ⟨a, c, h1, h2, h3, h4⟩

theorem unpacked_good {p : Int} {b : List UInt8} {w : World} (hg : Frm.fits p b = true) {e : Ending} {w' : World} (h : Unpacked p b w e w') : NumBytesErr ((b.getD 0 0).toNat : Int) (Frm.mid b) 0 w e w' := by
  obtain ⟨r, h1, h2, h3, h4⟩ := h
  rw [hg] at h1 h2
  obtain ⟨a, c, rfl, -, -⟩ := Bytes.opened h2
  exact ⟨a, c, h1, h2, h3, h4⟩

theorem unpacked_not {p : Int} {b : List UInt8} {w : World} (hg : Frm.fits p b = false) {e : Ending} {w' : World} (h : Unpacked p b w e w') : NumBytesErr 0 [] 50 w e w' := by
  obtain ⟨r, h1, h2, h3, h4⟩ := h
  rw [hg] at h1 h2
  obtain ⟨a, c, rfl, -, -⟩ := Bytes.opened h2
  exact ⟨a, c, h1, h2, h3, h4⟩

set_option maxRecDepth 100000 in
set_option maxHeartbeats 4000000 in
theorem awake_any (w : World) : Calls Try.prog 11 #[] w fun e w' => e = .returned (.bool true) ∧ Below w.heap.size w w' := by
  have g1 : Frm.good 2 5 [97] = true := by decide
  have P0 := Lib.hid (Frm.pack_length 2 5 [97])
  have P1 := Lib.hid (Frm.pack_mid 2 5 [97])
  have P2 := Lib.hid (Frm.pack_head 2 5 [97])
  have F1 : Hid (Frm.fits 5 (Frm.pack 2 5 [97]) = true) := by unfold Hid; rw [Frm.fits_pack g1]; rfl
  have F2 : Hid (Frm.fits 6 (Frm.pack 2 5 [97]) = false) := by unfold Hid; rw [Frm.fits_pack g1]; rfl
  have hpack : ∀ W : World, Calls Try.prog 12 #[.int .i64 2, .int .i64 5, .slice (some ⟨W.heap.size, 0, none⟩) 1 1] (W.alloc (.cells #[.int .u8 97] 5)) (BytesErr (Frm.pack 2 5 [97]) 0 (W.alloc (.cells #[.int .u8 97] 5))) := fun W =>
    (pack_any 2 5 (.slice (some ⟨W.heap.size, 0, none⟩) 1 1) [97] _ (one_byte W 97 5) (by omega) (by omega) (by omega) (by omega) (by simp)).mono fun _ _ h => packed_good g1 h
  have HPK := Lib.hid hpack
  have hun5 : ∀ (W : World) (v : Value), Bytes W v (Frm.pack 2 5 [97]) → Calls Try.prog 14 #[.int .i64 5, v] W (NumBytesErr 2 [97] 0 W) := fun W v hv =>
    (unpack_any 5 v _ W hv (by omega) (by omega) (by rw [P0.out]; simp)).mono fun _ _ h => by
      have := unpacked_good F1.out h
      rw [P1.out, P2.out] at this
      exact this
  have HU5 := Lib.hid hun5
  have hun6 : ∀ (W : World) (v : Value), Bytes W v (Frm.pack 2 5 [97]) → Calls Try.prog 14 #[.int .i64 6, v] W (NumBytesErr 0 [] 50 W) := fun W v hv =>
    (unpack_any 6 v _ W hv (by omega) (by omega) (by rw [P0.out]; simp)).mono fun _ _ h => unpacked_not F2.out h
  have HU6 := Lib.hid hun6
  have g0 : Frm.good 0 5 [] = false := by decide
  have hpn : ∀ W : World, Calls Try.prog 12 #[.int .i64 0, .int .i64 5, .slice none 0 0] W (BytesErr [] 1 W) := fun W =>
    (pack_any 0 5 _ [] _ (Bytes.nil W) (by omega) (by omega) (by omega) (by omega) (by simp)).mono fun _ _ h => packed_not g0 h
  have HPN := Lib.hid hpn
  have hnm : ∀ W : World, Calls Try.prog 19 #[.slice (some ⟨W.heap.size, 0, none⟩) 2 2] (W.alloc (.cells #[.int .i64 1, .int .i64 258] 3)) (NewBytes (W.alloc (.cells #[.int .i64 1, .int .i64 258] 3)) [0, 0, 0, 1, 0, 0, 1, 2]) := fun W =>
    nums_any _ [1, 258] _ (two_ints W 1 258 3) (by simp)
  have HNM := Lib.hid hnm
  have hrd : ∀ W : World, Calls Try.prog 16 #[.slice (some ⟨W.heap.size, 0, none⟩) 1 1] (W.alloc (.cells #[.int .u8 1] 5)) (ReadAs [1] (W.alloc (.cells #[.int .u8 1] 5))) := fun W =>
    read_any _ [1] _ (one_byte W 1 5) (by simp)
  have HRD := Lib.hid hrd
  clear hpn hnm hrd g0
  generalize Frm.pack 2 5 [97] = P at *
  obtain ⟨m, HM⟩ : ∃ m, Hid (P.length = m) := ⟨_, rfl⟩
  clear hpack hun5 hun6 g1
  go_enter Try.func11, Try.ntmps11
  go_wp2_with fail
  refine (HPK.out _).mono ?_
  rintro e w1 ⟨a1, c1, rfl, hb1, -, hB⟩
  have B1 : Hid (Below w.heap.size w w1) := ((Below.refl w.heap.size w).alloc (Nat.le_refl _) _).trans (hB.mono (by simp))
  clear hB
  go_wp2_with fail
  refine (HU5.out _ _ hb1).mono ?_
  rintro e w2 ⟨a2, c2, rfl, hb2, -, hB⟩
  have hb1' := hb1.below hB
  have B2 := hid_trans B1 hB
  clear hB hb1
  go_wp2_with fail
  refine (HU6.out _ _ hb1').mono ?_
  rintro e w3 ⟨a3, c3, rfl, -, -, hB⟩
  have hb2' := hb2.below hB
  have B3 := hid_trans B2 hB
  clear hB hb1' hb2
  go_wp2_with fail
  refine (HPN.out _).mono ?_
  rintro e w4 ⟨a4, c4, rfl, -, -, hB⟩
  have hb4 := hb2'.below hB
  have B4 := hid_trans B3 hB
  clear hB hb2'
  go_wp2_with fail
  refine (HNM.out _).mono ?_
  rintro e w5 ⟨v5, rfl, hn5, hB, -⟩
  have hB' : Below w4.heap.size w4 w5 := ((Below.refl _ _).alloc (Nat.le_refl _) _).trans (hB.mono (by simp))
  have hb5 := hb4.below hB'
  have B5 := hid_trans B4 hB'
  clear hB hB' hb4
  obtain ⟨a5, c5, rfl, -, bn, on, hA5, hC5⟩ := hn5.opened
  obtain rfl := hA5 (by decide)
  go_wp2_with fail
  refine (HRD.out _).mono ?_
  rintro e w6 ⟨v6, rfl, -, -, hB⟩
  have hB' : Below w5.heap.size w5 w6 := ((Below.refl _ _).alloc (Nat.le_refl _) _).trans (hB.mono (by simp))
  have hb6 := hb5.below hB'
  have B6 := hid_trans B5 hB'
  have k3 : w6.cell? ⟨bn, on + 3, none⟩ = some (.int .u8 1) := (hB'.cell (block_lt_of_cell (hC5.out 3 (by decide)))).trans (hC5.out 3 (by decide))
  have k6 : w6.cell? ⟨bn, on + 6, none⟩ = some (.int .u8 1) := (hB'.cell (block_lt_of_cell (hC5.out 6 (by decide)))).trans (hC5.out 6 (by decide))
  have k7 : w6.cell? ⟨bn, on + 7, none⟩ = some (.int .u8 2) := (hB'.cell (block_lt_of_cell (hC5.out 7 (by decide)))).trans (hC5.out 7 (by decide))
  obtain ⟨a7, c7, he, -, bd, od, hA7, hC7⟩ := hb6.opened
  obtain rfl := hA7 (by decide)
  have k0 : w6.cell? ⟨bd, od, none⟩ = some (.int .u8 97) := hC7.out 0 (by decide)
  simp only [List.length_cons, List.length_nil, Value.slice.injEq] at he
  obtain ⟨rfl, -, rfl⟩ := he
  have hm := HM.out
  have hm2 : m = 12 := by rw [← hm]; exact P0.out
  clear hB hB' hb5 hb6 hA5 hC5 hn5 hA7 hC7
  have hf : Frm.fine [1] = false := by decide
  simp only [hf]
  go_wp2_with fail
  go_ret
  exact ⟨rfl, B6.out⟩

end Go.Proofs.Ytebeohdadihidaa
