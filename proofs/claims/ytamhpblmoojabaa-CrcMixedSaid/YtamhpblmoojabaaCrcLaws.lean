/- Walks of the statements' own functions over package crc. -/
import Derived.Test.YtamhpblmoojabaaCrcRefWalk
import Derived.Lib.SlBytesConst
namespace Go.Proofs.Ytamhpblmoojabaa
open Go.RowKit

def nine : List UInt8 := [49, 50, 51, 52, 53, 54, 55, 56, 57]
def nineCells : Array Value := #[.int .u8 49, .int .u8 50, .int .u8 51, .int .u8 52, .int .u8 53, .int .u8 54, .int .u8 55, .int .u8 56, .int .u8 57]
theorem nine_cells (i : Nat) (h : i < nine.length) : nineCells[i]? = some (.int .u8 ((nine.getD i 0).toNat : Int)) := by
  match i, h with
  | 0, _ => rfl
  | 1, _ => rfl
  | 2, _ => rfl
  | 3, _ => rfl
  | 4, _ => rfl
  | 5, _ => rfl
  | 6, _ => rfl
  | 7, _ => rfl
  | 8, _ => rfl
  | n + 9, h => exact absurd h (by simp [nine])
theorem nine_at (w : World) (g : Nat) (t : TypeId) (fr : Nat × Nat) (h : w.heap[g]? = some (.cells nineCells t fr)) : Bytes w (.slice (some ⟨g, 0, none⟩) 9 9) nine :=
  bytes_block h nine 9 9 rfl (Nat.le_refl _) nine_cells
theorem more_nine : num32 (Crc.more 0#32 nine) = 3421780262 := by
  have : Crc.more 0#32 nine = 0xCBF43926#32 := by decide +kernel
  rw [this]; rfl
theorem more_none : num32 (Crc.more 0#32 []) = 0 := by rw [Crc.more_nil]; rfl
theorem tab_1 : num32 (Crc.tab 1) = 1996959894 := by
  have : Crc.tab 1 = 0x77073096#32 := by decide +kernel
  rw [this]; rfl
theorem tab_128 : num32 (Crc.tab 128) = 3988292384 := by
  have : Crc.tab 128 = 0xEDB88320#32 := by decide +kernel
  rw [this]; rfl
theorem tabCells_val (i : Nat) (h : i < 256) : (tabCells 256)[i]? = some (.int .u32 (num32 (Crc.tab i))) := by
  rw [tabCells_get 256 i h]; simp [tabCell, h]

set_option maxRecDepth 100000 in
set_option maxHeartbeats 1000000 in
theorem awake_any (w : World) : Calls Try.prog 9 #[] w fun e w' => e = .returned (.bool true) ∧ Below w.heap.size w w' := by
  have hz := zero_tab
  have kc : ∀ (w : World) (C : Array Value) (n c g : Nat), g = w.heap.size → (convert 26 26 (.slice (some ⟨g, 0, none⟩) n c)).run Try.prog (w.alloc (.cells C 5)) = .ok (.slice (some ⟨g, 0, none⟩) n c) (w.alloc (.cells C 5 (C.size, C.size + 1))) :=
    fun w C n c g hg => by subst hg; exact Lib.run_convert_bytes_const (P := Try.prog) w 26 5 C n c Try.underlying26 Try.underlying5
  go_enter Try.func9, Try.ntmps9
  go_wp2_with (first | (go_at_call 10; refine (table_any _).mono ?_; rintro e w1 ⟨rfl, HB⟩; have HB' := Lib.hid HB; clear HB) | (refine wpList_store_row rfl 24 _ _ rfl w1.heap.size (tabCells 256) rfl rfl 24 (tabCells 0) (heap_alloc_new _ _) (Try.sizeTab _) (by rw [tabCells_size, tabCells_size]) (tabCells_one _) ?_))
  have hb := heap_alloc_new ((w1.alloc (.cells (tabCells 0) 24)).setRow w1.heap.size (tabCells 256)) (.cells nineCells 5 (9, 10))
  have hb' := nine_at _ _ _ _ hb
  rw [show ((w1.alloc (.cells (tabCells 0) 24)).setRow w1.heap.size (tabCells 256)).heap.size = w1.heap.size + 1 by simp] at hb'
  refine (sum_any _ nine _ hb' (by simp [nine])).mono ?_
  rintro e w2 ⟨rfl, HB2⟩
  rw [more_nine]
  have T2 : w2.heap[w1.heap.size]? = some (.cells (tabCells 256) 24 (0, 0)) := by
    rw [HB2.block _ (by simp; omega)]
    exact (heap_alloc_old _ _ (by simp)).trans (setRow_heap _ _ _ _ _ _ (heap_alloc_new _ _))
  have B2 : Hid (Below w.heap.size w w2) := (((below_setRow (HB'.out.alloc HB'.out.size _) HB'.out.size _).alloc (by have := HB'.out.size; simp; omega) _).trans (HB2.mono (by have := HB'.out.size; simp; omega)))
  have T2' := Lib.hid T2
  clear T2 HB2 hb hb'
  go_wp2_with (first | (go_at_call 14; refine (sum_any _ [] _ (Bytes.nil _) (by simp)).mono ?_; rintro e w3 ⟨rfl, HB3⟩; rw [more_none]; have T3 := (HB3.block _ (lt_of_block T2'.out)).trans T2'.out; have c1 := (row_cell T3 (tabCells_val 1 (by omega))); rw [tab_1] at c1; have c2 := (row_cell T3 (tabCells_val 128 (by omega))); rw [tab_128] at c2; have B3 : Hid (Below w.heap.size w w3) := B2.out.trans (HB3.mono B2.out.size); clear HB3 T3))
  go_ret
  exact ⟨rfl, B3.out⟩

theorem eq_tab (w : World) : (binOp .eql 24 (.agg (tabCells 256)) (.agg (tabCells 256))).run Try.prog w = .ok (.bool true) w := by kernel_rfl

set_option maxHeartbeats 400000 in
theorem crcTables_walk (w : World) : Calls Try.prog 3 #[] w fun e w' => e = .returned (.bool true) ∧ Below w.heap.size w w' := by
  have he := eq_tab
  go_enter Try.func3, Try.ntmps3
  go_wp2_with (first
    | (go_at_call 9; refine (awake_any _).mono ?_; rintro e w1 ⟨rfl, HB⟩; have HB1 := Lib.hid HB; clear HB)
    | (go_at_call 10; refine (table_any _).mono ?_; rintro e w2 ⟨rfl, HB⟩; have HB2 := Lib.hid HB; clear HB)
    | (go_at_call 11; refine (reftable_any _).mono ?_; rintro e w3 ⟨rfl, HB⟩; have HB3 := Lib.hid HB; clear HB))
  go_ret
  exact ⟨rfl, (HB1.out.trans (HB2.out.mono HB1.out.size)).trans (HB3.out.mono (Nat.le_trans HB1.out.size HB2.out.size))⟩

end Go.Proofs.Ytamhpblmoojabaa
