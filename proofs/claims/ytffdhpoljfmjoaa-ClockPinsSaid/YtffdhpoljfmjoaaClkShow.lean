/- The walks of the clock's Pins and Used. -/
import Derived.Test.YtffdhpoljfmjoaaClkVictim
namespace Go.Proofs.Ytffdhpoljfmjoaa
open Go.RowKit

def natVals (l : List Nat) : List Value := l.map fun (x : Nat) => Value.int .i64 (x : Int)
def boolVals (l : List Bool) : List Value := l.map Value.bool
theorem natVals_snoc (l : List Nat) (k : Nat) (h : k < l.length) : natVals (l.take k) ++ [Value.int .i64 ((l.getD k 0 : Nat) : Int)] = natVals (l.take (k + 1)) := by
  rw [List.take_succ_eq_append_getElem h]; simp only [natVals, List.map_append, List.map_cons, List.map_nil, List.getD_eq_getElem?_getD, List.getElem?_eq_getElem h, Option.getD_some]
theorem boolVals_snoc (l : List Bool) (k : Nat) (h : k < l.length) : boolVals (l.take k) ++ [Value.bool (l.getD k false)] = boolVals (l.take (k + 1)) := by
  rw [List.take_succ_eq_append_getElem h]; simp only [boolVals, List.map_append, List.map_cons, List.map_nil, List.getD_eq_getElem?_getD, List.getElem?_eq_getElem h, Option.getD_some]
theorem natVals_length (l : List Nat) : (natVals l).length = l.length := by simp [natVals]
theorem boolVals_length (l : List Bool) : (boolVals l).length = l.length := by simp [boolVals]

theorem Try.infoInt : (Try.prog.info? 3).map (fun i => (i.zero, i.size, i.bytes)) = some (some (.int .i64 0), 1, 8) := by kernel_rfl
theorem Try.infoBool : (Try.prog.info? 4).map (fun i => (i.zero, i.size, i.bytes)) = some (some (.bool false), 1, 1) := by kernel_rfl

/-- a slice of these values, new -/
def Gives (vals : List Value) (w : World) (e : Ending) (w' : World) : Prop := ∃ v, e = .returned v ∧ Row w' v vals ∧ Below w.heap.size w w' ∧ ∀ k, v.ownBlock = some k → w.heap.size ≤ k

set_option maxHeartbeats 1000000 in
theorem clkPins_any (c L : Nat) (s : Clk.St) (w : World) (h : ClkAt w c L s) :
    Calls Try.prog 14 #[.pointer (some ⟨c, 0, none⟩)] w (Gives (natVals s.pins) w) := by
  have hm := h.ok.most
  have c0 : w.cell? ⟨c, 0, none⟩ = some (.slice (some ⟨L, 0, none⟩) s.pins.length s.pins.length) := row_cell h.top rfl
  have H := Lib.hid h
  clear h
  go_enter Try.func14, Try.ntmps14
  go_wp2_with fail
  clear c0
  go_loopw [2, 12] (fun v i wr => ∃ k : Nat, k ≤ s.pins.length ∧ i = .int .i64 k ∧ wr.ownsRow w.heap.size 3 1 v (natVals (s.pins.take k)).length (natVals (s.pins.take k)) ∧ Below w.heap.size w wr) (fun _ i _ => s.pins.length - (intOf i).toNat)
  case atStart => exact ⟨0, by omega, rfl, World.ownsRow_nil _ _ _ _, Below.refl _ _⟩
  case round =>
    obtain ⟨k, hk, rfl, hown, hbel⟩ := hrel
    have HB := Lib.hid hbel
    have HO := Lib.hid hown
    clear hown
    by_cases hlt : k < s.pins.length
    · have HLT := Lib.hid hlt
      have c0 := (H.out.below hbel)
      have c1 : wr.cell? ⟨L, k * 2, none⟩ = some (.int .i64 ((s.pins.getD k 0 : Nat) : Int)) := row_cell c0.row (by rw [placeCells_get _ _ (by omega)]; unfold placeCell; rw [if_pos (by omega), show (k * 2) / 2 = k by omega])
      have c2 : wr.cell? ⟨L, k * 2 + 1, none⟩ = some (.bool (s.used.getD k false)) := row_cell c0.row (by rw [placeCells_get _ _ (by omega)]; unfold placeCell; rw [if_neg (by omega), show (k * 2 + 1) / 2 = k by omega])
      obtain ⟨p, HP⟩ : ∃ p, Hid (s.pins.getD k 0 = p) := ⟨_, rfl⟩
      obtain ⟨u, HU⟩ : ∃ u, Hid (s.used.getD k false = u) := ⟨_, rfl⟩
      have hsn := natVals_snoc s.pins k hlt
      rw [HP.out] at c1 hsn
      rw [HU.out] at c2
      have l1 : (k : Int) < (s.pins.length : Int) := by omega
      obtain ⟨v', w', r1, o1, b1⟩ := append_val (P := Try.prog) 35 Try.underlying35 Try.infoInt rfl (HO.out.alloc (.cells #[.int .i64 (p : Int), .bool u] 55)) (.int .i64 (p : Int)) rfl (by omega) (by rw [natVals_length, List.length_take]; omega) (by have := hbel.size; simp; omega)
      rw [hsn] at o1
      have HO1 := Lib.hid o1
      have HB1 : Hid (Below w.heap.size w w') := (hbel.alloc hbel.size _).trans b1
      have HR1 := Lib.hid r1
      rw [show (wr.alloc (.cells #[.int .i64 (p : Int), .bool u] 55)).heap.size = wr.heap.size + 1 by simp] at HR1
      clear c0 hbel hlt hk hsn o1 b1 r1
      go_wp2_with (at_builtin; refine Lib.wpList_append_run _ rfl _ _ _ _ rfl _ _ rfl rfl _ _ HR1.out ?_)
      go_roundw
      case rel => exact ⟨k + 1, by have := HLT.out; omega, by go_num, HO1.out, HB1.out⟩
      case measure => simp [intOf]; have := HLT.out; omega
    · obtain rfl : k = s.pins.length := by omega
      have ho := HO.out
      rw [List.take_length] at ho
      have HV := Lib.hid (own_row ho)
      have HW := Lib.hid (own_base ho)
      clear hbel ho
      go_wp2_with fail
      go_ret
      exact ⟨_, rfl, HV.out, HB.out, HW.out⟩

set_option maxHeartbeats 1000000 in
theorem clkUsed_any (c L : Nat) (s : Clk.St) (w : World) (h : ClkAt w c L s) :
    Calls Try.prog 16 #[.pointer (some ⟨c, 0, none⟩)] w (Gives (boolVals s.used) w) := by
  have hm := h.ok.most
  have hul := h.ok.len
  have c0 : w.cell? ⟨c, 0, none⟩ = some (.slice (some ⟨L, 0, none⟩) s.pins.length s.pins.length) := row_cell h.top rfl
  have H := Lib.hid h
  have HUL := Lib.hid hul
  clear h hul
  go_enter Try.func16, Try.ntmps16
  go_wp2_with fail
  clear c0
  go_loopw [2, 12] (fun v i wr => ∃ k : Nat, k ≤ s.pins.length ∧ i = .int .i64 k ∧ wr.ownsRow w.heap.size 4 1 v (boolVals (s.used.take k)).length (boolVals (s.used.take k)) ∧ Below w.heap.size w wr) (fun _ i _ => s.pins.length - (intOf i).toNat)
  case atStart => exact ⟨0, by omega, rfl, World.ownsRow_nil _ _ _ _, Below.refl _ _⟩
  case round =>
    obtain ⟨k, hk, rfl, hown, hbel⟩ := hrel
    have HB := Lib.hid hbel
    have HO := Lib.hid hown
    clear hown
    by_cases hlt : k < s.pins.length
    · have HLT := Lib.hid hlt
      have c0 := (H.out.below hbel)
      have c1 : wr.cell? ⟨L, k * 2, none⟩ = some (.int .i64 ((s.pins.getD k 0 : Nat) : Int)) := row_cell c0.row (by rw [placeCells_get _ _ (by omega)]; unfold placeCell; rw [if_pos (by omega), show (k * 2) / 2 = k by omega])
      have c2 : wr.cell? ⟨L, k * 2 + 1, none⟩ = some (.bool (s.used.getD k false)) := row_cell c0.row (by rw [placeCells_get _ _ (by omega)]; unfold placeCell; rw [if_neg (by omega), show (k * 2 + 1) / 2 = k by omega])
      obtain ⟨p, HP⟩ : ∃ p, Hid (s.pins.getD k 0 = p) := ⟨_, rfl⟩
      obtain ⟨u, HU⟩ : ∃ u, Hid (s.used.getD k false = u) := ⟨_, rfl⟩
      have hsn := boolVals_snoc s.used k (by have := HUL.out; omega)
      rw [HP.out] at c1
      rw [HU.out] at c2 hsn
      have l1 : (k : Int) < (s.pins.length : Int) := by omega
      obtain ⟨v', w', r1, o1, b1⟩ := append_val (P := Try.prog) 37 Try.underlying37 Try.infoBool rfl (HO.out.alloc (.cells #[.int .i64 (p : Int), .bool u] 55)) (.bool u) rfl (by omega) (by rw [boolVals_length, List.length_take]; omega) (by have := hbel.size; simp; omega)
      rw [hsn] at o1
      have HO1 := Lib.hid o1
      have HB1 : Hid (Below w.heap.size w w') := (hbel.alloc hbel.size _).trans b1
      have HR1 := Lib.hid r1
      rw [show (wr.alloc (.cells #[.int .i64 (p : Int), .bool u] 55)).heap.size = wr.heap.size + 1 by simp] at HR1
      clear c0 hbel hlt hk hsn o1 b1 r1
      go_wp2_with (at_builtin; refine Lib.wpList_append_run _ rfl _ _ _ _ rfl _ _ rfl rfl _ _ HR1.out ?_)
      go_roundw
      case rel => exact ⟨k + 1, by have := HLT.out; omega, by go_num, HO1.out, HB1.out⟩
      case measure => simp [intOf]; have := HLT.out; omega
    · obtain rfl : k = s.pins.length := by omega
      have ho := HO.out
      rw [← HUL.out, List.take_length] at ho
      have HV := Lib.hid (own_row ho)
      have HW := Lib.hid (own_base ho)
      clear hbel ho
      go_wp2_with fail
      go_ret
      exact ⟨_, rfl, HV.out, HB.out, HW.out⟩

end Go.Proofs.Ytffdhpoljfmjoaa
