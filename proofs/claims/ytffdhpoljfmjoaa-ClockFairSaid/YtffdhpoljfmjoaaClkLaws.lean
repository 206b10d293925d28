/- Walks of the clock's statements: ClockNames, ClockNil, ClockPlays. -/
import Derived.Test.YtffdhpoljfmjoaaClkDid
import Derived.Test.YtffdhpoljfmjoaaScript2
namespace Go.Proofs.Ytffdhpoljfmjoaa
open Go.RowKit

set_option maxHeartbeats 400000 in
theorem clockNames_walk (w : World) : Calls Try.prog 3 #[] w fun e w' => e = .returned (.bool true) ∧ Below w.heap.size w w' := by
  go_enter Try.func3, Try.ntmps3
  go_wp2_with ((go_at_call 9; refine (clkAwake_any _).mono ?_; rintro e w1 ⟨rfl, HB⟩; have B1 := Lib.hid HB; clear HB))
  go_ret
  exact ⟨rfl, B1.out⟩

set_option maxHeartbeats 400000 in
theorem nilVictim_any (w : World) : Calls Try.prog 19 #[.pointer none] w fun e w' => e = .returned (.tuple #[.int .i64 0, .int .i64 1]) ∧ w = w' := by
  go_enter Try.func19, Try.ntmps19
  go_wp2_with fail
  go_step3
  go_wp2_with fail
  try rw [Exit.noGoto_ret]
  go_ret2
  exact ⟨rfl, rfl⟩
set_option maxHeartbeats 400000 in
theorem nilUse_any (n : Int) (w : World) : Calls Try.prog 20 #[.pointer none, .int .i64 n] w fun e w' => e = .returned (.int .i64 1) ∧ w = w' := by
  go_enter Try.func20, Try.ntmps20
  go_wp2
  go_ret
  exact ⟨rfl, rfl⟩
set_option maxHeartbeats 400000 in
theorem nilPin_any (n : Int) (w : World) : Calls Try.prog 21 #[.pointer none, .int .i64 n] w fun e w' => e = .returned (.int .i64 1) ∧ w = w' := by
  go_enter Try.func21, Try.ntmps21
  go_wp2
  go_ret
  exact ⟨rfl, rfl⟩
set_option maxHeartbeats 400000 in
theorem nilUnpin_any (n : Int) (w : World) : Calls Try.prog 22 #[.pointer none, .int .i64 n] w fun e w' => e = .returned (.int .i64 1) ∧ w = w' := by
  go_enter Try.func22, Try.ntmps22
  go_wp2
  go_ret
  exact ⟨rfl, rfl⟩
set_option maxHeartbeats 400000 in
theorem nilPins_any (w : World) : Calls Try.prog 14 #[.pointer none] w fun e w' => e = .returned (.slice none 0 0) ∧ w = w' := by
  go_enter Try.func14, Try.ntmps14
  go_wp2
  go_ret
  exact ⟨rfl, rfl⟩
set_option maxHeartbeats 400000 in
theorem nilUsed_any (w : World) : Calls Try.prog 16 #[.pointer none] w fun e w' => e = .returned (.slice none 0 0) ∧ w = w' := by
  go_enter Try.func16, Try.ntmps16
  go_wp2
  go_ret
  exact ⟨rfl, rfl⟩
set_option maxHeartbeats 400000 in
theorem nilHand_any (w : World) : Calls Try.prog 17 #[.pointer none] w fun e w' => e = .returned (.int .i64 0) ∧ w = w' := by
  go_enter Try.func17, Try.ntmps17
  go_wp2
  go_ret
  exact ⟨rfl, rfl⟩

set_option maxHeartbeats 400000 in
theorem clockNil_walk (n : Int) (w : World) (_ : -9223372036854775808 ≤ n) (_ : n ≤ 9223372036854775807) : Calls Try.prog 8 #[.int .i64 n] w fun e w' => e = .returned (.bool true) ∧ Below w.heap.size w w' := by
  go_enter Try.func8, Try.ntmps8
  go_wp2_with (first
    | (go_at_call 9; refine (clkAwake_any _).mono ?_; rintro e w1 ⟨rfl, HB⟩; have B1 := Lib.hid HB; clear HB)
    | (go_at_call 19; refine (nilVictim_any _).mono ?_; rintro e w2 ⟨rfl, rfl⟩)
    | (go_at_call 20; refine (nilUse_any _ _).mono ?_; rintro e w2 ⟨rfl, rfl⟩)
    | (go_at_call 21; refine (nilPin_any _ _).mono ?_; rintro e w2 ⟨rfl, rfl⟩)
    | (go_at_call 22; refine (nilUnpin_any _ _).mono ?_; rintro e w2 ⟨rfl, rfl⟩)
    | (go_at_call 14; refine (nilPins_any _).mono ?_; rintro e w2 ⟨rfl, rfl⟩)
    | (go_at_call 16; refine (nilUsed_any _).mono ?_; rintro e w2 ⟨rfl, rfl⟩)
    | (go_at_call 17; refine (nilHand_any _).mono ?_; rintro e w2 ⟨rfl, rfl⟩))
  go_ret
  exact ⟨rfl, B1.out⟩

theorem natVals_int (l : List Nat) : natVals l = intVals (l.map fun (x : Nat) => (x : Int)) := by simp [natVals, intVals]

theorem ints_same (va vb : Value) (l : List Nat) (w : World) (ha : Row w va (natVals l)) (hb : Row w vb (natVals l)) (hl : l.length ≤ 1000) :
    Calls Try.prog 13 #[va, vb] w fun e w' => e = .returned (.bool true) ∧ Below w.heap.size w w' := by
  rw [natVals_int] at ha hb
  refine (ints_any va vb _ _ w ha hb (by rw [List.length_map]; omega)).mono ?_
  rintro e w' ⟨rfl, h⟩
  rw [decide_eq_true rfl]
  exact ⟨rfl, h⟩
theorem bools_same (va vb : Value) (l : List Bool) (w : World) (ha : Row w va (boolVals l)) (hb : Row w vb (boolVals l)) (hl : l.length ≤ 1000) :
    Calls Try.prog 15 #[va, vb] w fun e w' => e = .returned (.bool true) ∧ Below w.heap.size w w' := by
  refine (bools_any va vb _ _ w ha hb (by omega)).mono ?_
  rintro e w' ⟨rfl, h⟩
  rw [decide_eq_true rfl]
  exact ⟨rfl, h⟩

theorem rclk_rowP {w : World} {r P U : Nat} {s : Clk.St} (h : RclkAt w r P U s) : Row w (.slice (some ⟨P, 0, none⟩) s.pins.length s.pins.length) (natVals s.pins) :=
  row_block h.pins _ _ _ (by rw [natVals_length]) (Nat.le_refl _) (fun i u hu => by simpa using hu)
theorem rclk_rowU {w : World} {r P U : Nat} {s : Clk.St} (h : RclkAt w r P U s) : Row w (.slice (some ⟨U, 0, none⟩) s.pins.length s.pins.length) (boolVals s.used) :=
  row_block h.used _ _ _ (by rw [boolVals_length, h.ok.len]) (Nat.le_refl _) (fun i u hu => by simpa using hu)

end Go.Proofs.Ytffdhpoljfmjoaa
