/- Walks of package clock: what each call answers, and how the clock stands behind it. -/
import Derived.Test.YtffdhpoljfmjoaaProg
import Derived.Test.YtffdhpoljfmjoaaClkRep
import Derived.Deep.LoopGhost
import Derived.ProofKit
import Derived.Handy
namespace Go.Proofs.Ytffdhpoljfmjoaa
open Go.RowKit

theorem Try.infoPlace : (Try.prog.info? 55).map (fun i => (i.zero, i.size, i.bytes)) = some (some (.agg #[.int .i64 0, .bool false]), 2, 16) := by kernel_rfl

theorem make_places (n : Nat) (h : n ≤ 1000) (w : World) : (Instr.makeSlice 51 (.int .i64 (n : Int)) (.int .i64 (n : Int))).run Try.prog w = .ok (.slice (some ⟨w.heap.size, 0, none⟩) n n) (w.alloc (.cells (placeCells (Clk.new n)) 55)) := by
  obtain ⟨i, h1, h2, h3, h4⟩ := info_parts Try.infoPlace
  have := run_make (P := Try.prog) w 51 55 i _ Try.underlying51 h1 h2 .i64 .i64 (n : Int) (n : Int) (by omega) (Int.le_refl _) (by rw [h4]; omega) (by omega)
  rw [this, h3]
  simp only [Int.toNat_natCast]
  rw [placeCells_new]

/-- a new clock: so many places -/
def NewClk (w : World) (n : Nat) (e : Ending) (w' : World) : Prop :=
  ∃ c L, e = .returned (.tuple #[.pointer (some ⟨c, 0, none⟩), .int .i64 0]) ∧ w.heap.size ≤ c ∧ w.heap.size ≤ L ∧ ClkAt w' c L (Clk.new n) ∧ Below w.heap.size w w'

set_option maxHeartbeats 400000 in
theorem clkNew_ok (n : Nat) (h0 : 0 < n) (h1 : n ≤ 1000) (w : World) : Calls Try.prog 10 #[.int .i64 (n : Int)] w (NewClk w n) := by
  have hmk := make_places n h1
  have d1 : decide ((n : Int) < 1) = false := decide_eq_false (by omega)
  have d2 : decide ((1000 : Int) < (n : Int)) = false := decide_eq_false (by omega)
  have HK := Lib.hid (Clk.ok_new n h0 h1)
  go_enter Try.func10, Try.ntmps10
  go_wp2
  go_ret2
  refine ⟨w.heap.size + 1, w.heap.size, rfl, by omega, by omega, ⟨?_, ?_, HK.out⟩, ?_⟩
  · rw [heap_alloc2_new]
    simp [Clk.new]
  · exact heap_alloc2_old _ _ _
  · exact ((Below.refl _ _).alloc (Nat.le_refl _) _).alloc (by simp) _

set_option maxHeartbeats 400000 in
theorem clkNew_bad (n : Int) (h : n < 1 ∨ 1000 < n) (w : World) : Calls Try.prog 10 #[.int .i64 n] w fun e w' => e = .returned (.tuple #[.pointer none, .int .i64 1]) ∧ w = w' := by
  rcases h with h | h
  · have d1 : decide ((n : Int) < 1) = true := decide_eq_true (by omega)
    go_enter Try.func10, Try.ntmps10
    go_wp2
    go_ret2
    exact ⟨rfl, rfl⟩
  · have d1 : decide ((n : Int) < 1) = false := decide_eq_false (by omega)
    have d2 : decide ((1000 : Int) < (n : Int)) = true := decide_eq_true (by omega)
    go_enter Try.func10, Try.ntmps10
    go_wp2
    go_ret2
    exact ⟨rfl, rfl⟩

set_option maxHeartbeats 400000 in
theorem clkUse_ok (c L i : Nat) (s : Clk.St) (w : World) (h : ClkAt w c L s) (hi : i < s.pins.length) :
    Calls Try.prog 20 #[.pointer (some ⟨c, 0, none⟩), .int .i64 (i : Int)] w fun e w' => e = .returned (.int .i64 0) ∧ ClkAt w' c L (Clk.use s i) ∧ Chg [c, L] w w' := by
  have c0 : w.cell? ⟨c, 0, none⟩ = some (.slice (some ⟨L, 0, none⟩) s.pins.length s.pins.length) := row_cell h.top rfl
  have c1 : w.cell? ⟨L, i * 2 + 1, none⟩ = some (.bool (s.used.getD i false)) := row_cell h.row (by rw [placeCells_get _ _ (by omega)]; unfold placeCell; rw [if_neg (by omega), show (i * 2 + 1) / 2 = i by omega])
  have f1 : w.frozen? ⟨L, i * 2 + 1, none⟩ = false := frozen_of_row _ _ _ _ _ h.row
  have i0 : decide ((i : Int) < 0) = false := decide_eq_false (by omega)
  have i1 : decide ((s.pins.length : Int) ≤ (i : Int)) = false := decide_eq_false (by omega)
  have i2 : (i : Int) < (s.pins.length : Int) := by omega
  have H := Lib.hid h
  have HI := Lib.hid hi
  clear h hi
  go_enter Try.func20, Try.ntmps20
  go_wp2
  go_ret
  exact ⟨rfl, clk_used H.out HI.out true, (Chg.refl _ _).setCell (by simp) _⟩

set_option maxHeartbeats 400000 in
theorem clkUse_bad (c L : Nat) (i : Int) (s : Clk.St) (w : World) (h : ClkAt w c L s) (hi : i < 0 ∨ (s.pins.length : Int) ≤ i) :
    Calls Try.prog 20 #[.pointer (some ⟨c, 0, none⟩), .int .i64 i] w fun e w' => e = .returned (.int .i64 1) ∧ w = w' := by
  have c0 : w.cell? ⟨c, 0, none⟩ = some (.slice (some ⟨L, 0, none⟩) s.pins.length s.pins.length) := row_cell h.top rfl
  clear h
  rcases hi with h0 | h0
  · have i0 : decide (i < 0) = true := decide_eq_true (by omega)
    go_enter Try.func20, Try.ntmps20
    go_wp2
    go_ret
    exact ⟨rfl, rfl⟩
  · have i0 : decide (i < 0) = false := decide_eq_false (by omega)
    have i1 : decide ((s.pins.length : Int) ≤ i) = true := decide_eq_true (by omega)
    go_enter Try.func20, Try.ntmps20
    go_wp2
    go_ret
    exact ⟨rfl, rfl⟩

set_option maxHeartbeats 400000 in
theorem clkPin_ok (c L i : Nat) (s : Clk.St) (w : World) (h : ClkAt w c L s) (hi : i < s.pins.length) (hp : s.pins.getD i 0 ≤ 1000000) :
    Calls Try.prog 21 #[.pointer (some ⟨c, 0, none⟩), .int .i64 (i : Int)] w fun e w' => e = .returned (.int .i64 0) ∧ ClkAt w' c L (Clk.pin s i) ∧ Chg [c, L] w w' := by
  have c0 : w.cell? ⟨c, 0, none⟩ = some (.slice (some ⟨L, 0, none⟩) s.pins.length s.pins.length) := row_cell h.top rfl
  have c1 : w.cell? ⟨L, i * 2, none⟩ = some (.int .i64 ((s.pins.getD i 0 : Nat) : Int)) := row_cell h.row (by rw [placeCells_get _ _ (by omega)]; unfold placeCell; rw [if_pos (by omega), show (i * 2) / 2 = i by omega])
  have f1 : w.frozen? ⟨L, i * 2, none⟩ = false := frozen_of_row _ _ _ _ _ h.row
  have i0 : decide ((i : Int) < 0) = false := decide_eq_false (by omega)
  have i1 : decide ((s.pins.length : Int) ≤ (i : Int)) = false := decide_eq_false (by omega)
  have i2 : (i : Int) < (s.pins.length : Int) := by omega
  obtain ⟨p, HP⟩ : ∃ p, Hid (s.pins.getD i 0 = p) := ⟨_, rfl⟩
  rw [HP.out] at c1 hp
  have H := Lib.hid h
  have HI := Lib.hid hi
  clear h hi
  go_enter Try.func21, Try.ntmps21
  go_wp2
  go_ret
  refine ⟨rfl, ?_, (Chg.refl _ _).setCell (by simp) _⟩
  have := clk_pins H.out HI.out (p + 1)
  unfold Clk.pin
  rw [HP.out]
  exact this

set_option maxHeartbeats 400000 in
theorem clkPin_bad (c L : Nat) (i : Int) (s : Clk.St) (w : World) (h : ClkAt w c L s) (hi : i < 0 ∨ (s.pins.length : Int) ≤ i) :
    Calls Try.prog 21 #[.pointer (some ⟨c, 0, none⟩), .int .i64 i] w fun e w' => e = .returned (.int .i64 1) ∧ w = w' := by
  have c0 : w.cell? ⟨c, 0, none⟩ = some (.slice (some ⟨L, 0, none⟩) s.pins.length s.pins.length) := row_cell h.top rfl
  clear h
  rcases hi with h0 | h0
  · have i0 : decide (i < 0) = true := decide_eq_true (by omega)
    go_enter Try.func21, Try.ntmps21
    go_wp2
    go_ret
    exact ⟨rfl, rfl⟩
  · have i0 : decide (i < 0) = false := decide_eq_false (by omega)
    have i1 : decide ((s.pins.length : Int) ≤ i) = true := decide_eq_true (by omega)
    go_enter Try.func21, Try.ntmps21
    go_wp2
    go_ret
    exact ⟨rfl, rfl⟩

set_option maxHeartbeats 400000 in
theorem clkUnpin_ok (c L i : Nat) (s : Clk.St) (w : World) (h : ClkAt w c L s) (hi : i < s.pins.length) (h0 : 0 < s.pins.getD i 0) (hp : s.pins.getD i 0 ≤ 1000000) :
    Calls Try.prog 22 #[.pointer (some ⟨c, 0, none⟩), .int .i64 (i : Int)] w fun e w' => e = .returned (.int .i64 0) ∧ ClkAt w' c L (Clk.unpin s i) ∧ Chg [c, L] w w' := by
  have c0 : w.cell? ⟨c, 0, none⟩ = some (.slice (some ⟨L, 0, none⟩) s.pins.length s.pins.length) := row_cell h.top rfl
  have c1 : w.cell? ⟨L, i * 2, none⟩ = some (.int .i64 ((s.pins.getD i 0 : Nat) : Int)) := row_cell h.row (by rw [placeCells_get _ _ (by omega)]; unfold placeCell; rw [if_pos (by omega), show (i * 2) / 2 = i by omega])
  have f1 : w.frozen? ⟨L, i * 2, none⟩ = false := frozen_of_row _ _ _ _ _ h.row
  have i0 : decide ((i : Int) < 0) = false := decide_eq_false (by omega)
  have i1 : decide ((s.pins.length : Int) ≤ (i : Int)) = false := decide_eq_false (by omega)
  have i2 : (i : Int) < (s.pins.length : Int) := by omega
  obtain ⟨p, HP⟩ : ∃ p, Hid (s.pins.getD i 0 = p) := ⟨_, rfl⟩
  rw [HP.out] at c1 hp h0
  have i3 : ((p : Int) == 0) = false := beq_eq_false_iff_ne.2 (by omega)
  have H := Lib.hid h
  have HI := Lib.hid hi
  have H0 := Lib.hid h0
  have i4 : (1 : Int) ≤ (p : Int) := by omega
  clear h hi h0
  go_enter Try.func22, Try.ntmps22
  go_wp2
  go_ret
  refine ⟨rfl, ?_, (Chg.refl _ _).setCell (by simp) _⟩
  have := clk_pins H.out HI.out (p - 1)
  unfold Clk.unpin
  rw [HP.out]
  have e : ((p - 1 : Nat) : Int) = (p : Int) - 1 := by have := H0.out; omega
  rw [e] at this
  exact this

set_option maxHeartbeats 400000 in
theorem clkUnpin_bad (c L : Nat) (i : Int) (s : Clk.St) (w : World) (h : ClkAt w c L s) (hi : i < 0 ∨ (s.pins.length : Int) ≤ i ∨ s.pins.getD i.toNat 0 = 0) :
    Calls Try.prog 22 #[.pointer (some ⟨c, 0, none⟩), .int .i64 i] w fun e w' => e = .returned (.int .i64 1) ∧ w = w' := by
  have c0 : w.cell? ⟨c, 0, none⟩ = some (.slice (some ⟨L, 0, none⟩) s.pins.length s.pins.length) := row_cell h.top rfl
  by_cases h0 : i < 0
  · have i0 : decide (i < 0) = true := decide_eq_true (by omega)
    clear h hi
    go_enter Try.func22, Try.ntmps22
    go_wp2
    go_ret
    exact ⟨rfl, rfl⟩
  · have i0 : decide (i < 0) = false := decide_eq_false (by omega)
    by_cases h1 : (s.pins.length : Int) ≤ i
    · have i1 : decide ((s.pins.length : Int) ≤ i) = true := decide_eq_true (by omega)
      clear h hi
      go_enter Try.func22, Try.ntmps22
      go_wp2
      go_ret
      exact ⟨rfl, rfl⟩
    · have i1 : decide ((s.pins.length : Int) ≤ i) = false := decide_eq_false (by omega)
      have hz : s.pins.getD i.toNat 0 = 0 := by
        rcases hi with hi | hi | hi
        · omega
        · omega
        · exact hi
      obtain ⟨k, rfl⟩ := Int.eq_ofNat_of_zero_le (show 0 ≤ i by omega)
      have c1 : w.cell? ⟨L, k * 2, none⟩ = some (.int .i64 0) := row_cell h.row (by rw [placeCells_get _ _ (by omega)]; unfold placeCell; rw [if_pos (by omega), show (k * 2) / 2 = k by omega]; rw [Int.toNat_natCast] at hz; rw [hz]; rfl)
      have i2 : (k : Int) < (s.pins.length : Int) := by omega
      clear h hi hz
      go_enter Try.func22, Try.ntmps22
      go_wp2
      go_ret
      exact ⟨rfl, rfl⟩

set_option maxHeartbeats 400000 in
theorem clkHand_any (c L : Nat) (s : Clk.St) (w : World) (h : ClkAt w c L s) :
    Calls Try.prog 17 #[.pointer (some ⟨c, 0, none⟩)] w fun e w' => e = .returned (.int .i64 (s.hand : Int)) ∧ w = w' := by
  have c1 : w.cell? ⟨c, 1, none⟩ = some (.int .i64 (s.hand : Int)) := row_cell h.top rfl
  clear h
  go_enter Try.func17, Try.ntmps17
  go_wp2
  go_ret
  exact ⟨rfl, rfl⟩

end Go.Proofs.Ytffdhpoljfmjoaa
