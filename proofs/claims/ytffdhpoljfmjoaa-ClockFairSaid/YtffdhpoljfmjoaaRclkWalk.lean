/- Walks of the reference's clock: the same plain functions. -/
import Derived.Test.YtffdhpoljfmjoaaClkShow
import Derived.Deep.RegionHeld3
import Derived.Deep.DrawnRows
import Derived.BigRegion
import Derived.BigQuiet
import Derived.StillTailTactics
import Derived.Deep.QuietTactic
namespace Go.Proofs.Ytffdhpoljfmjoaa
open Go.RowKit

theorem natVals_get (l : List Nat) (i : Nat) (h : i < l.length) : (natVals l).toArray[i]? = some (.int .i64 ((l.getD i 0 : Nat) : Int)) := by
  simp [natVals, List.getD, h]
theorem boolVals_get (l : List Bool) (i : Nat) (h : i < l.length) : (boolVals l).toArray[i]? = some (.bool (l.getD i false)) := by
  simp [boolVals, List.getD, h]
theorem natVals_set (l : List Nat) (i x : Nat) : (natVals l).toArray.setIfInBounds i (.int .i64 (x : Int)) = (natVals (l.set i x)).toArray := by
  apply Array.ext'
  rw [Array.toList_setIfInBounds]
  simp [natVals, List.map_set]
theorem boolVals_set (l : List Bool) (i : Nat) (b : Bool) : (boolVals l).toArray.setIfInBounds i (.bool b) = (boolVals (l.set i b)).toArray := by
  apply Array.ext'
  rw [Array.toList_setIfInBounds]
  simp [boolVals, List.map_set]

/-- the reference's clock: its struct in block r, its pins in block P, its used ones in block U -/
structure RclkAt (w : World) (r P U : Nat) (s : Clk.St) : Prop where
  top : w.heap[r]? = some (.cells #[.slice (some ⟨P, 0, none⟩) s.pins.length s.pins.length, .slice (some ⟨U, 0, none⟩) s.pins.length s.pins.length, .int .i64 (s.hand : Int)] 39 (0, 0))
  pins : w.heap[P]? = some (.cells (natVals s.pins).toArray 3 (0, 0))
  used : w.heap[U]? = some (.cells (boolVals s.used).toArray 4 (0, 0))
  ok : Clk.Ok s

theorem RclkAt.ne1 {w : World} {r P U : Nat} {s : Clk.St} (h : RclkAt w r P U s) : r ≠ P := by
  intro e
  have h1 := h.top
  rw [e, h.pins] at h1
  simp at h1
theorem RclkAt.ne2 {w : World} {r P U : Nat} {s : Clk.St} (h : RclkAt w r P U s) : r ≠ U := by
  intro e
  have h1 := h.top
  rw [e, h.used] at h1
  simp at h1
theorem RclkAt.ne3 {w : World} {r P U : Nat} {s : Clk.St} (h : RclkAt w r P U s) : P ≠ U := by
  intro e
  have h1 := h.pins
  rw [e, h.used] at h1
  simp at h1

theorem RclkAt.kept {fs : List Nat} {w w' : World} {r P U : Nat} {s : Clk.St} (h : RclkAt w r P U s) (hc : Chg fs w w') (h1 : r ∉ fs) (h2 : P ∉ fs) (h3 : U ∉ fs) : RclkAt w' r P U s :=
  ⟨(hc.block r (lt_of_block h.top) h1).trans h.top, (hc.block P (lt_of_block h.pins) h2).trans h.pins, (hc.block U (lt_of_block h.used) h3).trans h.used, h.ok⟩
theorem RclkAt.below {w w' : World} {r P U : Nat} {s : Clk.St} (h : RclkAt w r P U s) (hc : Below w.heap.size w w') : RclkAt w' r P U s :=
  h.kept (Chg.of_below (fs := []) hc) (by simp) (by simp) (by simp)

theorem rclk_used {w : World} {r P U : Nat} {s : Clk.St} (h : RclkAt w r P U s) (i : Nat) (b : Bool) :
    RclkAt (w.setCell ⟨U, i, none⟩ (.bool b)) r P U { s with used := s.used.set i b } :=
  ⟨by rw [heap_setCell_other _ _ _ _ h.ne2]; exact h.top, by rw [heap_setCell_other _ _ _ _ h.ne3]; exact h.pins, by rw [heap_setCell_same _ _ _ _ _ _ h.used, boolVals_set], ⟨by simp [h.ok.len], h.ok.pos, h.ok.most, h.ok.hand⟩⟩
theorem rclk_pins {w : World} {r P U : Nat} {s : Clk.St} (h : RclkAt w r P U s) (i x : Nat) :
    RclkAt (w.setCell ⟨P, i, none⟩ (.int .i64 (x : Int))) r P U { s with pins := s.pins.set i x } :=
  ⟨by rw [heap_setCell_other _ _ _ _ h.ne1]; simpa using h.top, by rw [heap_setCell_same _ _ _ _ _ _ h.pins, natVals_set], by rw [heap_setCell_other _ _ _ _ (Ne.symm h.ne3)]; exact h.used, ⟨by simp [h.ok.len], by simpa using h.ok.pos, by simpa using h.ok.most, by simpa using h.ok.hand⟩⟩
theorem rclk_hand {w : World} {r P U : Nat} {s : Clk.St} (h : RclkAt w r P U s) :
    RclkAt (w.setCell ⟨r, 2, none⟩ (.int .i64 (((s.hand + 1) % s.pins.length : Nat) : Int))) r P U (Clk.next s) :=
  ⟨by rw [heap_setCell_same _ _ _ _ _ _ h.top]; rfl, by rw [heap_setCell_other _ _ _ _ (Ne.symm h.ne1)]; exact h.pins, by rw [heap_setCell_other _ _ _ _ (Ne.symm h.ne2)]; exact h.used, Clk.ok_next h.ok⟩

theorem make_zeros {P : Program} {t e : TypeId} {z : Value} {bytes : Nat} (ht : P.underlying t = some (.slice e)) (hi : (P.info? e).map (fun i => (i.zero, i.size, i.bytes)) = some (some z, 1, bytes)) (hz : z.cells = #[z]) (hb : bytes ≤ 64) (n : Nat) (h : n ≤ 100000) (w : World) :
    (Instr.makeSlice t (.int .i64 (n : Int)) (.int .i64 (n : Int))).run P w = .ok (.slice (some ⟨w.heap.size, 0, none⟩) n n) (w.alloc (.cells (Array.replicate n z) e)) := by
  obtain ⟨i, h1, h2, h3, h4⟩ := info_parts hi
  have hbn : (i.bytes : Int) * (n : Int) ≤ 281474976710656 := by
    have h5 : i.bytes * n ≤ 64 * 100000 := Nat.mul_le_mul (by rw [h4]; exact hb) h
    have h6 : ((i.bytes * n : Nat) : Int) ≤ 281474976710656 := by omega
    rwa [Int.natCast_mul] at h6
  have := run_make (P := P) w t e i _ ht h1 h2 .i64 .i64 (n : Int) (n : Int) (by omega) (Int.le_refl _) hbn (by omega)
  rw [this, h3, hz]
  simp only [Int.toNat_natCast, Nat.mul_one]
  congr 3
  apply Array.ext'
  rw [toList_madeCells_one, Array.toList_replicate]

theorem natVals_rep (n : Nat) : (natVals (List.replicate n 0)).toArray = Array.replicate n (.int .i64 0) := by simp [natVals]
theorem boolVals_rep (n : Nat) : (boolVals (List.replicate n false)).toArray = Array.replicate n (.bool false) := by simp [boolVals]

theorem rclk_new {W : World} {r P U n : Nat} (hn : Clk.Ok (Clk.new n)) (h1 : W.heap[r]? = some (.cells #[.slice (some ⟨P, 0, none⟩) n n, .slice (some ⟨U, 0, none⟩) n n, .int .i64 0] 39 (0, 0)))
    (h2 : W.heap[P]? = some (.cells (Array.replicate n (.int .i64 0)) 3 (0, 0))) (h3 : W.heap[U]? = some (.cells (Array.replicate n (.bool false)) 4 (0, 0))) : RclkAt W r P U (Clk.new n) :=
  ⟨by rw [h1]; simp [Clk.new], by rw [h2]; unfold Clk.new; rw [natVals_rep], by rw [h3]; unfold Clk.new; rw [boolVals_rep], hn⟩

theorem three_at (w : World) (a b c : Obj) : (((w.alloc a).alloc b).alloc c).heap[w.heap.size]? = some a ∧ (((w.alloc a).alloc b).alloc c).heap[w.heap.size + 1]? = some b ∧ (((w.alloc a).alloc b).alloc c).heap[w.heap.size + 1 + 1]? = some c := by
  refine ⟨?_, ?_, ?_⟩
  · rw [heap_alloc_old _ _ (by simp; omega)]; exact heap_alloc2_old _ _ _
  · rw [heap_alloc_old _ _ (by simp)]; exact heap_alloc2_new _ _ _
  · have := heap_alloc_new ((w.alloc a).alloc b) c
    rwa [show ((w.alloc a).alloc b).heap.size = w.heap.size + 1 + 1 by simp] at this
theorem three_below (w : World) (a b c : Obj) : Below w.heap.size w (((w.alloc a).alloc b).alloc c) := (((Below.refl _ _).alloc (Nat.le_refl _) _).alloc (by simp) _).alloc (by simp; omega) _

attribute [local go_sem ↓] Go.wp_at_zero Go.wp_at_succ

/-- a new clock of the reference -/
def NewRclk (w : World) (n : Nat) (e : Ending) (w' : World) : Prop :=
  ∃ r P U, e = .returned (.tuple #[.pointer (some ⟨r, 0, none⟩), .int .i64 0]) ∧ w.heap.size ≤ r ∧ w.heap.size ≤ P ∧ w.heap.size ≤ U ∧ RclkAt w' r P U (Clk.new n) ∧ Below w.heap.size w w'

set_option maxHeartbeats 1000000 in
theorem rclkNew_ok (n : Nat) (h0 : 0 < n) (h1 : n ≤ 1000) (w : World) : Calls Try.prog 11 #[.int .i64 (n : Int)] w (NewRclk w n) := by
  have hmk1 := make_zeros (P := Try.prog) Try.underlying35 Try.infoInt rfl (by omega) n (by omega)
  have hmk2 := make_zeros (P := Try.prog) Try.underlying37 Try.infoBool rfl (by omega) n (by omega)
  have d1 : decide ((n : Int) < 1) = false := decide_eq_false (by omega)
  have d2 : decide ((1000 : Int) < (n : Int)) = false := decide_eq_false (by omega)
  have HK := Lib.hid (Clk.ok_new n h0 h1)
  go_enter Try.func11, Try.ntmps11
  go_wp2
  go_region
  all_goals go_wp2
  all_goals go_ret2
  · exact ⟨_, _, _, rfl, by omega, by omega, by omega, rclk_new HK.out (three_at w _ _ _).2.2 (three_at w _ _ _).1 (three_at w _ _ _).2.1, (three_below w _ _ _).drew⟩
  · exact ⟨_, _, _, rfl, by omega, by omega, by omega, rclk_new HK.out (three_at w _ _ _).2.2 (three_at w _ _ _).2.1 (three_at w _ _ _).1, (three_below w _ _ _).drew⟩

set_option maxHeartbeats 400000 in
theorem rclkNew_bad (n : Int) (h : n < 1 ∨ 1000 < n) (w : World) : Calls Try.prog 11 #[.int .i64 n] w fun e w' => e = .returned (.tuple #[.pointer none, .int .i64 1]) ∧ w = w' := by
  rcases h with h | h
  · have d1 : decide ((n : Int) < 1) = true := decide_eq_true (by omega)
    go_enter Try.func11, Try.ntmps11
    go_wp2
    go_ret2
    exact ⟨rfl, rfl⟩
  · have d1 : decide ((n : Int) < 1) = false := decide_eq_false (by omega)
    have d2 : decide ((1000 : Int) < (n : Int)) = true := decide_eq_true (by omega)
    go_enter Try.func11, Try.ntmps11
    go_wp2
    go_ret2
    exact ⟨rfl, rfl⟩

/-- is there such a place? -/
def isB (n : Nat) (i : Int) : Bool := decide (0 ≤ i) && decide (i < (n : Int))

set_option maxHeartbeats 400000 in
theorem rclkIs_any (r P U : Nat) (i : Int) (s : Clk.St) (w : World) (h : RclkAt w r P U s) :
    Calls Try.prog 33 #[.pointer (some ⟨r, 0, none⟩), .int .i64 i] w fun e w' => e = .returned (.bool (isB s.pins.length i)) ∧ w = w' := by
  have c0 : w.cell? ⟨r, 0, none⟩ = some (.slice (some ⟨P, 0, none⟩) s.pins.length s.pins.length) := row_cell h.top rfl
  clear h
  by_cases h0 : 0 ≤ i
  · have d0 : decide (0 ≤ i) = true := decide_eq_true h0
    have E : Hid (isB s.pins.length i = decide (i < (s.pins.length : Int))) := by unfold isB; rw [d0]; rfl
    go_enter Try.func33, Try.ntmps33
    go_wp2
    go_ret
    exact ⟨by rw [E.out]; rfl, rfl⟩
  · have d0 : decide (0 ≤ i) = false := decide_eq_false h0
    have E : Hid (isB s.pins.length i = false) := by unfold isB; rw [d0]; rfl
    go_enter Try.func33, Try.ntmps33
    go_wp2
    go_ret
    exact ⟨by rw [E.out]; rfl, rfl⟩

set_option maxHeartbeats 400000 in
theorem rclkUse_ok (r P U i : Nat) (s : Clk.St) (w : World) (h : RclkAt w r P U s) (hi : i < s.pins.length) :
    Calls Try.prog 23 #[.pointer (some ⟨r, 0, none⟩), .int .i64 (i : Int)] w fun e w' => e = .returned (.int .i64 0) ∧ RclkAt w' r P U (Clk.use s i) ∧ Chg [r, P, U] w w' := by
  have c0 : w.cell? ⟨r, 1, none⟩ = some (.slice (some ⟨U, 0, none⟩) s.pins.length s.pins.length) := row_cell h.top rfl
  have c1 : w.cell? ⟨U, i, none⟩ = some (.bool (s.used.getD i false)) := row_cell h.used (boolVals_get _ _ (by rw [h.ok.len]; exact hi))
  have f1 : w.frozen? ⟨U, i, none⟩ = false := frozen_of_row _ _ _ _ _ h.used
  have HI : Hid (isB s.pins.length (i : Int) = true) := by unfold Hid isB; simp; exact hi
  have i2 : (i : Int) < (s.pins.length : Int) := by omega
  have HC := Lib.hid (rclkIs_any r P U (i : Int) s w h)
  rw [HI.out] at HC
  have H := Lib.hid h
  clear h hi
  go_enter Try.func23, Try.ntmps23
  go_wp2_with ((go_at_call 33; refine HC.out.mono ?_; rintro e w' ⟨rfl, rfl⟩))
  go_ret
  exact ⟨rfl, rclk_used H.out i true, (Chg.refl _ _).setCell (by simp) _⟩

set_option maxHeartbeats 400000 in
theorem rclkUse_bad (r P U : Nat) (i : Int) (s : Clk.St) (w : World) (h : RclkAt w r P U s) (hi : i < 0 ∨ (s.pins.length : Int) ≤ i) :
    Calls Try.prog 23 #[.pointer (some ⟨r, 0, none⟩), .int .i64 i] w fun e w' => e = .returned (.int .i64 1) ∧ w = w' := by
  have HI : Hid (isB s.pins.length i = false) := by unfold Hid isB; simp; omega
  have HC := Lib.hid (rclkIs_any r P U i s w h)
  rw [HI.out] at HC
  clear h hi
  go_enter Try.func23, Try.ntmps23
  go_wp2_with ((go_at_call 33; refine HC.out.mono ?_; rintro e w' ⟨rfl, rfl⟩))
  go_ret
  exact ⟨rfl, rfl⟩

set_option maxHeartbeats 1000000 in
theorem rclkPin_ok (r P U i : Nat) (s : Clk.St) (w : World) (h : RclkAt w r P U s) (hi : i < s.pins.length) (hp : s.pins.getD i 0 ≤ 1000000) :
    Calls Try.prog 24 #[.pointer (some ⟨r, 0, none⟩), .int .i64 (i : Int)] w fun e w' => e = .returned (.int .i64 0) ∧ RclkAt w' r P U (Clk.pin s i) ∧ Chg [r, P, U] w w' := by
  have c0 : w.cell? ⟨r, 0, none⟩ = some (.slice (some ⟨P, 0, none⟩) s.pins.length s.pins.length) := row_cell h.top rfl
  have c1 : w.cell? ⟨P, i, none⟩ = some (.int .i64 ((s.pins.getD i 0 : Nat) : Int)) := row_cell h.pins (natVals_get _ _ hi)
  have f1 : w.frozen? ⟨P, i, none⟩ = false := frozen_of_row _ _ _ _ _ h.pins
  have HI : Hid (isB s.pins.length (i : Int) = true) := by unfold Hid isB; simp; exact hi
  have i2 : (i : Int) < (s.pins.length : Int) := by omega
  have i3 : (0 : Int) ≤ (i : Int) := by omega
  obtain ⟨p, HP⟩ : ∃ p, Hid (s.pins.getD i 0 = p) := ⟨_, rfl⟩
  rw [HP.out] at c1 hp
  have e1 : IntKind.i64.wrap ((p : Int) + 1) = (p : Int) + 1 := IntWalk.i64_in _ (by omega)
  have HC := Lib.hid (rclkIs_any r P U (i : Int) s w h)
  rw [HI.out] at HC
  have H := Lib.hid h
  clear h hi
  go_enter Try.func24, Try.ntmps24
  go_wp2_with ((go_at_call 33; refine HC.out.mono ?_; rintro e w' ⟨rfl, rfl⟩))
  go_still_tail 14, (by kernel_rfl)
  change wpList _ _ _ _ _ w.drew
  go_wp2
  go_ret
  refine ⟨rfl, ?_, ((Chg.refl _ _).setCell (by simp) _).drew⟩
  have := rclk_pins H.out i (p + 1)
  unfold Clk.pin
  rw [HP.out]
  exact ⟨this.top, this.pins, this.used, this.ok⟩

set_option maxHeartbeats 400000 in
theorem rclkPin_bad (r P U : Nat) (i : Int) (s : Clk.St) (w : World) (h : RclkAt w r P U s) (hi : i < 0 ∨ (s.pins.length : Int) ≤ i) :
    Calls Try.prog 24 #[.pointer (some ⟨r, 0, none⟩), .int .i64 i] w fun e w' => e = .returned (.int .i64 1) ∧ w = w' := by
  have HI : Hid (isB s.pins.length i = false) := by unfold Hid isB; simp; omega
  have HC := Lib.hid (rclkIs_any r P U i s w h)
  rw [HI.out] at HC
  clear h hi
  go_enter Try.func24, Try.ntmps24
  go_wp2_with ((go_at_call 33; refine HC.out.mono ?_; rintro e w' ⟨rfl, rfl⟩))
  go_ret
  exact ⟨rfl, rfl⟩

set_option maxHeartbeats 1000000 in
theorem rclkUnpin_ok (r P U i : Nat) (s : Clk.St) (w : World) (h : RclkAt w r P U s) (hi : i < s.pins.length) (h0 : 0 < s.pins.getD i 0) (hp : s.pins.getD i 0 ≤ 1000000) :
    Calls Try.prog 25 #[.pointer (some ⟨r, 0, none⟩), .int .i64 (i : Int)] w fun e w' => e = .returned (.int .i64 0) ∧ RclkAt w' r P U (Clk.unpin s i) ∧ Chg [r, P, U] w w' := by
  have c0 : w.cell? ⟨r, 0, none⟩ = some (.slice (some ⟨P, 0, none⟩) s.pins.length s.pins.length) := row_cell h.top rfl
  have c1 : w.cell? ⟨P, i, none⟩ = some (.int .i64 ((s.pins.getD i 0 : Nat) : Int)) := row_cell h.pins (natVals_get _ _ hi)
  have f1 : w.frozen? ⟨P, i, none⟩ = false := frozen_of_row _ _ _ _ _ h.pins
  have HI : Hid (isB s.pins.length (i : Int) = true) := by unfold Hid isB; simp; exact hi
  have i2 : (i : Int) < (s.pins.length : Int) := by omega
  have i3 : (0 : Int) ≤ (i : Int) := by omega
  obtain ⟨p, HP⟩ : ∃ p, Hid (s.pins.getD i 0 = p) := ⟨_, rfl⟩
  rw [HP.out] at c1 hp h0
  have e1 : IntKind.i64.wrap ((p : Int) - 1) = (p : Int) - 1 := IntWalk.i64_in _ (by omega)
  have e2 : ((p : Int) == 0) = false := beq_eq_false_iff_ne.2 (by omega)
  have H0 := Lib.hid h0
  have HC := Lib.hid (rclkIs_any r P U (i : Int) s w h)
  rw [HI.out] at HC
  have H := Lib.hid h
  clear h hi h0
  go_enter Try.func25, Try.ntmps25
  go_wp2_with ((go_at_call 33; refine HC.out.mono ?_; rintro e w' ⟨rfl, rfl⟩))
  go_still_tail 14, (by kernel_rfl)
  change wpList _ _ _ _ _ w.drew
  go_wp2
  go_ret
  refine ⟨rfl, ?_, ((Chg.refl _ _).setCell (by simp) _).drew⟩
  have := rclk_pins H.out i (p - 1)
  have e : ((p - 1 : Nat) : Int) = (p : Int) - 1 := by have := H0.out; omega
  rw [e] at this
  unfold Clk.unpin
  rw [HP.out]
  exact ⟨this.top, this.pins, this.used, this.ok⟩

set_option maxHeartbeats 400000 in
theorem rclkUnpin_bad (r P U : Nat) (i : Int) (s : Clk.St) (w : World) (h : RclkAt w r P U s) (hi : i < 0 ∨ (s.pins.length : Int) ≤ i ∨ s.pins.getD i.toNat 0 = 0) :
    Calls Try.prog 25 #[.pointer (some ⟨r, 0, none⟩), .int .i64 i] w fun e w' => e = .returned (.int .i64 1) ∧ w = w' := by
  by_cases hin : 0 ≤ i ∧ i < (s.pins.length : Int)
  · obtain ⟨k, rfl⟩ := Int.eq_ofNat_of_zero_le hin.1
    have hz : s.pins.getD k 0 = 0 := by
      rcases hi with hi | hi | hi
      · omega
      · omega
      · rwa [Int.toNat_natCast] at hi
    have hk : k < s.pins.length := by omega
    have c0 : w.cell? ⟨r, 0, none⟩ = some (.slice (some ⟨P, 0, none⟩) s.pins.length s.pins.length) := row_cell h.top rfl
    have c1 : w.cell? ⟨P, k, none⟩ = some (.int .i64 0) := row_cell h.pins (by rw [natVals_get _ _ hk, hz]; rfl)
    have HI : Hid (isB s.pins.length (k : Int) = true) := by unfold Hid isB; simp; exact hk
    have i2 : (k : Int) < (s.pins.length : Int) := by omega
    have HC := Lib.hid (rclkIs_any r P U (k : Int) s w h)
    rw [HI.out] at HC
    clear h hi hz hin
    go_enter Try.func25, Try.ntmps25
    go_wp2_with ((go_at_call 33; refine HC.out.mono ?_; rintro e w' ⟨rfl, rfl⟩))
    go_ret
    exact ⟨rfl, rfl⟩
  · have HI : Hid (isB s.pins.length i = false) := by unfold Hid isB; simp; omega
    have HC := Lib.hid (rclkIs_any r P U i s w h)
    rw [HI.out] at HC
    clear h hi hin
    go_enter Try.func25, Try.ntmps25
    go_wp2_with ((go_at_call 33; refine HC.out.mono ?_; rintro e w' ⟨rfl, rfl⟩))
    go_ret
    exact ⟨rfl, rfl⟩

end Go.Proofs.Ytffdhpoljfmjoaa
