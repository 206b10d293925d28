/- Walks of the reference's text of the check sum: each call's answer in plain words. -/
import Derived.Test.YtamhpblmoojabaaCrcWalk
namespace Go.Proofs.Ytamhpblmoojabaa
open Go.RowKit

theorem mod2 (x : BitVec 32) : num32 x % (2 : Int) = ((x.toNat % 2 : Nat) : Int) := by unfold num32; omega

set_option maxHeartbeats 1000000 in
theorem refsteps_any (x : BitVec 32) (w : World) :
    Calls Try.prog 17 #[.int .u32 (num32 x)] w fun e w' => e = .returned (.int .u32 (num32 (Crc.steps 8 x))) ∧ w = w' := by
  go_enter Try.func17, Try.ntmps17
  go_wp2_with fail
  go_loop [0, 3] (fun v i => ∃ n : Nat, n ≤ 8 ∧ i = .int .i64 n ∧ v = .int .u32 (num32 (Crc.steps n x))) (fun _ i => 8 - (intOf i).toNat)
  case atStart => exact ⟨0, by omega, rfl, rfl⟩
  case round =>
    obtain ⟨n, hn, rfl, rfl⟩ := hrel
    by_cases hlt : n < 8
    · have hlt' : (n : Int) < 8 := by omega
      have H := Lib.hid (Crc.steps_succ n x)
      obtain ⟨y, HY⟩ : ∃ y, Hid (Crc.steps n x = y) := ⟨_, rfl⟩
      rw [HY.out]
      have hlo := u32_nonneg y
      have hhi := u32_lt y
      have H2 := Lib.hid (Crc.steps_nat y)
      clear hlt hn
      by_cases h : y.toNat % 2 = 1
      · have h1 : num32 y % 2 = 1 := by rw [mod2, h]; rfl
        have h3 : bits .xor .u32 (num32 y / 2) 3988292384 = num32 ((y >>> 1) ^^^ 0xEDB88320#32) := by rw [half32]; exact xor32 _ 0xEDB88320#32
        go_wp2
        go_round
        case rel => exact ⟨n + 1, by omega, by go_num, by rw [H.out, HY.out, H2.out, if_pos h]⟩
        case measure => simp [intOf]; omega
      · have h1 : num32 y % 2 = 0 := by rw [mod2, show y.toNat % 2 = 0 by omega]; rfl
        have h3 := half32 y
        go_wp2
        go_round
        case rel => exact ⟨n + 1, by omega, by go_num, by rw [H.out, HY.out, H2.out, if_neg h]; exact congrArg _ (half32 y)⟩
        case measure => simp [intOf]; omega
    · obtain rfl : n = 8 := by omega
      go_wp2
      go_ret
      exact ⟨rfl, rfl⟩

set_option maxRecDepth 100000 in
set_option maxHeartbeats 1000000 in
theorem reftable_any (w : World) :
    Calls Try.prog 11 #[] w fun e w' => e = .returned (.agg (tabCells 256)) ∧ Below w.heap.size w w' := by
  have hz := zero_tab
  go_enter Try.func11, Try.ntmps11
  go_wp2_with fail
  clear hz
  go_loopw [2] (fun i wr => ∃ k : Nat, k ≤ 256 ∧ i = .int .i64 k ∧ wr.heap[w.heap.size + 1]? = some (.cells (tabCells k) 24 (0, 0)) ∧ wr.heap[w.heap.size]? = some (.cells (tabCells 0) 24 (0, 0)) ∧ Below w.heap.size w wr) (fun i _ => 256 - (intOf i).toNat)
  case atStart => exact ⟨0, by omega, rfl, heap_alloc2_new _ _ _, heap_alloc2_old _ _ _, ((Below.refl _ _).alloc (Nat.le_refl _) _).alloc (by simp) _⟩
  case round =>
    obtain ⟨k, hk, rfl, hrow, hrow0, hbel⟩ := hrel
    have HR0 := Lib.hid hrow0
    clear hrow0
    by_cases hlt : k < 256
    · have hc : wr.cell? ⟨w.heap.size + 1, k, none⟩ = some (.int .u32 0) := row_cell hrow (by rw [tabCells_get k k hlt]; simp [tabCell])
      have hf : wr.frozen? ⟨w.heap.size + 1, k, none⟩ = false := frozen_of_row _ _ _ _ _ hrow
      have HR := Lib.hid hrow
      have HB := Lib.hid hbel
      have hlt' : (k : Int) < 256 := by omega
      have ek : (k : Int) = num32 (BitVec.ofNat 32 k) := by unfold num32; rw [BitVec.toNat_ofNat]; omega
      have hst := Lib.hid (refsteps_any (BitVec.ofNat 32 k) wr)
      rw [← ek] at hst
      have EK := Lib.hid ek
      clear hrow hbel hk hlt ek
      go_wp2_with ((go_at_call 17; refine hst.out.mono ?_; rintro e w' ⟨rfl, rfl⟩))
      go_roundw
      case rel => exact ⟨k + 1, by omega, by go_num, by rw [heap_setCell_same _ _ _ _ _ _ HR.out]; exact congrArg (fun x => some (Obj.cells x _ _)) (tabCells_set k (by omega)), by rw [heap_setCell_other _ _ _ _ (by simp)]; exact HR0.out, HB.out.setCell (by simp) _⟩
      case measure => simp [intOf]; omega
    · obtain rfl : k = 256 := by omega
      have HR := Lib.hid hrow
      have HB := Lib.hid hbel
      clear hk hlt hrow hbel
      go_wp2_with (first | (refine wpList_load_row rfl 24 _ rfl (w.heap.size + 1) rfl 24 (tabCells 256) (0, 0) _ HR.out Try.underlying24 rfl (Try.sizeTab _) ?_) | (refine wpList_store_row rfl 24 _ _ rfl w.heap.size (tabCells 256) rfl rfl 24 (tabCells 0) HR0.out (Try.sizeTab _) (by rw [tabCells_size, tabCells_size]) (tabCells_one _) ?_))
      exact bodyPost_ret (v := .agg (tabCells 256)) (results_cell_row rfl _ _ w.heap.size 24 (tabCells 256) (0, 0) _ rfl (setRow_heap _ _ _ _ _ _ HR0.out) Try.underlying24 rfl (Try.sizeTab _)) rfl ⟨rfl, below_setRow HB.out (Nat.le_refl _) _⟩

theorem ofNat_by32 (x : UInt8) : ((x.toNat : Nat) : Int) = num32 (Crc.by32 x) := by
  unfold num32 Crc.by32; rw [BitVec.toNat_ofNat]; have := x.toNat_lt; omega

set_option maxHeartbeats 1000000 in
theorem refmore_any (s : BitVec 32) (v : Value) (l : List UInt8) (w : World) (h : Bytes w v l) (hl : l.length ≤ 140737488351232) :
    Calls Try.prog 13 #[.int .u32 (num32 s), v] w fun e w' => e = .returned (.int .u32 (num32 (Crc.more s l))) ∧ w = w' := by
  obtain ⟨a, cap, rfl, -, b, o, HA, HC⟩ := h.opened
  go_enter Try.func13, Try.ntmps13
  go_wp2_with fail
  go_loopw [5, 6] (fun v j wr => ∃ n : Nat, n ≤ l.length ∧ j = .int .i64 n ∧ v = .int .u32 (num32 (Crc.eats (~~~s) (l.take n))) ∧ wr = w) (fun _ j _ => l.length - (intOf j).toNat)
  case atStart => exact ⟨0, by omega, rfl, by rw [List.take_zero, Crc.eats_nil]; exact congrArg _ (not32 s), rfl⟩
  case round =>
    obtain ⟨n, hn, rfl, rfl, rfl⟩ := hrel
    by_cases hlt : n < l.length
    · have hc := HC.out n hlt
      obtain rfl := HA (by intro e; subst e; simp at hlt)
      have hlt' : (n : Int) < (l.length : Int) := by omega
      obtain ⟨W, HW⟩ : ∃ W, Hid (Crc.eats (~~~s) (l.take n) = W) := ⟨_, rfl⟩
      obtain ⟨x, HX⟩ : ∃ x, Hid (l.getD n 0 = x) := ⟨_, rfl⟩
      rw [HW.out]
      rw [HX.out] at hc
      have hx0 : (0 : Int) ≤ (x.toNat : Int) := by omega
      have hx1 : (x.toNat : Int) < 256 := by have := x.toNat_lt; omega
      have hx2 : bits .xor .u32 (num32 W) (x.toNat : Int) = num32 (W ^^^ Crc.by32 x) := by rw [ofNat_by32, xor32]
      have HLT := Lib.hid hlt
      clear hlt
      go_wp2_with ((go_at_call 17; refine (refsteps_any _ _).mono ?_; rintro e w' ⟨rfl, rfl⟩))
      go_roundw
      case rel => exact ⟨n + 1, by omega, by go_num, by rw [take_snoc l n HLT.out, Crc.eats_snoc, HW.out, HX.out]; rfl, trivial⟩
      case measure => simp [intOf]; omega
    · obtain rfl : n = l.length := by omega
      have hnot := not32
      go_wp2_with fail
      go_ret
      exact ⟨ret_int rfl, rfl⟩

set_option maxHeartbeats 400000 in
theorem refsum_any (v : Value) (l : List UInt8) (w : World) (h : Bytes w v l) (hl : l.length ≤ 140737488351232) :
    Calls Try.prog 15 #[v] w fun e w' => e = .returned (.int .u32 (num32 (Crc.more 0#32 l))) ∧ w = w' := by
  have hm := Lib.hid (refmore_any 0#32 v l w h hl)
  rw [show num32 0#32 = 0 from rfl] at hm
  go_enter Try.func15, Try.ntmps15
  go_wp2_with (first | (go_at_call 13; refine hm.out.mono ?_; rintro e w1 ⟨rfl, rfl⟩))
  go_ret
  exact ⟨rfl, rfl⟩

end Go.Proofs.Ytamhpblmoojabaa
