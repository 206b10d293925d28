/- Walks of the reference's text of the check sum: each call's answer in plain words. -/
import Derived.Test.YtebeohdadihidaaCrcWalk
namespace Go.Proofs.Ytebeohdadihidaa
open Go.RowKit

theorem mod2 (x : BitVec 32) : num32 x % (2 : Int) = ((x.toNat % 2 : Nat) : Int) := by unfold num32; omega

set_option maxHeartbeats 1000000 in
theorem refsteps_any (x : BitVec 32) (w : World) :
    Calls Try.prog 31 #[.int .u32 (num32 x)] w fun e w' => e = .returned (.int .u32 (num32 (Crc.steps 8 x))) ∧ w = w' := by
  go_enter Try.func31, Try.ntmps31
  go_wp2_with fail
  go_loop [0, 3] (fun v i => ∃ n : Nat, n ≤ 8 ∧ i = .int .i64 n ∧ v = .int .u32 (num32 (Crc.steps n x))) (fun _ i => 8 - (intOf i).toNat)
  case atStart => exact ⟨0, by omega, rfl, rfl⟩
  case round =>
    obtain ⟨n, hn, rfl, rfl⟩ := hrel
    by_cases hlt : n < 8
    · have hlt' : (n : Int) < 8 := by omega
      have H := Lib.hid (Crc.steps_succ n x)
      obtain ⟨y, HY⟩ : ∃ y, Hid (Crc.steps n x = y) := ⟨_, rfl⟩
      rw [HY.out]
      have hlo := u32_nonneg y
      have hhi := u32_lt y
      have H2 := Lib.hid (Crc.steps_nat y)
      clear hlt hn
      by_cases h : y.toNat % 2 = 1
      · have h1 : num32 y % 2 = 1 := by rw [mod2, h]; rfl
        have h3 : bits .xor .u32 (num32 y / 2) 3988292384 = num32 ((y >>> 1) ^^^ 0xEDB88320#32) := by rw [half32]; exact xor32 _ 0xEDB88320#32
        go_wp2
        go_round
        case rel => exact ⟨n + 1, by omega, by go_num, by rw [H.out, HY.out, H2.out, if_pos h]⟩
        case measure => simp [intOf]; omega
      · have h1 : num32 y % 2 = 0 := by rw [mod2, show y.toNat % 2 = 0 by omega]; rfl
        have h3 := half32 y
        go_wp2
        go_round
        case rel => exact ⟨n + 1, by omega, by go_num, by rw [H.out, HY.out, H2.out, if_neg h]; exact congrArg _ (half32 y)⟩
        case measure => simp [intOf]; omega
    · obtain rfl : n = 8 := by omega
      go_wp2
      go_ret
      exact ⟨rfl, rfl⟩

theorem ofNat_by32 (x : UInt8) : ((x.toNat : Nat) : Int) = num32 (Crc.by32 x) := by
  unfold num32 Crc.by32; rw [BitVec.toNat_ofNat]; have := x.toNat_lt; omega

set_option maxHeartbeats 1000000 in
theorem refmore_any (s : BitVec 32) (v : Value) (l : List UInt8) (w : World) (h : Bytes w v l) (hl : l.length ≤ 140737488351232) :
    Calls Try.prog 29 #[.int .u32 (num32 s), v] w fun e w' => e = .returned (.int .u32 (num32 (Crc.more s l))) ∧ w = w' := by
  obtain ⟨a, cap, rfl, -, b, o, HA, HC⟩ := h.opened
  go_enter Try.func29, Try.ntmps29
  go_wp2_with fail
  go_loopw [5, 6] (fun v j wr => ∃ n : Nat, n ≤ l.length ∧ j = .int .i64 n ∧ v = .int .u32 (num32 (Crc.eats (~~~s) (l.take n))) ∧ wr = w) (fun _ j _ => l.length - (intOf j).toNat)
  case atStart => exact ⟨0, by omega, rfl, by rw [List.take_zero, Crc.eats_nil]; exact congrArg _ (not32 s), rfl⟩
  case round =>
    obtain ⟨n, hn, rfl, rfl, rfl⟩ := hrel
    by_cases hlt : n < l.length
    · have hc := HC.out n hlt
      obtain rfl := HA (by intro e; subst e; simp at hlt)
      have hlt' : (n : Int) < (l.length : Int) := by omega
      obtain ⟨W, HW⟩ : ∃ W, Hid (Crc.eats (~~~s) (l.take n) = W) := ⟨_, rfl⟩
      obtain ⟨x, HX⟩ : ∃ x, Hid (l.getD n 0 = x) := ⟨_, rfl⟩
      rw [HW.out]
      rw [HX.out] at hc
      have hx0 : (0 : Int) ≤ (x.toNat : Int) := by omega
      have hx1 : (x.toNat : Int) < 256 := by have := x.toNat_lt; omega
      have hx2 : bits .xor .u32 (num32 W) (x.toNat : Int) = num32 (W ^^^ Crc.by32 x) := by rw [ofNat_by32, xor32]
      have HLT := Lib.hid hlt
      clear hlt
      go_wp2_with ((go_at_call 31; refine (refsteps_any _ _).mono ?_; rintro e w' ⟨rfl, rfl⟩))
      go_roundw
      case rel => exact ⟨n + 1, by omega, by go_num, by rw [take_snoc l n HLT.out, Crc.eats_snoc, HW.out, HX.out]; rfl, trivial⟩
      case measure => simp [intOf]; omega
    · obtain rfl : n = l.length := by omega
      have hnot := not32
      go_wp2_with fail
      go_ret
      exact ⟨ret_int rfl, rfl⟩

set_option maxHeartbeats 400000 in
theorem refsum_any (v : Value) (l : List UInt8) (w : World) (h : Bytes w v l) (hl : l.length ≤ 140737488351232) :
    Calls Try.prog 25 #[v] w fun e w' => e = .returned (.int .u32 (num32 (Crc.more 0#32 l))) ∧ w = w' := by
  have hm := Lib.hid (refmore_any 0#32 v l w h hl)
  rw [show num32 0#32 = 0 from rfl] at hm
  go_enter Try.func25, Try.ntmps25
  go_wp2_with (first | (go_at_call 29; refine hm.out.mono ?_; rintro e w1 ⟨rfl, rfl⟩))
  go_ret
  exact ⟨rfl, rfl⟩

end Go.Proofs.Ytebeohdadihidaa
