/- The walk of 'awake' of the clock's statements. -/
import Derived.Test.YtffdhpoljfmjoaaClkStep
import Derived.Test.YtffdhpoljfmjoaaBools
namespace Go.Proofs.Ytffdhpoljfmjoaa
open Go.RowKit

namespace Clk
def a1 : St := useS (new 3) 0
def a2 : St := pinS a1 1
def a3 : St := vicS a2
def a4 : St := vicS a3
def a5 : St := unpinS a4 0
theorem e1 : useE (new 3) 0 = 0 := by decide +kernel
theorem e2 : pinE a1 1 = 0 := by decide +kernel
theorem e3 : vicN a2 = 2 := by decide +kernel
theorem e4 : vicE a2 = 0 := by decide +kernel
theorem e5 : (a3.hand : Int) = 0 := by decide +kernel
theorem e6 : vicN a3 = 0 := by decide +kernel
theorem e7 : vicE a3 = 0 := by decide +kernel
theorem e8 : unpinE a4 0 = 1 := by decide +kernel
theorem e9 : a5.pins.length = 3 := by decide +kernel
theorem e10 : a5.used.length = 3 := by decide +kernel
theorem few1 : Few a1 1000000 := few_new 3 _
theorem few4 : Few a4 1000000 := by
  intro j
  have h : a4.pins = [0, 1, 0] := by decide +kernel
  rw [h]
  match j with
  | 0 => decide
  | 1 => decide
  | 2 => decide
  | n + 3 => simp
end Clk

theorem Row.shape {w : World} {v : Value} {l : List Value} (h : Row w v l) : ∃ a cap, v = .slice a l.length cap := by
  obtain ⟨a, cap, rfl, _⟩ := h.opened
  exact ⟨a, cap, rfl⟩

set_option maxHeartbeats 1000000 in
theorem clkAwake_any (w : World) : Calls Try.prog 9 #[] w fun e w' => e = .returned (.bool true) ∧ Below w.heap.size w w' := by
  go_enter Try.func9, Try.ntmps9
  go_wp2_with fail
  refine (clkNew_ok 3 (by omega) (by omega) w).mono ?_
  rintro e w1 ⟨c, L, rfl, hc, hL, A1, B1⟩
  have HB1 := Lib.hid B1
  have Hc := Lib.hid hc
  have HL := Lib.hid hL
  clear B1 hc hL
  go_wp2_with fail
  refine (clkUse_any A1 0).mono ?_
  rintro e w2 ⟨rfl, A2, C2⟩
  rw [Clk.e1]
  go_wp2_with fail
  refine (clkPin_any A2 Clk.few1 1).mono ?_
  rintro e w3 ⟨rfl, A3, C3⟩
  rw [show Clk.pinE (Clk.useS (Clk.new 3) 0) 1 = 0 from Clk.e2]
  go_wp2_with fail
  refine (clkVictim_any A3).mono ?_
  rintro e w4 ⟨rfl, A4, C4⟩
  rw [show Clk.vicN (Clk.pinS (Clk.useS (Clk.new 3) 0) 1) = 2 from Clk.e3, show Clk.vicE (Clk.pinS (Clk.useS (Clk.new 3) 0) 1) = 0 from Clk.e4]
  go_wp2_with fail
  refine (clkHand_any c L _ w4 A4).mono ?_
  rintro e w5 ⟨rfl, rfl⟩
  rw [show ((Clk.vicS (Clk.pinS (Clk.useS (Clk.new 3) 0) 1)).hand : Int) = 0 from Clk.e5]
  go_wp2_with fail
  refine (clkVictim_any A4).mono ?_
  rintro e w6 ⟨rfl, A6, C6⟩
  rw [show Clk.vicN (Clk.vicS (Clk.pinS (Clk.useS (Clk.new 3) 0) 1)) = 0 from Clk.e6, show Clk.vicE (Clk.vicS (Clk.pinS (Clk.useS (Clk.new 3) 0) 1)) = 0 from Clk.e7]
  go_wp2_with fail
  refine (clkNew_bad 0 (by omega) w6).mono ?_
  rintro e w7 ⟨rfl, rfl⟩
  go_wp2_with fail
  refine (clkUnpin_any A6 Clk.few4 0).mono ?_
  rintro e w8 ⟨rfl, A8, C8⟩
  rw [show Clk.unpinE (Clk.vicS (Clk.vicS (Clk.pinS (Clk.useS (Clk.new 3) 0) 1))) 0 = 1 from Clk.e8]
  go_wp2_with fail
  refine (clkPins_any c L _ w8 A8).mono ?_
  rintro e w9 ⟨v9, rfl, R9, B9, -⟩
  obtain ⟨a9, p9, rfl⟩ := R9.shape
  rw [natVals_length, show (Clk.unpinS (Clk.vicS (Clk.vicS (Clk.pinS (Clk.useS (Clk.new 3) 0) 1))) 0).pins.length = 3 from Clk.e9]
  have A9 := A8.below B9
  have HB9 := Lib.hid B9
  clear B9
  go_wp2_with fail
  refine (clkUsed_any c L _ w9 A9).mono ?_
  rintro e w10 ⟨v10, rfl, R10, B10, -⟩
  obtain ⟨a10, p10, rfl⟩ := R10.shape
  rw [boolVals_length, show (Clk.unpinS (Clk.vicS (Clk.vicS (Clk.pinS (Clk.useS (Clk.new 3) 0) 1))) 0).used.length = 3 from Clk.e10]
  have HB10 := Lib.hid B10
  clear B10
  go_wp2_with fail
  go_ret
  refine ⟨rfl, ?_⟩
  have C := (((((C2.trans C3).trans C4).trans C6).trans C8).trans (Chg.of_hid HB9)).trans (Chg.of_hid HB10)
  exact HB1.out.trans (C.below HB1.out.size (by intro k hk; simp at hk; rcases hk with rfl | rfl; exact Hc.out; exact HL.out))

end Go.Proofs.Ytffdhpoljfmjoaa
