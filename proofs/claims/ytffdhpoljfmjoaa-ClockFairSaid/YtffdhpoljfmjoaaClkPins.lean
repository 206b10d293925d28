/- The walk of the clock's statement ClockPins. -/
import Derived.Test.YtffdhpoljfmjoaaClkRounds
namespace Go.Proofs.Ytffdhpoljfmjoaa
open Go.RowKit

theorem few_pnd (n p t h m : Nat) (ht : t ≤ m) : Clk.Few (Clk.pnd n p t h) m := Clk.few_set (s := Clk.new n) (Clk.few_new n m) ht

set_option maxHeartbeats 8000000 in
theorem clkPins_core (p n : Nat) (hp0 : 2 ≤ p) (hp1 : p ≤ 50) (hn : n < p) (t : Int) (ht0 : -9223372036854775808 ≤ t) (ht1 : t ≤ 9223372036854775807) (w : World) :
    Calls Try.prog 7 #[.int .i64 (p : Int), .int .i64 (n : Int), .int .i64 t] w fun e w' => e = .returned (.bool true) ∧ Below w.heap.size w w' := by
  obtain ⟨m, hm, hcase⟩ : ∃ m : Nat, m < 5 ∧ ((t < 0 ∧ -((t + 1).tmod 5) = (m : Int)) ∨ (¬ t < 0 ∧ t.tmod 5 = (m : Int))) := by
    by_cases hneg : t < 0
    · have h1 : 0 ≤ -((t + 1).tmod 5) := by rw [← Int.neg_tmod]; exact Int.tmod_nonneg _ (by omega)
      have h2 : -((t + 1).tmod 5) < 5 := by rw [← Int.neg_tmod]; exact Int.tmod_lt_of_pos _ (by omega)
      exact ⟨(-((t + 1).tmod 5)).toNat, by omega, .inl ⟨hneg, by omega⟩⟩
    · have h1 : 0 ≤ t.tmod 5 := Int.tmod_nonneg _ (by omega)
      have h2 : t.tmod 5 < 5 := Int.tmod_lt_of_pos _ (by omega)
      exact ⟨(t.tmod 5).toNat, by omega, .inr ⟨hneg, by omega⟩⟩
  have d1 : decide ((p : Int) < 2) = false := decide_eq_false (by omega)
  have d2 : decide ((50 : Int) < (p : Int)) = false := decide_eq_false (by omega)
  have d3 : decide ((n : Int) < 0) = false := decide_eq_false (by omega)
  have d4 : decide (p ≤ n) = false := decide_eq_false (by omega)
  have m0 : (0 : Int) ≤ (m : Int) := by omega
  have m1 : (m : Int) < 5 := by omega
  have HN := Lib.hid (clkNew_ok p (by omega) (by omega))
  have HU := Lib.hid (Clk.new_pnd p n)
  have HNP := Lib.hid hn
  clear hn
  rcases hcase with ⟨g1, g2⟩ | ⟨g1, g2⟩
  all_goals
    go_enter Try.func7, Try.ntmps7
    go_wp2_with fail
    refine (clkAwake_any w).mono ?_
    rintro e w1 ⟨rfl, B1⟩
    have HB1 := Lib.hid B1
    clear B1
    go_wp2_with fail
    refine (HN.out w1).mono ?_
    rintro e w2 ⟨c, L, rfl, hc, hL, A2, B2⟩
    have HB2 := hid_trans HB1 B2
    have Hc : Hid (w.heap.size ≤ c ∧ w.heap.size ≤ L) := by have := HB1.out.size; exact ⟨by omega, by omega⟩
    rw [HU.out] at A2
    have HA2 := Lib.hid A2
    clear hc hL B2 A2
    go_wp2_with fail
    clear g2
    go_loopw [10] (fun i wr => ∃ k : Nat, k ≤ m + 1 ∧ i = .int .i64 k ∧ ClkAt wr c L (Clk.pnd p n k 0) ∧ Below w.heap.size w wr) (fun i _ => m + 1 - (intOf i).toNat)
    case atStart => exact ⟨0, by omega, rfl, HA2.out, HB2.out⟩
    case round =>
      obtain ⟨k, hk, rfl, hat, hbel⟩ := hrel
      have HAT := Lib.hid hat
      have HBW := Lib.hid hbel
      clear hat hbel
      by_cases hlt : k < m + 1
      · have l1 : (k : Int) < 1 + (m : Int) := by omega
        have HS := Lib.hid (Clk.pin_pnd p n k 0 HNP.out)
        have HLT := Lib.hid hlt
        have HFW := Lib.hid (few_pnd p n k 0 1000000 (by omega))
        clear hlt hk
        go_wp2_with ((go_at_call 21; refine (clkPin_any HAT.out HFW.out _).mono ?_; rintro e w3 ⟨rfl, A3, C3⟩; rw [HS.out] at A3; have HA3 := Lib.hid A3; have HB3 := Lib.hid (clk_pull HBW.out C3 Hc.out); clear A3 C3))
        go_roundw
        case rel => exact ⟨k + 1, by have := HLT.out; omega, by go_num, HA3.out, HB3.out⟩
        case measure => simp [intOf]; have := HLT.out; omega
      · have l1 : ¬ (k : Int) < 1 + (m : Int) := by omega
        have hat1 := HAT.out
        rw [show k = m + 1 by omega] at hat1
        have HAT1 := Lib.hid hat1
        clear hlt hk hat1 HAT
        go_wp2_with fail
        clear l1
        have HPQ : Hid (2 ≤ p ∧ p ≤ 50) := ⟨hp0, hp1⟩
        go_loopw [11] (fun i wr2 => ∃ (k : Nat) (h : Nat), k ≤ 2 * p ∧ i = .int .i64 k ∧ h < p ∧ ClkAt wr2 c L (Clk.pnd p n (m + 1) h) ∧ Below w.heap.size w wr2) (fun i _ => 2 * p - (intOf i).toNat)
        case atStart => exact ⟨0, 0, by omega, rfl, by omega, HAT1.out, HBW.out⟩
        case round =>
          obtain ⟨k, h, hk, rfl, hh, hat, hbel⟩ := hrel
          have HAT2 := Lib.hid hat
          have HBW2 := Lib.hid hbel
          clear hat hbel
          by_cases hlt : k < 2 * p
          · have l1 : (k : Int) < 2 * (p : Int) := by omega
            obtain ⟨s1, s2, h', hh', s3⟩ := Clk.pnd_next p n (m + 1) h HNP.out HPQ.out.1 (by omega) hh (by omega)
            have n1 : (Clk.vicN (Clk.pnd p n (m + 1) h) == (n : Int)) = false := beq_eq_false_iff_ne.2 s2
            obtain ⟨vn, HVN⟩ : ∃ vn, Hid (Clk.vicN (Clk.pnd p n (m + 1) h) = vn) := ⟨_, rfl⟩
            rw [HVN.out] at n1
            have HS1 := Lib.hid s1
            have HS3 := Lib.hid s3
            have HHH := Lib.hid hh'
            have HLT := Lib.hid hlt
            clear s1 s2 s3 hh' hlt hk hh
            go_wp2_with ((go_at_call 19; refine (clkVictim_any HAT2.out).mono ?_; rintro e w3 ⟨rfl, A3, C3⟩; rw [HS1.out, HVN.out]; rw [HS3.out] at A3; have HA3 := Lib.hid A3; have HB3 := Lib.hid (clk_pull HBW2.out C3 Hc.out); clear A3 C3))
            go_roundw
            case rel => exact ⟨k + 1, h', by have := HLT.out; omega, by go_num, HHH.out, HA3.out, HB3.out⟩
            case measure => simp [intOf]; have := HLT.out; omega
          · have l1 : ¬ (k : Int) < 2 * (p : Int) := by omega
            have HHH := Lib.hid hh
            clear hlt hk hh
            go_wp2_with fail
            clear l1
            go_loopw [14] (fun i wr3 => ∃ k : Nat, k ≤ m + 1 ∧ i = .int .i64 k ∧ ClkAt wr3 c L (Clk.pnd p n (m + 1 - k) h) ∧ Below w.heap.size w wr3) (fun i _ => m + 1 - (intOf i).toNat)
            case atStart => exact ⟨0, by omega, rfl, HAT2.out, HBW2.out⟩
            case round =>
              obtain ⟨k, hk, rfl, hat, hbel⟩ := hrel
              have HAT3 := Lib.hid hat
              have HBW3 := Lib.hid hbel
              clear hat hbel
              by_cases hlt : k < m + 1
              · have l1 : (k : Int) < 1 + (m : Int) := by omega
                have hs := Clk.unpin_pnd p n (m + 1 - (k + 1)) h HNP.out
                rw [show m + 1 - (k + 1) + 1 = m + 1 - k by omega] at hs
                have HS := Lib.hid hs
                have HLT := Lib.hid hlt
                have HFW := Lib.hid (few_pnd p n (m + 1 - k) h 1000000 (by omega))
                clear hlt hk hs
                go_wp2_with ((go_at_call 22; refine (clkUnpin_any HAT3.out HFW.out _).mono ?_; rintro e w3 ⟨rfl, A3, C3⟩; rw [HS.out.1]; rw [HS.out.2] at A3; have HA3 := Lib.hid A3; have HB3 := Lib.hid (clk_pull HBW3.out C3 Hc.out); clear A3 C3))
                go_roundw
                case rel => exact ⟨k + 1, by have := HLT.out; omega, by go_num, HA3.out, HB3.out⟩
                case measure => simp [intOf]; have := HLT.out; omega
              · have l1 : ¬ (k : Int) < 1 + (m : Int) := by omega
                have ha0 := HAT3.out
                rw [show m + 1 - k = 0 by omega] at ha0
                clear hlt hk
                have HA0 := Lib.hid ha0
                clear ha0
                have HSN := Lib.hid (Clk.unpin_none p n h HNP.out)
                have HFW := Lib.hid (few_pnd p n 0 h 1000000 (by omega))
                go_wp2_with ((go_at_call 22; refine (clkUnpin_any HA0.out HFW.out _).mono ?_; rintro e w3 ⟨rfl, A3, C3⟩; rw [HSN.out.1]; rw [HSN.out.2, Clk.pnd_rst] at A3; have HA3 := Lib.hid A3; have HB3 := Lib.hid (clk_pull HBW3.out C3 Hc.out); clear A3 C3))
                clear l1
                go_loopw [15, 16] (fun b i wr4 => ∃ k : Nat, k ≤ 2 * p ∧ i = .int .i64 k ∧ b = .bool (Clk.thereB p h n k) ∧ ClkAt wr4 c L (Clk.rst p ((h + k) % p)) ∧ Below w.heap.size w wr4) (fun _ i _ => 2 * p - (intOf i).toNat)
                case atStart => exact ⟨0, by omega, rfl, rfl, by rw [Nat.add_zero, Nat.mod_eq_of_lt HHH.out]; exact HA3.out, HB3.out⟩
                case round =>
                  obtain ⟨k, hk, rfl, rfl, hat, hbel⟩ := hrel
                  have HAT4 := Lib.hid hat
                  have HBW4 := Lib.hid hbel
                  clear hat hbel
                  by_cases hlt : k < 2 * p
                  · have l1 : (k : Int) < 2 * (p : Int) := by omega
                    have hs := Clk.vic_next p ((h + k) % p) (Nat.mod_lt _ (by omega))
                    rw [Nat.mod_add_mod] at hs
                    have HTS : Hid (Clk.thereB p h n (k + 1) = (Clk.thereB p h n k || ((h + k) % p == n))) := rfl
                    obtain ⟨x, HX⟩ : ∃ x, Hid ((h + k) % p = x) := ⟨_, rfl⟩
                    rw [HX.out] at hs HTS
                    have hxa := HAT4.out
                    rw [HX.out] at hxa
                    have HXA := Lib.hid hxa
                    have HS := Lib.hid hs
                    have HLT := Lib.hid hlt
                    clear hlt hk hs hxa HAT4
                    cases hb : Clk.thereB p h n k with
                    | true =>
                      have HBB := Lib.hid hb
                      clear hb
                      go_wp2_with ((go_at_call 19; refine (clkVictim_any HXA.out).mono ?_; rintro e w5 ⟨rfl, A5, C5⟩; rw [HS.out.1, HS.out.2.1]; rw [HS.out.2.2] at A5; have HA5 := Lib.hid A5; have HB5 := Lib.hid (clk_pull HBW4.out C5 Hc.out); clear A5 C5))
                      go_roundw
                      case rel => exact ⟨k + 1, by have := HLT.out; omega, by go_num, by rw [HTS.out, HBB.out]; rfl, by rw [← Nat.add_assoc]; exact HA5.out, HB5.out⟩
                      case measure => simp [intOf]; have := HLT.out; omega
                    | false =>
                      have HBB := Lib.hid hb
                      clear hb
                      go_wp2_with ((go_at_call 19; refine (clkVictim_any HXA.out).mono ?_; rintro e w5 ⟨rfl, A5, C5⟩; rw [HS.out.1, HS.out.2.1]; rw [HS.out.2.2] at A5; have HA5 := Lib.hid A5; have HB5 := Lib.hid (clk_pull HBW4.out C5 Hc.out); clear A5 C5))
                      go_roundw
                      case rel => exact ⟨k + 1, by have := HLT.out; omega, by go_num, by rw [HTS.out, HBB.out, Bool.false_or]; exact congrArg Value.bool (by rw [Bool.eq_iff_iff, beq_iff_eq, beq_iff_eq]; omega), by rw [← Nat.add_assoc]; exact HA5.out, HB5.out⟩
                      case measure => simp [intOf]; have := HLT.out; omega
                  · have l1 : ¬ (k : Int) < 2 * (p : Int) := by omega
                    have hte := Clk.there_end p h n HNP.out HHH.out
                    rw [show 2 * p = k by omega] at hte
                    have HTE := Lib.hid hte
                    clear hlt hk hte
                    go_wp2_with fail
                    go_ret
                    exact ⟨by rw [← HTE.out]; rfl, HBW4.out⟩

theorem clockPins_walk (p n t : Int) (w : World) (_ : -9223372036854775808 ≤ p) (_ : p ≤ 9223372036854775807) (_ : -9223372036854775808 ≤ n) (_ : n ≤ 9223372036854775807) (h2 : -9223372036854775808 ≤ t) (h3 : t ≤ 9223372036854775807) :
    Calls Try.prog 7 #[.int .i64 p, .int .i64 n, .int .i64 t] w fun e w' => e = .returned (.bool true) ∧ Below w.heap.size w w' := by
  by_cases h : 2 ≤ p ∧ p ≤ 50 ∧ 0 ≤ n ∧ n < p
  · obtain ⟨q, rfl⟩ := Int.eq_ofNat_of_zero_le (show 0 ≤ p by omega)
    obtain ⟨r, rfl⟩ := Int.eq_ofNat_of_zero_le (show 0 ≤ n by omega)
    exact clkPins_core q r (by omega) (by omega) (by omega) t h2 h3 w
  · have hs : p < 2 ∨ (¬ p < 2 ∧ 50 < p) ∨ (¬ p < 2 ∧ ¬ 50 < p ∧ n < 0) ∨ (¬ p < 2 ∧ ¬ 50 < p ∧ ¬ n < 0 ∧ p ≤ n) := by omega
    clear h
    rcases hs with g | ⟨g, g2⟩ | ⟨g, g2, g3⟩ | ⟨g, g2, g3, g4⟩
    · have d1 : decide (p < 2) = true := decide_eq_true g
      go_enter Try.func7, Try.ntmps7
      go_wp2_with ((go_at_call 9; refine (clkAwake_any _).mono ?_; rintro e w1 ⟨rfl, HB⟩; have B1 := Lib.hid HB; clear HB))
      go_ret
      exact ⟨rfl, B1.out⟩
    · have d1 : decide (p < 2) = false := decide_eq_false g
      have d2 : decide ((50 : Int) < p) = true := decide_eq_true g2
      go_enter Try.func7, Try.ntmps7
      go_wp2_with ((go_at_call 9; refine (clkAwake_any _).mono ?_; rintro e w1 ⟨rfl, HB⟩; have B1 := Lib.hid HB; clear HB))
      go_ret
      exact ⟨rfl, B1.out⟩
    · have d1 : decide (p < 2) = false := decide_eq_false g
      have d2 : decide ((50 : Int) < p) = false := decide_eq_false g2
      have d3 : decide (n < 0) = true := decide_eq_true g3
      go_enter Try.func7, Try.ntmps7
      go_wp2_with ((go_at_call 9; refine (clkAwake_any _).mono ?_; rintro e w1 ⟨rfl, HB⟩; have B1 := Lib.hid HB; clear HB))
      go_ret
      exact ⟨rfl, B1.out⟩
    · have d1 : decide (p < 2) = false := decide_eq_false g
      have d2 : decide ((50 : Int) < p) = false := decide_eq_false g2
      have d3 : decide (n < 0) = false := decide_eq_false g3
      have d4 : decide (p ≤ n) = true := decide_eq_true g4
      go_enter Try.func7, Try.ntmps7
      go_wp2_with ((go_at_call 9; refine (clkAwake_any _).mono ?_; rintro e w1 ⟨rfl, HB⟩; have B1 := Lib.hid HB; clear HB))
      go_ret
      exact ⟨rfl, B1.out⟩

end Go.Proofs.Ytffdhpoljfmjoaa
