/- The walk of the clock's statement ClockRounds. -/
import Derived.Test.YtffdhpoljfmjoaaClkPlays
import Derived.Test.YtffdhpoljfmjoaaClkPlain2
namespace Go.Proofs.Ytffdhpoljfmjoaa
open Go.RowKit

theorem clk_pull {w a b : World} {c L : Nat} (h : Below w.heap.size w a) (hc : Chg [c, L] a b) (hn : w.heap.size ≤ c ∧ w.heap.size ≤ L) : Below w.heap.size w b :=
  h.trans (hc.below h.size (by intro k hk; simp at hk; rcases hk with h | h <;> subst h <;> simp [hn]))

/-- 'places' is none that is looked at -/
def BadPlaces (lo n : Int) : Prop := n < lo ∨ 50 < n

set_option maxHeartbeats 4000000 in
theorem clkRounds_core (p : Nat) (hp0 : 0 < p) (hp1 : p ≤ 50) (n : Int) (hn0 : -9223372036854775808 ≤ n) (hn1 : n ≤ 9223372036854775807) (w : World) :
    Calls Try.prog 6 #[.int .i64 (p : Int), .int .i64 n] w fun e w' => e = .returned (.bool true) ∧ Below w.heap.size w w' := by
  obtain ⟨m, hm, hcase⟩ : ∃ m : Nat, m < 200 ∧ ((n < 0 ∧ -((n + 1).tmod 200) = (m : Int)) ∨ (¬ n < 0 ∧ n.tmod 200 = (m : Int))) := by
    by_cases hneg : n < 0
    · have h1 : 0 ≤ -((n + 1).tmod 200) := by rw [← Int.neg_tmod]; exact Int.tmod_nonneg _ (by omega)
      have h2 : -((n + 1).tmod 200) < 200 := by rw [← Int.neg_tmod]; exact Int.tmod_lt_of_pos _ (by omega)
      exact ⟨(-((n + 1).tmod 200)).toNat, by omega, .inl ⟨hneg, by omega⟩⟩
    · have h1 : 0 ≤ n.tmod 200 := Int.tmod_nonneg _ (by omega)
      have h2 : n.tmod 200 < 200 := Int.tmod_lt_of_pos _ (by omega)
      exact ⟨(n.tmod 200).toNat, by omega, .inr ⟨hneg, by omega⟩⟩
  have d1 : decide ((p : Int) < 1) = false := decide_eq_false (by omega)
  have d2 : decide ((50 : Int) < (p : Int)) = false := decide_eq_false (by omega)
  have HN := Lib.hid (clkNew_ok p hp0 (by omega))
  have HU := Lib.hid (Clk.new_usd p)
  go_enter Try.func6, Try.ntmps6
  go_wp2_with fail
  refine (clkAwake_any w).mono ?_
  rintro e w1 ⟨rfl, B1⟩
  have HB1 := Lib.hid B1
  clear B1
  go_wp2_with fail
  refine (HN.out w1).mono ?_
  rintro e w2 ⟨c, L, rfl, hc, hL, A2, B2⟩
  have HB2 := hid_trans HB1 B2
  have Hc : Hid (w.heap.size ≤ c ∧ w.heap.size ≤ L) := by have := HB1.out.size; exact ⟨by omega, by omega⟩
  rw [HU.out] at A2
  have HA2 := Lib.hid A2
  have HM := Lib.hid hm
  clear hc hL B2 A2 hm
  go_wp2_with fail
  go_loopw [8] (fun i wr => ∃ k : Nat, k ≤ p ∧ i = .int .i64 k ∧ ClkAt wr c L (Clk.usd p k) ∧ Below w.heap.size w wr) (fun i _ => p - (intOf i).toNat)
  case atStart => exact ⟨0, by omega, rfl, HA2.out, HB2.out⟩
  case round =>
    obtain ⟨k, hk, rfl, hat, hbel⟩ := hrel
    have HAT := Lib.hid hat
    have HBW := Lib.hid hbel
    clear hat hbel
    by_cases hlt : k < p
    · have l1 : (k : Int) < (p : Int) := by omega
      have HS := Lib.hid (Clk.use_usd p k hlt)
      have HLT := Lib.hid hlt
      clear hlt hk
      go_wp2_with ((go_at_call 20; refine (clkUse_any HAT.out _).mono ?_; rintro e w3 ⟨rfl, A3, C3⟩; rw [HS.out] at A3; have HA3 := Lib.hid A3; have HB3 := Lib.hid (clk_pull HBW.out C3 Hc.out); clear A3 C3))
      go_roundw
      case rel => exact ⟨k + 1, by have := HLT.out; omega, by go_num, HA3.out, HB3.out⟩
      case measure => simp [intOf]; have := HLT.out; omega
    · obtain rfl : k = p := by omega
      have hr0 : ClkAt wr c L (Clk.rnd k 0) := HAT.out
      have HR0 := Lib.hid hr0
      clear hr0 hlt hk
      rcases hcase with ⟨g1, g2⟩ | ⟨g1, g2⟩
      all_goals
        go_wp2_with fail
        go_loopw [9] (fun i wr2 => ∃ j : Nat, j ≤ m ∧ i = .int .i64 j ∧ ClkAt wr2 c L (Clk.rnd k j) ∧ Below w.heap.size w wr2) (fun i _ => m - (intOf i).toNat)
        case atStart => exact ⟨0, by omega, rfl, HR0.out, HBW.out⟩
        case round =>
          obtain ⟨j, hj, rfl, hat, hbel⟩ := hrel
          have HAT2 := Lib.hid hat
          have HBW2 := Lib.hid hbel
          clear hat hbel
          by_cases hlt : j < m
          · have l1 : (j : Int) < (m : Int) := by omega
            have l2 : (m : Int) < 200 := by have := HM.out; omega
            have hs := Clk.rnd_next k j (by omega) (by omega)
            have q1 : (1 : Int) ≤ (k : Int) := by omega
            have q2 : ((j : Int) % (k : Int)) = ((j % k : Nat) : Int) := (Int.natCast_emod j k).symm
            have q3 : ((j : Int).tmod (k : Int)) = ((j % k : Nat) : Int) := by rw [Int.tmod_eq_emod_of_nonneg (by omega)]; exact q2
            have q4 : ((k : Int) == 0) = false := beq_eq_false_iff_ne.2 (by omega)
            obtain ⟨x, HX⟩ : ∃ x, Hid (j % k = x) := ⟨_, rfl⟩
            rw [HX.out] at q2 q3 hs
            have HS := Lib.hid hs
            have HLT := Lib.hid hlt
            clear hlt hj hs
            go_wp2_with ((go_at_call 19; refine (clkVictim_any HAT2.out).mono ?_; rintro e w3 ⟨rfl, A3, C3⟩; rw [HS.out.1, HS.out.2.1]; rw [HS.out.2.2] at A3; have HA3 := Lib.hid A3; have HB3 := Lib.hid (clk_pull HBW2.out C3 Hc.out); clear A3 C3))
            go_roundw
            case rel => exact ⟨j + 1, by have := HLT.out; omega, by go_num, HA3.out, HB3.out⟩
            case measure => simp [intOf]; have := HLT.out; omega
          · obtain rfl : j = m := by omega
            clear hlt hj
            go_wp2_with fail
            go_ret
            exact ⟨rfl, HBW2.out⟩

theorem clockRounds_walk (p n : Int) (w : World) (_ : -9223372036854775808 ≤ p) (_ : p ≤ 9223372036854775807) (h2 : -9223372036854775808 ≤ n) (h3 : n ≤ 9223372036854775807) :
    Calls Try.prog 6 #[.int .i64 p, .int .i64 n] w fun e w' => e = .returned (.bool true) ∧ Below w.heap.size w w' := by
  by_cases h : 1 ≤ p ∧ p ≤ 50
  · obtain ⟨q, rfl⟩ := Int.eq_ofNat_of_zero_le (show 0 ≤ p by omega)
    exact clkRounds_core q (by omega) (by omega) n h2 h3 w
  · have hs : p < 1 ∨ (¬ p < 1 ∧ 50 < p) := by omega
    clear h
    rcases hs with g | ⟨g, g2⟩
    · have d1 : decide (p < 1) = true := decide_eq_true g
      go_enter Try.func6, Try.ntmps6
      go_wp2_with ((go_at_call 9; refine (clkAwake_any _).mono ?_; rintro e w1 ⟨rfl, HB⟩; have B1 := Lib.hid HB; clear HB))
      go_ret
      exact ⟨rfl, B1.out⟩
    · have d1 : decide (p < 1) = false := decide_eq_false g
      have d2 : decide ((50 : Int) < p) = true := decide_eq_true g2
      go_enter Try.func6, Try.ntmps6
      go_wp2_with ((go_at_call 9; refine (clkAwake_any _).mono ?_; rintro e w1 ⟨rfl, HB⟩; have B1 := Lib.hid HB; clear HB))
      go_ret
      exact ⟨rfl, B1.out⟩

end Go.Proofs.Ytffdhpoljfmjoaa
