/- The walk of the clock's statement ClockPlays. -/
import Derived.Test.YtffdhpoljfmjoaaClkLaws
namespace Go.Proofs.Ytffdhpoljfmjoaa
open Go.RowKit

attribute [local go_sem ↓] Go.wp_at_zero Go.wp_at_succ

theorem chg5_below {w a b : World} {c L r P U : Nat} (h : Below w.heap.size w a) (hc : Chg [c, L, r, P, U] a b) (hn : w.heap.size ≤ c ∧ w.heap.size ≤ L ∧ w.heap.size ≤ r ∧ w.heap.size ≤ P ∧ w.heap.size ≤ U) : Below w.heap.size w b :=
  h.trans (hc.below h.size (by intro k hk; simp at hk; rcases hk with h | h | h | h | h <;> subst h <;> simp [hn]))

theorem Both.drew {w : World} {c L r P U : Nat} {s : Clk.St} (h : Both w c L r P U s) : Both w.drew c L r P U s := h.below (Below.refl _ _).drew
theorem cellR0 {w : World} {c L r P U : Nat} {s : Clk.St} (h : Both w c L r P U s) : w.cell? ⟨r, 0, none⟩ = some (.slice (some ⟨P, 0, none⟩) s.pins.length s.pins.length) := row_cell h.b.top rfl
theorem cellR1 {w : World} {c L r P U : Nat} {s : Clk.St} (h : Both w c L r P U s) : w.cell? ⟨r, 1, none⟩ = some (.slice (some ⟨U, 0, none⟩) s.pins.length s.pins.length) := row_cell h.b.top rfl
theorem cellR2 {w : World} {c L r P U : Nat} {s : Clk.St} (h : Both w c L r P U s) : w.cell? ⟨r, 2, none⟩ = some (.int .i64 (s.hand : Int)) := row_cell h.b.top rfl

set_option maxHeartbeats 4000000 in
theorem clkPlays_core (p : Nat) (hp0 : 0 < p) (hp1 : p ≤ 1000) (q : Int) (hq : q = (p : Int) ∧ q ≤ 50 ∨ 50 < q ∧ q ≤ 1000 ∧ p = 50) (v : Value) (l : List (Int × Int)) (w : World) (h : Script w v l) :
    Calls Try.prog 4 #[.int .i64 q, v] w fun e w' => e = .returned (.bool true) ∧ Below w.heap.size w w' := by
  obtain ⟨a, cap, rfl, b, o, HA, HC⟩ := h.opened
  clear h
  go_enter Try.func4, Try.ntmps4
  go_wp2_with fail
  refine (clkAwake_any w).mono ?_
  rintro e w1 ⟨rfl, B1⟩
  have HB1 := Lib.hid B1
  clear B1
  have hsplit : (50 < q ∧ q ≤ 1000) ∨ (q = (p : Int) ∧ q ≤ 50) := by omega
  have HN := Lib.hid (clkNew_ok p hp0 hp1)
  have HRN := Lib.hid (rclkNew_ok p hp0 hp1)
  have HF0 := Lib.hid (Clk.few_new p 0)
  rcases hsplit with ⟨g1, g2⟩ | ⟨g1, g2⟩
  · obtain rfl : p = 50 := by omega
    clear hq
    go_wp2_with fail
    refine (HN.out w1).mono ?_
    rintro e w2 ⟨c, L, rfl, hc, hL, A2, B2⟩
    have HB2 := hid_trans HB1 B2
    have Hc : Hid (w.heap.size ≤ c ∧ w.heap.size ≤ L) := by have := HB1.out.size; exact ⟨by omega, by omega⟩
    clear hc hL B2
    go_wp2_with fail
    refine (HRN.out w2).mono ?_
    rintro e w3 ⟨r, P, U, rfl, hr, hP, hU, R3, B3⟩
    have HB3 := hid_trans HB2 B3
    have A3 := A2.below B3
    have Hr : Hid (w.heap.size ≤ r ∧ w.heap.size ≤ P ∧ w.heap.size ≤ U) := by have := HB2.out.size; exact ⟨by omega, by omega, by omega⟩
    clear hr hP hU B3 A2
    have HALL : Hid (w.heap.size ≤ c ∧ w.heap.size ≤ L ∧ w.heap.size ≤ r ∧ w.heap.size ≤ P ∧ w.heap.size ≤ U) := ⟨Hc.out.1, Hc.out.2, Hr.out.1, Hr.out.2.1, Hr.out.2.2⟩
    go_wp2_with fail
    go_loopw [10] (fun i wr => ∃ (k : Nat) (s : Clk.St), k ≤ l.length ∧ k ≤ 100 ∧ i = .int .i64 k ∧ Both wr c L r P U s ∧ Clk.Few s k ∧ Below w.heap.size w wr) (fun i _ => l.length - (intOf i).toNat)
    case atStart => exact ⟨0, Clk.new 50, by omega, by omega, rfl, ⟨A3, R3⟩, HF0.out, HB3.out⟩
    case round =>
      obtain ⟨k, s, hk, hk2, rfl, hboth, hfew, hbel⟩ := hrel
      have HBW := Lib.hid hbel
      by_cases hlt : k < l.length
      · by_cases hlt2 : k < 100
        · have hc := HC.out k hlt
          have hc1 := cell_later hbel hc.1
          have hc2 := cell_later hbel hc.2
          obtain rfl := HA (by intro e; subst e; simp at hlt)
          obtain ⟨kd, HKD⟩ : ∃ x, Hid ((l.getD k (0, 0)).1 = x) := ⟨_, rfl⟩
          obtain ⟨nm, HNM⟩ : ∃ x, Hid ((l.getD k (0, 0)).2 = x) := ⟨_, rfl⟩
          rw [HKD.out] at hc1
          rw [HNM.out] at hc2
          have l1 : (k : Int) < (l.length : Int) := by omega
          have l2 : (k : Int) < 100 := by omega
          have HBO := Lib.hid hboth
          have HFW := Lib.hid hfew
          have HLT : Hid (k < l.length ∧ k < 100) := ⟨hlt, hlt2⟩
          clear hbel hlt hlt2 hk hk2 hboth hfew hc
          go_wp2_with fail
          refine (clkDid_any c L r P U s kd nm wr HBO.out (Clk.few_mono HFW.out (by have := HLT.out; omega))).mono ?_
          rintro e w4 ⟨rfl, hboth, hch⟩
          have hfew := Clk.few_step HBO.out.a.ok HFW.out kd nm
          obtain ⟨s', HS⟩ : ∃ s', Hid (Clk.step s kd nm = s') := ⟨_, rfl⟩
          rw [HS.out] at hboth hfew
          have HBO' := Lib.hid hboth
          have HFW' := Lib.hid hfew
          have HBW' := Lib.hid (chg5_below HBW.out hch HALL.out)
          clear hboth hfew hch HC HKD HNM hc1 hc2
          have ct0 := cellR0 HBO'.out
          go_wp2_with fail
          have HD4 := Lib.hid (HBO'.out.drew)
          go_region_held3 (fun w' => w'.cell? ⟨r, 0, none⟩ = some (.slice (some ⟨P, 0, none⟩) s'.pins.length s'.pins.length))
            (first | (exact cellR0 HD6.out) | (exact cellR0 HD5.out) | go_keep)
            (first
              | (go_at_call 14; refine (clkPins_any c L s' _ HD4.out.a).mono ?_; rintro e w5 ⟨v5, rfl, R5, B5, -⟩; have HD5 := Lib.hid (HD4.out.below B5); have HR5 := Lib.hid R5; have HBW5 := Lib.hid (HBW'.out.drew.trans (B5.mono HBW'.out.drew.size)); clear B5 R5)
              | (go_at_call 13; refine (ints_same _ _ s'.pins _ HR5.out (rclk_rowP HD5.out.b) HD5.out.b.ok.most).mono ?_; rintro e w6 ⟨rfl, B6⟩; have HD6 := Lib.hid (HD5.out.below B6); have HBW6 := Lib.hid (HBW5.out.trans (B6.mono HBW5.out.size)); clear B6))
          clear ct0
          have ct1 := cellR1 HD6.out
          go_wp2_with fail
          have HD7 := Lib.hid (HD6.out.drew)
          go_region_held3 (fun w' => w'.cell? ⟨r, 1, none⟩ = some (.slice (some ⟨U, 0, none⟩) s'.pins.length s'.pins.length))
            (first | (exact cellR1 HD9.out) | (exact cellR1 HD8.out) | go_keep)
            (first
              | (go_at_call 16; refine (clkUsed_any c L s' _ HD7.out.a).mono ?_; rintro e w8 ⟨v8, rfl, R8, B8, -⟩; have HD8 := Lib.hid (HD7.out.below B8); have HR8 := Lib.hid R8; have HBW8 := Lib.hid (HBW6.out.drew.trans (B8.mono HBW6.out.drew.size)); clear B8 R8)
              | (go_at_call 15; refine (bools_same _ _ s'.used _ HR8.out (rclk_rowU HD8.out.b) (by rw [HD8.out.b.ok.len]; exact HD8.out.b.ok.most)).mono ?_; rintro e w9 ⟨rfl, B9⟩; have HD9 := Lib.hid (HD8.out.below B9); have HBW9 := Lib.hid (HBW8.out.trans (B9.mono HBW8.out.size)); clear B9))
          clear ct1
          have ct2 := cellR2 HD9.out
          go_wp2_with fail
          have HD10 := Lib.hid (HD9.out.drew)
          go_region_held3 (fun w' => w'.cell? ⟨r, 2, none⟩ = some (.int .i64 (s'.hand : Int)))
            (first | (exact cellR2 HD10.out) | go_keep)
            (first
              | (go_at_call 17; refine (clkHand_any c L s' _ HD10.out.a).mono ?_; rintro e w10 ⟨rfl, rfl⟩))
          go_wp2_with fail
          go_roundw
          case rel => exact ⟨k + 1, s', by have := HLT.out; omega, by have := HLT.out; omega, by go_num, HD10.out, HFW'.out, HBW9.out.drew⟩
          case measure => simp [intOf]; have := HLT.out; omega
        · obtain rfl : k = 100 := by omega
          have l1 : (100 : Int) < (l.length : Int) := by omega
          clear hbel hlt hlt2 hk hk2 hboth hfew
          go_wp2_with fail
          go_ret
          exact ⟨rfl, HBW.out⟩
      · obtain rfl : k = l.length := by omega
        have l1 : ¬ (l.length : Int) < (l.length : Int) := by omega
        clear hbel hlt hk hboth hfew
        go_wp2_with fail
        go_ret
        exact ⟨rfl, HBW.out⟩
  · subst g1
    clear hq
    have g3 : ¬ (50 : Int) < (p : Int) := by omega
    have g4 : decide ((50 : Int) < (p : Int)) = false := decide_eq_false g3
    go_wp2_with fail
    refine (HN.out w1).mono ?_
    rintro e w2 ⟨c, L, rfl, hc, hL, A2, B2⟩
    have HB2 := hid_trans HB1 B2
    have Hc : Hid (w.heap.size ≤ c ∧ w.heap.size ≤ L) := by have := HB1.out.size; exact ⟨by omega, by omega⟩
    clear hc hL B2
    go_wp2_with fail
    refine (HRN.out w2).mono ?_
    rintro e w3 ⟨r, P, U, rfl, hr, hP, hU, R3, B3⟩
    have HB3 := hid_trans HB2 B3
    have A3 := A2.below B3
    have Hr : Hid (w.heap.size ≤ r ∧ w.heap.size ≤ P ∧ w.heap.size ≤ U) := by have := HB2.out.size; exact ⟨by omega, by omega, by omega⟩
    clear hr hP hU B3 A2
    have HALL : Hid (w.heap.size ≤ c ∧ w.heap.size ≤ L ∧ w.heap.size ≤ r ∧ w.heap.size ≤ P ∧ w.heap.size ≤ U) := ⟨Hc.out.1, Hc.out.2, Hr.out.1, Hr.out.2.1, Hr.out.2.2⟩
    go_wp2_with fail
    go_loopw [10] (fun i wr => ∃ (k : Nat) (s : Clk.St), k ≤ l.length ∧ k ≤ 100 ∧ i = .int .i64 k ∧ Both wr c L r P U s ∧ Clk.Few s k ∧ Below w.heap.size w wr) (fun i _ => l.length - (intOf i).toNat)
    case atStart => exact ⟨0, Clk.new p, by omega, by omega, rfl, ⟨A3, R3⟩, HF0.out, HB3.out⟩
    case round =>
      obtain ⟨k, s, hk, hk2, rfl, hboth, hfew, hbel⟩ := hrel
      have HBW := Lib.hid hbel
      by_cases hlt : k < l.length
      · by_cases hlt2 : k < 100
        · have hc := HC.out k hlt
          have hc1 := cell_later hbel hc.1
          have hc2 := cell_later hbel hc.2
          obtain rfl := HA (by intro e; subst e; simp at hlt)
          obtain ⟨kd, HKD⟩ : ∃ x, Hid ((l.getD k (0, 0)).1 = x) := ⟨_, rfl⟩
          obtain ⟨nm, HNM⟩ : ∃ x, Hid ((l.getD k (0, 0)).2 = x) := ⟨_, rfl⟩
          rw [HKD.out] at hc1
          rw [HNM.out] at hc2
          have l1 : (k : Int) < (l.length : Int) := by omega
          have l2 : (k : Int) < 100 := by omega
          have HBO := Lib.hid hboth
          have HFW := Lib.hid hfew
          have HLT : Hid (k < l.length ∧ k < 100) := ⟨hlt, hlt2⟩
          clear hbel hlt hlt2 hk hk2 hboth hfew hc
          go_wp2_with fail
          refine (clkDid_any c L r P U s kd nm wr HBO.out (Clk.few_mono HFW.out (by have := HLT.out; omega))).mono ?_
          rintro e w4 ⟨rfl, hboth, hch⟩
          have hfew := Clk.few_step HBO.out.a.ok HFW.out kd nm
          obtain ⟨s', HS⟩ : ∃ s', Hid (Clk.step s kd nm = s') := ⟨_, rfl⟩
          rw [HS.out] at hboth hfew
          have HBO' := Lib.hid hboth
          have HFW' := Lib.hid hfew
          have HBW' := Lib.hid (chg5_below HBW.out hch HALL.out)
          clear hboth hfew hch HC HKD HNM hc1 hc2
          have ct0 := cellR0 HBO'.out
          go_wp2_with fail
          have HD4 := Lib.hid (HBO'.out.drew)
          go_region_held3 (fun w' => w'.cell? ⟨r, 0, none⟩ = some (.slice (some ⟨P, 0, none⟩) s'.pins.length s'.pins.length))
            (first | (exact cellR0 HD6.out) | (exact cellR0 HD5.out) | go_keep)
            (first
              | (go_at_call 14; refine (clkPins_any c L s' _ HD4.out.a).mono ?_; rintro e w5 ⟨v5, rfl, R5, B5, -⟩; have HD5 := Lib.hid (HD4.out.below B5); have HR5 := Lib.hid R5; have HBW5 := Lib.hid (HBW'.out.drew.trans (B5.mono HBW'.out.drew.size)); clear B5 R5)
              | (go_at_call 13; refine (ints_same _ _ s'.pins _ HR5.out (rclk_rowP HD5.out.b) HD5.out.b.ok.most).mono ?_; rintro e w6 ⟨rfl, B6⟩; have HD6 := Lib.hid (HD5.out.below B6); have HBW6 := Lib.hid (HBW5.out.trans (B6.mono HBW5.out.size)); clear B6))
          clear ct0
          have ct1 := cellR1 HD6.out
          go_wp2_with fail
          have HD7 := Lib.hid (HD6.out.drew)
          go_region_held3 (fun w' => w'.cell? ⟨r, 1, none⟩ = some (.slice (some ⟨U, 0, none⟩) s'.pins.length s'.pins.length))
            (first | (exact cellR1 HD9.out) | (exact cellR1 HD8.out) | go_keep)
            (first
              | (go_at_call 16; refine (clkUsed_any c L s' _ HD7.out.a).mono ?_; rintro e w8 ⟨v8, rfl, R8, B8, -⟩; have HD8 := Lib.hid (HD7.out.below B8); have HR8 := Lib.hid R8; have HBW8 := Lib.hid (HBW6.out.drew.trans (B8.mono HBW6.out.drew.size)); clear B8 R8)
              | (go_at_call 15; refine (bools_same _ _ s'.used _ HR8.out (rclk_rowU HD8.out.b) (by rw [HD8.out.b.ok.len]; exact HD8.out.b.ok.most)).mono ?_; rintro e w9 ⟨rfl, B9⟩; have HD9 := Lib.hid (HD8.out.below B9); have HBW9 := Lib.hid (HBW8.out.trans (B9.mono HBW8.out.size)); clear B9))
          clear ct1
          have ct2 := cellR2 HD9.out
          go_wp2_with fail
          have HD10 := Lib.hid (HD9.out.drew)
          go_region_held3 (fun w' => w'.cell? ⟨r, 2, none⟩ = some (.int .i64 (s'.hand : Int)))
            (first | (exact cellR2 HD10.out) | go_keep)
            (first
              | (go_at_call 17; refine (clkHand_any c L s' _ HD10.out.a).mono ?_; rintro e w10 ⟨rfl, rfl⟩))
          go_wp2_with fail
          go_roundw
          case rel => exact ⟨k + 1, s', by have := HLT.out; omega, by have := HLT.out; omega, by go_num, HD10.out, HFW'.out, HBW9.out.drew⟩
          case measure => simp [intOf]; have := HLT.out; omega
        · obtain rfl : k = 100 := by omega
          have l1 : (100 : Int) < (l.length : Int) := by omega
          clear hbel hlt hlt2 hk hk2 hboth hfew
          go_wp2_with fail
          go_ret
          exact ⟨rfl, HBW.out⟩
      · obtain rfl : k = l.length := by omega
        have l1 : ¬ (l.length : Int) < (l.length : Int) := by omega
        clear hbel hlt hk hboth hfew
        go_wp2_with fail
        go_ret
        exact ⟨rfl, HBW.out⟩

theorem clockPlays_core (n : Int) (v : Value) (l : List (Int × Int)) (w : World) (h : Script w v l) :
    Calls Try.prog 4 #[.int .i64 n, v] w fun e w' => e = .returned (.bool true) ∧ Below w.heap.size w w' := by
  by_cases h1 : n < 1 ∨ 1000 < n
  · obtain ⟨a, cap, rfl, b, o, HA, HC⟩ := h.opened
    have HN := Lib.hid (clkNew_bad n h1)
    have HR := Lib.hid (rclkNew_bad n h1)
    have hsplit : n ≤ 50 ∨ 1000 < n := by omega
    clear h h1
    rcases hsplit with g | g
    · have g4 : decide ((50 : Int) < n) = false := decide_eq_false (by omega)
      go_enter Try.func4, Try.ntmps4
      go_wp2_with (first
        | (go_at_call 9; refine (clkAwake_any _).mono ?_; rintro e w1 ⟨rfl, HB⟩; have B1 := Lib.hid HB; clear HB)
        | (go_at_call 10; refine (HN.out _).mono ?_; rintro e w2 ⟨rfl, rfl⟩)
        | (go_at_call 11; refine (HR.out _).mono ?_; rintro e w2 ⟨rfl, rfl⟩))
      go_ret
      exact ⟨rfl, B1.out⟩
    · have g4 : decide ((50 : Int) < n) = true := decide_eq_true (by omega)
      have g5 : decide (n ≤ (1000 : Int)) = false := decide_eq_false (by omega)
      go_enter Try.func4, Try.ntmps4
      go_wp2_with (first
        | (go_at_call 9; refine (clkAwake_any _).mono ?_; rintro e w1 ⟨rfl, HB⟩; have B1 := Lib.hid HB; clear HB)
        | (go_at_call 10; refine (HN.out _).mono ?_; rintro e w2 ⟨rfl, rfl⟩)
        | (go_at_call 11; refine (HR.out _).mono ?_; rintro e w2 ⟨rfl, rfl⟩))
      go_ret
      exact ⟨rfl, B1.out⟩
  · by_cases h2 : n ≤ 50
    · exact clkPlays_core n.toNat (by omega) (by omega) n (by omega) v l w h
    · exact clkPlays_core 50 (by omega) (by omega) n (by omega) v l w h

theorem clockPlays_walk (n : Int) (v : Value) (l : List (Int × Int)) (w : World) (_ : -9223372036854775808 ≤ n) (_ : n ≤ 9223372036854775807) (h : Script w v l) :
    Calls Try.prog 4 #[.int .i64 n, v] w fun e w' => e = .returned (.bool true) ∧ Below w.heap.size w w' := clockPlays_core n v l w h

end Go.Proofs.Ytffdhpoljfmjoaa
