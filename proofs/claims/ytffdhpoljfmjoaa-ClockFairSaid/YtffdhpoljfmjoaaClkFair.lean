/- The walk of the clock's statement ClockFair. -/
import Derived.Test.YtffdhpoljfmjoaaClkDone
import Derived.WalkSmall
namespace Go.Proofs.Ytffdhpoljfmjoaa
open Go.RowKit

attribute [local go_sem ↓] Go.wp_at_zero Go.wp_at_succ

theorem Row.chg {fs : List Nat} {w w' : World} {v : Value} {l : List Value} (h : Row w v l) (hc : Chg fs w w') (hn : ∀ k, v.ownBlock = some k → k ∉ fs) : Row w' v l :=
  h.kept fun k hk hlt => hc.block k hlt (hn k hk)

theorem natVals_getL (l : List Nat) (i : Nat) (h : i < l.length) : (natVals l)[i]? = some (.int .i64 ((l.getD i 0 : Nat) : Int)) := by
  simp [natVals, List.getD, h]

theorem not_cl {v : Value} {c L g : Nat} (h : ∀ k, v.ownBlock = some k → g ≤ k) (hc : c < g) (hL : L < g) : ∀ k, v.ownBlock = some k → k ∉ [c, L] := by
  intro k hk
  have := h k hk
  simp
  omega

set_option maxHeartbeats 8000000 in
theorem clkFair_core (p : Nat) (hp0 : 0 < p) (hp1 : p ≤ 50) (v : Value) (l : List (Int × Int)) (w : World) (h : Script w v l) :
    Calls Try.prog 5 #[.int .i64 (p : Int), v] w fun e w' => e = .returned (.bool true) ∧ Below w.heap.size w w' := by
  obtain ⟨a, cap, rfl, b, o, HA, HC⟩ := h.opened
  have HS := Lib.hid h
  clear h HA HC
  have d1 : decide ((p : Int) < 1) = false := decide_eq_false (by omega)
  have d2 : decide ((50 : Int) < (p : Int)) = false := decide_eq_false (by omega)
  have HN := Lib.hid (clkNew_ok p hp0 (by omega))
  have HF0 := Lib.hid (Clk.few_new p 0)
  have HO0 := Lib.hid (Clk.ok_new p hp0 (by omega))
  go_enter Try.func5, Try.ntmps5
  go_wp2_with fail
  refine (clkAwake_any w).mono ?_
  rintro e w1 ⟨rfl, B1⟩
  have HB1 := Lib.hid B1
  clear B1
  go_wp2_with fail
  refine (HN.out w1).mono ?_
  rintro e w2 ⟨c, L, rfl, hc, hL, A2, B2⟩
  have HB2 := hid_trans HB1 B2
  have Hc : Hid (w.heap.size ≤ c ∧ w.heap.size ≤ L) := by have := HB1.out.size; exact ⟨by omega, by omega⟩
  have HA2 := Lib.hid A2
  clear hc hL B2 A2
  have HD := Lib.hid (clkDone_any c L (Clk.new p) (.slice a l.length cap) l w2 HA2.out HF0.out (HS.out.below HB2.out) (fun e k hk => by
    have h1 := HS.out.old e k hk
    have h2 := Hc.out
    simp
    omega))
  go_wp2_with fail
  refine HD.out.mono ?_
  rintro e w3 ⟨rfl, A3, C3⟩
  obtain ⟨s, HSS⟩ : ∃ s, Hid (Clk.runTo (Clk.new p) l (upTo l) = s) := ⟨_, rfl⟩
  rw [HSS.out] at A3
  have hlen : s.pins.length = p := by rw [← HSS.out, run_len HO0.out]; simp [Clk.new]
  have HB3 := Lib.hid (clk_pull HB2.out C3 Hc.out)
  have HA3 := Lib.hid A3
  have HLEN := Lib.hid hlen
  clear A3 C3 hlen HSS HD
  go_wp2_with fail
  refine (clkPins_any c L s w3 HA3.out).mono ?_
  rintro e w4 ⟨v1, rfl, R1, B4, O1⟩
  have n1 := not_cl O1 (lt_of_block HA3.out.top) (lt_of_block HA3.out.row)
  have HA4 := Lib.hid (HA3.out.below B4)
  have HB4 := hid_trans HB3 B4
  have HN1 := Lib.hid n1
  clear B4 n1 O1 HA3
  go_wp2_with fail
  refine (clkUsed_any c L s w4 HA4.out).mono ?_
  rintro e w5 ⟨v2, rfl, R2, B5, O2⟩
  have n2 := not_cl O2 (lt_of_block HA4.out.top) (lt_of_block HA4.out.row)
  have HA5 := Lib.hid (HA4.out.below B5)
  have HB5 := hid_trans HB4 B5
  have HN2 := Lib.hid n2
  have HR1 := Lib.hid (R1.below B5)
  have HR2 := Lib.hid R2
  clear B5 n2 O2 R1 R2 HA4
  obtain ⟨a1, c1, hv1, -, b1, o1, HQ1, HC1⟩ := HR1.out.opened
  obtain ⟨a2, c2, hv2, -, b2, o2, HQ2, HC2⟩ := HR2.out.opened
  have e1 : (natVals s.pins).length = p := by rw [natVals_length]; exact HLEN.out
  have e2 : (boolVals s.used).length = p := by rw [boolVals_length, HA5.out.ok.len]; exact HLEN.out
  obtain rfl := HQ1 (List.ne_nil_of_length_pos (by omega))
  obtain rfl := HQ2 (List.ne_nil_of_length_pos (by omega))
  rw [e1] at hv1
  rw [e2] at hv2
  subst hv1
  subst hv2
  have HE2 := Lib.hid e2
  clear e1 e2 HQ1 HQ2
  go_wp2_with fail
  go_loop [10, 11, 12] (fun x y i => ∃ k : Nat, k ≤ p ∧ i = .int .i64 k ∧ x = .int .i64 (Clk.cnt (Clk.isFree s) k : Nat) ∧ y = .int .i64 (Clk.cnt (Clk.isFresh s) k : Nat)) (fun _ _ i => p - (intOf i).toNat)
  case atStart => exact ⟨0, by omega, rfl, rfl, rfl⟩
  case round =>
    obtain ⟨k, hk, rfl, rfl, rfl⟩ := hrel
    have q1 := Clk.cnt_le (Clk.isFree s) k
    have q2 := Clk.cnt_le (Clk.isFresh s) k
    by_cases hlt : k < p
    · have t1 := HC1.out k _ (natVals_getL s.pins k (by have := HLEN.out; omega))
      have t2 := HC2.out k _ (boolVals_getL s.used k (by have := HE2.out; rw [boolVals_length] at this; omega))
      have HI1 : Hid (Clk.cnt (Clk.isFree s) (k + 1) = Clk.cnt (Clk.isFree s) k + (if (s.pins.getD k 0 == 0) then 1 else 0)) := rfl
      have HI2 : Hid (Clk.cnt (Clk.isFresh s) (k + 1) = Clk.cnt (Clk.isFresh s) k + (if ((s.pins.getD k 0 == 0) && !(s.used.getD k false)) then 1 else 0)) := rfl
      obtain ⟨x, HX⟩ : ∃ x, Hid (Clk.cnt (Clk.isFree s) k = x) := ⟨_, rfl⟩
      obtain ⟨y, HY⟩ : ∃ y, Hid (Clk.cnt (Clk.isFresh s) k = y) := ⟨_, rfl⟩
      obtain ⟨pn, HP⟩ : ∃ z, Hid (s.pins.getD k 0 = z) := ⟨_, rfl⟩
      obtain ⟨us, HU⟩ : ∃ z, Hid (s.used.getD k false = z) := ⟨_, rfl⟩
      rw [HX.out] at q1 HI1 ⊢
      rw [HY.out] at q2 HI2 ⊢
      rw [HP.out] at t1 HI1 HI2
      rw [HU.out] at t2 HI2
      have l1 : (k : Int) < (p : Int) := by omega
      have HLT := Lib.hid hlt
      clear hlt hk
      by_cases hp : pn = 0
      · subst hp
        cases us with
        | true =>
          go_wp2
          go_round
          case rel => exact ⟨k + 1, by have := HLT.out; omega, by go_num, by rw [HI1.out]; go_num, by rw [HI2.out]; go_num⟩
          case measure => simp [intOf]; have := HLT.out; omega
        | false =>
          go_wp2
          go_round
          case rel => exact ⟨k + 1, by have := HLT.out; omega, by go_num, by rw [HI1.out]; go_num, by rw [HI2.out]; go_num⟩
          case measure => simp [intOf]; have := HLT.out; omega
      · have n1 : ((pn : Int) == 0) = false := beq_eq_false_iff_ne.2 (by omega)
        have n2 : Hid ((pn == 0) = false) := beq_eq_false_iff_ne.2 hp
        clear hp
        go_wp2
        go_round
        case rel => exact ⟨k + 1, by have := HLT.out; omega, by go_num, by rw [HI1.out, n2.out]; go_num, by rw [HI2.out, n2.out]; go_num⟩
        case measure => simp [intOf]; have := HLT.out; omega
    · obtain rfl : k = p := by omega
      clear hlt hk
      have hcf := Clk.cnt_free s
      rw [HLEN.out] at hcf
      obtain ⟨x, HX⟩ : ∃ x, Hid (Clk.cnt (Clk.isFree s) k = x) := ⟨_, rfl⟩
      obtain ⟨y, HY⟩ : ∃ y, Hid (Clk.cnt (Clk.isFresh s) k = y) := ⟨_, rfl⟩
      rw [HX.out] at q1 hcf ⊢
      rw [HY.out] at q2 ⊢
      cases hf : Clk.free s with
      | false =>
        obtain rfl : x = 0 := hcf.2 hf
        have HVN : Hid (Clk.vicN s = 0 ∧ Clk.vicE s = 60 ∧ Clk.vicS s = s) := by
          unfold Hid Clk.vicN Clk.vicE Clk.vicS
          rw [hf]
          exact ⟨rfl, rfl, rfl⟩
        clear hcf hf
        go_wp2_with fail
        refine (clkVictim_any HA5.out).mono ?_
        rintro e w6 ⟨rfl, A6, C6⟩
        rw [HVN.out.1, HVN.out.2.1]
        rw [HVN.out.2.2] at A6
        have HA6 := Lib.hid A6
        have HB6 := Lib.hid (clk_pull HB5.out C6 Hc.out)
        have HR6 := Lib.hid (HR1.out.chg C6 HN1.out)
        clear A6 C6
        go_wp2_with fail
        refine (clkPins_any c L s w6 HA6.out).mono ?_
        rintro e w7 ⟨v7, rfl, R7, B7, -⟩
        have HR7 := Lib.hid R7
        have HR67 := Lib.hid (HR6.out.below B7)
        have HB7 := hid_trans HB6 B7
        clear R7 B7
        go_wp2_with fail
        refine (ints_same _ _ s.pins _ HR7.out HR67.out HA6.out.ok.most).mono ?_
        rintro e w8 ⟨rfl, B8⟩
        have HB8 := hid_trans HB7 B8
        clear B8
        go_wp2_with fail
        go_ret
        exact ⟨rfl, HB8.out⟩
      | true =>
        have hx0 : x ≠ 0 := by intro e; rw [hcf.1 e] at hf; cases hf
        have n0 : ((x : Int) == 0) = false := beq_eq_false_iff_ne.2 (by omega)
        obtain ⟨z, f1, f2, f3, f4, f5, f6, f7⟩ := Clk.fair s HA5.out.ok hf
        rw [HLEN.out] at f3 f6 f7
        rw [HY.out] at f7
        have t1 := HC1.out z _ (natVals_getL s.pins z (by have := HLEN.out; omega))
        have t2 := HC2.out z _ (boolVals_getL s.used z (by have := HE2.out; rw [boolVals_length] at this; omega))
        rw [f4] at t1
        have z0 : decide ((z : Int) < 0) = false := decide_eq_false (by omega)
        have z1 : decide (k ≤ z) = false := decide_eq_false (by omega)
        have z2 : (z : Int) < (k : Int) := by omega
        have z3 : (0 : Int) ≤ (z : Int) := by omega
        have HF1 := Lib.hid f1
        have HF2 := Lib.hid f2
        have HF5 := Lib.hid f5
        have HF6 := Lib.hid f6
        have HF7 := Lib.hid f7
        clear hcf hf hx0 f1 f2 f3 f4 f5 f6 f7
        go_wp2_with fail
        refine (clkVictim_any HA5.out).mono ?_
        rintro e w6 ⟨rfl, A6, C6⟩
        rw [HF1.out, HF2.out]
        have HA6 := Lib.hid A6
        have HB6 := Lib.hid (clk_pull HB5.out C6 Hc.out)
        have HR6 := Lib.hid (HR1.out.chg C6 HN1.out)
        have t1a := (World.cell?_of_block (w := w5) (a := ⟨b1, o1 + z, none⟩) (C6.block b1 (block_lt_of_cell t1) (HN1.out b1 rfl))).trans t1
        have t2a := (World.cell?_of_block (w := w5) (a := ⟨b2, o2 + z, none⟩) (C6.block b2 (block_lt_of_cell t2) (HN2.out b2 rfl))).trans t2
        clear A6 C6 t1 t2
        go_wp2_with fail
        refine (clkPins_any c L _ w6 HA6.out).mono ?_
        rintro e w7 ⟨v7, rfl, R7, B7, -⟩
        rw [HF5.out] at R7
        have HR7 := Lib.hid R7
        have HR67 := Lib.hid (HR6.out.below B7)
        have t1b := cell_later B7 t1a
        have t2b := cell_later B7 t2a
        have HA7 := Lib.hid (HA6.out.below B7)
        have HB7 := hid_trans HB6 B7
        clear R7 B7 t1a t2a
        go_wp2_with fail
        refine (ints_same _ _ s.pins _ HR7.out HR67.out HA5.out.ok.most).mono ?_
        rintro e w8 ⟨rfl, B8⟩
        have t1c := cell_later B8 t1b
        have t2c := cell_later B8 t2b
        have HA8 := Lib.hid (HA7.out.below B8)
        have HB8 := hid_trans HB7 B8
        clear B8 t1b t2b
        have e1 : IntKind.i64.wrap ((z : Int) + 1) = (z : Int) + 1 := IntWalk.i64_in _ (by omega)
        obtain ⟨h', HH⟩ : ∃ h', Hid ((z + 1) % k = h') := ⟨_, rfl⟩
        have e2 : ((z : Int) + 1).tmod (k : Int) = (h' : Int) := by rw [Int.tmod_eq_emod_of_nonneg (by omega), ← HH.out]; exact (Int.natCast_emod (z + 1) k).symm
        have e4 : ((z : Int) + 1) % (k : Int) = (h' : Int) := by rw [← HH.out]; exact (Int.natCast_emod (z + 1) k).symm
        have hh1 : h' < k := by rw [← HH.out]; exact Nat.mod_lt _ (by omega)
        have e3 : IntKind.i64.wrap (h' : Int) = (h' : Int) := IntWalk.i64_in _ (by omega)
        have e5 : ((k : Int) == 0) = false := beq_eq_false_iff_ne.2 (by omega)
        have e6 : ¬ k = 0 := by omega
        have hd6 := HF6.out
        rw [HH.out] at hd6
        have HD6 := Lib.hid hd6
        clear hd6 hh1
        have HA8' := Lib.hid (HA8.out.below (Below.refl _ _).drew)
        by_cases hy : y = 0
        · subst hy
          have HND : Hid (∀ n, Calls Try.prog 17 #[.pointer (some ⟨c, 0, none⟩)] (w8.drewN n) fun e w' => e = .returned (.int .i64 (h' : Int)) ∧ w' = w8.drewN n) := by
            intro n
            refine (clkHand_any c L _ _ (HA8.out.kept (Chg.drewN (Chg.refl [] w8) n) (by simp) (by simp))).mono ?_
            rintro e w9 ⟨rfl, rfl⟩
            rw [HD6.out]
            exact ⟨rfl, rfl⟩
          go_wp2_with fail
          go_quiet ((go_at_call 17; exact Calls.quiet_of_same (HND.out _)))
          go_wp2_with fail
          go_ret
          exact ⟨rfl, HB8.out.trans ⟨rfl, rfl, rfl, Nat.le_refl _, fun _ _ => rfl⟩⟩
        · have hu := HF7.out hy
          rw [hu] at t2c
          have n3 : ((y : Int) == 0) = false := beq_eq_false_iff_ne.2 (by omega)
          clear hu hy
          go_wp2_with fail
          go_region_held3 (fun w' => w'.cell? ⟨b1, o1 + z, none⟩ = some (.int .i64 0) ∧ w'.cell? ⟨b2, o2 + z, none⟩ = some (.bool false))
            (go_keep) (first | (go_at_call 17; refine (clkHand_any c L _ _ HA8'.out).mono ?_; rintro e w9 ⟨rfl, rfl⟩; rw [HD6.out]))
          go_wp2_with fail
          go_ret
          exact ⟨rfl, HB8.out.drew⟩

theorem clockFair_walk (p : Int) (v : Value) (l : List (Int × Int)) (w : World) (_ : -9223372036854775808 ≤ p) (_ : p ≤ 9223372036854775807) (hs : Script w v l) :
    Calls Try.prog 5 #[.int .i64 p, v] w fun e w' => e = .returned (.bool true) ∧ Below w.heap.size w w' := by
  by_cases h : 1 ≤ p ∧ p ≤ 50
  · obtain ⟨q, rfl⟩ := Int.eq_ofNat_of_zero_le (show 0 ≤ p by omega)
    exact clkFair_core q (by omega) (by omega) v l w hs
  · obtain ⟨a, cap, rfl, b, o, HA, HC⟩ := hs.opened
    have hs2 : p < 1 ∨ (¬ p < 1 ∧ 50 < p) := by omega
    clear h hs
    rcases hs2 with g | ⟨g, g2⟩
    · have d1 : decide (p < 1) = true := decide_eq_true g
      go_enter Try.func5, Try.ntmps5
      go_wp2_with ((go_at_call 9; refine (clkAwake_any _).mono ?_; rintro e w1 ⟨rfl, HB⟩; have B1 := Lib.hid HB; clear HB))
      go_ret
      exact ⟨rfl, B1.out⟩
    · have d1 : decide (p < 1) = false := decide_eq_false g
      have d2 : decide ((50 : Int) < p) = true := decide_eq_true g2
      go_enter Try.func5, Try.ntmps5
      go_wp2_with ((go_at_call 9; refine (clkAwake_any _).mono ?_; rintro e w1 ⟨rfl, HB⟩; have B1 := Lib.hid HB; clear HB))
      go_ret
      exact ⟨rfl, B1.out⟩

end Go.Proofs.Ytffdhpoljfmjoaa
