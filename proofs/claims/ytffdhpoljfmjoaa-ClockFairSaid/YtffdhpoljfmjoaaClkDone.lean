/- The walk of 'done': a script is done to a clock. -/
import Derived.Test.YtffdhpoljfmjoaaClkPins
namespace Go.Proofs.Ytffdhpoljfmjoaa
open Go.RowKit

/-- how many calls of a script are done -/
def upTo (l : List (Int × Int)) : Nat := min l.length 100

theorem run_ok {s : Clk.St} (h : Clk.Ok s) (l : List (Int × Int)) (k : Nat) : Clk.Ok (Clk.runTo s l k) := by
  induction k with
  | zero => exact h
  | succ k ih => exact Clk.step_ok ih _ _
theorem run_len {s : Clk.St} (h : Clk.Ok s) (l : List (Int × Int)) (k : Nat) : (Clk.runTo s l k).pins.length = s.pins.length := by
  induction k with
  | zero => rfl
  | succ k ih => show (Clk.step (Clk.runTo s l k) _ _).pins.length = _; rw [Clk.step_len (run_ok h l k)]; exact ih
theorem run_few {s : Clk.St} (h : Clk.Ok s) (hf : Clk.Few s 0) (l : List (Int × Int)) (k : Nat) : Clk.Few (Clk.runTo s l k) k := by
  induction k with
  | zero => exact hf
  | succ k ih => exact Clk.few_step (run_ok h l k) ih _ _

def Done (w : World) (c L : Nat) (s : Clk.St) (e : Ending) (w' : World) : Prop := e = .returned (.tuple #[]) ∧ ClkAt w' c L s ∧ Chg [c, L] w w'

set_option maxHeartbeats 4000000 in
theorem clkDone_any (c L : Nat) (s : Clk.St) (v : Value) (l : List (Int × Int)) (w : World) (h : ClkAt w c L s) (hf : Clk.Few s 0) (hs : Script w v l) (hn : l ≠ [] → ∀ k, v.ownBlock = some k → k ∉ [c, L]) :
    Calls Try.prog 18 #[.pointer (some ⟨c, 0, none⟩), v] w (Done w c L (Clk.runTo s l (upTo l))) := by
  obtain ⟨a, cap, rfl, b, o, HA, HC⟩ := hs.opened
  have H := Lib.hid h
  have HF := Lib.hid (run_few h.ok hf l)
  have HN : Hid (l ≠ [] → b ∉ [c, L]) := by
    intro e
    have := HA e
    subst this
    exact hn e b rfl
  clear h hf hs hn
  go_enter Try.func18, Try.ntmps18
  go_wp2_with fail
  go_loopw [4] (fun i wr => ∃ k : Nat, k ≤ l.length ∧ k ≤ 100 ∧ i = .int .i64 k ∧ ClkAt wr c L (Clk.runTo s l k) ∧ Chg [c, L] w wr) (fun i _ => l.length - (intOf i).toNat)
  case atStart => exact ⟨0, by omega, by omega, rfl, H.out, Chg.refl _ _⟩
  case round =>
    obtain ⟨k, hk, hk2, rfl, hat, hch⟩ := hrel
    have HAT := Lib.hid hat
    have HCH := Lib.hid hch
    by_cases hlt : k < l.length
    · by_cases hlt2 : k < 100
      · have hne : l ≠ [] := by intro e; subst e; simp at hlt
        have hc := HC.out k hlt
        have lb := block_lt_of_cell hc.1
        have hb := hch.block b lb (HN.out hne)
        have hc1 := (World.cell?_of_block (w := w) (a := ⟨b, o + k * 2, none⟩) hb).trans hc.1
        have hc2 := (World.cell?_of_block (w := w) (a := ⟨b, o + k * 2 + 1, none⟩) hb).trans hc.2
        obtain rfl := HA hne
        have HST : Hid (Clk.runTo s l (k + 1) = Clk.step (Clk.runTo s l k) (l.getD k (0, 0)).1 (l.getD k (0, 0)).2) := rfl
        have hfw := Clk.few_mono (HF.out k) (show k ≤ 1000000 by omega)
        obtain ⟨t, HT⟩ : ∃ t, Hid (Clk.runTo s l k = t) := ⟨_, rfl⟩
        obtain ⟨kd, HKD⟩ : ∃ x, Hid ((l.getD k (0, 0)).1 = x) := ⟨_, rfl⟩
        obtain ⟨nm, HNM⟩ : ∃ x, Hid ((l.getD k (0, 0)).2 = x) := ⟨_, rfl⟩
        rw [HKD.out] at hc1 HST
        rw [HNM.out] at hc2 HST
        rw [HT.out] at HST hfw hat
        have HFW := Lib.hid hfw
        have HAT2 := Lib.hid hat
        have l1 : (k : Int) < (l.length : Int) := by omega
        have l2 : (k : Int) < 100 := by omega
        have HLT : Hid (k < l.length ∧ k < 100) := ⟨hlt, hlt2⟩
        clear hne hc lb hb hat hch hlt hlt2 hk hk2 HAT HKD HNM HT hfw
        by_cases h1 : kd = 1
        · subst h1
          go_wp2_with ((go_at_call 20; refine (clkUse_any HAT2.out _).mono ?_; rintro e w3 ⟨rfl, A3, C3⟩; have HA3 := Lib.hid A3; have HC3 := Lib.hid (HCH.out.trans C3); clear A3 C3))
          go_roundw
          case rel => exact ⟨k + 1, by have := HLT.out; omega, by have := HLT.out; omega, by go_num, by rw [HST.out]; exact HA3.out, HC3.out⟩
          case measure => simp [intOf]; have := HLT.out; omega
        by_cases h2 : kd = 2
        · subst h2
          clear h1
          go_wp2_with ((go_at_call 21; refine (clkPin_any HAT2.out HFW.out _).mono ?_; rintro e w3 ⟨rfl, A3, C3⟩; have HA3 := Lib.hid A3; have HC3 := Lib.hid (HCH.out.trans C3); clear A3 C3))
          go_roundw
          case rel => exact ⟨k + 1, by have := HLT.out; omega, by have := HLT.out; omega, by go_num, by rw [HST.out]; exact HA3.out, HC3.out⟩
          case measure => simp [intOf]; have := HLT.out; omega
        by_cases h3 : kd = 3
        · subst h3
          clear h1 h2
          go_wp2_with ((go_at_call 22; refine (clkUnpin_any HAT2.out HFW.out _).mono ?_; rintro e w3 ⟨rfl, A3, C3⟩; have HA3 := Lib.hid A3; have HC3 := Lib.hid (HCH.out.trans C3); clear A3 C3))
          go_roundw
          case rel => exact ⟨k + 1, by have := HLT.out; omega, by have := HLT.out; omega, by go_num, by rw [HST.out]; exact HA3.out, HC3.out⟩
          case measure => simp [intOf]; have := HLT.out; omega
        have d1 : (kd == 1) = false := beq_eq_false_iff_ne.2 h1
        have d2 : (kd == 2) = false := beq_eq_false_iff_ne.2 h2
        have d3 : (kd == 3) = false := beq_eq_false_iff_ne.2 h3
        by_cases h4 : kd = 4
        · subst h4
          clear h1 h2 h3 d1 d2 d3
          go_wp2_with ((go_at_call 19; refine (clkVictim_any HAT2.out).mono ?_; rintro e w3 ⟨rfl, A3, C3⟩; have HA3 := Lib.hid A3; have HC3 := Lib.hid (HCH.out.trans C3); clear A3 C3))
          go_roundw
          case rel => exact ⟨k + 1, by have := HLT.out; omega, by have := HLT.out; omega, by go_num, by rw [HST.out]; exact HA3.out, HC3.out⟩
          case measure => simp [intOf]; have := HLT.out; omega
        · have d4 : (kd == 4) = false := beq_eq_false_iff_ne.2 h4
          have HE : Hid (Clk.step t kd nm = t) := by unfold Hid Clk.step; rw [if_neg h1, if_neg h2, if_neg h3, if_neg h4]
          clear h1 h2 h3 h4
          go_wp2_with fail
          go_roundw
          case rel => exact ⟨k + 1, by have := HLT.out; omega, by have := HLT.out; omega, by go_num, by rw [HST.out, HE.out]; exact HAT2.out, HCH.out⟩
          case measure => simp [intOf]; have := HLT.out; omega
      · have HU : Hid (upTo l = k) := by unfold Hid upTo; omega
        have l1 : (k : Int) < (l.length : Int) := by omega
        have l2 : ¬ (k : Int) < 100 := by omega
        clear hat hch hlt hlt2 hk hk2
        go_wp2_with fail
        go_end0
        exact ⟨rfl, by rw [HU.out]; exact HAT.out, HCH.out⟩
    · have HU : Hid (upTo l = k) := by unfold Hid upTo; omega
      have l1 : ¬ (k : Int) < (l.length : Int) := by omega
      clear hat hch hlt hk hk2
      go_wp2_with fail
      go_end0
      exact ⟨rfl, by rw [HU.out]; exact HAT.out, HCH.out⟩

end Go.Proofs.Ytffdhpoljfmjoaa
