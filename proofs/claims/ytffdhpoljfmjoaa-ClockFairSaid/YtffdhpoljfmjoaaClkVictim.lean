/- The walk of the clock's Victim: the round ends as the plain function says. -/
import Derived.Test.YtffdhpoljfmjoaaClkWalk
namespace Go.Proofs.Ytffdhpoljfmjoaa
open Go.RowKit

set_option maxHeartbeats 400000 in
theorem clkTest_any (p : Int) (u : Bool) (w : World) :
    Calls Try.prog 28 #[.agg #[.int .i64 p, .bool u]] w fun e w' => e = .returned (.bool (p == 0)) ∧ Below w.heap.size w w' := by
  go_enter Try.func28, Try.ntmps28
  go_wp2
  go_ret
  exact ⟨rfl, (Below.refl _ _).alloc (Nat.le_refl _) _⟩

/-- the first place that is not pinned, or -1 -/
def IsFree (s : Clk.St) (w : World) (e : Ending) (w' : World) : Prop := ∃ r : Int, e = .returned (.int .i64 r) ∧ ((0 ≤ r) ↔ Clk.free s = true) ∧ Below w.heap.size w w'

theorem free_of (s : Clk.St) (k : Nat) (hk : k < s.pins.length) (h : s.pins.getD k 0 = 0) : Clk.free s = true := by
  unfold Clk.free
  rw [List.any_eq_true]
  refine ⟨s.pins.getD k 0, ?_, by rw [h]; rfl⟩
  rw [List.getD_eq_getElem?_getD, List.getElem?_eq_getElem hk]
  exact List.getElem_mem hk

theorem not_free_of (s : Clk.St) (h : ∀ j, j < s.pins.length → s.pins.getD j 0 ≠ 0) : Clk.free s = false := by
  unfold Clk.free
  rw [Bool.eq_false_iff]
  intro hf
  rw [List.any_eq_true] at hf
  obtain ⟨x, hx, hx0⟩ := hf
  obtain ⟨j, hj, he⟩ := List.getElem_of_mem hx
  apply h j hj
  rw [List.getD_eq_getElem?_getD, List.getElem?_eq_getElem hj, he]
  simpa using hx0

set_option maxHeartbeats 1000000 in
theorem clkIndex_any (c L : Nat) (s : Clk.St) (w : World) (h : ClkAt w c L s) :
    Calls Try.prog 34 #[.slice (some ⟨L, 0, none⟩) s.pins.length s.pins.length, .func (.func 28) #[] #[]] w (IsFree s w) := by
  have hm := h.ok.most
  have H := Lib.hid h
  clear h
  go_enter Try.func34, Try.ntmps34
  go_wp2_with fail
  go_loopw [8] (fun i wr => ∃ k : Nat, k ≤ s.pins.length ∧ i = .int .i64 k ∧ (∀ j, j < k → s.pins.getD j 0 ≠ 0) ∧ Below w.heap.size w wr) (fun i _ => s.pins.length - (intOf i).toNat)
  case atStart => exact ⟨0, by omega, rfl, fun j hj => by omega, Below.refl _ _⟩
  case round =>
    obtain ⟨k, hk, rfl, hall, hbel⟩ := hrel
    have HA := Lib.hid hall
    have HB := Lib.hid hbel
    clear hall
    by_cases hlt : k < s.pins.length
    · have HLT := Lib.hid hlt
      have c0 := (H.out.below hbel)
      have c1 : wr.cell? ⟨L, k * 2, none⟩ = some (.int .i64 ((s.pins.getD k 0 : Nat) : Int)) := row_cell c0.row (by rw [placeCells_get _ _ (by omega)]; unfold placeCell; rw [if_pos (by omega), show (k * 2) / 2 = k by omega])
      have c2 : wr.cell? ⟨L, k * 2 + 1, none⟩ = some (.bool (s.used.getD k false)) := row_cell c0.row (by rw [placeCells_get _ _ (by omega)]; unfold placeCell; rw [if_neg (by omega), show (k * 2 + 1) / 2 = k by omega])
      obtain ⟨p, HP⟩ : ∃ p, Hid (s.pins.getD k 0 = p) := ⟨_, rfl⟩
      obtain ⟨u, HU⟩ : ∃ u, Hid (s.used.getD k false = u) := ⟨_, rfl⟩
      rw [HP.out] at c1
      rw [HU.out] at c2
      have l1 : (k : Int) < (s.pins.length : Int) := by omega
      clear c0 hbel hlt hk
      by_cases hp : p = 0
      · subst hp
        go_wp2_with ((go_at_call 28; refine (clkTest_any _ _ _).mono ?_; rintro e w1 ⟨rfl, HB1⟩; have HB2 := HB.out.trans (HB1.mono HB.out.size); clear HB1; have HB3 := Lib.hid HB2; clear HB2))
        go_ret
        exact ⟨_, rfl, ⟨fun _ => free_of s k HLT.out HP.out, fun _ => by simp⟩, HB3.out⟩
      · have hp1 : ((p : Int) == 0) = false := beq_eq_false_iff_ne.2 (by omega)
        have HP0 := Lib.hid hp
        clear hp
        go_wp2_with ((go_at_call 28; refine (clkTest_any _ _ _).mono ?_; rintro e w1 ⟨rfl, HB1⟩; have HB2 := HB.out.trans (HB1.mono HB.out.size); clear HB1; have HB3 := Lib.hid HB2; clear HB2))
        go_roundw
        case rel => exact ⟨k + 1, by have := HLT.out; omega, by go_num, fun j hj => by
          rcases Nat.lt_or_ge j k with h1 | h1
          · exact HA.out j h1
          · obtain rfl : j = k := by omega
            rw [HP.out]; exact HP0.out, HB3.out⟩
        case measure => simp [intOf]; have := HLT.out; omega
    · obtain rfl : k = s.pins.length := by omega
      clear hbel
      go_wp2_with fail
      go_ret
      exact ⟨_, rfl, ⟨fun h => by omega, fun h => by rw [not_free_of s HA.out] at h; cases h⟩, HB.out⟩

set_option maxHeartbeats 400000 in
theorem clkFree_any (c L : Nat) (s : Clk.St) (w : World) (h : ClkAt w c L s) :
    Calls Try.prog 27 #[.slice (some ⟨L, 0, none⟩) s.pins.length s.pins.length, .func (.func 28) #[] #[]] w fun e w' => e = .returned (.bool (Clk.free s)) ∧ Below w.heap.size w w' := by
  go_enter Try.func27, Try.ntmps27
  go_wp2_with fail
  refine (clkIndex_any c L s _ h).mono ?_
  rintro e w1 ⟨r, rfl, hr, HB⟩
  have HB' := Lib.hid HB
  have hd : decide (0 ≤ r) = Clk.free s := by
    rw [Bool.eq_iff_iff, decide_eq_true_iff]; exact hr
  have HR := Lib.hid hd
  clear hd hr HB
  go_wp2_with fail
  go_ret
  exact ⟨by rw [← HR.out]; rfl, HB'.out⟩


set_option maxHeartbeats 1000000 in
theorem clkVictim_ok (c L : Nat) (s : Clk.St) (w : World) (h : ClkAt w c L s) (hf : Clk.free s = true) :
    Calls Try.prog 19 #[.pointer (some ⟨c, 0, none⟩)] w fun e w' => e = .returned (.tuple #[.int .i64 ((Clk.victim s).1 : Int), .int .i64 0]) ∧ ClkAt w' c L (Clk.victim s).2 ∧ Chg [c, L] w w' := by
  obtain ⟨r, hr⟩ := Clk.vic_ends s h.ok hf
  rw [Clk.victim_of s r hr]
  have c0 : w.cell? ⟨c, 0, none⟩ = some (.slice (some ⟨L, 0, none⟩) s.pins.length s.pins.length) := row_cell h.top rfl
  have HF := Lib.hid (clkFree_any c L s w h)
  rw [hf] at HF
  have H := Lib.hid h
  have HR := Lib.hid hr
  clear h hf hr
  go_enter Try.func19, Try.ntmps19
  go_wp2_with fail
  go_step3
  go_wp2_with ((go_at_call 27; refine HF.out.mono ?_; rintro e w1 ⟨rfl, HB⟩; have HB1 := Lib.hid HB; clear HB))
  go_step3
  go_wp2_with fail
  clear c0
  go_loopg [4] Clk.fuel (fun g _ wr => ∃ (u : List Bool) (hd : Nat), Hid (Clk.vic g ⟨s.pins, u, hd⟩ = some r) ∧ ClkAt wr c L ⟨s.pins, u, hd⟩ ∧ Chg [c, L] w wr)
  case atStart => exact ⟨s.used, s.hand, HR.out, H.out.below HB1.out, Chg.of_below HB1.out⟩
  case round =>
    obtain ⟨u, hd, hv, hat, hch⟩ := hrel
    obtain ⟨f, rfl⟩ : ∃ f, gk = f + 1 := by
      cases gk with
      | zero => cases hv.out
      | succ f => exact ⟨f, rfl⟩
    have hv2 := hv.out
    rw [Clk.vic] at hv2
    have HV := Lib.hid hv2
    clear hv hv2
    have hok := hat.ok
    have hlt : hd < s.pins.length := hok.hand
    have hmost : s.pins.length ≤ 1000 := hok.most
    have k0 : wr.cell? ⟨c, 0, none⟩ = some (.slice (some ⟨L, 0, none⟩) s.pins.length s.pins.length) := row_cell hat.top rfl
    have k1 : wr.cell? ⟨c, 1, none⟩ = some (.int .i64 (hd : Int)) := row_cell hat.top rfl
    have kf : wr.frozen? ⟨c, 1, none⟩ = false := frozen_of_row _ _ _ _ _ hat.top
    have l1 : wr.cell? ⟨L, hd * 2, none⟩ = some (.int .i64 ((s.pins.getD hd 0 : Nat) : Int)) := row_cell hat.row (by rw [placeCells_get _ _ (by show _ < 2 * s.pins.length; omega)]; unfold placeCell; rw [if_pos (by omega), show (hd * 2) / 2 = hd by omega])
    have l2 : wr.cell? ⟨L, hd * 2 + 1, none⟩ = some (.bool (u.getD hd false)) := row_cell hat.row (by rw [placeCells_get _ _ (by show _ < 2 * s.pins.length; omega)]; unfold placeCell; rw [if_neg (by omega), show (hd * 2 + 1) / 2 = hd by omega])
    have lf : wr.frozen? ⟨L, hd * 2 + 1, none⟩ = false := frozen_of_row _ _ _ _ _ hat.row
    have hne : c ≠ L := hat.ne
    have hl0 : (0 : Int) ≤ (hd : Int) := by omega
    have hl1 : (hd : Int) < (s.pins.length : Int) := by omega
    obtain ⟨h', HH⟩ : ∃ h', Hid ((hd + 1) % s.pins.length = h') := ⟨_, rfl⟩
    have em : ((hd : Int) + 1) % (s.pins.length : Int) = (h' : Int) := by rw [← HH.out]; exact (Int.natCast_emod (hd + 1) s.pins.length).symm
    have hn1 : (1 : Int) ≤ (s.pins.length : Int) := by omega
    have hn2 : (s.pins.length : Int) ≤ 1000 := by omega
    obtain ⟨p, HP⟩ : ∃ p, Hid (s.pins.getD hd 0 = p) := ⟨_, rfl⟩
    obtain ⟨ub, HU⟩ : ∃ ub, Hid (u.getD hd false = ub) := ⟨_, rfl⟩
    rw [HP.out] at l1
    rw [HU.out] at l2
    have HAT := Lib.hid hat
    have HCH := Lib.hid hch
    have HLT := Lib.hid hlt
    clear hat hch hok hlt hmost
    have hnx : Hid (ClkAt (wr.setCell ⟨c, 1, none⟩ (.int .i64 (h' : Int))) c L ⟨s.pins, u, h'⟩) := by
      have := clk_hand HAT.out
      unfold Clk.next at this
      rw [HH.out] at this
      exact this
    have hch2 : Hid (Chg [c, L] w (wr.setCell ⟨c, 1, none⟩ (.int .i64 (h' : Int)))) := HCH.out.setCell (by simp) _
    by_cases hp : 0 < p
    · have hp1 : (0 : Int) < (p : Int) := by omega
      have HP0 := Lib.hid hp
      clear hp
      go_wp2
      go_roundg f
      case measure => omega
      case rel => exact ⟨u, h', by have := HV.out; rw [if_pos (by show 0 < s.pins.getD hd 0; rw [HP.out]; exact HP0.out)] at this; unfold Clk.next at this; rw [HH.out] at this; exact this, hnx.out, hch2.out⟩
    · have hp1 : decide ((0 : Int) < (p : Int)) = false := decide_eq_false (by omega)
      have HP0 := Lib.hid hp
      clear hp
      cases ub with
      | true =>
        go_wp2
        go_roundg f
        case measure => omega
        case rel => exact ⟨u.set hd false, h', by
          have := HV.out
          rw [if_neg (by show ¬ 0 < s.pins.getD hd 0; rw [HP.out]; exact HP0.out), if_pos HU.out] at this
          unfold Clk.next Clk.fresh at this
          rw [HH.out] at this
          exact this, clk_used hnx.out HLT.out false, hch2.out.setCell (by simp) _⟩
      | false =>
        go_wp2
        go_ret2
        have hz := HV.out
        rw [if_neg (by show ¬ 0 < s.pins.getD hd 0; rw [HP.out]; exact HP0.out), if_neg (by show ¬ u.getD hd false = true; rw [HU.out]; simp)] at hz
        unfold Clk.next at hz
        rw [HH.out] at hz
        cases hz
        exact ⟨rfl, hnx.out, hch2.out⟩

set_option maxHeartbeats 1000000 in
theorem clkVictim_pinned (c L : Nat) (s : Clk.St) (w : World) (h : ClkAt w c L s) (hf : Clk.free s = false) :
    Calls Try.prog 19 #[.pointer (some ⟨c, 0, none⟩)] w fun e w' => e = .returned (.tuple #[.int .i64 0, .int .i64 60]) ∧ Below w.heap.size w w' := by
  have c0 : w.cell? ⟨c, 0, none⟩ = some (.slice (some ⟨L, 0, none⟩) s.pins.length s.pins.length) := row_cell h.top rfl
  have HF := Lib.hid (clkFree_any c L s w h)
  rw [hf] at HF
  clear h hf
  go_enter Try.func19, Try.ntmps19
  go_wp2_with fail
  go_step3
  go_wp2_with ((go_at_call 27; refine HF.out.mono ?_; rintro e w1 ⟨rfl, HB⟩; have HB1 := Lib.hid HB; clear HB))
  rw [Exit.noGoto_ret]
  go_ret2
  exact ⟨rfl, HB1.out⟩

end Go.Proofs.Ytffdhpoljfmjoaa
