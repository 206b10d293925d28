/- The walk of the reference's Victim. -/
import Derived.Test.YtffdhpoljfmjoaaRclkWalk
namespace Go.Proofs.Ytffdhpoljfmjoaa
open Go.RowKit

def freeTo (s : Clk.St) (k : Nat) : Bool := (s.pins.take k).any (· == 0)
theorem freeTo_snoc (s : Clk.St) (k : Nat) (h : k < s.pins.length) : freeTo s (k + 1) = (freeTo s k || (s.pins.getD k 0 == 0)) := by
  unfold freeTo
  rw [List.take_succ_eq_append_getElem h, List.any_append]
  simp [List.getD, h]
theorem freeTo_all (s : Clk.St) : freeTo s s.pins.length = Clk.free s := by unfold freeTo Clk.free; rw [List.take_length]

set_option maxHeartbeats 2000000 in
theorem rclkVictim_pre (r P U : Nat) (s : Clk.St) (w : World) (h : RclkAt w r P U s) (R : Ending → World → Prop)
    (hpinned : Clk.free s = false → R (.returned (.tuple #[.int .i64 0, .int .i64 60])) w)
    (hok : Clk.free s = true → ∀ w', RclkAt w' r P U (Clk.victim s).2 → Chg [r, P, U] w w' → R (.returned (.tuple #[.int .i64 ((Clk.victim s).1 : Int), .int .i64 0])) w') :
    Calls Try.prog 26 #[.pointer (some ⟨r, 0, none⟩)] w R := by
  have hm := h.ok.most
  have c0 : w.cell? ⟨r, 0, none⟩ = some (.slice (some ⟨P, 0, none⟩) s.pins.length s.pins.length) := row_cell h.top rfl
  have H := Lib.hid h
  have HP1 := Lib.hid hpinned
  have HP2 := Lib.hid hok
  clear h hpinned hok
  go_enter Try.func26, Try.ntmps26
  go_wp2_with fail
  go_loop [4, 5] (fun b i => ∃ k : Nat, k ≤ s.pins.length ∧ i = .int .i64 k ∧ b = .bool (freeTo s k)) (fun _ i => s.pins.length - (intOf i).toNat)
  case atStart => exact ⟨0, by omega, rfl, rfl⟩
  case round =>
    obtain ⟨k, hk, rfl, rfl⟩ := hrel
    by_cases hlt : k < s.pins.length
    · have c1 : w.cell? ⟨P, k, none⟩ = some (.int .i64 ((s.pins.getD k 0 : Nat) : Int)) := row_cell H.out.pins (natVals_get _ _ hlt)
      have hsn := freeTo_snoc s k hlt
      obtain ⟨p, HP⟩ : ∃ p, Hid (s.pins.getD k 0 = p) := ⟨_, rfl⟩
      rw [HP.out] at c1 hsn
      have l1 : (k : Int) < (s.pins.length : Int) := by omega
      have HSN := Lib.hid hsn
      have HLT := Lib.hid hlt
      clear hsn hlt hk
      cases hb : freeTo s k with
      | true =>
        have HB := Lib.hid hb
        clear hb
        go_wp2
        go_round
        case rel => exact ⟨k + 1, by have := HLT.out; omega, by go_num, by rw [HSN.out, HB.out]; rfl⟩
        case measure => simp [intOf]; have := HLT.out; omega
      | false =>
        have HB := Lib.hid hb
        clear hb
        go_wp2
        go_round
        case rel => exact ⟨k + 1, by have := HLT.out; omega, by go_num, by rw [HSN.out, HB.out, Bool.false_or]; exact congrArg Value.bool (by rw [Bool.eq_iff_iff]; simp)⟩
        case measure => simp [intOf]; have := HLT.out; omega
    · obtain rfl : k = s.pins.length := by omega
      have hfa := freeTo_all s
      have HFA := Lib.hid hfa
      clear hfa
      cases hb : freeTo s s.pins.length with
      | false =>
        have HB := Lib.hid hb
        clear hb
        go_wp2_with fail
        refine wp_loop_rounds 1 ?_
        rw [rounds_succ]
        go_wp2
        exact HP1.out (by rw [← HFA.out]; exact HB.out)
      | true =>
        have hfr : Clk.free s = true := by rw [← HFA.out]; exact hb
        obtain ⟨rr, hrr⟩ := Clk.vic_ends s H.out.ok hfr
        have HV := Lib.hid (Clk.victim_of s rr hrr)
        have HRR := Lib.hid hrr
        have HFR := Lib.hid hfr
        clear hb hfr hrr
        go_wp2_with fail
        go_loopg [6] Clk.fuel (fun g _ wr => ∃ (u : List Bool) (hd : Nat), Hid (Clk.vic g ⟨s.pins, u, hd⟩ = some rr) ∧ RclkAt wr r P U ⟨s.pins, u, hd⟩ ∧ Chg [r, P, U] w wr)
        case atStart => exact ⟨s.used, s.hand, HRR.out, H.out, Chg.refl _ _⟩
        case round =>
          obtain ⟨u, hd, hv, hat, hch⟩ := hrel
          obtain ⟨f, rfl⟩ : ∃ f, gk = f + 1 := by
            cases gk with
            | zero => cases hv.out
            | succ f => exact ⟨f, rfl⟩
          have hv2 := hv.out
          rw [Clk.vic] at hv2
          have HVV := Lib.hid hv2
          clear hv hv2
          have hok := hat.ok
          have hlt : hd < s.pins.length := hok.hand
          have hul : u.length = s.pins.length := hok.len
          have k0 : wr.cell? ⟨r, 0, none⟩ = some (.slice (some ⟨P, 0, none⟩) s.pins.length s.pins.length) := row_cell hat.top rfl
          have k1 : wr.cell? ⟨r, 1, none⟩ = some (.slice (some ⟨U, 0, none⟩) s.pins.length s.pins.length) := row_cell hat.top rfl
          have k2 : wr.cell? ⟨r, 2, none⟩ = some (.int .i64 (hd : Int)) := row_cell hat.top rfl
          have kf : wr.frozen? ⟨r, 2, none⟩ = false := frozen_of_row _ _ _ _ _ hat.top
          have l1 : wr.cell? ⟨P, hd, none⟩ = some (.int .i64 ((s.pins.getD hd 0 : Nat) : Int)) := row_cell hat.pins (natVals_get _ _ hlt)
          have l2 : wr.cell? ⟨U, hd, none⟩ = some (.bool (u.getD hd false)) := row_cell hat.used (boolVals_get _ _ (by show hd < u.length; omega))
          have lf : wr.frozen? ⟨U, hd, none⟩ = false := frozen_of_row _ _ _ _ _ hat.used
          have ne1 : r ≠ P := hat.ne1
          have ne2 : r ≠ U := hat.ne2
          have hl0 : (0 : Int) ≤ (hd : Int) := by omega
          have hl1 : (hd : Int) < (s.pins.length : Int) := by omega
          obtain ⟨h', HH⟩ : ∃ h', Hid ((hd + 1) % s.pins.length = h') := ⟨_, rfl⟩
          have em : ((hd : Int) + 1) % (s.pins.length : Int) = (h' : Int) := by rw [← HH.out]; exact (Int.natCast_emod (hd + 1) s.pins.length).symm
          have em2 : ((hd : Int) + 1).tmod (s.pins.length : Int) = (h' : Int) := by rw [Int.tmod_eq_emod_of_nonneg (by omega)]; exact em
          have e1 : IntKind.i64.wrap ((hd : Int) + 1) = (hd : Int) + 1 := IntWalk.i64_in _ (by omega)
          have hh1 : h' < s.pins.length := by rw [← HH.out]; exact Nat.mod_lt _ (by omega)
          have e2 : IntKind.i64.wrap (h' : Int) = (h' : Int) := IntWalk.i64_in _ (by omega)
          have hn1 : (1 : Int) ≤ (s.pins.length : Int) := by omega
          have hn2 : (s.pins.length : Int) ≤ 1000 := by omega
          have hn3 : ((s.pins.length : Int) == 0) = false := beq_eq_false_iff_ne.2 (by omega)
          have hn4 : ¬ s.pins = [] := by intro e; rw [e] at hlt; simp at hlt
          obtain ⟨p, HP⟩ : ∃ p, Hid (s.pins.getD hd 0 = p) := ⟨_, rfl⟩
          obtain ⟨ub, HU⟩ : ∃ ub, Hid (u.getD hd false = ub) := ⟨_, rfl⟩
          rw [HP.out] at l1
          rw [HU.out] at l2
          have hnx : Hid (RclkAt (wr.setCell ⟨r, 2, none⟩ (.int .i64 (h' : Int))).drew r P U ⟨s.pins, u, h'⟩) := by
            have := rclk_hand hat
            unfold Clk.next at this
            simp only at this
            rw [HH.out] at this
            exact ⟨this.top, this.pins, this.used, this.ok⟩
          have hch2 : Hid (Chg [r, P, U] w (wr.setCell ⟨r, 2, none⟩ (.int .i64 (h' : Int))).drew) := (hch.setCell (by simp) _).drew
          clear hat hch hok hlt hul hh1
          by_cases hp : 0 < p
          · have hp1 : (0 : Int) < (p : Int) := by omega
            have HP0 := Lib.hid hp
            clear hp
            go_wp2
            go_still_tail 14, (by kernel_rfl)
            change wpList _ _ _ _ _ wr.drew
            go_wp2
            go_roundg f
            case measure => omega
            case rel => exact ⟨u, h', by have := HVV.out; rw [if_pos (by show 0 < s.pins.getD hd 0; rw [HP.out]; exact HP0.out)] at this; unfold Clk.next at this; rw [HH.out] at this; exact this, hnx.out, hch2.out⟩
          · have hp1 : decide ((0 : Int) < (p : Int)) = false := decide_eq_false (by omega)
            have HP0 := Lib.hid hp
            clear hp
            cases ub with
            | true =>
              go_wp2
              go_still_tail 14, (by kernel_rfl)
              change wpList _ _ _ _ _ wr.drew
              go_wp2
              go_roundg f
              case measure => omega
              case rel => exact ⟨u.set hd false, h', by
                have := HVV.out
                rw [if_neg (by show ¬ 0 < s.pins.getD hd 0; rw [HP.out]; exact HP0.out), if_pos HU.out] at this
                unfold Clk.next Clk.fresh at this
                rw [HH.out] at this
                exact this, rclk_used hnx.out hd false, hch2.out.setCell (by simp) _⟩
            | false =>
              go_wp2
              go_still_tail 14, (by kernel_rfl)
              change wpList _ _ _ _ _ wr.drew
              go_wp2
              have hz := HVV.out
              rw [if_neg (by show ¬ 0 < s.pins.getD hd 0; rw [HP.out]; exact HP0.out), if_neg (by show ¬ u.getD hd false = true; rw [HU.out]; simp)] at hz
              unfold Clk.next at hz
              rw [HH.out] at hz
              cases hz
              have hfin := HP2.out HFR.out
              rw [HV.out] at hfin
              exact hfin _ hnx.out hch2.out

theorem rclkVictim_ok (r P U : Nat) (s : Clk.St) (w : World) (h : RclkAt w r P U s) (hf : Clk.free s = true) :
    Calls Try.prog 26 #[.pointer (some ⟨r, 0, none⟩)] w fun e w' => e = .returned (.tuple #[.int .i64 ((Clk.victim s).1 : Int), .int .i64 0]) ∧ RclkAt w' r P U (Clk.victim s).2 ∧ Chg [r, P, U] w w' :=
  rclkVictim_pre r P U s w h _ (fun h2 => by rw [hf] at h2; cases h2) (fun _ w' h1 h2 => ⟨rfl, h1, h2⟩)

theorem rclkVictim_pinned (r P U : Nat) (s : Clk.St) (w : World) (h : RclkAt w r P U s) (hf : Clk.free s = false) :
    Calls Try.prog 26 #[.pointer (some ⟨r, 0, none⟩)] w fun e w' => e = .returned (.tuple #[.int .i64 0, .int .i64 60]) ∧ w = w' :=
  rclkVictim_pre r P U s w h _ (fun _ => ⟨rfl, rfl⟩) (fun h2 => by rw [hf] at h2; cases h2)

end Go.Proofs.Ytffdhpoljfmjoaa
