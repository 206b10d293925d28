/- The walk of DiskPlays. -/
import Derived.Test.YtddcdhmeknkphaaRdskShows
namespace Go.Proofs.Ytddcdhmeknkphaa
open Go.RowKit

set_option maxRecDepth 100000 in
set_option maxHeartbeats 8000000 in
theorem diskPlays_walk (n : Int) (vs : Value) (l : List CallD) (w : World) (n0 : -9223372036854775808 ≤ n) (n1 : n ≤ 9223372036854775807) (hs : Calls4 w vs l) :
    Calls Try.prog 6 #[.int .i64 n, vs] w fun e w' => e = .returned (.bool true) ∧ Below w.heap.size w w' := by
  obtain ⟨aa, ca, ba, oa, rfl, hA, hcells⟩ := hs
  have HC := Lib.hid hcells
  have HA := Lib.hid hA
  clear hcells hA
  rcases (by omega : n < 2 ∨ 4096 < n ∨ (2 ≤ n ∧ n ≤ 100) ∨ (100 < n ∧ n ≤ 4096)) with h1 | h1 | ⟨h1, h2⟩ | ⟨h1, h2⟩
  · go_enter Try.func6, Try.ntmps6
    go_wp2_with fail
    refine (awake4_any _).mono ?_
    rintro e w1 ⟨rfl, hB1⟩
    have B1 := Lib.hid hB1
    clear hB1
    go_wp2_with fail
    have hn1 := new_any n ⟨by omega, by omega⟩ w1
    refine hn1.mono ?_
    intro e w2 hnew
    unfold NewDisk at hnew
    rw [if_neg (by omega)] at hnew
    obtain ⟨rfl, rfl⟩ := hnew
    clear hn1
    go_wp2_with fail
    refine (rnew_any n _).mono ?_
    intro e w3 hnew
    unfold NewRdsk at hnew
    rw [if_neg (by omega)] at hnew
    obtain ⟨rfl, rfl⟩ := hnew
    go_wp2_with fail
    go_ret
    exact ⟨rfl, B1.out⟩
  · go_enter Try.func6, Try.ntmps6
    go_wp2_with fail
    refine (awake4_any _).mono ?_
    rintro e w1 ⟨rfl, hB1⟩
    have B1 := Lib.hid hB1
    clear hB1
    go_wp2_with fail
    have hn1 := new_any n ⟨by omega, by omega⟩ w1
    refine hn1.mono ?_
    intro e w2 hnew
    unfold NewDisk at hnew
    rw [if_neg (by omega)] at hnew
    obtain ⟨rfl, rfl⟩ := hnew
    clear hn1
    go_wp2_with fail
    refine (rnew_any n _).mono ?_
    intro e w3 hnew
    unfold NewRdsk at hnew
    rw [if_neg (by omega)] at hnew
    obtain ⟨rfl, rfl⟩ := hnew
    go_wp2_with fail
    go_ret
    exact ⟨rfl, B1.out⟩
  · go_enter Try.func6, Try.ntmps6
    go_wp2_with fail
    refine (awake4_any _).mono ?_
    rintro e w1 ⟨rfl, hB1⟩
    have B1 := Lib.hid hB1
    clear hB1
    go_wp2_with fail
    refine (new_ok n (by omega) (by omega) w1).mono ?_
    rintro e w2 ⟨d, bl, bw, rfl, D2, hB, hd, hl, hw⟩
    have B2 := hid_trans B1 hB
    have DD := Lib.hid D2
    have z1 := B1.out.size
    have HF1 : Hid (∀ k ∈ [d, bl, bw], w.heap.size ≤ k) := by
      intro k hk
      simp only [List.mem_cons, List.not_mem_nil, or_false] at hk
      rcases hk with rfl | rfl | rfl <;> omega
    clear hB D2 hd hl hw
    go_wp2_with fail
    refine (rnew_any n w2).mono ?_
    intro e w3 hnew
    unfold NewRdsk at hnew
    rw [if_pos (by omega)] at hnew
    obtain ⟨r, bL, bW, bI, rfl, R3, hge, hB⟩ := hnew
    have B3 := hid_trans B2 hB
    have hlt2 := DD.out.lt
    have hz2 : w.heap.size ≤ w2.heap.size := B2.out.size
    have HFS : Hid (∀ k ∈ [d, bl, bw, r, bL, bW, bI], w.heap.size ≤ k) := by
      intro k hk
      simp only [List.mem_cons, List.not_mem_nil, or_false] at hk
      rcases hk with hk | hk | hk | hk
      · exact HF1.out k (by simp [hk])
      · exact HF1.out k (by simp [hk])
      · exact HF1.out k (by simp [hk])
      · exact Nat.le_trans hz2 (hge k (by simpa using hk))
    have BD : Hid (BothD w3 d bl bw r bL bW bI (Dsk.St.new (n : Int).toNat)) := ⟨DD.out.below hB, R3, fun k hk hk2 => by
      have h1 := hlt2 k hk
      have h2 := hge k hk2
      omega⟩
    generalize Dsk.St.new (n : Int).toNat = s at *
    clear hB R3 hge hlt2 hz2 DD HF1 z1
    go_wp2_with fail
    go_loopw [10] (fun i wr => ∃ k : Nat, k ≤ l.length ∧ k ≤ 60 ∧ i = .int .i64 k ∧ BothD wr d bl bw r bL bW bI (s.runs (l.take k)) ∧ Below w.heap.size w wr) (fun i _ => 60 - (intOf i).toNat)
    case atStart => exact ⟨0, by omega, by omega, rfl, BD.out, B3.out⟩
    case round =>
      obtain ⟨k, hk, hk60, rfl, hD, hB⟩ := hrel
      have D := Lib.hid hD
      have B := Lib.hid hB
      by_cases hlt : k < l.length
      · by_cases hlt60 : k < 60
        · obtain rfl := HA.out (List.ne_nil_of_length_pos (by omega))
          have hS := Dsk.St.runs_snoc s l k hlt
          obtain ⟨c, hc⟩ : ∃ c, l.getD k default = c := ⟨_, rfl⟩
          have hcc := HC.out k hlt
          rw [hc] at hcc hS
          obtain ⟨kind, q, a2, l2, c2, a3, l3, c3, t, x, rfl, wf, b2, b3, hold, g0, g1, g2, g3, g4, g5⟩ := call_at hcc hB
          have hoff : l3 ≠ [] → ∀ j, (Value.slice a3 l3.length c3).ownBlock = some j → j ∉ [d, bl, bw, r, bL, bW, bI] := by
            intro hne j hj hm
            have h1 := hold hne j hj
            have h2 := HFS.out j hm
            omega
          have l0 : (0 : Int) ≤ (k : Int) := by omega
          have l1 : (k : Int) < (l.length : Int) := by omega
          have l6 : (k : Int) < 60 := by omega
          have HSM := small_any kind q a2 l2.length c2 a3 l3.length c3 t x
          obtain ⟨sm, hsm⟩ : ∃ sm, (decide (l2.length ≤ 1100) && decide (l3.length ≤ 60)) = sm := ⟨_, rfl⟩
          have hstep : s.runs (l.take (k + 1)) = if sm then (s.runs (l.take k)).did ⟨kind, q, l2, l3, t, x⟩ else s.runs (l.take k) := by
            rw [hS]; unfold Dsk.St.step CallD.small; rw [hsm]
          rw [hsm] at HSM
          have hl3 : sm = true → l3.length ≤ 60 := by
            intro e; rw [e] at hsm; simp at hsm; omega
          have HL3 := Lib.hid hl3
          have HS := Lib.hid hstep
          have WF := Lib.hid wf
          have B2 := Lib.hid b2
          have B3 := Lib.hid b3
          have HOF := Lib.hid hoff
          have HK : Hid (k + 1 ≤ l.length ∧ k + 1 ≤ 60) := ⟨by omega, by omega⟩
          generalize s.runs (l.take k) = s1 at *
          clear hS wf b2 b3 hoff hold hcc hc hlt hk hk60 hD hB hlt60 hsm hstep hl3
          go_wp2_with fail
          refine (HSM _).mono ?_
          rintro e w4 ⟨rfl, hB4⟩
          have D4 := Lib.hid (D.out.below hB4)
          have B4 := hid_trans B hB4
          have bb2 := Lib.hid (B2.out.below hB4)
          have bb3 := Lib.hid (B3.out.below hB4)
          have e0 := cell_later hB4 g0
          have e1 := cell_later hB4 g1
          have e2 := cell_later hB4 g2
          have e3 := cell_later hB4 g3
          have e4 := cell_later hB4 g4
          have e5 := cell_later hB4 g5
          clear hB4 HSM B2 B3 g0 g1 g2 g3 g4 g5
          cases sm with
          | false =>
            simp only [Bool.false_eq_true, if_false] at HS
            go_wp2_with fail
            go_roundw
            case rel => exact ⟨k + 1, HK.out.1, HK.out.2, by go_num, by rw [HS.out]; exact D4.out, B4.out⟩
            case measure => simp [intOf]; omega
          | true =>
            simp only [if_true] at HS
            go_wp2_with fail
            refine (did4_any D4.out kind q a2 l2 c2 a3 l3 c3 t x bb2.out bb3.out HOF.out (HL3.out (by simp)) WF.out).mono ?_
            rintro e w5 ⟨rfl, D5, hC⟩
            have B5 := bel_chg' B4 hC HFS.out
            have D5 := Lib.hid D5
            clear hC e0 e1 e2 e3 e4 e5
            go_wp2_with fail
            refine (shows4_any D5.out).mono ?_
            rintro e w6 ⟨rfl, hB⟩
            have D6 := Lib.hid (D5.out.below hB)
            have B6 := hid_trans B5 hB
            clear hB
            go_wp2_with fail
            go_roundw
            case rel => exact ⟨k + 1, HK.out.1, HK.out.2, by go_num, by rw [HS.out]; exact D6.out, B6.out⟩
            case measure => simp [intOf]; omega
        · obtain rfl : k = 60 := by omega
          have l1 : (60 : Int) < (l.length : Int) := by omega
          clear hlt hk hk60 hlt60 hD hB
          go_wp2_with fail
          go_ret
          exact ⟨rfl, B.out⟩
      · obtain rfl : k = l.length := by omega
        clear hlt hk hk60 hD hB
        go_wp2_with fail
        go_ret
        exact ⟨rfl, B.out⟩
  · go_enter Try.func6, Try.ntmps6
    go_wp2_with fail
    refine (awake4_any _).mono ?_
    rintro e w1 ⟨rfl, hB1⟩
    have B1 := Lib.hid hB1
    clear hB1
    go_wp2_with fail
    refine (new_ok 100 (by omega) (by omega) w1).mono ?_
    rintro e w2 ⟨d, bl, bw, rfl, D2, hB, hd, hl, hw⟩
    have B2 := hid_trans B1 hB
    have DD := Lib.hid D2
    have z1 := B1.out.size
    have HF1 : Hid (∀ k ∈ [d, bl, bw], w.heap.size ≤ k) := by
      intro k hk
      simp only [List.mem_cons, List.not_mem_nil, or_false] at hk
      rcases hk with rfl | rfl | rfl <;> omega
    clear hB D2 hd hl hw
    go_wp2_with fail
    refine (rnew_any 100 w2).mono ?_
    intro e w3 hnew
    unfold NewRdsk at hnew
    rw [if_pos (by omega)] at hnew
    obtain ⟨r, bL, bW, bI, rfl, R3, hge, hB⟩ := hnew
    have B3 := hid_trans B2 hB
    have hlt2 := DD.out.lt
    have hz2 : w.heap.size ≤ w2.heap.size := B2.out.size
    have HFS : Hid (∀ k ∈ [d, bl, bw, r, bL, bW, bI], w.heap.size ≤ k) := by
      intro k hk
      simp only [List.mem_cons, List.not_mem_nil, or_false] at hk
      rcases hk with hk | hk | hk | hk
      · exact HF1.out k (by simp [hk])
      · exact HF1.out k (by simp [hk])
      · exact HF1.out k (by simp [hk])
      · exact Nat.le_trans hz2 (hge k (by simpa using hk))
    have BD : Hid (BothD w3 d bl bw r bL bW bI (Dsk.St.new (100 : Int).toNat)) := ⟨DD.out.below hB, R3, fun k hk hk2 => by
      have h1 := hlt2 k hk
      have h2 := hge k hk2
      omega⟩
    generalize Dsk.St.new (100 : Int).toNat = s at *
    clear hB R3 hge hlt2 hz2 DD HF1 z1
    go_wp2_with fail
    go_loopw [10] (fun i wr => ∃ k : Nat, k ≤ l.length ∧ k ≤ 60 ∧ i = .int .i64 k ∧ BothD wr d bl bw r bL bW bI (s.runs (l.take k)) ∧ Below w.heap.size w wr) (fun i _ => 60 - (intOf i).toNat)
    case atStart => exact ⟨0, by omega, by omega, rfl, BD.out, B3.out⟩
    case round =>
      obtain ⟨k, hk, hk60, rfl, hD, hB⟩ := hrel
      have D := Lib.hid hD
      have B := Lib.hid hB
      by_cases hlt : k < l.length
      · by_cases hlt60 : k < 60
        · obtain rfl := HA.out (List.ne_nil_of_length_pos (by omega))
          have hS := Dsk.St.runs_snoc s l k hlt
          obtain ⟨c, hc⟩ : ∃ c, l.getD k default = c := ⟨_, rfl⟩
          have hcc := HC.out k hlt
          rw [hc] at hcc hS
          obtain ⟨kind, q, a2, l2, c2, a3, l3, c3, t, x, rfl, wf, b2, b3, hold, g0, g1, g2, g3, g4, g5⟩ := call_at hcc hB
          have hoff : l3 ≠ [] → ∀ j, (Value.slice a3 l3.length c3).ownBlock = some j → j ∉ [d, bl, bw, r, bL, bW, bI] := by
            intro hne j hj hm
            have h1 := hold hne j hj
            have h2 := HFS.out j hm
            omega
          have l0 : (0 : Int) ≤ (k : Int) := by omega
          have l1 : (k : Int) < (l.length : Int) := by omega
          have l6 : (k : Int) < 60 := by omega
          have HSM := small_any kind q a2 l2.length c2 a3 l3.length c3 t x
          obtain ⟨sm, hsm⟩ : ∃ sm, (decide (l2.length ≤ 1100) && decide (l3.length ≤ 60)) = sm := ⟨_, rfl⟩
          have hstep : s.runs (l.take (k + 1)) = if sm then (s.runs (l.take k)).did ⟨kind, q, l2, l3, t, x⟩ else s.runs (l.take k) := by
            rw [hS]; unfold Dsk.St.step CallD.small; rw [hsm]
          rw [hsm] at HSM
          have hl3 : sm = true → l3.length ≤ 60 := by
            intro e; rw [e] at hsm; simp at hsm; omega
          have HL3 := Lib.hid hl3
          have HS := Lib.hid hstep
          have WF := Lib.hid wf
          have B2 := Lib.hid b2
          have B3 := Lib.hid b3
          have HOF := Lib.hid hoff
          have HK : Hid (k + 1 ≤ l.length ∧ k + 1 ≤ 60) := ⟨by omega, by omega⟩
          generalize s.runs (l.take k) = s1 at *
          clear hS wf b2 b3 hoff hold hcc hc hlt hk hk60 hD hB hlt60 hsm hstep hl3
          go_wp2_with fail
          refine (HSM _).mono ?_
          rintro e w4 ⟨rfl, hB4⟩
          have D4 := Lib.hid (D.out.below hB4)
          have B4 := hid_trans B hB4
          have bb2 := Lib.hid (B2.out.below hB4)
          have bb3 := Lib.hid (B3.out.below hB4)
          have e0 := cell_later hB4 g0
          have e1 := cell_later hB4 g1
          have e2 := cell_later hB4 g2
          have e3 := cell_later hB4 g3
          have e4 := cell_later hB4 g4
          have e5 := cell_later hB4 g5
          clear hB4 HSM B2 B3 g0 g1 g2 g3 g4 g5
          cases sm with
          | false =>
            simp only [Bool.false_eq_true, if_false] at HS
            go_wp2_with fail
            go_roundw
            case rel => exact ⟨k + 1, HK.out.1, HK.out.2, by go_num, by rw [HS.out]; exact D4.out, B4.out⟩
            case measure => simp [intOf]; omega
          | true =>
            simp only [if_true] at HS
            go_wp2_with fail
            refine (did4_any D4.out kind q a2 l2 c2 a3 l3 c3 t x bb2.out bb3.out HOF.out (HL3.out (by simp)) WF.out).mono ?_
            rintro e w5 ⟨rfl, D5, hC⟩
            have B5 := bel_chg' B4 hC HFS.out
            have D5 := Lib.hid D5
            clear hC e0 e1 e2 e3 e4 e5
            go_wp2_with fail
            refine (shows4_any D5.out).mono ?_
            rintro e w6 ⟨rfl, hB⟩
            have D6 := Lib.hid (D5.out.below hB)
            have B6 := hid_trans B5 hB
            clear hB
            go_wp2_with fail
            go_roundw
            case rel => exact ⟨k + 1, HK.out.1, HK.out.2, by go_num, by rw [HS.out]; exact D6.out, B6.out⟩
            case measure => simp [intOf]; omega
        · obtain rfl : k = 60 := by omega
          have l1 : (60 : Int) < (l.length : Int) := by omega
          clear hlt hk hk60 hlt60 hD hB
          go_wp2_with fail
          go_ret
          exact ⟨rfl, B.out⟩
      · obtain rfl : k = l.length := by omega
        clear hlt hk hk60 hD hB
        go_wp2_with fail
        go_ret
        exact ⟨rfl, B.out⟩

end Go.Proofs.Ytddcdhmeknkphaa
