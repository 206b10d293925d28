/- Walks of tailracelaw04.Small, Done. -/
import Derived.Test.YtddcdhmeknkphaaCalls
import Derived.Test.YtddcdhmeknkphaaDskLaws
namespace Go.Proofs.Ytddcdhmeknkphaa
open Go.RowKit

/-- a call, as a value -/
def callVal (k n : Int) (a2 : Option Addr) (l2 c2 : Nat) (a3 : Option Addr) (l3 c3 : Nat) (t : Int) (x : UInt8) : Value :=
  .agg #[.int .i64 k, .int .i64 n, .slice a2 l2 c2, .slice a3 l3 c3, .int .i64 t, .int .u8 (x.toNat : Int)]

set_option maxRecDepth 100000 in
set_option maxHeartbeats 1000000 in
theorem small_any (k n : Int) (a2 : Option Addr) (l2 c2 : Nat) (a3 : Option Addr) (l3 c3 : Nat) (t : Int) (x : UInt8) (w : World) :
    Calls Try.prog 21 #[.agg #[.int .i64 k, .int .i64 n, .slice a2 l2 c2, .slice a3 l3 c3, .int .i64 t, .int .u8 (x.toNat : Int)]] w fun e w' => e = .returned (.bool (decide (l2 ≤ 1100) && decide (l3 ≤ 60))) ∧ Below w.heap.size w w' := by
  rcases (by omega : (l2 ≤ 1100 ∧ l3 ≤ 60) ∨ (l2 ≤ 1100 ∧ ¬ l3 ≤ 60) ∨ ¬ l2 ≤ 1100) with ⟨h2, h3⟩ | ⟨h2, h3⟩ | h2
  · have e : (decide (l2 ≤ 1100) && decide (l3 ≤ 60)) = true := by simp [h2, h3]
    rw [e]
    have i2 : (l2 : Int) ≤ 1100 := by omega
    have i3 : (l3 : Int) ≤ 60 := by omega
    clear e h2 h3
    go_enter Try.func21, Try.ntmps21
    go_wp2_with fail
    go_ret
    exact ⟨rfl, alloc_below _ _⟩
  · have e : (decide (l2 ≤ 1100) && decide (l3 ≤ 60)) = false := by simp [h2, h3]
    rw [e]
    have i2 : (l2 : Int) ≤ 1100 := by omega
    have i3 : ¬ (l3 : Int) ≤ 60 := by omega
    clear e h2 h3
    go_enter Try.func21, Try.ntmps21
    go_wp2_with fail
    go_ret
    exact ⟨rfl, alloc_below _ _⟩
  · have e : (decide (l2 ≤ 1100) && decide (l3 ≤ 60)) = false := by simp [h2]
    rw [e]
    have i2 : ¬ (l2 : Int) ≤ 1100 := by omega
    clear e h2
    go_enter Try.func21, Try.ntmps21
    go_wp2_with fail
    go_ret
    exact ⟨rfl, alloc_below _ _⟩

/-- what changed since an elder world -/
theorem bel_chg' {w a b : World} {fs : List Nat} (h : Hid (Below w.heap.size w a)) (hc : Chg fs a b) (hs : ∀ k ∈ fs, w.heap.size ≤ k) : Hid (Below w.heap.size w b) :=
  h.out.trans (hc.below h.out.size hs)

set_option maxRecDepth 100000 in
set_option maxHeartbeats 4000000 in
theorem done_any {w0 w : World} {d bl bw : Nat} {s : Dsk.St} (h : DskAt w d bl bw s) (v : Value) (l : List CallD) (hl : Calls4 w0 v l) (hb : Below w0.heap.size w0 w) (hfs : ∀ k ∈ [d, bl, bw], w0.heap.size ≤ k) :
    Calls Try.prog 16 #[.pointer (some ⟨d, 0, none⟩), v] w fun e w' => e = .returned (.tuple #[]) ∧ DskAt w' d bl bw (s.runs (l.take 60)) ∧ Below w0.heap.size w0 w' := by
  obtain ⟨aa, ca, ba, oa, rfl, HA, hcells⟩ := hl
  have HC := Lib.hid hcells
  have H := Lib.hid h
  have HB := Lib.hid hb
  have HFS := Lib.hid hfs
  clear h hb hfs hcells
  go_enter Try.func16, Try.ntmps16
  go_wp2_with fail
  go_loopw [4] (fun i wr => ∃ k : Nat, k ≤ l.length ∧ k ≤ 60 ∧ i = .int .i64 k ∧ DskAt wr d bl bw (s.runs (l.take k)) ∧ Below w0.heap.size w0 wr) (fun i _ => 60 - (intOf i).toNat)
  case atStart => exact ⟨0, by omega, by omega, rfl, H.out, HB.out⟩
  case round =>
    obtain ⟨k, hk, hk60, rfl, hD, hB⟩ := hrel
    have D := Lib.hid hD
    have B := Lib.hid hB
    by_cases hlt : k < l.length
    · by_cases hlt60 : k < 60
      · obtain rfl := HA (List.ne_nil_of_length_pos (by omega))
        have hS := Dsk.St.runs_snoc s l k hlt
        obtain ⟨c, hc⟩ : ∃ c, l.getD k default = c := ⟨_, rfl⟩
        have hcc := HC.out k hlt
        rw [hc] at hcc hS
        obtain ⟨kind, n, a2, l2, c2, a3, l3, c3, t, x, rfl, wf, b2, b3, hold, g0, g1, g2, g3, g4, g5⟩ := call_at hcc hB
        have hoff : l3 ≠ [] → ∀ j, (Value.slice a3 l3.length c3).ownBlock = some j → j ∉ [d, bl, bw] := by
          intro hne j hj hm
          have h1 := hold hne j hj
          have h2 := HFS.out j hm
          omega
        have l0 : (0 : Int) ≤ (k : Int) := by omega
        have l1 : (k : Int) < (l.length : Int) := by omega
        have l6 : (k : Int) < 60 := by omega
        have HSM := small_any kind n a2 l2.length c2 a3 l3.length c3 t x
        obtain ⟨sm, hsm⟩ : ∃ sm, (decide (l2.length ≤ 1100) && decide (l3.length ≤ 60)) = sm := ⟨_, rfl⟩
        have hstep : s.runs (l.take (k + 1)) = if sm then (s.runs (l.take k)).did ⟨kind, n, l2, l3, t, x⟩ else s.runs (l.take k) := by
          rw [hS]; unfold Dsk.St.step CallD.small; rw [hsm]
        rw [hsm] at HSM
        have hl3 : sm = true → l3.length ≤ 60 := by
          intro e; rw [e] at hsm; simp at hsm; omega
        have HL3 := Lib.hid hl3
        have HS := Lib.hid hstep
        have WF := Lib.hid wf
        have B2 := Lib.hid b2
        have B3 := Lib.hid b3
        have HOF := Lib.hid hoff
        have HLT := Lib.hid hlt
        have HK : Hid (k + 1 ≤ l.length ∧ k + 1 ≤ 60) := ⟨by omega, by omega⟩
        generalize s.runs (l.take k) = s1 at *
        clear hS wf b2 b3 hoff hold hcc hc hlt hk hk60 hD hB hlt60 hsm hstep hl3
        go_wp2_with fail
        refine (HSM _).mono ?_
        rintro e w2 ⟨rfl, hB2⟩
        have hB2' : Below wr.heap.size wr w2 := (alloc_below wr _).trans (hB2.mono (by simp))
        have D2 := Lib.hid (D.out.below hB2')
        have B22 := hid_trans B hB2'
        have bb2 := Lib.hid (B2.out.below hB2')
        have bb3 := Lib.hid (B3.out.below hB2')
        have hblk : w2.heap[wr.heap.size]? = some (.cells #[.int .i64 kind, .int .i64 n, .slice a2 l2.length c2, .slice a3 l3.length c3, .int .i64 t, .int .u8 (x.toNat : Int)] 48 (0, 0)) := (hB2.block _ (by simp)).trans (heap_alloc_new _ _)
        have q0 : w2.cell? ⟨wr.heap.size, 0, none⟩ = some (.int .i64 kind) := row_cell hblk rfl
        have q1 : w2.cell? ⟨wr.heap.size, 1, none⟩ = some (.int .i64 n) := row_cell hblk rfl
        have q2 : w2.cell? ⟨wr.heap.size, 2, none⟩ = some (.slice a2 l2.length c2) := row_cell hblk rfl
        have q3 : w2.cell? ⟨wr.heap.size, 3, none⟩ = some (.slice a3 l3.length c3) := row_cell hblk rfl
        have q4 : w2.cell? ⟨wr.heap.size, 4, none⟩ = some (.int .i64 t) := row_cell hblk rfl
        have q5 : w2.cell? ⟨wr.heap.size, 5, none⟩ = some (.int .u8 (x.toNat : Int)) := row_cell hblk rfl
        clear hblk hB2 hB2' HSM B2 B3 g0 g1 g2 g3 g4 g5
        cases sm with
        | false =>
          simp only [Bool.false_eq_true, if_false] at HS
          go_wp2_with fail
          go_roundw
          case rel => exact ⟨k + 1, HK.out.1, HK.out.2, by go_num, by rw [HS.out]; exact D2.out, B22.out⟩
          case measure => simp [intOf]; omega
        | true =>
          simp only [if_true] at HS
          by_cases k1 : kind = 1
          · subst k1
            have HD : Hid (s1.did ⟨1, n, l2, l3, t, x⟩ = (s1.write n l2).2) := rfl
            go_wp2_with fail
            refine (write_any D2.out n _ l2 bb2.out).mono ?_
            rintro e w3 ⟨rfl, D3, hC⟩
            have B4 := bel_chg' B22 hC HFS.out
            have D3 := Lib.hid D3
            clear hC
            go_wp2_with fail
            go_roundw
            case rel => exact ⟨k + 1, HK.out.1, HK.out.2, by go_num, by rw [HS.out, HD.out]; exact D3.out, B4.out⟩
            case measure => simp [intOf]; omega
          · have n1 : (kind == 1) = false := beq_eq_false_iff_ne.2 k1
            by_cases k3 : kind = 3
            · subst k3
              have HD : Hid (s1.did ⟨3, n, l2, l3, t, x⟩ = (s1.flush).2) := rfl
              clear n1 k1
              go_wp2_with fail
              refine (flush_any D2.out).mono ?_
              rintro e w3 ⟨rfl, D3, hC⟩
              have B4 := bel_chg' B22 hC HFS.out
              have D3 := Lib.hid D3
              clear hC
              go_wp2_with fail
              go_roundw
              case rel => exact ⟨k + 1, HK.out.1, HK.out.2, by go_num, by rw [HS.out, HD.out]; exact D3.out, B4.out⟩
              case measure => simp [intOf]; omega
            · have n3 : (kind == 3) = false := beq_eq_false_iff_ne.2 k3
              by_cases k4 : kind = 4
              · subst k4
                have HD : Hid (s1.did ⟨4, n, l2, l3, t, x⟩ = s1.fuseAt n) := rfl
                clear n1 k1 n3 k3
                go_wp2_with fail
                refine (fuse_any D2.out n WF.out.n).mono ?_
                rintro e w3 ⟨rfl, D3, hC⟩
                have B4 := bel_chg' B22 hC HFS.out
                have D3 := Lib.hid D3
                clear hC
                go_wp2_with fail
                go_roundw
                case rel => exact ⟨k + 1, HK.out.1, HK.out.2, by go_num, by rw [HS.out, HD.out]; exact D3.out, B4.out⟩
                case measure => simp [intOf]; omega
              · have n4 : (kind == 4) = false := beq_eq_false_iff_ne.2 k4
                by_cases k5 : kind = 5
                · subst k5
                  have HD : Hid (s1.did ⟨5, n, l2, l3, t, x⟩ = s1.restart l3) := rfl
                  clear n1 k1 n3 k3 n4 k4
                  go_wp2_with fail
                  refine (restart_any D2.out _ l3 bb3.out WF.out.keep (by have := HL3.out (by simp); omega) HOF.out).mono ?_
                  rintro e w3 ⟨rfl, D3, hC⟩
                  have B4 := bel_chg' B22 hC HFS.out
                  have D3 := Lib.hid D3
                  clear hC
                  go_wp2_with fail
                  go_roundw
                  case rel => exact ⟨k + 1, HK.out.1, HK.out.2, by go_num, by rw [HS.out, HD.out]; exact D3.out, B4.out⟩
                  case measure => simp [intOf]; omega
                · have n5 : (kind == 5) = false := beq_eq_false_iff_ne.2 k5
                  by_cases k6 : kind = 6
                  · subst k6
                    have HD : Hid (s1.did ⟨6, n, l2, l3, t, x⟩ = (s1.turn n t x).2) := rfl
                    clear n1 k1 n3 k3 n4 k4 n5 k5
                    go_wp2_with fail
                    refine (turn_any D2.out n t x WF.out.at_).mono ?_
                    rintro e w3 ⟨rfl, D3, hC⟩
                    have B4 := bel_chg' B22 hC HFS.out
                    have D3 := Lib.hid D3
                    clear hC
                    go_wp2_with fail
                    go_roundw
                    case rel => exact ⟨k + 1, HK.out.1, HK.out.2, by go_num, by rw [HS.out, HD.out]; exact D3.out, B4.out⟩
                    case measure => simp [intOf]; omega
                  · have n6 : (kind == 6) = false := beq_eq_false_iff_ne.2 k6
                    have HD : Hid (s1.did ⟨kind, n, l2, l3, t, x⟩ = s1) := by unfold Hid Dsk.St.did; simp [k1, k3, k4, k5, k6]
                    clear k1 k3 k4 k5 k6
                    go_wp2_with fail
                    go_roundw
                    case rel => exact ⟨k + 1, HK.out.1, HK.out.2, by go_num, by rw [HS.out, HD.out]; exact D2.out, B22.out⟩
                    case measure => simp [intOf]; omega
      · obtain rfl : k = 60 := by omega
        have l1 : (60 : Int) < (l.length : Int) := by omega
        clear hlt hk hk60 hlt60 hD hB
        go_wp2_with fail
        go_end0
        exact ⟨rfl, D.out, B.out⟩
    · obtain rfl : k = l.length := by omega
      have e : l.take 60 = l := List.take_of_length_le hk60
      rw [List.take_of_length_le (Nat.le_refl _)] at D
      have E := Lib.hid e
      clear hlt hk hk60 e hD hB
      go_wp2_with fail
      go_end0
      rw [E.out]
      exact ⟨rfl, D.out, B.out⟩

end Go.Proofs.Ytddcdhmeknkphaa
