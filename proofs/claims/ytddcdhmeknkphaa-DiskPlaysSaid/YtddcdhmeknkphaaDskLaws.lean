/- Walks of the statements' own functions over package disk: DiskNil, DiskFuses. -/
import Derived.Test.YtddcdhmeknkphaaDskAwake
namespace Go.Proofs.Ytddcdhmeknkphaa
open Go.RowKit

set_option maxRecDepth 100000 in
set_option maxHeartbeats 4000000 in
theorem diskNil_walk (n : Int) (v : Value) (b : List UInt8) (w : World) (n0 : -9223372036854775808 ≤ n) (n1 : n ≤ 9223372036854775807) (hb : Bytes w v b) :
    Calls Try.prog 7 #[.int .i64 n, v] w fun e w' => e = .returned (.bool true) ∧ Below w.heap.size w w' := by
  obtain ⟨a, cap, rfl, -, -⟩ := hb.opened
  clear hb
  go_enter Try.func7, Try.ntmps7
  go_wp2_with (first
    | (go_at_call 9; refine (awake4_any _).mono ?_; rintro e w1 ⟨rfl, HB⟩; have B1 := Lib.hid HB; clear HB)
    | (go_at_call 17; refine (read_nil _ _).mono ?_; rintro e w2 ⟨rfl, rfl⟩)
    | (go_at_call 11; refine (fuse_nil _ _).mono ?_; rintro e w2 ⟨rfl, rfl⟩)
    | (go_at_call 15; refine (restart_nil _ _).mono ?_; rintro e w2 ⟨rfl, rfl⟩)
    | (go_at_call 12; refine (write_nil _ _ _).mono ?_; rintro e w2 ⟨rfl, rfl⟩)
    | (go_at_call 13; refine (flush_nil _).mono ?_; rintro e w2 ⟨rfl, rfl⟩)
    | (go_at_call 24; refine (size_nil _).mono ?_; rintro e w2 ⟨rfl, rfl⟩)
    | (go_at_call 14; refine (down_nil _).mono ?_; rintro e w2 ⟨rfl, rfl⟩)
    | (go_at_call 25; refine (turn_nil _ _ _ _).mono ?_; rintro e w2 ⟨rfl, rfl⟩)
    | (go_at_call 26; refine (lasts_nil _).mono ?_; rintro e w2 ⟨rfl, rfl⟩)
    | (go_at_call 19; refine (waits_nil _).mono ?_; rintro e w2 ⟨rfl, rfl⟩))
  go_ret
  exact ⟨rfl, B1.out⟩

/-- a disk with a fuse, behind i acts -/
structure FuseAt (s : Dsk.St) (k : Int) (i : Nat) : Prop where
  size : s.size = 4
  down : s.down = decide (0 ≤ k ∧ k < i)
  fused : s.fused = decide (0 ≤ k)
  fuse : 0 ≤ k → (i : Int) ≤ k → s.fuse = k - i
  zero : 0 ≤ k → k < (i : Int) → s.fuse = 0

def gone (k : Int) (i : Nat) : Bool := decide (0 ≤ k ∧ k ≤ i)

theorem fuse_act {s : Dsk.St} {k : Int} {i : Nat} (h : FuseAt s k i) (hd : s.down = false) : s.blocked = gone k i ∧ FuseAt s.act k (i + 1) := by
  have hd' := h.down
  rw [hd] at hd'
  have hnd : ¬ (0 ≤ k ∧ k < i) := of_decide_eq_false hd'.symm
  have hbl : s.blocked = gone k i := by
    unfold Dsk.St.blocked gone
    rw [h.fused]
    by_cases h0 : 0 ≤ k
    · have := h.fuse h0 (by omega)
      rw [this, decide_eq_true h0, Bool.true_and]
      by_cases e : k = i
      · rw [decide_eq_true (by omega), decide_eq_true (by omega)]
      · rw [decide_eq_false (by omega), decide_eq_false (by omega)]
    · rw [decide_eq_false h0, Bool.false_and]; exact (decide_eq_false (by omega)).symm
  refine ⟨hbl, ?_⟩
  unfold Dsk.St.act
  rw [hbl]
  cases hg : gone k i with
  | true =>
    have hg' := of_decide_eq_true hg
    simp only [if_true]
    exact ⟨h.size, by simp only; exact (decide_eq_true (by omega)).symm, h.fused, fun h0 h1 => by omega, fun h0 h1 => by have := h.fuse h0 (by omega); simp only; omega⟩
  | false =>
    have hg' := of_decide_eq_false hg
    simp only [Bool.false_eq_true, if_false]
    by_cases h0 : 0 ≤ k
    · rw [if_pos (by rw [h.fused]; exact decide_eq_true h0)]
      have hf := h.fuse h0 (by omega)
      refine ⟨h.size, ?_, h.fused, fun _ h1 => ?_, fun _ h1 => by omega⟩
      · simp only; rw [hd]; exact (decide_eq_false (by omega)).symm
      · simp only; omega
    · rw [if_neg (by rw [h.fused]; simp [h0])]
      exact ⟨h.size, by rw [hd]; exact (decide_eq_false (by omega)).symm, h.fused, fun h1 => absurd h1 h0, fun h1 => absurd h1 h0⟩

theorem fuse_flush {s : Dsk.St} {k : Int} {i : Nat} (h : FuseAt s k i) : (s.flush).1 = (if gone k i then 40 else 0) ∧ FuseAt (s.flush).2 k (i + 1) := by
  unfold Dsk.St.flush
  cases hd : s.down with
  | true =>
    have hd' := h.down
    rw [hd] at hd'
    have hnd : 0 ≤ k ∧ k < i := of_decide_eq_true hd'.symm
    have hg : gone k i = true := decide_eq_true (by omega)
    rw [hg]
    exact ⟨rfl, h.size, (show s.down = _ by rw [hd]; exact (decide_eq_true (by omega)).symm), h.fused, fun h0 h1 => by omega, fun h0 h1 => h.zero h0 hnd.2⟩
  | false =>
    obtain ⟨h1, h2⟩ := fuse_act h hd
    rw [h1]
    cases hg : gone k i with
    | true => exact ⟨rfl, h2⟩
    | false => exact ⟨rfl, h2.size, h2.down, h2.fused, h2.fuse, h2.zero⟩

theorem fuse_write {s : Dsk.St} {k : Int} {i : Nat} (h : FuseAt s k i) (n : Int) (b : List UInt8) (n0 : 0 ≤ n) (n1 : n < 4) (hb : b.length ≤ 1024) : (s.write n b).1 = (if gone k i then 40 else 0) ∧ FuseAt (s.write n b).2 k (i + 1) := by
  unfold Dsk.St.write
  have hin : s.inside n = true := Dsk.St.inside_iff.2 ⟨n0, by rw [h.size]; exact n1⟩
  have hl : decide (1024 < b.length) = false := decide_eq_false (by omega)
  rw [hin, hl]
  cases hd : s.down with
  | true =>
    have hd' := h.down
    rw [hd] at hd'
    have hnd : 0 ≤ k ∧ k < i := of_decide_eq_true hd'.symm
    have hg : gone k i = true := decide_eq_true (by omega)
    rw [hg]
    exact ⟨rfl, h.size, (show s.down = _ by rw [hd]; exact (decide_eq_true (by omega)).symm), h.fused, fun h0 h1 => by omega, fun h0 h1 => h.zero h0 hnd.2⟩
  | false =>
    obtain ⟨h1, h2⟩ := fuse_act h hd
    rw [h1]
    cases hg : gone k i with
    | true => exact ⟨rfl, h2⟩
    | false => exact ⟨rfl, h2.size, h2.down, h2.fused, h2.fuse, h2.zero⟩

theorem fuse_start (k : Int) : FuseAt (((Dsk.St.new 4)).fuseAt k) k 0 :=
  ⟨rfl, by simp only [Dsk.St.fuseAt, Dsk.St.new]; exact (decide_eq_false (by omega)).symm, rfl, fun _ _ => by simp [Dsk.St.fuseAt], fun h0 h1 => by omega⟩

theorem idx50 (t : Int) : ∃ i : Nat, i < 50 ∧ ((t < 0 ∧ -((t + 1).tmod 50) = (i : Int)) ∨ (¬ t < 0 ∧ t.tmod 50 = (i : Int))) := by
  by_cases hneg : t < 0
  · have h1 : 0 ≤ -((t + 1).tmod 50) := by
      rw [← Int.neg_tmod]; exact Int.tmod_nonneg _ (by omega)
    have h2 : -((t + 1).tmod 50) < 50 := by
      rw [← Int.neg_tmod]; exact Int.tmod_lt_of_pos _ (by omega)
    exact ⟨(-((t + 1).tmod 50)).toNat, by omega, .inl ⟨hneg, by omega⟩⟩
  · have h1 : 0 ≤ t.tmod 50 := Int.tmod_nonneg _ (by omega)
    have h2 : t.tmod 50 < 50 := Int.tmod_lt_of_pos _ (by omega)
    exact ⟨(t.tmod 50).toNat, by omega, .inr ⟨hneg, by omega⟩⟩

theorem gone_down (k : Int) (m : Nat) : decide (0 ≤ k ∧ k < ((m + 1 : Nat) : Int)) = gone k m := by
  unfold gone
  by_cases h : 0 ≤ k ∧ k ≤ m
  · rw [decide_eq_true h, decide_eq_true (by omega)]
  · rw [decide_eq_false h, decide_eq_false (by omega)]
theorem gone_cases (k : Int) (m : Nat) : (¬ 0 ≤ k ∧ gone k m = false) ∨ (0 ≤ k ∧ k ≤ m ∧ gone k m = true) ∨ (0 ≤ k ∧ ¬ k ≤ m ∧ gone k m = false) := by
  unfold gone
  by_cases h0 : 0 ≤ k
  · by_cases h1 : k ≤ m
    · exact .inr (.inl ⟨h0, h1, decide_eq_true ⟨h0, h1⟩⟩)
    · exact .inr (.inr ⟨h0, h1, decide_eq_false (by omega)⟩)
  · exact .inl ⟨h0, decide_eq_false (by omega)⟩

/-- behind the crash: nothing down, nothing fused -/
theorem restart_flush (s : Dsk.St) : (s.restart []).down = false ∧ ((s.restart []).flush).1 = 0 := by
  refine ⟨rfl, ?_⟩
  unfold Dsk.St.flush Dsk.St.blocked
  simp [Dsk.St.restart, Dsk.St.wake]

theorem tmod_nat (m n : Nat) : (m : Int).tmod (n : Int) = ((m % n : Nat) : Int) := (Int.ofNat_tmod m n).symm

set_option maxRecDepth 100000 in
set_option maxHeartbeats 4000000 in
theorem diskFuses_walk (k t : Int) (w : World) (k0 : -9223372036854775808 ≤ k) (k1 : k ≤ 9223372036854775807) (t0 : -9223372036854775808 ≤ t) (t1 : t ≤ 9223372036854775807) :
    Calls Try.prog 3 #[.int .i64 k, .int .i64 t] w fun e w' => e = .returned (.bool true) ∧ Below w.heap.size w w' := by
  obtain ⟨n, hn, hcase⟩ := idx50 t
  rcases hcase with ⟨hneg, hidx⟩ | ⟨hneg, hidx⟩
  all_goals
    go_enter Try.func3, Try.ntmps3
    go_wp2_with fail
    refine (awake4_any _).mono ?_
    rintro e w1 ⟨rfl, HB⟩
    have B1 := Lib.hid HB
    clear HB
    go_wp2_with fail
    refine (new_ok 4 (by omega) (by omega) w1).mono ?_
    rintro e w2 ⟨d, bl, bw, rfl, D2, hB, hd, hl, hw⟩
    have hfs : Hid (∀ k ∈ [d, bl, bw], w.heap.size ≤ k) := by
      intro k hk
      have := B1.out.size
      simp only [List.mem_cons, List.not_mem_nil, or_false] at hk
      rcases hk with rfl | rfl | rfl <;> omega
    have B2 := hid_trans B1 hB
    change DskAt w2 d bl bw (Dsk.St.new 4) at D2
    clear hB hd hl hw B1
    go_wp2_with fail
    refine (fuse_any D2 k ⟨k0, k1⟩).mono ?_
    rintro e w3 ⟨rfl, D3, hC⟩
    have B3 := bel_chg B2 hC hfs.out
    have HF3 := Lib.hid (fuse_start k)
    have D3 := Lib.hid D3
    generalize (Dsk.St.new 4).fuseAt k = s3 at *
    clear D2 B2 hC
    go_wp2_with fail
    go_loopw [8] (fun i wr => ∃ m : Nat, m ≤ n ∧ i = .int .i64 m ∧ ∃ s, DskAt wr d bl bw s ∧ FuseAt s k m ∧ Below w.heap.size w wr) (fun i _ => n - (intOf i).toNat)
    case atStart => exact ⟨0, by omega, rfl, s3, D3.out, HF3.out, B3.out⟩
    case round =>
      obtain ⟨m, hm, rfl, s, hD, hF, hB⟩ := hrel
      have D := Lib.hid hD
      have F := Lib.hid hF
      have B := Lib.hid hB
      by_cases hlt : m < n
      · have l1 : (m : Int) < (n : Int) := by omega
        have HLT := Lib.hid hlt
        have HM50 : Hid (m < 50) := by unfold Hid; omega
        by_cases h3 : m % 3 = 0
        · have t3 : (m : Int).tmod 3 = 0 := by have := tmod_nat m 3; rw [h3] at this; exact this
          obtain ⟨f1, f2⟩ := fuse_flush hF
          have hfl := flush_any hD
          rw [f1] at hfl
          have hdn := f2.down
          rw [gone_down] at hdn
          have F2 := Lib.hid f2
          have HDN := Lib.hid hdn
          rcases gone_cases k m with ⟨g1, g2⟩ | ⟨g1, g3, g2⟩ | ⟨g1, g3, g2⟩
          all_goals
            rw [g2] at HDN
            simp only [g2, if_true, Bool.false_eq_true, if_false] at hfl
            clear hD hF hB hlt hm h3 f1 f2 hdn g2
            go_wp2_with fail
            refine hfl.mono ?_
            rintro e w4 ⟨rfl, D4, hC⟩
            have B4 := bel_chg B hC hfs.out
            have D4 := Lib.hid D4
            clear hC hfl
            go_wp2_with fail
            refine (down_any D4.out).mono ?_
            rintro e w4' ⟨rfl, rfl⟩
            rw [HDN.out]
            go_wp2_with fail
            go_roundw
            case rel => exact ⟨m + 1, by have := HLT.out; omega, by go_num, _, D4.out, F2.out, B4.out⟩
            case measure => simp [intOf]; have := HLT.out; omega
        · have t3 : (m : Int).tmod 3 = ((m % 3 : Nat) : Int) := tmod_nat m 3
          have t3p : (0 : Int) < ((m % 3 : Nat) : Int) := by omega
          have t4 : (m : Int).tmod 4 = ((m % 4 : Nat) : Int) := tmod_nat m 4
          have t40 : (0 : Int) ≤ ((m % 4 : Nat) : Int) := by omega
          have t41 : ((m % 4 : Nat) : Int) < 4 := by omega
          have m8 : ((UInt8.ofNat m).toNat : Int) = (m : Int) := by have := HM50.out; simp; omega
          have hbm := dsk_byte wr (UInt8.ofNat m) 5
          rw [m8] at hbm
          generalize m % 3 = j3 at t3 t3p h3
          generalize m % 4 = j4 at t4 t40 t41
          obtain ⟨f1, f2⟩ := fuse_write hF (j4 : Int) [UInt8.ofNat m] t40 t41 (by simp)
          generalize UInt8.ofNat m = x at *
          have b4 := hid_trans B (alloc_below wr (.cells #[.int .u8 (m : Int)] 5))
          have hfl := write_any (hD.below (alloc_below wr (.cells #[.int .u8 (m : Int)] 5))) (j4 : Int) _ [x] hbm
          rw [f1] at hfl
          have hdn := f2.down
          rw [gone_down] at hdn
          have F2 := Lib.hid f2
          have HDN := Lib.hid hdn
          rcases gone_cases k m with ⟨g1, g2⟩ | ⟨g1, g3, g2⟩ | ⟨g1, g3, g2⟩
          all_goals
            rw [g2] at HDN
            simp only [g2, if_true, Bool.false_eq_true, if_false] at hfl
            clear hD hF hB hlt hm h3 f1 f2 hdn g2 hbm m8
            go_wp2_with fail
            refine hfl.mono ?_
            rintro e w4 ⟨rfl, D4, hC⟩
            have B4 := bel_chg b4 hC hfs.out
            have D4 := Lib.hid D4
            clear hC hfl
            go_wp2_with fail
            refine (down_any D4.out).mono ?_
            rintro e w4' ⟨rfl, rfl⟩
            rw [HDN.out]
            go_wp2_with fail
            go_roundw
            case rel => exact ⟨m + 1, by have := HLT.out; omega, by go_num, _, D4.out, F2.out, B4.out⟩
            case measure => simp [intOf]; have := HLT.out; omega
      · obtain rfl : m = n := by omega
        clear hD hF hB hlt hm
        go_wp2_with fail
        refine (restart_any D.out (.slice none 0 0) [] (Row.nil _) (fun _ h => by cases h) (by simp) (fun h => absurd rfl h)).mono ?_
        rintro e w4 ⟨rfl, D4, hC⟩
        have B4 := bel_chg B hC hfs.out
        obtain ⟨r1, r2⟩ := restart_flush s
        generalize s.restart [] = s4 at *
        clear hC
        go_wp2_with fail
        refine (down_any D4).mono ?_
        rintro e w4' ⟨rfl, rfl⟩
        rw [r1]
        go_wp2_with fail
        have hfl := flush_any D4
        rw [r2] at hfl
        refine hfl.mono ?_
        rintro e w5 ⟨rfl, -, hC⟩
        have B5 := bel_chg B4 hC hfs.out
        clear hC hfl
        go_wp2_with fail
        go_ret
        exact ⟨rfl, B5.out⟩

end Go.Proofs.Ytddcdhmeknkphaa
