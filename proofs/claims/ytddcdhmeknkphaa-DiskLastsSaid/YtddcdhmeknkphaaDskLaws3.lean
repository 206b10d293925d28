/- Walks of DiskLasts. -/
import Derived.Test.YtddcdhmeknkphaaDskLaws2
namespace Go.Proofs.Ytddcdhmeknkphaa
open Go.RowKit

set_option maxRecDepth 100000 in
set_option maxHeartbeats 4000000 in
theorem diskLasts_walk (vs : Value) (script : List CallD) (n : Int) (v : Value) (b : List UInt8) (m : Int) (vc : Value) (c : List UInt8) (vk : Value) (keep : List Int) (w : World) (hs : Calls4 w vs script) (n0 : -9223372036854775808 ≤ n) (n1 : n ≤ 9223372036854775807) (hb : Bytes w v b) (m0 : -9223372036854775808 ≤ m) (m1 : m ≤ 9223372036854775807) (hc : Bytes w vc c) (hk : Row w vk (intVals keep)) (hki : ∀ k ∈ keep, inI64 k) :
    Calls Try.prog 5 #[vs, .int .i64 n, v, .int .i64 m, vc, vk] w fun e w' => e = .returned (.bool true) ∧ Below w.heap.size w w' := by
  obtain ⟨ab, cb, rfl, -, -⟩ := hb.opened
  obtain ⟨ac, cc, rfl, -, -⟩ := hc.opened
  have hold : keep ≠ [] → ∀ j, vk.ownBlock = some j → j < w.heap.size := fun hne => hk.old (by intro e; apply hne; simpa [intVals] using e)
  obtain ⟨ak, ck, rfl, -, -⟩ := hk.opened
  rw [intVals_length] at *
  have HSC := Lib.hid hs
  have HBB := Lib.hid hb
  have HCC := Lib.hid hc
  have HKK := Lib.hid hk
  have HKI := Lib.hid hki
  have HOLD := Lib.hid hold
  clear hs hb hc hk hki hold
  go_enter Try.func5, Try.ntmps5
  go_wp2_with fail
  refine (awake4_any _).mono ?_
  rintro e w1 ⟨rfl, HB⟩
  have B1 := Lib.hid HB
  clear HB
  go_wp2_with fail
  refine (new_ok 8 (by omega) (by omega) w1).mono ?_
  rintro e w2 ⟨d, bl, bw, rfl, D2, hB, hd, hl, hw⟩
  have hfs : Hid (∀ k ∈ [d, bl, bw], w.heap.size ≤ k) := by
    intro k hk
    have := B1.out.size
    simp only [List.mem_cons, List.not_mem_nil, or_false] at hk
    rcases hk with rfl | rfl | rfl <;> omega
  have B2 := hid_trans B1 hB
  change DskAt w2 d bl bw (Dsk.St.new 8) at D2
  have D2 := Lib.hid D2
  clear hB hd hl hw B1
  by_cases hgood : b.length ≤ 1024 ∧ c.length ≤ 1024 ∧ keep.length ≤ 60 ∧ 0 ≤ n ∧ n ≤ 7
  · obtain ⟨g1, g2, g3, g4, g5⟩ := hgood
    have i1 : ¬ (1024 : Int) < (b.length : Int) := by omega
    have i2 : ¬ (1024 : Int) < (c.length : Int) := by omega
    have i3 : ¬ (60 : Int) < (keep.length : Int) := by omega
    have i4 : ¬ n < 0 := by omega
    have i5 : ¬ (7 : Int) < n := by omega
    have HG1 := Lib.hid g1
    have HG2 := Lib.hid g2
    have HG3 := Lib.hid g3
    clear g1 g2 g3
    go_wp2_with fail
    refine (done_any D2.out vs script HSC.out B2.out hfs.out).mono ?_
    rintro e w3 ⟨rfl, D3, hB⟩
    have B3 := Lib.hid hB
    have hsz : ((Dsk.St.new 8).runs (script.take 60)).size = 8 := Dsk.St.runs_size _ _
    generalize (Dsk.St.new 8).runs (script.take 60) = s3 at *
    have hin : (s3.restart []).inside n = true := by
      rw [Dsk.St.inside_iff, Dsk.St.restart_size, hsz]; omega
    obtain ⟨p1, p2, p3, p4⟩ := Dsk.St.lasts_plain s3 n m b c keep hin HG1.out HG2.out
    have pw := Dsk.St.restart_waits ((((s3.restart []).write n b).2.flush).2.write m c).2 keep
    have P1 := Lib.hid p1
    have P2 := Lib.hid p2
    have P3 := Lib.hid p3
    have P4 := Lib.hid p4
    have PW := Lib.hid pw
    clear D2 B2 hB hsz hin p1 p2 p3 p4 pw
    go_wp2_with fail
    refine (restart_any D3 (.slice none 0 0) [] (Row.nil _) (fun _ h => by cases h) (by simp) (fun h => absurd rfl h)).mono ?_
    rintro e w4 ⟨rfl, D4, hC⟩
    have B4 := bel_chg B3 hC hfs.out
    generalize s3.restart [] = s4 at *
    clear D3 B3 hC
    go_wp2_with fail
    have hw5 := write_any D4 n _ b (HBB.out.below B4.out)
    rw [P1.out] at hw5
    refine hw5.mono ?_
    rintro e w5 ⟨rfl, D5, hC⟩
    have B5 := bel_chg B4 hC hfs.out
    generalize (s4.write n b).2 = s5 at *
    clear D4 B4 hC hw5
    go_wp2_with fail
    have hw6 := flush_any D5
    rw [P2.out] at hw6
    refine hw6.mono ?_
    rintro e w6 ⟨rfl, D6, hC⟩
    have B6 := bel_chg B5 hC hfs.out
    generalize (s5.flush).2 = s6 at *
    clear D5 B5 hC hw6
    go_wp2_with fail
    have hw7 := write_any D6 m _ c (HCC.out.below B6.out)
    generalize (s6.write m c).1 = e7 at hw7
    refine hw7.mono ?_
    rintro e w7 ⟨rfl, D7, hC⟩
    have B7 := bel_chg B6 hC hfs.out
    generalize (s6.write m c).2 = s7 at *
    clear D6 B6 hC hw7
    go_wp2_with fail
    refine (restart_any D7 _ keep (HKK.out.below B7.out) HKI.out (by have := HG3.out; omega) (fun hne j hj hm => by
      have h1 := HOLD.out hne j hj
      have h2 := hfs.out j hm
      omega)).mono ?_
    rintro e w8 ⟨rfl, D8, hC⟩
    have B8 := bel_chg B7 hC hfs.out
    generalize s7.restart keep = s8 at *
    clear D7 B7 hC
    go_wp2_with fail
    have hrd := read_any D8 n
    rw [P3.out, if_pos rfl] at hrd
    generalize s8.look n.toNat = x at *
    refine hrd.mono ?_
    rintro e w9 ⟨a9, c9, rfl, hx, hB⟩
    have D9 := D8.below hB
    have B9 := hid_trans B8 hB
    have b9 := HBB.out.below B9.out
    have k9 := HCC.out.below B9.out
    clear hrd D8 B8 hB
    go_wp2_with fail
    refine (same_any _ _ x b _ hx b9).mono ?_
    rintro e w9' ⟨rfl, rfl⟩
    go_wp2_with fail
    refine (same_any _ _ x c _ hx k9).mono ?_
    rintro e w9' ⟨rfl, rfl⟩
    have hwt := waits_any D9
    rw [PW.out] at hwt
    have HW := Lib.hid hwt
    rcases P4.out with rfl | ⟨rfl, rfl⟩
    · rw [decide_eq_true rfl]
      generalize decide (x = c) = two
      clear hx b9 k9 D9 hwt P4
      go_wp2_with fail
      refine HW.out.mono ?_
      rintro e w10 ⟨a10, c10, rfl, -, hB⟩
      simp only [List.length_nil]
      have B10 := hid_trans B9 hB
      clear hB
      go_wp2_with fail
      go_ret
      exact ⟨rfl, B10.out⟩
    · rw [show decide (x = x) = true from decide_eq_true rfl]
      generalize decide (x = b) = one
      clear hx b9 k9 D9 hwt P4
      cases one
      all_goals
        go_wp2_with fail
        refine HW.out.mono ?_
        rintro e w10 ⟨a10, c10, rfl, -, hB⟩
        simp only [List.length_nil]
        have B10 := hid_trans B9 hB
        clear hB
        go_wp2_with fail
        go_ret
        exact ⟨rfl, B10.out⟩
  · have hcase : (1024 : Int) < (b.length : Int) ∨ (¬ (1024 : Int) < (b.length : Int) ∧ (1024 : Int) < (c.length : Int)) ∨ (¬ (1024 : Int) < (b.length : Int) ∧ ¬ (1024 : Int) < (c.length : Int) ∧ (60 : Int) < (keep.length : Int)) ∨
        (¬ (1024 : Int) < (b.length : Int) ∧ ¬ (1024 : Int) < (c.length : Int) ∧ ¬ (60 : Int) < (keep.length : Int) ∧ n < 0) ∨ (¬ (1024 : Int) < (b.length : Int) ∧ ¬ (1024 : Int) < (c.length : Int) ∧ ¬ (60 : Int) < (keep.length : Int) ∧ ¬ n < 0 ∧ (7 : Int) < n) := by omega
    clear hgood
    rcases hcase with i1 | ⟨i1, i2⟩ | ⟨i1, i2, i3⟩ | ⟨i1, i2, i3, i4⟩ | ⟨i1, i2, i3, i4, i5⟩
    all_goals
      go_wp2_with fail
      go_ret
      exact ⟨rfl, B2.out⟩

end Go.Proofs.Ytddcdhmeknkphaa
