/- Walks of DiskReads. -/
import Derived.Test.YtddcdhmeknkphaaDskDone
import Derived.Test.YtddcdhmeknkphaaDskPlain3
import Derived.Test.YtddcdhmeknkphaaStr
namespace Go.Proofs.Ytddcdhmeknkphaa
open Go.RowKit

/-- tailraceref02.Same -/
theorem same_any (v u : Value) (l m : List UInt8) (w : World) (h : Bytes w v l) (k : Bytes w u m) :
    Calls Try.prog 18 #[v, u] w fun e w' => e = .returned (.bool (decide (l = m))) ∧ w = w' := by
  have s1 := str_bytes h
  have s2 := str_bytes k
  obtain ⟨a, c, rfl, -, -⟩ := h.opened
  obtain ⟨a', c', rfl, -, -⟩ := k.opened
  clear h k
  go_enter Try.func18, Try.ntmps18
  go_wp2_with fail
  go_ret
  exact ⟨congrArg (fun b => Ending.returned (.bool b)) (strOf_beq l m), rfl⟩

set_option maxRecDepth 100000 in
set_option maxHeartbeats 4000000 in
theorem diskReads_walk (vs : Value) (script : List CallD) (n : Int) (v : Value) (b : List UInt8) (w : World) (hs : Calls4 w vs script) (n0 : -9223372036854775808 ≤ n) (n1 : n ≤ 9223372036854775807) (hb : Bytes w v b) :
    Calls Try.prog 4 #[vs, .int .i64 n, v] w fun e w' => e = .returned (.bool true) ∧ Below w.heap.size w w' := by
  obtain ⟨ab, cb, rfl, -, -⟩ := hb.opened
  have HSC := Lib.hid hs
  have HBB := Lib.hid hb
  clear hs hb
  go_enter Try.func4, Try.ntmps4
  go_wp2_with fail
  refine (awake4_any _).mono ?_
  rintro e w1 ⟨rfl, HB⟩
  have B1 := Lib.hid HB
  clear HB
  go_wp2_with fail
  refine (new_ok 8 (by omega) (by omega) w1).mono ?_
  rintro e w2 ⟨d, bl, bw, rfl, D2, hB, hd, hl, hw⟩
  have hfs : Hid (∀ k ∈ [d, bl, bw], w.heap.size ≤ k) := by
    intro k hk
    have := B1.out.size
    simp only [List.mem_cons, List.not_mem_nil, or_false] at hk
    rcases hk with rfl | rfl | rfl <;> omega
  have B2 := hid_trans B1 hB
  change DskAt w2 d bl bw (Dsk.St.new 8) at D2
  clear hB hd hl hw B1
  go_wp2_with fail
  refine (done_any D2 vs script HSC.out B2.out hfs.out).mono ?_
  rintro e w3 ⟨rfl, D3, hB⟩
  have B3 := Lib.hid hB
  have hsz : ((Dsk.St.new 8).runs (script.take 60)).size = 8 := Dsk.St.runs_size _ _
  generalize (Dsk.St.new 8).runs (script.take 60) = s3 at *
  clear D2 B2 hB
  go_wp2_with fail
  have hbb := HBB.out.below B3.out
  have hwr := write_any D3 n _ b hbb
  have hin : s3.inside n = true ↔ 0 ≤ n ∧ n < 8 := by rw [Dsk.St.inside_iff, hsz]; rfl
  have hsz4 : (s3.write n b).2.size = 8 := (Dsk.St.write_size _ _ _).trans hsz
  have hup := Dsk.St.write_up (s := s3) n b
  generalize (s3.write n b).1 = e1 at *
  generalize (s3.write n b).2 = s4 at *
  refine hwr.mono ?_
  rintro e w4 ⟨rfl, D4, hC⟩
  have hb4 := hbb.off hC D3.no
  have B4 := bel_chg B3 hC hfs.out
  clear hwr hbb D3 B3 hC
  have hrd := read_any D4 n
  cases hdn : s4.down with
  | true =>
    rw [Dsk.St.use_down hdn] at hrd
    have e2 := Dsk.St.flush_down hdn
    have hfd : (s4.flush).2 = s4 := by unfold Dsk.St.flush; rw [hdn]; rfl
    have e3 := Dsk.St.write_down hdn n b
    have HDN := Lib.hid hdn
    have HE2 := Lib.hid e2
    have HE3 := Lib.hid e3
    have HFD := Lib.hid hfd
    simp only [show ((40 : Int) = 0) = False from by simp, if_false] at hrd
    clear hup hin hsz hsz4 hdn e2 e3 hfd
    go_wp2_with fail
    refine hrd.mono ?_
    rintro e w5 ⟨a5, c5, rfl, -, hB⟩
    simp only [List.length_nil]
    have D5 := D4.below hB
    have hb5 := hb4.below hB
    have B5 := hid_trans B4 hB
    clear hrd D4 hb4 B4 hB
    go_wp2_with fail
    refine (down_any D5).mono ?_
    rintro e w5' ⟨rfl, rfl⟩
    rw [HDN.out]
    go_wp2_with fail
    have hfl := flush_any D5
    rw [HE2.out, HFD.out] at hfl
    refine hfl.mono ?_
    rintro e w6 ⟨rfl, D6, hC⟩
    have hb6 := hb5.off hC D5.no
    have B6 := bel_chg B5 hC hfs.out
    clear hfl D5 hb5 B5 hC
    go_wp2_with fail
    have hw7 := write_any D6 n _ b hb6
    rw [HE3.out] at hw7
    refine hw7.mono ?_
    rintro e w7 ⟨rfl, D7, hC⟩
    have B7 := bel_chg B6 hC hfs.out
    clear hw7 D6 hb6 B6 hC
    go_wp2_with fail
    go_ret
    exact ⟨rfl, B7.out⟩
  | false =>
    rcases hup hdn with ⟨h1, h2, rfl, h4, h5⟩ | ⟨h1, rfl⟩
    · have HDN := Lib.hid hdn
      rw [h4, if_pos rfl, h5] at hrd
      obtain ⟨i0, i1⟩ := hin.1 h1
      have i1' : ¬ (7 : Int) < n := by omega
      have i0' : ¬ n < 0 := by omega
      have i2 : ¬ (1024 : Int) < (b.length : Int) := by omega
      clear hup hin hsz hsz4 hdn h1 h2 h4 h5
      go_wp2_with fail
      refine hrd.mono ?_
      rintro e w5 ⟨a5, c5, rfl, hx, hB⟩
      have D5 := D4.below hB
      have hb5 := hb4.below hB
      have B5 := hid_trans B4 hB
      clear hrd D4 hb4 B4 hB
      go_wp2_with fail
      refine (down_any D5).mono ?_
      rintro e w5' ⟨rfl, rfl⟩
      rw [HDN.out]
      go_wp2_with fail
      refine (same_any _ _ b b _ hx hb5).mono ?_
      rintro e w5' ⟨rfl, rfl⟩
      rw [decide_eq_true rfl]
      go_wp2_with fail
      go_ret
      exact ⟨rfl, B5.out⟩
    · have HDN := Lib.hid hdn
      have hcase : n < 0 ∨ (¬ n < 0 ∧ (7 : Int) < n) ∨ (¬ n < 0 ∧ ¬ (7 : Int) < n ∧ (1024 : Int) < (b.length : Int)) := by
        rcases h1 with h1 | h1
        · by_cases i0 : n < 0
          · exact .inl i0
          · by_cases i1 : (7 : Int) < n
            · exact .inr (.inl ⟨i0, i1⟩)
            · have := hin.2 ⟨by omega, by omega⟩
              rw [h1] at this; cases this
        · by_cases i0 : n < 0
          · exact .inl i0
          · by_cases i1 : (7 : Int) < n
            · exact .inr (.inl ⟨i0, i1⟩)
            · exact .inr (.inr ⟨i0, i1, by omega⟩)
      generalize (if s4.use n = 0 then s4.look n.toNat else []) = x at hrd
      generalize s4.use n = f at hrd
      clear hup hin hsz hsz4 hdn h1
      go_wp2_with fail
      refine hrd.mono ?_
      rintro e w5 ⟨a5, c5, rfl, hx, hB⟩
      have D5 := D4.below hB
      have B5 := hid_trans B4 hB
      clear hrd D4 hb4 B4 hB hx
      go_wp2_with fail
      refine (down_any D5).mono ?_
      rintro e w5' ⟨rfl, rfl⟩
      rw [HDN.out]
      rcases hcase with i0 | ⟨i0, i1⟩ | ⟨i0, i1, i2⟩
      all_goals
        go_wp2_with fail
        go_ret
        exact ⟨rfl, B5.out⟩

end Go.Proofs.Ytddcdhmeknkphaa
