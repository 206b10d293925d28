/- Walks of package disk: New, Turn. -/
import Derived.Test.YtddcdhmeknkphaaDskFlush
namespace Go.Proofs.Ytddcdhmeknkphaa
open Go.RowKit

/-- what New answers -/
def NewDisk (n : Int) (w : World) (e : Ending) (w' : World) : Prop :=
  if 2 ≤ n ∧ n ≤ 4096 then e = .returned (.tuple #[.pointer (some ⟨w.heap.size + 2, 0, none⟩), .int .i64 0]) ∧ DskAt w' (w.heap.size + 2) w.heap.size (w.heap.size + 1) (Dsk.St.new n.toNat) ∧ Below w.heap.size w w'
  else e = .returned (.tuple #[.pointer none, .int .i64 1]) ∧ w = w'

theorem newdisk_at (w : World) (n : Int) (h0 : 2 ≤ n) (h1 : n ≤ 4096) :
    DskAt (((w.alloc (.map #[] 0)).alloc (.map #[] 0)).alloc (.cells #[.int .i64 n, .map (some w.heap.size), .map (some (w.heap.size + 1)), .bool false, .bool false, .int .i64 0] 61)) (w.heap.size + 2) w.heap.size (w.heap.size + 1) (Dsk.St.new n.toNat) := by
  have m1 := MapAt.new w
  have m2 := MapAt.new (w.alloc (.map #[] 0))
  have e1 : (w.alloc (.map #[] 0)).heap.size = w.heap.size + 1 := World.size_alloc _ _
  rw [e1] at m2
  have e2 : ((w.alloc (.map #[] 0)).alloc (.map #[] 0)).heap.size = w.heap.size + 2 := by rw [World.size_alloc, e1]
  have b1 : Below (w.alloc (.map #[] 0)).heap.size (w.alloc (.map #[] 0)) ((w.alloc (.map #[] 0)).alloc (.map #[] 0)) := (Below.refl _ _).alloc (Nat.le_refl _) _
  have b2 : Below ((w.alloc (.map #[] 0)).alloc (.map #[] 0)).heap.size ((w.alloc (.map #[] 0)).alloc (.map #[] 0)) (((w.alloc (.map #[] 0)).alloc (.map #[] 0)).alloc (.cells #[.int .i64 n, .map (some w.heap.size), .map (some (w.heap.size + 1)), .bool false, .bool false, .int .i64 0] 61)) := (Below.refl _ _).alloc (Nat.le_refl _) _
  refine ⟨?_, ⟨fun _ => none, (m1.below b1).below b2, fun _ => rfl, fun _ _ h => by (cases h)⟩, ?_, Dsk.St.ok_new _ (by omega) (by omega), by omega⟩
  · have := heap_alloc_new ((w.alloc (.map #[] 0)).alloc (.map #[] 0)) (.cells #[.int .i64 n, .map (some w.heap.size), .map (some (w.heap.size + 1)), .bool false, .bool false, .int .i64 0] 61)
    rw [e2] at this
    rw [this]
    unfold topCells Dsk.St.new
    rw [show ((n.toNat : Nat) : Int) = n by omega]
  · show MapAt _ _ (ext fun _ => none)
    rw [ext_none]
    exact m2.below b2

set_option maxHeartbeats 1000000 in
theorem new_any (n : Int) (hn : inI64 n) (w : World) : Calls Try.prog 10 #[.int .i64 n] w (NewDisk n w) := by
  have bad : ¬ (2 ≤ n ∧ n ≤ 4096) → Calls Try.prog 10 #[.int .i64 n] w (fun e w' => e = .returned (.tuple #[.pointer none, .int .i64 1]) ∧ w = w') → Calls Try.prog 10 #[.int .i64 n] w (NewDisk n w) :=
    fun hb h => h.mono fun e w' h => by unfold NewDisk; rw [if_neg hb]; exact h
  by_cases h0 : n < 2
  · refine bad (by omega) ?_
    clear bad
    go_enter Try.func10, Try.ntmps10
    go_wp2_with fail
    go_ret2
    exact ⟨rfl, rfl⟩
  · by_cases h1 : 4096 < n
    · refine bad (by omega) ?_
      clear bad
      go_enter Try.func10, Try.ntmps10
      go_wp2_with fail
      go_ret2
      exact ⟨rfl, rfl⟩
    · clear bad
      refine Calls.mono (R := fun e w' => e = .returned (.tuple #[.pointer (some ⟨w.heap.size + 2, 0, none⟩), .int .i64 0]) ∧ DskAt w' (w.heap.size + 2) w.heap.size (w.heap.size + 1) (Dsk.St.new n.toNat) ∧ Below w.heap.size w w') ?_ (fun e w' h => by unfold NewDisk; rw [if_pos (by omega)]; exact h)
      have hmm := @run_makeMap Try.prog
      have HD := Lib.hid (newdisk_at w n (by omega) (by omega))
      go_enter Try.func10, Try.ntmps10
      go_wp2_with fail
      go_ret2
      exact ⟨rfl, HD.out, (((Below.refl _ _).alloc (Nat.le_refl _) _).alloc (by simp) _).alloc (by simp; omega) _⟩

/-- what lasts is laid anew -/
theorem DskAt.layL {w : World} {d bl bw : Nat} {s : Dsk.St} (h : DskAt w d bl bw s) {n : Int} (hn : s.inside n = true) {v : Value} {b : List UInt8} (hv : Bytes w v b) (hb : b.length ≤ 1024) :
    ∃ w', (Instr.mapUpdate 59 (.map (some bl)) (.int .i64 n) v).run Try.prog w = .ok () w' ∧ DskAt w' d bl bw { s with L := Dsk.St.upd s.L n.toNat b } ∧ Chg [bl] w w' := by
  obtain ⟨n0, n1⟩ := Dsk.St.inside_iff.1 hn
  have hi := h.ok.hi
  obtain ⟨F, hF, h1, h2⟩ := h.lasts
  obtain ⟨w', r, m, c⟩ := hF.store n0 (by omega) hv
  have hno : ∀ k ∈ [bl], NoU8 w k := fun k hk => h.no k (by simp only [List.mem_singleton] at hk; subst hk; simp)
  refine ⟨w', r, ⟨(c.block d (lt_of_block h.top) (by simpa using h.ne_l)).trans h.top, ⟨_, m, fun k => ?_, fun k l hk => ?_⟩, h.waits.kept c hno (by simpa using h.ne.symm), ?_, h.ne⟩, c⟩
  · simp only
    unfold Dsk.St.upd updI
    by_cases e : k = n.toNat
    · subst e
      rw [if_pos rfl, if_pos (by omega)]; rfl
    · rw [if_neg e, if_neg (by omega)]
      exact h1 k
  · unfold updI at hk
    split at hk
    · rename_i e; subst e; exact ⟨n0, n1⟩
    · exact h2 k l hk
  · refine ⟨h.ok.lo, h.ok.hi, h.ok.f0, h.ok.f1, h.ok.f2, fun k hk => ?_, h.ok.offW, fun k => ?_, h.ok.lenW⟩
    · simp only at hk ⊢
      rw [Dsk.St.upd_other _ _ _ _ (by omega)]; exact h.ok.offL k hk
    · simp only
      unfold Dsk.St.upd
      split
      · exact hb
      · exact h.ok.lenL k

/-- a byte turned, laid where it stood -/
theorem DskAt.layTurn {w : World} {d bl bw : Nat} {s : Dsk.St} (h : DskAt w d bl bw s) {n : Int} (hn : s.inside n = true) (at_ : Int) (x : UInt8) (hne : s.look n.toNat ≠ []) (h0 : ¬ at_ < 0) {v : Value} (hv : Bytes w v (Dsk.St.turned (s.look n.toNat) (at_.toNat % (s.look n.toNat).length) x)) :
    ∃ w', (Instr.mapUpdate 59 (.map (some (if (s.W n.toNat).isSome then bw else bl))) (.int .i64 n) v).run Try.prog w = .ok () w' ∧ DskAt w' d bl bw (s.turn n at_ x).2 ∧ Chg [d, bl, bw] w w' := by
  have hl : (Dsk.St.turned (s.look n.toNat) (at_.toNat % (s.look n.toNat).length) x).length ≤ 1024 := by
    rw [Dsk.St.turned_len]; exact Dsk.St.look_len h.ok _
  have hemp : (s.look n.toNat).isEmpty = false := by
    cases hb : s.look n.toNat with
    | nil => exact absurd hb hne
    | cons a l => rfl
  have ht : s.turn n at_ x = (0, match s.W n.toNat with | some _ => { s with W := Dsk.St.upd s.W n.toNat (some (Dsk.St.turned (s.look n.toNat) (at_.toNat % (s.look n.toNat).length) x)) } | none => { s with L := Dsk.St.upd s.L n.toNat (Dsk.St.turned (s.look n.toNat) (at_.toNat % (s.look n.toNat).length) x) }) := by
    unfold Dsk.St.turn
    rw [hn, hemp, decide_eq_false h0]
    rfl
  rw [ht]
  cases hw : s.W n.toNat with
  | some b =>
    obtain ⟨w', r, hd, hc⟩ := h.lay hn hv hl
    exact ⟨w', r, hd, hc.mono (by simp)⟩
  | none =>
    obtain ⟨w', r, hd, hc⟩ := h.layL hn hv hl
    exact ⟨w', r, hd, hc.mono (by simp)⟩

set_option maxRecDepth 100000 in
set_option maxHeartbeats 4000000 in
theorem turn_any {w : World} {d bl bw : Nat} {s : Dsk.St} (h : DskAt w d bl bw s) (n at_ : Int) (x : UInt8) (a0 : inI64 at_) :
    Calls Try.prog 25 #[.pointer (some ⟨d, 0, none⟩), .int .i64 n, .int .i64 at_, .int .u8 (x.toNat : Int)] w (Turns w d bl bw (s.turn n at_ x).2 (.int .i64 (s.turn n at_ x).1)) := by
  obtain ⟨c0, -, -, -, -, -⟩ := h.cells
  have hi := h.ok.hi
  cases hin : s.inside n with
  | false =>
    have e : s.turn n at_ x = (41, s) := by unfold Dsk.St.turn; rw [hin]; rfl
    rw [e]
    have H := Lib.hid h
    rw [Dsk.St.inside_not] at hin
    by_cases h0 : n < 0
    · clear h e hin
      go_enter Try.func25, Try.ntmps25
      go_wp2_with fail
      go_ret
      exact ⟨rfl, H.out, Chg.refl _ _⟩
    · have h1 : (s.size : Int) ≤ n := by omega
      clear h e hin
      go_enter Try.func25, Try.ntmps25
      go_wp2_with fail
      go_ret
      exact ⟨rfl, H.out, Chg.refl _ _⟩
  | true =>
    obtain ⟨n0, n1⟩ := Dsk.St.inside_iff.1 hin
    have hH := holds_any h hin
    have hll := Dsk.St.look_len h.ok n.toNat
    have H := Lib.hid h
    have HIN := Lib.hid hin
    by_cases hz : s.look n.toNat = []
    · have e : s.turn n at_ x = (1, s) := by unfold Dsk.St.turn; rw [hin, hz]; rfl
      rw [e]
      rw [hz] at hH
      generalize (if (s.W n.toNat).isSome = true then bw else bl) = bm at hH
      clear h e hin hz hll HIN
      go_enter Try.func25, Try.ntmps25
      go_wp2_with fail
      refine hH.mono ?_
      rintro e w1 ⟨v, rfl, hb, hB⟩
      obtain ⟨a1, k1, rfl, -, -⟩ := hb.opened
      have B1 := Lib.hid hB
      clear hB hb hH
      simp only [List.length_nil]
      go_wp2_with fail
      go_ret
      exact ⟨rfl, H.out.below B1.out, Chg.of_below B1.out⟩
    · have hemp : (s.look n.toNat).isEmpty = false := by
        cases hb : s.look n.toNat with
        | nil => exact absurd hb hz
        | cons a l => rfl
      by_cases hneg : at_ < 0
      · have e : s.turn n at_ x = (1, s) := by unfold Dsk.St.turn; rw [hin, hemp, decide_eq_true hneg]; rfl
        rw [e]
        have nz : (((s.look n.toNat).length : Int) == 0) = false := beq_eq_false_iff_ne.2 (by have := List.length_pos_iff.2 hz; omega)
        generalize s.look n.toNat = l at *
        generalize (if (s.W n.toNat).isSome = true then bw else bl) = bm at hH
        clear h e hin hz hll hemp HIN
        go_enter Try.func25, Try.ntmps25
        go_wp2_with fail
        refine hH.mono ?_
        rintro e w1 ⟨v, rfl, hb, hB⟩
        obtain ⟨a1, k1, rfl, -, -⟩ := hb.opened
        have B1 := Lib.hid hB
        clear hB hb hH
        go_wp2_with fail
        go_ret
        exact ⟨rfl, H.out.below B1.out, Chg.of_below B1.out⟩
      · have hlp := List.length_pos_iff.2 hz
        have e : (s.turn n at_ x).1 = 0 := by unfold Dsk.St.turn; rw [hin, hemp, decide_eq_false hneg]; rfl
        rw [e]
        have hlay : Hid (∀ (w' : World) (v : Value), DskAt w' d bl bw s → Bytes w' v (Dsk.St.turned (s.look n.toNat) (at_.toNat % (s.look n.toNat).length) x) → ∃ w'', (Instr.mapUpdate 59 (.map (some (if (s.W n.toNat).isSome then bw else bl))) (.int .i64 n) v).run Try.prog w' = .ok () w'' ∧ DskAt w'' d bl bw (s.turn n at_ x).2 ∧ Chg [d, bl, bw] w' w'') :=
          fun w' v hw' hv => hw'.layTurn hin at_ x hz hneg hv
        generalize (s.turn n at_ x).2 = t at *
        generalize (if (s.W n.toNat).isSome = true then bw else bl) = bm at *
        generalize s.look n.toNat = l at *
        have nz : ((l.length : Int) == 0) = false := beq_eq_false_iff_ne.2 (by omega)
        obtain ⟨i, hi2⟩ : ∃ i, at_.toNat % l.length = i := ⟨_, rfl⟩
        have hilt : i < l.length := by rw [← hi2]; exact Nat.mod_lt _ hlp
        have hidx : at_.tmod (l.length : Int) = (i : Int) := by
          rw [← hi2]
          obtain ⟨m, rfl⟩ := Int.eq_ofNat_of_zero_le (show 0 ≤ at_ by omega)
          rw [Int.toNat_natCast]
          exact (Int.ofNat_tmod m l.length).symm
        rw [hi2] at hlay
        have hi' : (i : Int) < (l.length : Int) := by omega
        have hlp' : (0 : Int) < (l.length : Int) := by omega
        obtain ⟨z, HZ⟩ : ∃ z, Hid (l.getD i 0 = z) := ⟨_, rfl⟩
        obtain ⟨z', HZ'⟩ : ∃ z', Hid (z ^^^ x = z') := ⟨_, rfl⟩
        obtain ⟨l', HL'⟩ : ∃ l', Hid (Dsk.St.turned l i x = l') := ⟨_, rfl⟩
        have HS : Hid (l.set i z' = l') := by unfold Hid; rw [← HL'.out, ← HZ'.out, ← HZ.out]; rfl
        rw [HL'.out] at hlay
        have hx8 := xor8 z x
        rw [HZ'.out] at hx8
        have HI := Lib.hid hilt
        have HLL := Lib.hid hll
        have HZN := Lib.hid hz
        clear h e hin hz hll hemp hi2 hilt hlp HIN
        go_enter Try.func25, Try.ntmps25
        go_wp2_with fail
        refine hH.mono ?_
        rintro e w1 ⟨v, rfl, hb, hB⟩
        obtain ⟨a1, k1, rfl, -, -⟩ := hb.opened
        have B1 := Lib.hid hB
        have hb' := Lib.hid hb
        clear hB hb hH
        go_wp2_with fail
        refine (Dk.clone_any _ l w1 hb'.out (by have := HLL.out; omega)).mono ?_
        rintro e w2 ⟨a2, k2, rfl, hb2, ho2, hB⟩
        have o2 := ho2 HZN.out
        obtain ⟨g, cap, he, hg1, hg2, hcap⟩ := own_shape o2 (by omega)
        rw [Value.slice.injEq] at he
        obtain ⟨rfl, -, rfl⟩ := he
        have hc : w2.cell? ⟨g, i, none⟩ = some (.int .u8 (z.toNat : Int)) := by rw [o2.cellAt i (by have := HI.out; omega), byteVals_get l i HI.out, HZ.out]
        have hf : w2.frozen? ⟨g, i, none⟩ = false := o2.frozenAt i
        have o3 := (o2.stored i (.int .u8 (z'.toNat : Int))).1
        rw [← byteVals_set, HS.out] at o3
        have hll : l.length = l'.length := by rw [← HS.out]; simp
        have o4 := o3
        rw [hll] at o4
        have b4 := own_bytes o4
        rw [← hll] at b4
        have bel : Below w1.heap.size w1 (w2.setCell ⟨g, i, none⟩ (.int .u8 (z'.toNat : Int))) := hB.setCell hg1 _ (p := ⟨g, i, none⟩)
        have B3 := hid_trans B1 bel
        have hd3 := H.out.below B3.out
        obtain ⟨w4, hr4, hd4, hc4⟩ := hlay.out _ _ hd3 b4
        have HR4 := Lib.hid hr4
        have D4 := Lib.hid hd4
        have C4 := Lib.hid hc4
        clear ho2 hB o2 o3 o4 b4 bel hd3 hr4 hd4 hc4 hll hb2 hb'
        go_wp2_with (first
          | (at_mapUpdate; refine wpList_mapUpdate_run _ rfl (.tmp 50) (.tmp 51) (.tmp 52) _ rfl _ _ _ rfl rfl rfl _ HR4.out ?_))
        go_ret
        exact ⟨rfl, D4.out, (Chg.of_below B3.out).trans C4.out⟩

end Go.Proofs.Ytddcdhmeknkphaa
