/- frame.Unpack. -/
import Derived.Test.YtebeohdadihidaaFrmRegion
import Derived.Test.YtebeohdadihidaaFrmPlain2
import Derived.BigQuiet
import Derived.Deep.QuietTactic
import Derived.Deep.RegionWith
namespace Go.Proofs.Ytebeohdadihidaa
open Go.RowKit

theorem or8 (x y : UInt8) : bits .or .i64 ((x.toNat : Int) * 256) (y.toNat : Int) = (x.toNat : Int) * 256 + (y.toNat : Int) := by
  have hx := x.toNat_lt
  have hy := y.toNat_lt
  have e1 : (x.toNat : Int) * 256 = ((x.toNat * 256 : Nat) : Int) := by omega
  rw [e1]
  unfold bits
  have e2 : ∀ n : Nat, n < 65536 → BitVec.ofInt IntKind.i64.bits (n : Int) = BitVec.ofNat 64 n := by
    intro n hn
    show BitVec.ofInt 64 _ = _
    simp
  rw [e2 _ (by omega), e2 _ (by omega)]
  simp only
  have e3 : (BitVec.ofNat 64 (x.toNat * 256) ||| BitVec.ofNat 64 y.toNat).toNat = x.toNat * 256 + y.toNat := by
    rw [BitVec.toNat_or, BitVec.toNat_ofNat, BitVec.toNat_ofNat, Nat.mod_eq_of_lt (by omega), Nat.mod_eq_of_lt (by omega)]
    have := Nat.shiftLeft_add_eq_or_of_lt (i := 8) (b := y.toNat) (by omega) x.toNat
    rw [Nat.shiftLeft_eq, show (2 : Nat) ^ 8 = 256 from rfl] at this
    omega
  show IntKind.i64.wrap (((BitVec.ofNat 64 (x.toNat * 256) ||| BitVec.ofNat 64 y.toNat : BitVec 64).toNat : Nat) : Int) = _
  rw [e3]
  simp [IntKind.wrap, IntKind.bits, IntKind.signed]
  omega

theorem below_drewN (w : World) (n : Nat) : Below w.heap.size w (w.drewN n) := ⟨rfl, rfl, rfl, Nat.le_refl _, fun _ _ => rfl⟩

theorem all_one (l : List UInt8) : ((byteVals l).toArray.all fun x => x.oneCell') = true := by
  rw [List.all_toArray, List.all_eq_true]
  exact byteVals_one l

theorem ev_get {a : Act} {k : Nat} {v : Value} (h : a.eval (.tmp k) = v) : a.tmps[k]?.getD undef = v := by
  rw [← h]; simp [Act.eval]

theorem bel_next {n : Nat} {w W w1 : World} (h : Below W.heap.size W w1) (h0 : Below n w W) (hn : n ≤ w.heap.size) : Below n w w1 :=
  h0.trans (h.mono (Nat.le_trans hn h0.size))

set_option maxRecDepth 100000 in
set_option maxHeartbeats 8000000 in
theorem unpack_any (place : Int) (v : Value) (b : List UInt8) (w : World) (h : Bytes w v b) (p0 : -9223372036854775808 ≤ place) (p1 : place ≤ 9223372036854775807) (hd : b.length ≤ 100000) :
    Calls Try.prog 14 #[.int .i64 place, v] w (Unpacked place b w) := by
  obtain ⟨a, cap, rfl, hcap, bb, ob, HA, HC⟩ := h.opened
  by_cases c1 : b.length < 11
  · have hg : Frm.fits place b = false := by simp [Frm.fits]; omega
    have d1 : decide ((b.length : Int) - 11 < 0) = true := decide_eq_true (by omega)
    go_enter Try.func14, Try.ntmps14
    go_wp2_with fail
    go_quiet (fail)
    go_wp2_with fail
    go_ret3
    exact unpacked_bad hg (below_drewN _ _)
  have hne : b ≠ [] := by intro e; subst e; simp at c1
  obtain rfl := HA hne
  obtain ⟨x5, h5⟩ : ∃ x, b.getD 5 0 = x := ⟨_, rfl⟩
  obtain ⟨x6, h6⟩ : ∃ x, b.getD 6 0 = x := ⟨_, rfl⟩
  have k5 : w.cell? ⟨bb, ob + 5, none⟩ = some (.int .u8 (x5.toNat : Int)) := by rw [← h5]; exact HC.out 5 (by omega)
  have k6 : w.cell? ⟨bb, ob + 6, none⟩ = some (.int .u8 (x6.toNat : Int)) := by rw [← h6]; exact HC.out 6 (by omega)
  have hor := or8 x5 x6
  have d1 : decide ((b.length : Int) - 11 < 0) = false := decide_eq_false (by omega)
  have l5 := x5.toNat_lt
  have l6 := x6.toNat_lt
  have m5 : (x5.toNat : Int) < 256 := by omega
  have m6 : (x6.toNat : Int) < 256 := by omega
  have i5 : (5 : Int) < (b.length : Int) := by omega
  have i6 : (6 : Int) < (b.length : Int) := by omega
  by_cases c2 : (b.length : Int) - 11 = (x5.toNat : Int) * 256 + (x6.toNat : Int)
  rotate_left
  · have hg : Frm.fits place b = false := Frm.fits_false fun hp => c2 (by have := hp.2.1; rw [h5, h6] at this; omega)
    have d2 : ((b.length : Int) - 11 != (x5.toNat : Int) * 256 + (x6.toNat : Int)) = true := bne_iff_ne.2 c2
    go_enter Try.func14, Try.ntmps14
    go_wp2_with fail
    go_quiet (fail)
    go_wp2_with fail
    go_ret3
    exact unpacked_bad hg (below_drewN _ _)
  have d2 : ((b.length : Int) - 11 != (x5.toNat : Int) * 256 + (x6.toNat : Int)) = false := bne_eq_false_iff_eq.2 c2
  have C2 := Lib.hid c2
  clear c2
  by_cases c3 : place < 0
  · have hg : Frm.fits place b = false := Frm.fits_false fun hp => by have := hp.2.2.1; omega
    go_enter Try.func14, Try.ntmps14
    go_wp2_with fail
    go_quiet (fail)
    go_wp2_with fail
    go_ret3
    exact unpacked_bad hg (below_drewN _ _)
  have d3 : decide (place < 0) = false := decide_eq_false c3
  by_cases c4 : 2147483647 < place
  · have hg : Frm.fits place b = false := Frm.fits_false fun hp => by have := hp.2.2.2.1; omega
    go_enter Try.func14, Try.ntmps14
    go_wp2_with fail
    go_quiet (fail)
    go_wp2_with fail
    go_ret3
    exact unpacked_bad hg (below_drewN _ _)
  have d4 : decide (2147483647 < place) = false := decide_eq_false c4
  by_cases c5 : 1011 < b.length
  · have hg : Frm.fits place b = false := Frm.fits_false fun hp => by have := hp.2.2.2.2.1; omega
    have d5 : decide (1000 < (b.length : Int) - 11) = true := decide_eq_true (by omega)
    go_enter Try.func14, Try.ntmps14
    go_wp2_with fail
    go_quiet (fail)
    go_wp2_with fail
    go_ret3
    exact unpacked_bad hg (below_drewN _ _)
  have d5 : decide (1000 < (b.length : Int) - 11) = false := decide_eq_false (by omega)
  have hcut : IntKind.u32.wrap place = num32 (BitVec.ofInt 32 place) := u32_cut place
  have e7 : IntKind.i64.wrap ((b.length : Int) - 11 + 7) = (b.length : Int) - 11 + 7 := IntWalk.i64_in _ (by omega)
  obtain ⟨S, HS⟩ : ∃ S, Hid (Crc.more 0#32 (b.take (b.length - 11 + 7)) = S) := ⟨_, rfl⟩
  have hsum : ∀ W : World, Below w.heap.size w W → Calls Try.prog 23 #[.slice (some ⟨bb, ob, none⟩) (b.length - 11 + 7) cap] W fun e w' => e = .returned (.int .u32 (num32 S)) ∧ Below W.heap.size W w' := by
    intro W hW
    have hx := bytes_sub HC.out 0 (b.length - 11 + 7) cap (by omega) (by omega)
    rw [Nat.add_zero, List.drop_zero] at hx
    have := sum_any _ _ W (hx.below hW) (by simp; omega)
    rw [HS.out] at this
    exact this
  have HSUM := Lib.hid hsum
  clear hsum
  go_enter Try.func14, Try.ntmps14
  go_wp2_with fail
  go_quiet (fail)
  have B0 : Below w.heap.size w (w.drewN nq) := below_drewN _ _
  revert B0
  generalize w.drewN nq = w0
  intro B0
  have s0 := B0.size
  go_wp2_with fail
  have hsz : 51 ≤ 83 := by omega
  refine wp_region_inv (by kernel_rfl) (low_of_check (by kernel_rfl)) (guard_of_check (by kernel_rfl)) (UnSt [(0, 42, .int .i64 place), (1, 43, .int .u32 (num32 (BitVec.ofInt 32 place))), (2, 44, .agg (byteVals (Frm.four (BitVec.ofInt 32 place))).toArray), (3, 45, .slice (some ⟨bb, ob, none⟩) b.length cap), (4, 46, .int .i64 ((b.length : Int) - 11)), (5, 47, .int .i64 ((b.length : Int) - 11 + 7)), (6, 48, .slice (some ⟨bb, ob, none⟩) (b.length - 11 + 7) cap), (7, 49, .int .u32 (num32 S)), (8, 50, .agg (byteVals (Frm.four S)).toArray)] (byteVals (Frm.four (BitVec.ofInt 32 place))).toArray (byteVals (Frm.four S)).toArray) UnSt.start ?_ ?_
  · intro L a w1 i o h ho hl he
    have hi : i < 13 := (Array.getElem?_eq_some_iff.1 ho).1
    rcases (by omega : i = 0 ∨ i = 1 ∨ i = 2 ∨ i = 3 ∨ i = 4 ∨ i = 5 ∨ i = 6 ∨ i = 7 ∨ i = 8 ∨ i = 9 ∨ i = 10 ∨ i = 11 ∨ i = 12) with rfl | rfl | rfl | rfl | rfl | rfl | rfl | rfl | rfl | rfl | rfl | rfl | rfl
    · obtain rfl := Option.some.inj ho
      have e0 : a.eval (.tmp 0) = .int .i64 place := (h.far 0 (by omega)).trans rfl
      refine wp_val (v := .int .i64 place) (w' := w1) (by simp [execOp, e0]) ?_
      exact h.val (by omega) (by omega) hsz (by omega) (by simp) (Below.refl _ _)
    · obtain rfl := Option.some.inj ho
      have e0 : a.eval (.tmp 42) = .int .i64 place := h.vals (0, 42, _) (by simp) (he ⟨0, .data⟩ (by simp) rfl)
      refine wp_val (v := .int .u32 (num32 (BitVec.ofInt 32 place))) (w' := w1) (by have f0 := ev_get e0; simp [execOp, go_sem, Act.eval, f0, hcut]) ?_
      exact h.val (by omega) (by omega) hsz (by omega) (by simp) (Below.refl _ _)
    · obtain rfl := Option.some.inj ho
      have e0 : a.eval (.tmp 43) = .int .u32 (num32 (BitVec.ofInt 32 place)) := h.vals (1, 43, _) (by simp) (he ⟨1, .data⟩ (by simp) rfl)
      refine wp_enter (f := 22) (args := #[.int .u32 (num32 (BitVec.ofInt 32 place))]) (w' := w1) (by have f0 := ev_get e0; simp [execOp, go_sem, Act.eval, f0]) ?_
      refine (four_any _ _).mono ?_
      rintro e w2 ⟨rfl, HB⟩
      exact ⟨_, rfl, h.val (by omega) (by omega) hsz (by omega) (by simp) HB⟩
    · obtain rfl := Option.some.inj ho
      have e0 : a.eval (.tmp 1) = .slice (some ⟨bb, ob, none⟩) b.length cap := (h.far 1 (by omega)).trans rfl
      refine wp_val (v := .slice (some ⟨bb, ob, none⟩) b.length cap) (w' := w1) (by simp [execOp, e0]) ?_
      exact h.val (by omega) (by omega) hsz (by omega) (by simp) (Below.refl _ _)
    · obtain rfl := Option.some.inj ho
      have e0 : a.eval (.tmp 7) = .int .i64 ((b.length : Int) - 11) := (h.far 7 (by omega)).trans rfl
      refine wp_val (v := .int .i64 ((b.length : Int) - 11)) (w' := w1) (by simp [execOp, e0]) ?_
      exact h.val (by omega) (by omega) hsz (by omega) (by simp) (Below.refl _ _)
    · obtain rfl := Option.some.inj ho
      have e0 : a.eval (.tmp 46) = .int .i64 ((b.length : Int) - 11) := h.vals (4, 46, _) (by simp) (he ⟨4, .data⟩ (by simp) rfl)
      refine wp_val (v := .int .i64 ((b.length : Int) - 11 + 7)) (w' := w1) (by have f0 := ev_get e0; simp [execOp, Act.eval, go_sem, f0, e7]) ?_
      exact h.val (by omega) (by omega) hsz (by omega) (by simp) (Below.refl _ _)
    · obtain rfl := Option.some.inj ho
      have e0 : a.eval (.tmp 45) = .slice (some ⟨bb, ob, none⟩) b.length cap := h.vals (3, 45, _) (by simp) (he ⟨3, .data⟩ (by simp) rfl)
      have e1 : a.eval (.tmp 47) = .int .i64 ((b.length : Int) - 11 + 7) := h.vals (5, 47, _) (by simp) (he ⟨5, .data⟩ (by simp) rfl)
      refine wp_val (v := .slice (some ⟨bb, ob, none⟩) (b.length - 11 + 7) cap) (w' := w1) (by have f0 := ev_get e0; have f1 := ev_get e1; simp [execOp, Act.eval, go_sem, f0, f1]; rw [if_pos ⟨by omega, by omega⟩, show ((b.length : Int) - 11 + 7).toNat = b.length - 11 + 7 by omega]) ?_
      exact h.val (by omega) (by omega) hsz (by omega) (by simp) (Below.refl _ _)
    · obtain rfl := Option.some.inj ho
      have e0 : a.eval (.tmp 48) = .slice (some ⟨bb, ob, none⟩) (b.length - 11 + 7) cap := h.vals (6, 48, _) (by simp) (he ⟨6, .data⟩ (by simp) rfl)
      refine wp_enter (f := 23) (args := #[.slice (some ⟨bb, ob, none⟩) (b.length - 11 + 7) cap]) (w' := w1) (by have f0 := ev_get e0; simp [execOp, go_sem, Act.eval, f0]) ?_
      refine (HSUM.out _ (B0.trans (h.bel.mono B0.size))).mono ?_
      rintro e w2 ⟨rfl, HB⟩
      exact ⟨_, rfl, h.val (by omega) (by omega) hsz (by omega) (by simp) HB⟩
    · obtain rfl := Option.some.inj ho
      have e0 : a.eval (.tmp 49) = .int .u32 (num32 S) := h.vals (7, 49, _) (by simp) (he ⟨7, .data⟩ (by simp) rfl)
      refine wp_enter (f := 22) (args := #[.int .u32 (num32 S)]) (w' := w1) (by have f0 := ev_get e0; simp [execOp, go_sem, Act.eval, f0]) ?_
      refine (four_any _ _).mono ?_
      rintro e w2 ⟨rfl, HB⟩
      exact ⟨_, rfl, h.val (by omega) (by omega) hsz (by omega) (by simp) HB⟩
    · obtain rfl := Option.some.inj ho
      refine wp_val (v := .pointer (some ⟨w1.heap.size, 0, none⟩)) (w' := w1.alloc (.cells #[.int .u8 0, .int .u8 0, .int .u8 0, .int .u8 0] 40)) (by simp [execOp, go_sem]) ?_
      exact h.new8 hl hsz (by simp) _ rfl
    · obtain rfl := Option.some.inj ho
      refine wp_val (v := .pointer (some ⟨w1.heap.size, 0, none⟩)) (w' := w1.alloc (.cells #[.int .u8 0, .int .u8 0, .int .u8 0, .int .u8 0] 40)) (by simp [execOp, go_sem]) ?_
      exact h.new9 hl hsz (by simp) _ rfl
    · obtain rfl := Option.some.inj ho
      obtain ⟨p, cs, g1, g2, g3, g4⟩ := h.fill8 (he ⟨9, .data⟩ (by simp) rfl) (by simp) rfl
      have e0 : a.eval (.tmp 44) = .agg (byteVals (Frm.four (BitVec.ofInt 32 place))).toArray := h.vals (2, 44, _) (by simp) (he ⟨2, .data⟩ (by simp) rfl)
      exact wp_store_row _ _ _ rfl p _ g1 e0 _ cs g2 (by kernel_rfl) (by rw [g3]; rfl) (all_one _) g4
    · obtain rfl := Option.some.inj ho
      obtain ⟨p, cs, g1, g2, g3, g4⟩ := h.fill9 (he ⟨10, .data⟩ (by simp) rfl) (by simp) rfl
      have e0 : a.eval (.tmp 50) = .agg (byteVals (Frm.four S)).toArray := h.vals (8, 50, _) (by simp) (he ⟨8, .data⟩ (by simp) rfl)
      exact wp_store_row _ _ _ rfl p _ g1 e0 _ cs g2 (by kernel_rfl) (by rw [g3]; rfl) (all_one _) g4
  · intro L a w1 h hall
    obtain ⟨p, cs, e8, r8, -, hp, hcs⟩ := h.s8 (hall 9 (by decide))
    obtain rfl := hcs (hall 11 (by decide))
    obtain ⟨q, cs, e9, r9, -, hq, hcs⟩ := h.s9 (hall 10 (by decide))
    obtain rfl := hcs (hall 12 (by decide))
    have B1 := B0.trans (h.bel.mono B0.size)
    obtain rfl := h.shape hsz [(8, .pointer (some ⟨p, 0, none⟩)), (9, .pointer (some ⟨q, 0, none⟩)), (42, .int .i64 place), (43, .int .u32 (num32 (BitVec.ofInt 32 place))), (44, .agg (byteVals (Frm.four (BitVec.ofInt 32 place))).toArray), (45, .slice (some ⟨bb, ob, none⟩) b.length cap), (46, .int .i64 ((b.length : Int) - 11)), (47, .int .i64 ((b.length : Int) - 11 + 7)), (48, .slice (some ⟨bb, ob, none⟩) (b.length - 11 + 7) cap), (49, .int .u32 (num32 S)), (50, .agg (byteVals (Frm.four S)).toArray)] rfl (by
      intro x hx
      simp only [List.mem_cons, List.not_mem_nil, or_false] at hx
      rcases hx with rfl | rfl | rfl | rfl | rfl | rfl | rfl | rfl | rfl | rfl | rfl
      · exact e8
      · exact e9
      · exact h.vals (0, 42, _) (by simp) (hall 0 (by decide))
      · exact h.vals (1, 43, _) (by simp) (hall 1 (by decide))
      · exact h.vals (2, 44, _) (by simp) (hall 2 (by decide))
      · exact h.vals (3, 45, _) (by simp) (hall 3 (by decide))
      · exact h.vals (4, 46, _) (by simp) (hall 4 (by decide))
      · exact h.vals (5, 47, _) (by simp) (hall 5 (by decide))
      · exact h.vals (6, 48, _) (by simp) (hall 6 (by decide))
      · exact h.vals (7, 49, _) (by simp) (hall 7 (by decide))
      · exact h.vals (8, 50, _) (by simp) (hall 8 (by decide)))
    clear h hall e8 e9 hcs
    obtain ⟨x0, h0⟩ : ∃ x, b.getD 0 0 = x := ⟨_, rfl⟩
    have k0 : w1.cell? ⟨bb, ob, none⟩ = some (.int .u8 (x0.toNat : Int)) := by
      have := HC.out 0 (by omega)
      rw [Nat.add_zero, h0] at this
      rw [← this]
      exact B1.cell (block_lt_of_cell this)
    have q0 : (0 : Int) ≤ (x0.toNat : Int) := by omega
    have q1 : (x0.toNat : Int) < 256 := by have := x0.toNat_lt; omega
    have i0 : (0 : Int) < (b.length : Int) := by omega
    simp only [laid, Act.put, List.setIfInBounds_toArray, List.set_cons_succ, List.set_cons_zero]
    go_wp2_with fail
    have bp : Bytes w1 (.slice (some ⟨p, 0, none⟩) 4 4) (Frm.four (BitVec.ofInt 32 place)) := bytes_block r8 _ 4 4 rfl (Nat.le_refl _) fun i hi => by rw [List.getElem?_toArray]; exact byteVals_get _ _ hi
    have bq : Bytes w1 (.slice (some ⟨q, 0, none⟩) 4 4) (Frm.four S) := bytes_block r9 _ 4 4 rfl (Nat.le_refl _) fun i hi => by rw [List.getElem?_toArray]; exact byteVals_get _ _ hi
    have hc1 : ∀ i, i < b.length → w1.cell? ⟨bb, ob + i, none⟩ = some (.int .u8 ((b.getD i 0).toNat : Int)) := fun i hi => (B1.cell (block_lt_of_cell (HC.out i hi))).trans (HC.out i hi)
    have b1 : Bytes w1 (.slice (some ⟨bb, ob + 1, none⟩) 4 (cap - 1)) ((b.drop 1).take 4) := bytes_sub hc1 1 4 (cap - 1) (by omega) (by omega)
    have b2 : Bytes w1 (.slice (some ⟨bb, ob + (b.length - 11 + 7), none⟩) (b.length - (b.length - 11 + 7)) (cap - (b.length - 11 + 7))) (b.drop (b.length - 11 + 7)) := by
      have := bytes_sub hc1 (b.length - 11 + 7) (b.length - (b.length - 11 + 7)) (cap - (b.length - 11 + 7)) (by omega) (by omega)
      rw [List.take_of_length_le (by simp)] at this
      exact this
    have HE1 : Hid (∀ n, Calls Try.prog 26 #[.slice (some ⟨p, 0, none⟩) 4 4, .slice (some ⟨bb, ob + 1, none⟩) 4 (cap - 1)] (w1.drewN n) fun e w' => e = .returned (.bool (decide (Frm.four (BitVec.ofInt 32 place) = (b.drop 1).take 4))) ∧ w' = w1.drewN n) := fun n =>
      (equal_any _ _ _ _ (w1.drewN n) (bp.kept fun _ _ _ => rfl) (b1.kept fun _ _ _ => rfl)).mono fun e w' h => ⟨h.1, h.2.symm⟩
    have HE2 : Hid (∀ n, Calls Try.prog 26 #[.slice (some ⟨q, 0, none⟩) 4 4, .slice (some ⟨bb, ob + (b.length - 11 + 7), none⟩) (b.length - (b.length - 11 + 7)) (cap - (b.length - 11 + 7))] (w1.drewN n) fun e w' => e = .returned (.bool (decide (Frm.four S = b.drop (b.length - 11 + 7)))) ∧ w' = w1.drewN n) := fun n =>
      (equal_any _ _ _ _ (w1.drewN n) (bq.kept fun _ _ _ => rfl) (b2.kept fun _ _ _ => rfl)).mono fun e w' h => ⟨h.1, h.2.symm⟩
    have HC1 := Lib.hid hc1
    have HB1 := Lib.hid B1
    clear bp bq b1 b2 hc1 B1 r8 r9 hp hq
    have j1 : (1 : Int) ≤ 5 := by omega
    by_cases g1 : Frm.four (BitVec.ofInt 32 place) = (b.drop 1).take 4
    rotate_left
    · have hg : Frm.fits place b = false := Frm.fits_false fun hp => g1 hp.2.2.2.2.2.1
      rw [decide_eq_false g1] at HE1
      clear g1
      go_quiet (first
        | (go_at_call 26; exact Calls.quiet_of_same (HE1.out _))
        | (go_at_call 26; exact Calls.quiet_of_same (HE2.out _)))
      go_wp2_with fail
      go_ret3
      exact unpacked_bad hg (HB1.out.trans ⟨rfl, rfl, rfl, Nat.le_refl _, fun _ _ => rfl⟩)
    rw [decide_eq_true g1] at HE1
    by_cases g2 : Frm.four S = b.drop (b.length - 11 + 7)
    rotate_left
    · have hg : Frm.fits place b = false := Frm.fits_false fun hp => g2 (by rw [← HS.out]; exact hp.2.2.2.2.2.2.1)
      rw [decide_eq_false g2] at HE2
      clear g1 g2
      go_quiet (first
        | (go_at_call 26; exact Calls.quiet_of_same (HE1.out _))
        | (go_at_call 26; exact Calls.quiet_of_same (HE2.out _)))
      go_wp2_with fail
      go_ret3
      exact unpacked_bad hg (HB1.out.trans ⟨rfl, rfl, rfl, Nat.le_refl _, fun _ _ => rfl⟩)
    rw [decide_eq_true g2] at HE2
    by_cases g3 : x0.toNat < 1
    · have hg : Frm.fits place b = false := Frm.fits_false fun hp => by have := hp.2.2.2.2.2.2.2.1; rw [h0] at this; omega
      have t3 : decide ((x0.toNat : Int) < 1) = true := decide_eq_true (by omega)
      clear g1 g2 g3
      go_quiet (first
        | (go_at_call 26; exact Calls.quiet_of_same (HE1.out _))
        | (go_at_call 26; exact Calls.quiet_of_same (HE2.out _)))
      go_wp2_with fail
      go_ret3
      exact unpacked_bad hg (HB1.out.trans ⟨rfl, rfl, rfl, Nat.le_refl _, fun _ _ => rfl⟩)
    have t3 : decide ((x0.toNat : Int) < 1) = false := decide_eq_false (by omega)
    by_cases g4 : 4 < x0.toNat
    · have hg : Frm.fits place b = false := Frm.fits_false fun hp => by have := hp.2.2.2.2.2.2.2.2; rw [h0] at this; omega
      have t4 : decide (4 < (x0.toNat : Int)) = true := decide_eq_true (by omega)
      clear g1 g2 g3 g4
      go_quiet (first
        | (go_at_call 26; exact Calls.quiet_of_same (HE1.out _))
        | (go_at_call 26; exact Calls.quiet_of_same (HE2.out _)))
      go_wp2_with fail
      go_ret3
      exact unpacked_bad hg (HB1.out.trans ⟨rfl, rfl, rfl, Nat.le_refl _, fun _ _ => rfl⟩)
    have t4 : decide (4 < (x0.toNat : Int)) = false := decide_eq_false (by omega)
    have hg : Frm.fits place b = true := (Frm.fits_parts place b).2 ⟨by omega, by rw [h5, h6]; have := C2.out; omega, by omega, by omega, by omega, g1, by rw [HS.out]; exact g2, by rw [h0]; omega, by rw [h0]; omega⟩
    clear g1 g2 g3 g4
    go_quiet (first
      | (go_at_call 26; exact Calls.quiet_of_same (HE1.out _))
      | (go_at_call 26; exact Calls.quiet_of_same (HE2.out _)))
    go_wp2_with fail
    have B3 : Below w.heap.size w (w1.drewN nq) := HB1.out.trans ⟨rfl, rfl, rfl, Nat.le_refl _, fun _ _ => rfl⟩
    have bm : Bytes (w1.drewN nq) (.slice (some ⟨bb, ob + 7, none⟩) (b.length - 11) (cap - 7)) (Frm.mid b) := (bytes_sub HC1.out 7 (b.length - 11) (cap - 7) (by omega) (by omega)).kept fun _ _ _ => rfl
    refine (clone_any _ _ _ bm (by unfold Frm.mid; simp; omega)).mono ?_
    rintro e w3 ⟨v, rfl, hv, hb3, hown⟩
    go_wp2_with fail
    go_ret3
    refine ⟨v, by rw [hg, h0]; rfl, by rw [hg]; exact hv, fun k hk => ?_, B3.trans (hb3.mono B3.size)⟩
    have e1 := hown k hk
    have e2 := B3.size
    omega

end Go.Proofs.Ytebeohdadihidaa
