/- tailraceref05.Pack. -/
import Derived.Test.YtebeohdadihidaaFrmPack
namespace Go.Proofs.Ytebeohdadihidaa
open Go.RowKit

/-- 'append(out, src...)', out the call's own -/
theorem own_append {w w1 : World} {base : Nat} {v : Value} {l : List UInt8} (ho : w.ownsRow base 5 1 v l.length (byteVals l)) (hw : Below w.heap.size w w1) {src : Value} {m : List UInt8} (hsrc : Bytes w1 src m) (hl : l.length + m.length ≤ 1000000) (hb : base ≤ w.heap.size) :
    ∃ av L cap w3, Hid ((Builtin.append_ #[23, 23] 23 #[v, src]).run Try.prog w1 = .ok (.slice av L cap) w3) ∧ Hid (w3.ownsRow base 5 1 (.slice av L cap) (l ++ m).length (byteVals (l ++ m))) ∧ Hid (Below base w w3) := by
  have ho1 := own_cut ho hw
  obtain ⟨v', w3, hrun, hown, hgr⟩ := append_bytes (P := Try.prog) 23 Try.underlying23 Try.info8 ho1 hsrc (by omega) (by have := hw.size; omega)
  obtain ⟨av, cap, rfl⟩ := own_slice hown
  exact ⟨av, _, cap, w3, hrun, hown, (hw.mono hb).trans (own_below (w := w1) ho1 hgr (by have := hw.size; omega))⟩

set_option maxRecDepth 100000 in
set_option maxHeartbeats 2000000 in
theorem refpack_any (kind place : Int) (v : Value) (data : List UInt8) (w : World) (h : Bytes w v data) (k0 : -9223372036854775808 ≤ kind) (k1 : kind ≤ 9223372036854775807) (p0 : -9223372036854775808 ≤ place) (p1 : place ≤ 9223372036854775807) (hd : data.length ≤ 100000) :
    Calls Try.prog 13 #[.int .i64 kind, .int .i64 place, v] w (Packed kind place data w) := by
  by_cases c1 : kind < 1
  · have hg : Frm.good kind place data = false := by simp [Frm.good]; omega
    obtain ⟨a, cap, rfl, -, -⟩ := h.opened
    go_enter Try.func13, Try.ntmps13
    go_wp2_with fail
    go_ret2
    exact packed_bad hg (Below.refl _ _)
  by_cases c2 : 4 < kind
  · have hg : Frm.good kind place data = false := by simp [Frm.good]; omega
    obtain ⟨a, cap, rfl, -, -⟩ := h.opened
    have d1 : decide (kind < 1) = false := decide_eq_false (by omega)
    go_enter Try.func13, Try.ntmps13
    go_wp2_with fail
    go_ret2
    exact packed_bad hg (Below.refl _ _)
  by_cases c3 : place < 0
  · have hg : Frm.good kind place data = false := by simp [Frm.good]; omega
    obtain ⟨a, cap, rfl, -, -⟩ := h.opened
    have d1 : decide (kind < 1) = false := decide_eq_false (by omega)
    have d2 : decide (4 < kind) = false := decide_eq_false (by omega)
    go_enter Try.func13, Try.ntmps13
    go_wp2_with fail
    go_ret2
    exact packed_bad hg (Below.refl _ _)
  by_cases c4 : 2147483647 < place
  · have hg : Frm.good kind place data = false := by simp [Frm.good]; omega
    obtain ⟨a, cap, rfl, -, -⟩ := h.opened
    have d1 : decide (kind < 1) = false := decide_eq_false (by omega)
    have d2 : decide (4 < kind) = false := decide_eq_false (by omega)
    have d3 : decide (place < 0) = false := decide_eq_false (by omega)
    go_enter Try.func13, Try.ntmps13
    go_wp2_with fail
    go_ret2
    exact packed_bad hg (Below.refl _ _)
  have d1 : decide (kind < 1) = false := decide_eq_false (by omega)
  have d2 : decide (4 < kind) = false := decide_eq_false (by omega)
  have d3 : decide (place < 0) = false := decide_eq_false (by omega)
  have d4 : decide (2147483647 < place) = false := decide_eq_false (by omega)
  by_cases c5 : 1000 < data.length
  · have hg : Frm.good kind place data = false := by simp [Frm.good]; omega
    obtain ⟨a, cap, rfl, -, -⟩ := h.opened
    have d5 : (1000 : Int) < (data.length : Int) := by omega
    go_enter Try.func13, Try.ntmps13
    go_wp2_with fail
    go_ret2
    exact packed_bad hg (Below.refl _ _)
  have d5 : decide ((1000 : Int) < (data.length : Int)) = false := decide_eq_false (by omega)
  obtain ⟨kb, rfl⟩ : ∃ kb : UInt8, kind = (kb.toNat : Int) := ⟨UInt8.ofNat kind.toNat, by simp; omega⟩
  have hg : Frm.good kb.toNat place data = true := by simp [Frm.good]; omega
  obtain ⟨a, cap, rfl, -, -⟩ := h.opened
  have HD := Lib.hid h
  clear c1 c2 c3 c4 c5 h
  have kb0 : (0 : Int) ≤ (kb.toNat : Int) := by omega
  have kb1 : (kb.toNat : Int) < 256 := by have := kb.toNat_lt; omega
  have hcut := u32_cut place
  have o0 : (w.alloc (.cells #[.int .u8 (kb.toNat : Int)] 5)).ownsRow w.heap.size 5 1 (.slice (some ⟨w.heap.size, 0, none⟩) 1 1) [kb].length (byteVals [kb]) :=
    World.ownsRow_lit (base := w.heap.size) (size := 1) (e := 5) w #[.int .u8 (kb.toNat : Int)] 1 (Nat.le_refl _) (by unfold maxLen; omega) rfl
  have B0 : Hid (Below w.heap.size w (w.alloc (.cells #[.int .u8 (kb.toNat : Int)] 5))) := (Below.refl w.heap.size w).alloc (Nat.le_refl _) _
  have hs0 := B0.out.size
  go_enter Try.func13, Try.ntmps13
  go_wp2_with fail
  refine (rfour_any _ _).mono ?_
  rintro e w1 ⟨v4, rfl, b4, HB, -⟩
  obtain ⟨av1, L1, cap1, w2, HR1, HO1, HB1⟩ := own_append o0 HB b4 (by simp [Frm.four]) hs0
  have B1 : Hid (Below w.heap.size w w2) := B0.out.trans HB1.out
  have hs1 := B1.out.size
  clear HB1 b4 HB
  have hsrc : Bytes (w2.alloc (.cells #[.int .u8 ((data.length : Int) / 256 % 256), .int .u8 ((data.length : Int) % 256)] 5)) (.slice (some ⟨w2.heap.size, 0, none⟩) 2 2) (Frm.lens data) := two_bytes _ _ _
  obtain ⟨av2, L2, cap2, w3, HR2, HO2, HB2⟩ := own_append HO1.out ((Below.refl _ _).alloc (Nat.le_refl _) _) hsrc (by simp [Frm.four, Frm.lens]) hs1
  have B2 : Hid (Below w.heap.size w w3) := B1.out.trans HB2.out
  have hs2 := B2.out.size
  clear hsrc HB2
  obtain ⟨av3, L3, cap3, w4, HR3, HO3, HB3⟩ := own_append HO2.out (Below.refl _ _) (HD.out.below B2.out) (by simp [Frm.four, Frm.lens]; omega) hs2
  have B3 : Hid (Below w.heap.size w w4) := B2.out.trans HB3.out
  have hs3 := B3.out.size
  clear HB3
  go_wp2_with (first
    | (at_builtin; refine Lib.wpList_append_run _ rfl (.tmp 30) (.tmp 33) _ _ rfl _ _ rfl rfl _ _ HR1.out ?_)
    | (at_builtin; refine Lib.wpList_append_run _ rfl (.tmp 35) (.tmp 44) _ _ rfl _ _ rfl rfl _ _ HR2.out ?_)
    | (at_builtin; refine Lib.wpList_append_run _ rfl (.tmp 46) (.tmp 47) _ _ rfl _ _ rfl rfl _ _ HR3.out ?_)
    | (go_at_call 25; fail))
  have hll : ([kb] ++ Frm.four (BitVec.ofInt 32 place) ++ Frm.lens data ++ data).length ≤ 100000 := by
    simp [Frm.four, Frm.lens] at *
    omega
  have hsum := refsum_any _ _ _ (own_bytes HO3.out) (by omega)
  obtain ⟨S, HS⟩ : ∃ S, Hid (Crc.more 0#32 ([kb] ++ Frm.four (BitVec.ofInt 32 place) ++ Frm.lens data ++ data) = S) := ⟨_, rfl⟩
  rw [HS.out] at hsum
  have u0 := u32_nonneg S
  have u1 := u32_lt S
  refine hsum.mono ?_
  clear hsum
  rintro e w5 ⟨rfl, rfl⟩
  go_wp2_with (first
    | (go_at_call 24; fail))
  refine (rfour_any _ _).mono ?_
  rintro e w5 ⟨v5, rfl, b5, HB, -⟩
  obtain ⟨av5, L5, cap5, w6, HR5, HO5, HB5⟩ := own_append HO3.out HB b5 (by simp only [List.length_append] at *; simp only [Frm.four, Frm.lens, List.length_cons, List.length_nil] at *; omega) hs3
  have B5 : Hid (Below w.heap.size w w6) := B3.out.trans HB5.out
  clear HB5 b5 HB
  go_wp2_with (first
    | (at_builtin; refine Lib.wpList_append_run _ rfl (.tmp 49) (.tmp 52) _ _ rfl _ _ rfl rfl _ _ HR5.out ?_))
  go_ret2
  refine ⟨_, by rw [hg]; rfl, ?_, own_base HO5.out, B5.out⟩
  rw [hg]
  have hx := own_bytes HO5.out
  have hb : [kb] ++ Frm.four (BitVec.ofInt 32 place) ++ Frm.lens data ++ data = Frm.body kb.toNat place data := by simp [Frm.body]
  rw [← HS.out, hb] at hx
  exact hx

end Go.Proofs.Ytebeohdadihidaa
