/- Walks of FrameCuts. -/
import Derived.Test.YtebeohdadihidaaFrmLaws4
namespace Go.Proofs.Ytebeohdadihidaa
open Go.RowKit

set_option maxHeartbeats 4000000 in
theorem frameCuts_walk (kind place : Int) (v : Value) (data : List UInt8) (t : Int) (vm : Value) (more : List UInt8) (w : World) (k0 : -9223372036854775808 ≤ kind) (k1 : kind ≤ 9223372036854775807) (p0 : -9223372036854775808 ≤ place) (p1 : place ≤ 9223372036854775807) (h : Bytes w v data) (t0 : -9223372036854775808 ≤ t) (t1 : t ≤ 9223372036854775807) (hm : Bytes w vm more) :
    Calls Try.prog 10 #[.int .i64 kind, .int .i64 place, v, .int .i64 t, vm] w fun e w' => e = .returned (.bool true) ∧ Below w.heap.size w w' := by
  obtain ⟨a, cap, rfl, -, -⟩ := h.opened
  obtain ⟨am, capm, rfl, -, -⟩ := hm.opened
  by_cases hbig : 2000 < data.length
  · have hb1 : (2000 : Int) < (data.length : Int) := by omega
    go_enter Try.func10, Try.ntmps10
    go_wp2_with (first
      | (go_at_call 11; refine (awake_any _).mono ?_; rintro e w1 ⟨rfl, HB⟩))
    go_ret
    exact ⟨rfl, HB⟩
  have hb1 : ¬ (2000 : Int) < (data.length : Int) := by omega
  by_cases hbm : 50 < more.length
  · have hb2 : (50 : Int) < (more.length : Int) := by omega
    go_enter Try.func10, Try.ntmps10
    go_wp2_with (first
      | (go_at_call 11; refine (awake_any _).mono ?_; rintro e w1 ⟨rfl, HB⟩))
    go_ret
    exact ⟨rfl, HB⟩
  have hb2 : ¬ (50 : Int) < (more.length : Int) := by omega
  have hd : data.length ≤ 100000 := by omega
  have hdm : more.length ≤ 50 := by omega
  have H := Lib.hid h
  have HM := Lib.hid hm
  rcases hg : Frm.good kind place data with _ | _
  · have HG := Lib.hid hg
    clear hg h hbig hm hbm
    go_enter Try.func10, Try.ntmps10
    go_wp2_with (first
      | (go_at_call 11; refine (awake_any _).mono ?_; rintro e w1 ⟨rfl, HB⟩; have h1 := H.out.below HB; have B1 := Lib.hid HB; clear HB)
      | (go_at_call 12; refine (pack_any kind place _ data _ h1 k0 k1 p0 p1 hd).mono ?_; intro e w2 hp; obtain ⟨a2, c2, rfl, hb2, -, HB⟩ := packed_not HG.out hp; simp only [List.length_nil] at *; have h2 := h1.below HB; have B2 := hid_trans B1 HB; clear HB hp))
    go_ret
    exact ⟨rfl, B2.out⟩
  · have HG := Lib.hid hg
    have hlen := Frm.pack_length kind place data
    have hf := Frm.fits_pack hg place
    rw [decide_eq_true rfl] at hf
    obtain ⟨l, hP⟩ : ∃ P, Frm.pack kind place data = P := ⟨_, rfl⟩
    rw [hP] at hlen hf
    have hz : 0 < l.length := by omega
    have hz1 : (0 : Int) < (l.length : Int) := by omega
    have hl2 : l.length ≤ 3000 := by omega
    have hne : ((l.length : Int) == 0) = false := beq_eq_false_iff_ne.2 (by omega)
    obtain ⟨i, hi, hcase⟩ := idx_any t l.length hz
    have hi' : (i : Int) < (l.length : Int) := by omega
    have hcut := Frm.fits_cut hf i hi place
    have hmore := Frm.fits_more hf more
    obtain ⟨β, E2, hβ⟩ : ∃ β : Bool, ((more.length : Int) == 0) = β ∧ decide (more = []) = β := by
      refine ⟨_, rfl, ?_⟩
      rw [Bool.eq_iff_iff, beq_iff_eq, decide_eq_true_iff]
      constructor
      · intro h0; subst h0; rfl
      · intro h0; exact List.length_eq_zero_iff.1 (by omega)
    rw [hβ] at hmore
    have HI := Lib.hid hi
    have HT := Lib.hid hmore
    have HC := Lib.hid hcut
    have HPK := Lib.hid hP
    have HLL := Lib.hid hl2
    have HDM := Lib.hid hdm
    rcases hcase with ⟨hneg, hidx⟩ | ⟨hneg, hidx⟩
    all_goals
      clear hi hz hbig hlen hf hP hβ hmore hcut h hg hm hbm
      go_enter Try.func10, Try.ntmps10
      go_wp2_with (first
        | (go_at_call 11; refine (awake_any _).mono ?_; rintro e w1 ⟨rfl, HB⟩; have h1 := H.out.below HB; have m1 := HM.out.below HB; have B1 := Lib.hid HB; clear HB)
        | (go_at_call 12; fail))
      refine (pack_any kind place _ data _ h1 k0 k1 p0 p1 hd).mono ?_
      intro e w2 hp
      have hq := packed_good HG.out hp
      rw [HPK.out] at hq
      obtain ⟨a2, c2, rfl, hb2, -, HB⟩ := hq
      have B2 := hid_trans B1 HB
      have m2 := m1.below HB
      clear HB hp B1 m1 h1
      obtain ⟨a2', c2', he, hcap2, bb, oo, hA, hC⟩ := hb2.opened
      rw [Value.slice.injEq] at he
      obtain ⟨rfl, -, rfl⟩ := he
      obtain rfl := hA (List.ne_nil_of_length_pos (by omega))
      have hsub := bytes_sub hC.out 0 i c2 (by have := HI.out; omega) (by have := HI.out; omega)
      rw [List.drop_zero, Nat.add_zero] at hsub
      have HS := Lib.hid hsub
      have hcc : (i : Int) ≤ (c2 : Int) := by have := HI.out; omega
      clear hA hsub
      go_wp2_with (first
        | (go_at_call 14; fail))
      refine (unpack_any place _ (l.take i) _ HS.out p0 p1 (by have := HLL.out; rw [List.length_take]; omega)).mono ?_
      intro e w3 hp
      obtain ⟨m3, a3, n3, c3, rfl, HB⟩ := unpacked_err HC.out hp
      simp only [Bool.false_eq_true, if_false]
      have b3 := hb2.below HB
      have m3 := m2.below HB
      have B3 := hid_trans B2 HB
      clear HB hp B2 m2 hC HS hb2
      obtain ⟨av1, L1, cap1, W1, HR1, O1, HB1⟩ := copy_new b3 (by have := HLL.out; omega)
      obtain ⟨av2, L2, cap2, W2, HR2, O2, HB2⟩ := own_append O1.out (Below.refl _ _) (m3.below HB1.out) (by have := HLL.out; have := HDM.out; omega) HB1.out.size
      have B4 := hid_trans B3 (HB1.out.trans HB2.out)
      have c4 := own_bytes O2.out
      clear HB1 HB2 B3 O1 O2 b3 m3
      go_wp2_with (first
        | (at_builtin; refine Lib.wpList_append_run _ rfl (.tmp 68) (.tmp 69) _ _ rfl _ _ rfl rfl _ _ HR1.out ?_)
        | (at_builtin; refine Lib.wpList_append_run _ rfl (.tmp 70) (.tmp 71) _ _ rfl _ _ rfl rfl _ _ HR2.out ?_)
        | (go_at_call 14; fail))
      refine (unpack_any place _ (l ++ more) _ c4 p0 p1 (by have := HLL.out; have := HDM.out; rw [List.length_append]; omega)).mono ?_
      intro e w4 hp
      obtain ⟨m4, a4, n4, c4, rfl, HB⟩ := unpacked_err HT.out hp
      have B5 := hid_trans B4 HB
      clear HB hp B4 HT
      rcases β with _ | _
      all_goals
        simp only [Bool.false_eq_true, if_false, if_true]
        go_wp2_with fail
        go_ret
        exact ⟨rfl, B5.out⟩

end Go.Proofs.Ytebeohdadihidaa
