/- Walks of FrameBack. -/
import Derived.Test.YtebeohdadihidaaFrmLaws2
namespace Go.Proofs.Ytebeohdadihidaa
open Go.RowKit

theorem Frm.head_kind {k p : Int} {d : List UInt8} (h : Frm.good k p d = true) : (((Frm.pack k p d).getD 0 0).toNat : Int) = k := by
  obtain ⟨h1, h2, -⟩ := Frm.good_spec h
  rw [Frm.pack_head]
  simp; omega

/-- what is packed is a frame of its place, and tells its kind and data -/
theorem unpack_packed {k p q : Int} {d : List UInt8} (hg : Frm.good k p d = true) (hq : q = p) (v : Value) (w : World) (h : Bytes w v (Frm.pack k p d)) (q0 : -9223372036854775808 ≤ q) (q1 : q ≤ 9223372036854775807) :
    Calls Try.prog 14 #[.int .i64 q, v] w (NumBytesErr k d 0 w) := by
  refine (unpack_any q v _ w h q0 q1 (by have := Frm.good_spec hg; rw [Frm.pack_length]; omega)).mono fun e w' hp => ?_
  have := unpacked_good (by rw [Frm.fits_pack hg, decide_eq_true hq]) hp
  rw [Frm.head_kind hg, Frm.pack_mid] at this
  exact this

theorem unpack_other {k p q : Int} {d : List UInt8} (hg : Frm.good k p d = true) (hq : q ≠ p) (v : Value) (w : World) (h : Bytes w v (Frm.pack k p d)) (q0 : -9223372036854775808 ≤ q) (q1 : q ≤ 9223372036854775807) :
    Calls Try.prog 14 #[.int .i64 q, v] w (NumBytesErr 0 [] 50 w) := by
  refine (unpack_any q v _ w h q0 q1 (by have := Frm.good_spec hg; rw [Frm.pack_length]; omega)).mono fun e w' hp => ?_
  exact unpacked_not (by rw [Frm.fits_pack hg, decide_eq_false hq]) hp

set_option maxHeartbeats 4000000 in
theorem frameBack_walk (kind place : Int) (v : Value) (data : List UInt8) (other : Int) (w : World) (k0 : -9223372036854775808 ≤ kind) (k1 : kind ≤ 9223372036854775807) (p0 : -9223372036854775808 ≤ place) (p1 : place ≤ 9223372036854775807) (h : Bytes w v data) (o0 : -9223372036854775808 ≤ other) (o1 : other ≤ 9223372036854775807) :
    Calls Try.prog 7 #[.int .i64 kind, .int .i64 place, v, .int .i64 other] w fun e w' => e = .returned (.bool true) ∧ Below w.heap.size w w' := by
  obtain ⟨a, cap, rfl, -, -⟩ := h.opened
  by_cases hbig : 2000 < data.length
  · have hb1 : (2000 : Int) < (data.length : Int) := by omega
    go_enter Try.func7, Try.ntmps7
    go_wp2_with (first
      | (go_at_call 11; refine (awake_any _).mono ?_; rintro e w1 ⟨rfl, HB⟩))
    go_ret
    exact ⟨rfl, HB⟩
  have hb1 : ¬ (2000 : Int) < (data.length : Int) := by omega
  have hd : data.length ≤ 100000 := by omega
  have H := Lib.hid h
  rcases hg : Frm.good kind place data with _ | _
  · have HG := Lib.hid hg
    clear hg h hbig
    go_enter Try.func7, Try.ntmps7
    go_wp2_with (first
      | (go_at_call 11; refine (awake_any _).mono ?_; rintro e w1 ⟨rfl, HB⟩; have h1 := H.out.below HB; have B1 := Lib.hid HB; clear HB)
      | (go_at_call 12; refine (pack_any kind place _ data _ h1 k0 k1 p0 p1 hd).mono ?_; intro e w2 hp; obtain ⟨a2, c2, rfl, hb2, -, HB⟩ := packed_not HG.out hp; simp only [List.length_nil] at *; have h2 := h1.below HB; have B2 := hid_trans B1 HB; clear HB hp))
    go_ret
    exact ⟨rfl, B2.out⟩
  · have HG := Lib.hid hg
    have hlen := Frm.pack_length kind place data
    have E := strOf_beq data data
    rw [decide_eq_true rfl] at E
    have hun5 := unpack_packed (q := place) hg rfl
    obtain ⟨P, hP⟩ : ∃ P, Frm.pack kind place data = P := ⟨_, rfl⟩
    have hl2 : ((P.length : Int) == (data.length : Int) + 11) = true := by rw [beq_iff_eq, ← hP, hlen]; omega
    have kk : (kind == kind) = true := beq_self_eq_true _
    by_cases ho : other = place
    · have oo : (other == place) = true := beq_iff_eq.2 ho
      have hun6 := unpack_packed (q := other) hg ho
      rw [hP] at hun5 hun6
      have HU5 := Lib.hid hun5
      have HU6 := Lib.hid hun6
      have HPK := Lib.hid hP
      clear hg h hbig hlen hP ho hun5 hun6
      go_enter Try.func7, Try.ntmps7
      go_wp2_with (first
        | (go_at_call 11; refine (awake_any _).mono ?_; rintro e w1 ⟨rfl, HB⟩; have h1 := H.out.below HB; have B1 := Lib.hid HB; clear HB)
        | (go_at_call 12; refine (pack_any kind place _ data _ h1 k0 k1 p0 p1 hd).mono ?_; intro e w2 hp; have hq := packed_good HG.out hp; rw [HPK.out] at hq; obtain ⟨a2, c2, rfl, hb2, -, HB⟩ := hq; have h2 := h1.below HB; have B2 := hid_trans B1 HB; clear HB hp; have tok := Lib.hid True.intro)
        | (go_at_call 14; have tk := tok; clear tok; refine (HU5.out _ _ hb2 p0 p1).mono ?_; rintro e w3 ⟨a3, c3, rfl, hb3, -, HB⟩; have h3 := h2.below HB; have hb2' := hb2.below HB; have B3 := hid_trans B2 HB; clear HB)
        | (go_at_call 14; refine (HU6.out _ _ hb2' o0 o1).mono ?_; rintro e w4 ⟨a4, c4, rfl, -, -, HB⟩; have s4 := str_bytes (h3.below HB); have s3 := str_bytes (hb3.below HB); have B4 := hid_trans B3 HB; clear HB))
      go_ret
      exact ⟨rfl, B4.out⟩
    · have oo : (other == place) = false := beq_eq_false_iff_ne.2 ho
      have hun6 := unpack_other (q := other) hg ho
      rw [hP] at hun5 hun6
      have HU5 := Lib.hid hun5
      have HU6 := Lib.hid hun6
      have HPK := Lib.hid hP
      clear hg h hbig hlen hP ho hun5 hun6
      go_enter Try.func7, Try.ntmps7
      go_wp2_with (first
        | (go_at_call 11; refine (awake_any _).mono ?_; rintro e w1 ⟨rfl, HB⟩; have h1 := H.out.below HB; have B1 := Lib.hid HB; clear HB)
        | (go_at_call 12; refine (pack_any kind place _ data _ h1 k0 k1 p0 p1 hd).mono ?_; intro e w2 hp; have hq := packed_good HG.out hp; rw [HPK.out] at hq; obtain ⟨a2, c2, rfl, hb2, -, HB⟩ := hq; have h2 := h1.below HB; have B2 := hid_trans B1 HB; clear HB hp; have tok := Lib.hid True.intro)
        | (go_at_call 14; have tk := tok; clear tok; refine (HU5.out _ _ hb2 p0 p1).mono ?_; rintro e w3 ⟨a3, c3, rfl, hb3, -, HB⟩; have h3 := h2.below HB; have hb2' := hb2.below HB; have B3 := hid_trans B2 HB; clear HB)
        | (go_at_call 14; refine (HU6.out _ _ hb2' o0 o1).mono ?_; rintro e w4 ⟨a4, c4, rfl, -, -, HB⟩; have s4 := str_bytes (h3.below HB); have s3 := str_bytes (hb3.below HB); simp only [List.length_nil]; have B4 := hid_trans B3 HB; clear HB))
      go_ret
      exact ⟨rfl, B4.out⟩

end Go.Proofs.Ytebeohdadihidaa
