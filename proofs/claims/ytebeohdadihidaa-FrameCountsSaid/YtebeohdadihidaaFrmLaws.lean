/- Walks of the statements' own functions over package frame. -/
import Derived.Test.YtebeohdadihidaaFrmAwake
namespace Go.Proofs.Ytebeohdadihidaa
open Go.RowKit

theorem frameNames_walk (w : World) : Calls Try.prog 3 #[] w fun e w' => e = .returned (.bool true) ∧ Below w.heap.size w w' := by
  go_enter Try.func3, Try.ntmps3
  go_wp2_with (first
    | (go_at_call 11; refine (awake_any _).mono ?_; rintro e w1 ⟨rfl, HB⟩))
  go_ret
  exact ⟨rfl, HB⟩

set_option maxHeartbeats 4000000 in
theorem framePacks_walk (kind place : Int) (v : Value) (data : List UInt8) (w : World) (k0 : -9223372036854775808 ≤ kind) (k1 : kind ≤ 9223372036854775807) (p0 : -9223372036854775808 ≤ place) (p1 : place ≤ 9223372036854775807) (h : Bytes w v data) :
    Calls Try.prog 4 #[.int .i64 kind, .int .i64 place, v] w fun e w' => e = .returned (.bool true) ∧ Below w.heap.size w w' := by
  obtain ⟨a, cap, rfl, -, -⟩ := h.opened
  by_cases hbig : 2000 < data.length
  · have hb1 : (2000 : Int) < (data.length : Int) := by omega
    go_enter Try.func4, Try.ntmps4
    go_wp2_with (first
      | (go_at_call 11; refine (awake_any _).mono ?_; rintro e w1 ⟨rfl, HB⟩))
    go_ret
    exact ⟨rfl, HB⟩
  have hb1 : ¬ (2000 : Int) < (data.length : Int) := by omega
  have hd : data.length ≤ 100000 := by omega
  have H := Lib.hid h
  rcases hg : Frm.good kind place data with _ | _
  · have HG := Lib.hid hg
    have E : ((strOf []).toList == (strOf []).toList) = true := by rw [strOf_beq]; rfl
    clear hg h hbig
    go_enter Try.func4, Try.ntmps4
    go_wp2_with (first
      | (go_at_call 11; refine (awake_any _).mono ?_; rintro e w1 ⟨rfl, HB⟩; have h1 := H.out.below HB; have B1 := Lib.hid HB; clear HB)
      | (go_at_call 12; refine (pack_any kind place _ data _ h1 k0 k1 p0 p1 hd).mono ?_; intro e w2 hp; obtain ⟨a2, c2, rfl, hb2, -, HB⟩ := packed_not HG.out hp; have h2 := h1.below HB; have B2 := hid_trans B1 HB; clear HB hp)
      | (go_at_call 13; refine (refpack_any kind place _ data _ h2 k0 k1 p0 p1 hd).mono ?_; intro e w3 hp; obtain ⟨a3, c3, rfl, hb3, -, HB⟩ := packed_not HG.out hp; have s2 := str_bytes (hb2.below HB); have s3 := str_bytes hb3; simp only [List.length_nil] at s2 s3; have B3 := hid_trans B2 HB; clear HB hp hb3))
    go_ret
    exact ⟨rfl, B3.out⟩
  · have HG := Lib.hid hg
    have hlen := Frm.pack_length kind place data
    have hd2 := (Frm.good_spec hg).2.2.2.2
    have E := strOf_beq (Frm.pack kind place data) (Frm.pack kind place data)
    rw [decide_eq_true rfl] at E
    obtain ⟨P, hP⟩ : ∃ P, Frm.pack kind place data = P := ⟨_, rfl⟩
    rw [hP] at hlen E
    have HPK := Lib.hid hP
    have hl2 : (P.length : Int) ≤ 1024 := by omega
    clear hg h hbig hlen hd2 hP
    go_enter Try.func4, Try.ntmps4
    go_wp2_with (first
      | (go_at_call 11; refine (awake_any _).mono ?_; rintro e w1 ⟨rfl, HB⟩; have h1 := H.out.below HB; have B1 := Lib.hid HB; clear HB)
      | (go_at_call 12; refine (pack_any kind place _ data _ h1 k0 k1 p0 p1 hd).mono ?_; intro e w2 hp; have hq := packed_good HG.out hp; rw [HPK.out] at hq; obtain ⟨a2, c2, rfl, hb2, -, HB⟩ := hq; have h2 := h1.below HB; have B2 := hid_trans B1 HB; clear HB hp)
      | (go_at_call 13; refine (refpack_any kind place _ data _ h2 k0 k1 p0 p1 hd).mono ?_; intro e w3 hp; have hq := packed_good HG.out hp; rw [HPK.out] at hq; obtain ⟨a3, c3, rfl, hb3, -, HB⟩ := hq; have s2 := str_bytes (hb2.below HB); have s3 := str_bytes hb3; have B3 := hid_trans B2 HB; clear HB hp hb3))
    go_ret
    exact ⟨rfl, B3.out⟩

end Go.Proofs.Ytebeohdadihidaa
