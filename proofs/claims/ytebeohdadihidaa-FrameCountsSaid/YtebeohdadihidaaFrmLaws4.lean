/- Walks of FrameTurns. -/
import Derived.Test.YtebeohdadihidaaFrmLaws3
namespace Go.Proofs.Ytebeohdadihidaa
open Go.RowKit

/-- an index of any number -/
theorem idx_any (t : Int) (n : Nat) (hz : 0 < n) : ∃ i : Nat, i < n ∧ ((t < 0 ∧ -((t + 1).tmod (n : Int)) = (i : Int)) ∨ (¬ t < 0 ∧ t.tmod (n : Int) = (i : Int))) := by
  have hz1 : (0 : Int) < (n : Int) := by omega
  by_cases hneg : t < 0
  · have h1 : 0 ≤ -((t + 1).tmod (n : Int)) := by
      rw [← Int.neg_tmod]; exact Int.tmod_nonneg _ (by omega)
    have h2 : -((t + 1).tmod (n : Int)) < (n : Int) := by
      rw [← Int.neg_tmod]; exact Int.tmod_lt_of_pos _ hz1
    exact ⟨(-((t + 1).tmod (n : Int))).toNat, by omega, .inl ⟨hneg, by omega⟩⟩
  · have h1 : 0 ≤ t.tmod (n : Int) := Int.tmod_nonneg _ (by omega)
    have h2 : t.tmod (n : Int) < (n : Int) := Int.tmod_lt_of_pos _ hz1
    exact ⟨(t.tmod (n : Int)).toNat, by omega, .inr ⟨hneg, by omega⟩⟩

/-- what Unpack's error number is -/
theorem unpacked_err {p : Int} {b : List UInt8} {w : World} {z : Bool} (hg : Frm.fits p b = z) {e : Ending} {w' : World} (h : Unpacked p b w e w') : ∃ m a n c, e = .returned (.tuple #[.int .i64 m, .slice a n c, .int .i64 (if z then 0 else 50)]) ∧ Below w.heap.size w w' := by
  obtain ⟨r, h1, h2, h3, h4⟩ := h
  rw [hg] at h1
  obtain ⟨a, c, rfl, -, -⟩ := Bytes.opened h2
  exact ⟨_, a, _, c, h1, h4⟩

set_option maxHeartbeats 4000000 in
theorem frameTurns_walk (kind place : Int) (v : Value) (data : List UInt8) (t : Int) (by_ : UInt8) (w : World) (k0 : -9223372036854775808 ≤ kind) (k1 : kind ≤ 9223372036854775807) (p0 : -9223372036854775808 ≤ place) (p1 : place ≤ 9223372036854775807) (h : Bytes w v data) (t0 : -9223372036854775808 ≤ t) (t1 : t ≤ 9223372036854775807) :
    Calls Try.prog 8 #[.int .i64 kind, .int .i64 place, v, .int .i64 t, .int .u8 (by_.toNat : Int)] w fun e w' => e = .returned (.bool true) ∧ Below w.heap.size w w' := by
  obtain ⟨a, cap, rfl, -, -⟩ := h.opened
  by_cases hbig : 2000 < data.length
  · have hb1 : (2000 : Int) < (data.length : Int) := by omega
    go_enter Try.func8, Try.ntmps8
    go_wp2_with (first
      | (go_at_call 11; refine (awake_any _).mono ?_; rintro e w1 ⟨rfl, HB⟩))
    go_ret
    exact ⟨rfl, HB⟩
  have hb1 : ¬ (2000 : Int) < (data.length : Int) := by omega
  have hd : data.length ≤ 100000 := by omega
  have H := Lib.hid h
  rcases hg : Frm.good kind place data with _ | _
  · have HG := Lib.hid hg
    clear hg h hbig
    go_enter Try.func8, Try.ntmps8
    go_wp2_with (first
      | (go_at_call 11; refine (awake_any _).mono ?_; rintro e w1 ⟨rfl, HB⟩; have h1 := H.out.below HB; have B1 := Lib.hid HB; clear HB)
      | (go_at_call 12; refine (pack_any kind place _ data _ h1 k0 k1 p0 p1 hd).mono ?_; intro e w2 hp; obtain ⟨a2, c2, rfl, hb2, -, HB⟩ := packed_not HG.out hp; simp only [List.length_nil] at *; have h2 := h1.below HB; have B2 := hid_trans B1 HB; clear HB hp))
    go_ret
    exact ⟨rfl, B2.out⟩
  · have HG := Lib.hid hg
    have hlen := Frm.pack_length kind place data
    have hf := Frm.fits_pack hg place
    rw [decide_eq_true rfl] at hf
    obtain ⟨l, hP⟩ : ∃ P, Frm.pack kind place data = P := ⟨_, rfl⟩
    rw [hP] at hlen hf
    have hz : 0 < l.length := by omega
    have hz1 : (0 : Int) < (l.length : Int) := by omega
    have hl2 : l.length ≤ 100000 := by omega
    have hne : ((l.length : Int) == 0) = false := beq_eq_false_iff_ne.2 (by omega)
    obtain ⟨i, hi, hcase⟩ := idx_any t l.length hz
    have hi' : (i : Int) < (l.length : Int) := by omega
    have hturn := Frm.fits_turned hf i hi by_
    obtain ⟨β, E2, hβ⟩ : ∃ β : Bool, ((by_.toNat : Int) == 0) = β ∧ decide (by_ = 0) = β := by
      refine ⟨_, rfl, ?_⟩
      rw [Bool.eq_iff_iff, beq_iff_eq, decide_eq_true_iff]
      constructor
      · intro h0; subst h0; rfl
      · intro h0; apply UInt8.toNat_inj.mp; simp; omega
    rw [hβ] at hturn
    obtain ⟨z, HZ⟩ : ∃ z, Hid (l.getD i 0 = z) := ⟨_, rfl⟩
    rw [HZ.out] at hturn
    obtain ⟨z', HZ'⟩ : ∃ z', Hid (z ^^^ by_ = z') := ⟨_, rfl⟩
    rw [HZ'.out] at hturn
    obtain ⟨l', HL'⟩ : ∃ l', Hid (l.set i z' = l') := ⟨_, rfl⟩
    rw [HL'.out] at hturn
    have hx8 := xor8 z by_
    rw [HZ'.out] at hx8
    have HI := Lib.hid hi
    have HT := Lib.hid hturn
    have HPK := Lib.hid hP
    have HLL := Lib.hid hl2
    rcases hcase with ⟨hneg, hidx⟩ | ⟨hneg, hidx⟩
    all_goals
      clear hi hz hbig hlen hf hP hβ hturn h hg
      go_enter Try.func8, Try.ntmps8
      go_wp2_with (first
        | (go_at_call 11; refine (awake_any _).mono ?_; rintro e w1 ⟨rfl, HB⟩; have h1 := H.out.below HB; have B1 := Lib.hid HB; clear HB)
        | (go_at_call 12; fail))
      refine (pack_any kind place _ data _ h1 k0 k1 p0 p1 hd).mono ?_
      intro e w2 hp
      have hq := packed_good HG.out hp
      rw [HPK.out] at hq
      obtain ⟨a2, c2, rfl, hb2, -, HB⟩ := hq
      have B2 := hid_trans B1 HB
      clear HB hp B1
      obtain ⟨av1, L1, cap1, W1, HR1, O1, HB1⟩ := copy_new hb2 (by omega)
      obtain ⟨g, cap, he, hg1, hg2, hcap⟩ := own_shape O1.out (by omega)
      rw [Value.slice.injEq] at he
      obtain ⟨rfl, rfl, rfl⟩ := he
      have hc : W1.cell? ⟨g, i, none⟩ = some (.int .u8 (z.toNat : Int)) := by rw [O1.out.cellAt i (by have := HI.out; omega), byteVals_get l i HI.out, HZ.out]
      have hf : W1.frozen? ⟨g, i, none⟩ = false := O1.out.frozenAt i
      go_wp2_with (first
        | (at_builtin; refine Lib.wpList_append_run _ rfl _ _ _ _ rfl _ _ rfl rfl _ _ HR1.out ?_)
        | (go_at_call 14; fail))
      have o2 := (O1.out.stored i (.int .u8 (z'.toNat : Int))).1
      rw [← byteVals_set, HL'.out] at o2
      have hll : l.length = l'.length := by rw [← HL'.out]; simp
      have o3 := o2
      rw [hll] at o3
      have c1 := own_bytes o3
      rw [← hll] at c1
      have bel := HB1.out.setCell hg1 (.int .u8 (z'.toNat : Int)) (p := ⟨g, i, none⟩)
      have B3 := hid_trans B2 bel
      clear o2 o3 bel B2 O1
      refine (unpack_any place _ l' _ c1 p0 p1 (by have := HLL.out; omega)).mono ?_
      intro e w4 hp
      obtain ⟨m4, a4, n4, c4, rfl, HB⟩ := unpacked_err HT.out hp
      have B4 := hid_trans B3 HB
      clear HB hp B3 HT hll
      rcases β with _ | _
      all_goals
        simp only [Bool.false_eq_true, if_false, if_true]
        go_wp2_with fail
        go_ret
        exact ⟨rfl, B4.out⟩

end Go.Proofs.Ytebeohdadihidaa
