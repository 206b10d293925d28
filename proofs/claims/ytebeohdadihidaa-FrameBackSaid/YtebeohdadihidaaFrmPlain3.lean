/- What follows of frames: back, turned, cut. No program in sight. -/
import Derived.Test.YtebeohdadihidaaFrmPlain2
namespace Go.Proofs.Ytebeohdadihidaa.Frm

theorem four_inj {a b : BitVec 32} (h : four a = four b) : a = b := by
  unfold four at h
  simp only [List.cons.injEq, and_true] at h
  obtain ⟨h1, h2, h3, h4⟩ := h
  have e1 := congrArg UInt8.toNat h1
  have e2 := congrArg UInt8.toNat h2
  have e3 := congrArg UInt8.toNat h3
  have e4 := congrArg UInt8.toNat h4
  simp at e1 e2 e3 e4
  apply BitVec.eq_of_toNat_eq
  have := a.isLt
  have := b.isLt
  omega

theorem body_length (k p : Int) (d : List UInt8) : (body k p d).length = d.length + 7 := by
  unfold body
  simp [four_length, lens_length]
  omega

theorem pack_length (k p : Int) (d : List UInt8) : (pack k p d).length = d.length + 11 := by
  unfold pack
  rw [List.length_append, body_length, four_length]

theorem pack_mid (k p : Int) (d : List UInt8) : mid (pack k p d) = d := by
  unfold mid
  rw [pack_length]
  unfold pack body
  have e : [UInt8.ofNat k.toNat] ++ four (BitVec.ofInt 32 p) ++ lens d ++ d ++ four (Crc.more 0#32 ([UInt8.ofNat k.toNat] ++ four (BitVec.ofInt 32 p) ++ lens d ++ d)) = ([UInt8.ofNat k.toNat] ++ four (BitVec.ofInt 32 p) ++ lens d) ++ (d ++ four (Crc.more 0#32 ([UInt8.ofNat k.toNat] ++ four (BitVec.ofInt 32 p) ++ lens d ++ d))) := by simp
  rw [e, List.drop_left' (by simp [four_length, lens_length]), List.take_left' (by omega)]

theorem pack_head (k p : Int) (d : List UInt8) : (pack k p d).getD 0 0 = UInt8.ofNat k.toNat := by
  unfold pack body
  simp

theorem good_spec {k p : Int} {d : List UInt8} (h : good k p d = true) : 1 ≤ k ∧ k ≤ 4 ∧ 0 ≤ p ∧ p ≤ 2147483647 ∧ d.length ≤ 1000 := by
  unfold good at h
  simp only [Bool.and_eq_true, decide_eq_true_iff] at h
  omega

/-- P5.4 -/
theorem fits_pack {k p : Int} {d : List UInt8} (h : good k p d = true) (q : Int) : fits q (pack k p d) = decide (q = p) := by
  obtain ⟨h1, h2, h3, h4, h5⟩ := good_spec h
  have hk : ((UInt8.ofNat k.toNat).toNat : Int) = k := by simp; omega
  unfold fits
  rw [pack_mid, pack_head, hk, decide_eq_true (by rw [pack_length]; omega), Bool.true_and]
  by_cases e : q = p
  · subst e
    rw [h]; simp
  · rw [decide_eq_false e, Bool.and_eq_false_iff]
    by_cases hq : good k q d = true
    · right
      obtain ⟨-, -, q3, q4, -⟩ := good_spec hq
      refine decide_eq_false fun hp => e ?_
      unfold pack body at hp
      have g1 := (List.append_inj' hp (by rw [four_length, four_length])).1
      have g2 := (List.append_inj' g1 rfl).1
      have g3 := (List.append_inj' g2 rfl).1
      have g4 := (List.append_inj' g3 rfl).2
      have g5 := congrArg BitVec.toNat (four_inj g4)
      rw [BitVec.toNat_ofInt, BitVec.toNat_ofInt] at g5
      omega
    · left; simpa using hq

end Go.Proofs.Ytebeohdadihidaa.Frm
