/- When bytes are a frame. -/
import Derived.Test.YtebeohdadihidaaFrmPlain
namespace Go.Proofs.Ytebeohdadihidaa.Frm

theorem four_length (n : BitVec 32) : (four n).length = 4 := rfl
theorem lens_length (d : List UInt8) : (lens d).length = 2 := rfl

theorem lens_iff (m : List UInt8) (x y : UInt8) (h : m.length ≤ 1000) : lens m = [x, y] ↔ m.length = x.toNat * 256 + y.toNat := by
  unfold lens
  have hx := x.toNat_lt
  have hy := y.toNat_lt
  rw [List.cons.injEq, List.cons.injEq]
  constructor
  · rintro ⟨h1, h2, -⟩
    have e1 := congrArg UInt8.toNat h1
    have e2 := congrArg UInt8.toNat h2
    simp at e1 e2
    omega
  · intro h
    refine ⟨UInt8.toNat_inj.1 ?_, UInt8.toNat_inj.1 ?_, rfl⟩ <;> simp <;> omega

/-- the parts of a frame, each looked at -/
def parts (place : Int) (b : List UInt8) : Prop :=
  11 ≤ b.length ∧ b.length - 11 = (b.getD 5 0).toNat * 256 + (b.getD 6 0).toNat ∧ 0 ≤ place ∧ place ≤ 2147483647 ∧ b.length - 11 ≤ 1000 ∧
    four (BitVec.ofInt 32 place) = (b.drop 1).take 4 ∧ four (Crc.more 0#32 (b.take (b.length - 11 + 7))) = b.drop (b.length - 11 + 7) ∧ 1 ≤ (b.getD 0 0).toNat ∧ (b.getD 0 0).toNat ≤ 4

theorem split_last (l : List UInt8) (h : 4 ≤ l.length) : ∃ m t, l = m ++ t ∧ t.length = 4 :=
  ⟨l.take (l.length - 4), l.drop (l.length - 4), (List.take_append_drop _ _).symm, by simp; omega⟩

theorem fits_parts (place : Int) (b : List UInt8) : fits place b = true ↔ parts place b := by
  by_cases hl : 11 ≤ b.length
  · obtain ⟨b0, b1, b2, b3, b4, b5, b6, r, rfl⟩ : ∃ b0 b1 b2 b3 b4 b5 b6 r, b = b0 :: b1 :: b2 :: b3 :: b4 :: b5 :: b6 :: r := by
      rcases b with _ | ⟨b0, _ | ⟨b1, _ | ⟨b2, _ | ⟨b3, _ | ⟨b4, _ | ⟨b5, _ | ⟨b6, r⟩⟩⟩⟩⟩⟩⟩
      all_goals first
        | exact ⟨_, _, _, _, _, _, _, _, rfl⟩
        | simp at hl
    obtain ⟨m, t, rfl, ht⟩ := split_last r (by simp at hl; omega)
    have hn : (b0 :: b1 :: b2 :: b3 :: b4 :: b5 :: b6 :: (m ++ t)).length - 11 = m.length := by simp; omega
    have hmid : mid (b0 :: b1 :: b2 :: b3 :: b4 :: b5 :: b6 :: (m ++ t)) = m := by
      unfold mid
      rw [hn]
      simp
    unfold fits parts
    rw [hmid, hn, decide_eq_true hl, Bool.true_and]
    have e1 : (b0 :: b1 :: b2 :: b3 :: b4 :: b5 :: b6 :: (m ++ t)).take (m.length + 7) = b0 :: b1 :: b2 :: b3 :: b4 :: b5 :: b6 :: m := by simp
    have e2 : (b0 :: b1 :: b2 :: b3 :: b4 :: b5 :: b6 :: (m ++ t)).drop (m.length + 7) = t := by simp
    rw [e1, e2]
    simp only [List.getD_cons_zero, List.getD_cons_succ, List.drop_succ_cons, List.drop_zero, List.take_succ_cons, List.take_zero]
    rw [Bool.and_eq_true, decide_eq_true_iff]
    unfold good
    simp only [Bool.and_eq_true, decide_eq_true_iff]
    have hb0 : UInt8.ofNat ((b0.toNat : Int).toNat) = b0 := by simp
    unfold pack body
    rw [hb0]
    constructor
    · rintro ⟨⟨⟨⟨⟨h1, h2⟩, h3⟩, h4⟩, h5⟩, h6⟩
      have hx : [b0] ++ four (BitVec.ofInt 32 place) ++ lens m ++ m ++ four (Crc.more 0#32 ([b0] ++ four (BitVec.ofInt 32 place) ++ lens m ++ m)) = (([b0] ++ [b1, b2, b3, b4]) ++ [b5, b6] ++ m) ++ t := by rw [h6]; simp
      obtain ⟨g1, g2⟩ := List.append_inj' hx (by rw [ht]; rfl)
      obtain ⟨g3, -⟩ := List.append_inj' g1 rfl
      obtain ⟨g4, g5⟩ := List.append_inj' g3 rfl
      obtain ⟨-, g6⟩ := List.append_inj' g4 rfl
      have g7 := (lens_iff m b5 b6 h5).1 g5
      rw [g6, g5] at g2
      exact ⟨hl, g7, h3, h4, h5, g6, g2, by omega, by omega⟩
    · rintro ⟨-, h2, h3, h4, h5, h6, h7, h8, h9⟩
      refine ⟨⟨⟨⟨⟨by omega, by omega⟩, h3⟩, h4⟩, h5⟩, ?_⟩
      rw [h6, (lens_iff m b5 b6 h5).2 h2]
      have : [b0] ++ [b1, b2, b3, b4] ++ [b5, b6] ++ m = b0 :: b1 :: b2 :: b3 :: b4 :: b5 :: b6 :: m := by simp
      rw [this, h7]
      simp
  · constructor
    · intro h; unfold fits at h; simp [hl] at h
    · intro h; exact absurd h.1 hl

theorem fits_false {place : Int} {b : List UInt8} (h : ¬ parts place b) : fits place b = false := by
  rcases hf : fits place b with _ | _
  · rfl
  · exact absurd ((fits_parts place b).1 hf) h

end Go.Proofs.Ytebeohdadihidaa.Frm
