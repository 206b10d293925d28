/- What follows of frames and numbers: a byte turned, bytes cut, numbers back. No program in sight. -/
import Derived.Test.YtebeohdadihidaaFrmPlain3
import Derived.Test.YtebeohdadihidaaFrmRead
namespace Go.Proofs.Ytebeohdadihidaa.Frm

theorem set_getD_self (l : List UInt8) (i : Nat) (h : i < l.length) : l.set i (l.getD i 0) = l := by
  apply List.ext_getElem?
  intro j
  rw [List.getElem?_set]
  by_cases e : i = j
  · subst e; simp [h, List.getD]
  · simp [e]

theorem xor_back {a x : UInt8} (h : a = a ^^^ x) : x = 0 := by
  have h2 : a ^^^ a = a ^^^ (a ^^^ x) := by rw [← h]
  rw [← UInt8.xor_assoc, UInt8.xor_self, UInt8.zero_xor] at h2
  exact h2.symm

theorem set_turn (l : List UInt8) (i : Nat) (x : UInt8) (h : i < l.length) (s : BitVec 32) (he : Crc.more s l = Crc.more s (l.set i (l.getD i 0 ^^^ x))) : x = 0 := by
  have e1 : l = l.take i ++ l.getD i 0 :: l.drop (i + 1) := by
    conv => lhs; rw [← set_getD_self l i h]
    rw [List.set_eq_take_append_cons_drop, if_pos h]
  have e2 : l.set i (l.getD i 0 ^^^ x) = l.take i ++ (l.getD i 0 ^^^ x) :: l.drop (i + 1) := by
    rw [List.set_eq_take_append_cons_drop, if_pos h]
  exact xor_back (Crc.more_turn s (l.take i) (l.getD i 0) (l.getD i 0 ^^^ x) (l.drop (i + 1)) (by rw [← e1, ← e2]; exact he))

theorem getD_take (l : List UInt8) (n i : Nat) (h : i < n) : (l.take n).getD i 0 = l.getD i 0 := by
  simp only [List.getD_eq_getElem?_getD, List.getElem?_take, if_pos h]
theorem getD_drop (l : List UInt8) (n i : Nat) : (l.drop n).getD i 0 = l.getD (n + i) 0 := by
  simp only [List.getD_eq_getElem?_getD, List.getElem?_drop]

/-- P5.4: of bytes that are a frame, one turned -/
theorem fits_turn {p : Int} {b : List UInt8} (h : fits p b = true) (i : Nat) (hi : i < b.length) (x : UInt8) (q : Int) : fits q (b.set i (b.getD i 0 ^^^ x)) = true → x = 0 := by
  intro hq
  have h1 := (fits_parts p b).1 h
  have h2 := (fits_parts q _).1 hq
  obtain ⟨l1, -, -, -, -, -, s1, -, -⟩ := h1
  obtain ⟨l2, -, -, -, -, -, s2, -, -⟩ := h2
  rw [List.length_set] at s2 l2
  have hn : b.length - 11 + 7 = b.length - 4 := by omega
  rw [hn] at s1 s2
  by_cases hb : i < b.length - 4
  · rw [List.drop_set_of_lt hb, ← s1, List.take_set] at s2
    have e := four_inj s2
    have hlt : i < (b.take (b.length - 4)).length := by rw [List.length_take]; omega
    refine set_turn (b.take (b.length - 4)) i x hlt 0#32 ?_
    rw [getD_take b _ i hb]
    exact e.symm
  · rw [List.take_set_of_le (by omega), s1] at s2
    have e := congrArg (fun l => List.getD l (i - (b.length - 4)) 0) s2
    simp only [getD_drop] at e
    rw [show b.length - 4 + (i - (b.length - 4)) = i from by omega] at e
    have e2 : (b.set i (b.getD i 0 ^^^ x)).getD i 0 = b.getD i 0 ^^^ x := by
      rw [List.getD_eq_getElem?_getD, List.getElem?_set_self hi]; rfl
    rw [e2] at e
    exact xor_back e

theorem fits_turned {p : Int} {b : List UInt8} (h : fits p b = true) (i : Nat) (hi : i < b.length) (x : UInt8) : fits p (b.set i (b.getD i 0 ^^^ x)) = decide (x = 0) := by
  by_cases e : x = 0
  · subst e
    rw [UInt8.xor_zero, set_getD_self b i hi, h]; rfl
  · rw [decide_eq_false e]
    rcases hf : fits p (b.set i (b.getD i 0 ^^^ x)) with _ | _
    · rfl
    · exact absurd (fits_turn h i hi x p hf) e

/-- bytes that are a frame know how many they are -/
theorem fits_len {p : Int} {b : List UInt8} (h : fits p b = true) : b.length = 11 + ((b.getD 5 0).toNat * 256 + (b.getD 6 0).toNat) := by
  obtain ⟨l1, l2, -⟩ := (fits_parts p b).1 h
  omega

theorem fits_cut {p : Int} {b : List UInt8} (h : fits p b = true) (n : Nat) (hn : n < b.length) (q : Int) : fits q (b.take n) = false := by
  rcases hf : fits q (b.take n) with _ | _
  · rfl
  · have e1 := fits_len h
    have e2 := fits_len hf
    have l := ((fits_parts q _).1 hf).1
    rw [List.length_take, Nat.min_eq_left (by omega)] at e2 l
    rw [getD_take b n 5 (by omega), getD_take b n 6 (by omega)] at e2
    omega

theorem fits_more {p : Int} {b : List UInt8} (h : fits p b = true) (m : List UInt8) : fits p (b ++ m) = decide (m = []) := by
  by_cases e : m = []
  · subst e; rw [List.append_nil, h]; rfl
  · rw [decide_eq_false e]
    rcases hf : fits p (b ++ m) with _ | _
    · rfl
    · have e1 := fits_len h
      have e2 := fits_len hf
      have g : ∀ i, i < b.length → (b ++ m).getD i 0 = b.getD i 0 := fun i hi => by simp [List.getD, List.getElem?_append_left hi]
      have l := ((fits_parts p b).1 h).1
      rw [g 5 (by omega), g 6 (by omega), List.length_append] at e2
      have : m.length ≠ 0 := fun h0 => e (List.length_eq_zero_iff.1 h0)
      omega

/-- a number that may be -/
def okNum (n : Int) : Bool := decide (0 ≤ n) && decide (n ≤ 2147483647)

theorem nums_get (l : List Int) : ∀ (k : Nat) (j : Nat), k < l.length → j < 4 → (nums l).getD (4 * k + j) 0 = (four (BitVec.ofInt 32 (l.getD k 0))).getD j 0 := by
  induction l with
  | nil => intro k j h; simp at h
  | cons a l ih =>
    intro k j h hj
    have e : nums (a :: l) = four (BitVec.ofInt 32 a) ++ nums l := by unfold nums; rw [List.flatMap_cons]
    rw [e]
    rcases k with _ | k
    · rw [Nat.mul_zero, Nat.zero_add]
      simp [List.getD, List.getElem?_append_left (show j < (four (BitVec.ofInt 32 a)).length from hj)]
    · have h4 : 4 * (k + 1) + j = 4 + (4 * k + j) := by omega
      have := ih k j (by simpa using h) hj
      rw [h4, List.getD_cons_succ, ← this]
      simp only [List.getD_eq_getElem?_getD]
      rw [List.getElem?_append_right (by rw [four_length]; omega), four_length, Nat.add_sub_cancel_left]

theorem word_four (n : Int) (h : okNum n = true) : word ((four (BitVec.ofInt 32 n)).getD 0 0) ((four (BitVec.ofInt 32 n)).getD 1 0) ((four (BitVec.ofInt 32 n)).getD 2 0) ((four (BitVec.ofInt 32 n)).getD 3 0) = n := by
  unfold okNum at h
  simp only [Bool.and_eq_true, decide_eq_true_iff] at h
  have e : (BitVec.ofInt 32 n).toNat = n.toNat := by rw [BitVec.toNat_ofInt]; omega
  unfold four word
  simp only [List.getD_cons_zero, List.getD_cons_succ, e]
  simp
  omega

theorem nth_nums (l : List Int) (k : Nat) (h : k < l.length) (ho : okNum (l.getD k 0) = true) : nth (nums l) k = l.getD k 0 := by
  unfold nth
  have h0 := nums_get l k 0 h (by omega)
  rw [Nat.add_zero] at h0
  rw [h0, nums_get l k 1 h (by omega), nums_get l k 2 h (by omega), nums_get l k 3 h (by omega)]
  exact word_four _ ho

theorem all_getD {l : List Int} (h : l.all okNum = true) (k : Nat) (hk : k < l.length) : okNum (l.getD k 0) = true := by
  rw [List.all_eq_true] at h
  have := h _ (List.getElem_mem hk)
  simpa [List.getD, hk] using this

theorem seen_nums (l : List Int) (h : l.all okNum = true) : seen (nums l) ((nums l).length / 4) = l := by
  rw [nums_length, show 4 * l.length / 4 = l.length from by omega]
  apply List.ext_getElem?
  intro k
  unfold seen
  rw [List.getElem?_map]
  by_cases hk : k < l.length
  · rw [List.getElem?_range hk, Option.map_some, nth_nums l k hk (all_getD h k hk)]
    simp [List.getD, hk]
  · rw [List.getElem?_eq_none (by simp; omega), List.getElem?_eq_none (by omega)]; rfl

theorem fine_nums (l : List Int) (h : l.all okNum = true) : fine (nums l) = true := by
  unfold fine
  rw [Bool.and_eq_true, nums_length, List.all_eq_true]
  refine ⟨decide_eq_true (by omega), fun k hk => ?_⟩
  rw [List.mem_range] at hk
  have hk' : k < l.length := by omega
  rw [nth_nums l k hk' (all_getD h k hk')]
  have := all_getD h k hk'
  unfold okNum at this
  rw [Bool.and_eq_true] at this
  exact this.2

theorem four_word (a b c d : UInt8) (h : word a b c d ≤ 2147483647) : four (BitVec.ofInt 32 (word a b c d)) = [a, b, c, d] := by
  have ha := a.toNat_lt
  have hb := b.toNat_lt
  have hc := c.toNat_lt
  have hd := d.toNat_lt
  unfold word at h ⊢
  have e : (BitVec.ofInt 32 (((((a.toNat * 256 + b.toNat) * 256 + c.toNat) * 256 + d.toNat : Nat) : Int))).toNat = ((a.toNat * 256 + b.toNat) * 256 + c.toNat) * 256 + d.toNat := by
    rw [BitVec.toNat_ofInt]; omega
  unfold four
  rw [e]
  simp only [List.cons.injEq, and_true]
  refine ⟨?_, ?_, ?_, ?_⟩ <;> (apply UInt8.toNat_inj.1; simp; try omega)

theorem nums_seen (b : List UInt8) : ∀ (n : Nat), 4 * n ≤ b.length → (∀ k, k < n → nth b k ≤ 2147483647) → nums (seen b n) = b.take (4 * n) := by
  intro n
  induction n with
  | zero => intro _ _; rfl
  | succ n ih =>
    intro hl hk
    rw [seen_succ]
    have e : nums (seen b n ++ [nth b n]) = nums (seen b n) ++ four (BitVec.ofInt 32 (nth b n)) := by
      unfold nums; rw [List.flatMap_append]; simp
    rw [e, ih (by omega) (fun k h => hk k (by omega))]
    unfold nth
    rw [four_word _ _ _ _ (hk n (by omega)), show 4 * (n + 1) = 4 * n + 1 + 1 + 1 + 1 from by omega,
      take_snoc b (4 * n + 1 + 1 + 1) (by omega), take_snoc b (4 * n + 1 + 1) (by omega), take_snoc b (4 * n + 1) (by omega), take_snoc b (4 * n) (by omega)]
    simp

theorem nums_back {b : List UInt8} (h : fine b = true) : nums (seen b (b.length / 4)) = b := by
  unfold fine at h
  rw [Bool.and_eq_true, List.all_eq_true, decide_eq_true_iff] at h
  rw [nums_seen b _ (by omega) (fun k hk => of_decide_eq_true (h.2 k (List.mem_range.2 hk))), List.take_of_length_le (by omega)]

end Go.Proofs.Ytebeohdadihidaa.Frm
