/- One contract a call, whatever its number: the program's clock and the reference's. -/
import Derived.Test.YtffdhpoljfmjoaaRclkVictim
namespace Go.Proofs.Ytffdhpoljfmjoaa
open Go.RowKit

namespace Clk
def inR (s : St) (i : Int) : Bool := decide (0 ≤ i) && decide (i < (s.pins.length : Int))
def useE (s : St) (i : Int) : Int := if inR s i then 0 else 1
def useS (s : St) (i : Int) : St := if inR s i then use s i.toNat else s
def pinE (s : St) (i : Int) : Int := if inR s i then 0 else 1
def pinS (s : St) (i : Int) : St := if inR s i then pin s i.toNat else s
def canUn (s : St) (i : Int) : Bool := inR s i && decide (0 < s.pins.getD i.toNat 0)
def unpinE (s : St) (i : Int) : Int := if canUn s i then 0 else 1
def unpinS (s : St) (i : Int) : St := if canUn s i then unpin s i.toNat else s
def vicN (s : St) : Int := if free s then ((victim s).1 : Int) else 0
def vicE (s : St) : Int := if free s then 0 else 60
def vicS (s : St) : St := if free s then (victim s).2 else s

theorem inR_yes {s : St} {i : Int} (h : inR s i = true) : ∃ k : Nat, i = (k : Int) ∧ k < s.pins.length := by
  unfold inR at h
  simp only [Bool.and_eq_true, decide_eq_true_eq] at h
  obtain ⟨k, rfl⟩ := Int.eq_ofNat_of_zero_le h.1
  exact ⟨k, rfl, by omega⟩
theorem inR_no {s : St} {i : Int} (h : inR s i = false) : i < 0 ∨ (s.pins.length : Int) ≤ i := by
  unfold inR at h
  simp only [Bool.and_eq_false_iff, decide_eq_false_iff_not] at h
  omega

/-- no place is pinned oftener than so -/
def Few (s : St) (m : Nat) : Prop := ∀ j, s.pins.getD j 0 ≤ m

theorem few_new (n m : Nat) : Few (new n) m := by
  intro j
  simp only [new, List.getD_eq_getElem?_getD, List.getElem?_replicate]
  split <;> simp
theorem few_mono {s : St} {m k : Nat} (h : Few s m) (hk : m ≤ k) : Few s k := fun j => Nat.le_trans (h j) hk
theorem few_set {s : St} {m i x : Nat} (h : Few s m) (hx : x ≤ m) : Few { s with pins := s.pins.set i x } m := by
  intro j
  show (s.pins.set i x).getD j 0 ≤ m
  rw [List.getD_eq_getElem?_getD, List.getElem?_set]
  by_cases e : i = j
  · subst e
    rw [if_pos rfl]
    split <;> simp [hx]
  · rw [if_neg e, ← List.getD_eq_getElem?_getD]
    exact h j

/-- a call of a script -/
def step (s : St) (k n : Int) : St := if k = 1 then useS s n else if k = 2 then pinS s n else if k = 3 then unpinS s n else if k = 4 then vicS s else s

theorem vicS_pins {s : St} (h : Ok s) : (vicS s).pins = s.pins := by
  unfold vicS
  cases hf : free s with
  | false => rfl
  | true =>
    rw [if_pos rfl]
    obtain ⟨r, hr⟩ := vic_ends s h hf
    rw [victim_of s r hr]
    exact (vic_ok h hr).2.1

theorem few_step {s : St} {m : Nat} (ho : Ok s) (h : Few s m) (k n : Int) : Few (step s k n) (m + 1) := by
  unfold step
  split
  · unfold useS; split
    · exact few_mono (show Few (use s n.toNat) m from h) (by omega)
    · exact few_mono h (by omega)
  split
  · unfold pinS; split
    · exact few_set (few_mono h (by omega)) (by have := h n.toNat; omega)
    · exact few_mono h (by omega)
  split
  · unfold unpinS; split
    · exact few_set (few_mono h (by omega)) (by have := h n.toNat; omega)
    · exact few_mono h (by omega)
  split
  · intro j
    rw [vicS_pins ho]
    have := h j
    omega
  · exact few_mono h (by omega)
theorem few_cap {s : St} {m i : Nat} (h : Few s m) : s.pins.getD i 0 ≤ m := h i

theorem step_len {s : St} (ho : Ok s) (k n : Int) : (step s k n).pins.length = s.pins.length := by
  unfold step
  split
  · unfold useS; split <;> rfl
  split
  · unfold pinS; split
    · simp [pin]
    · rfl
  split
  · unfold unpinS; split
    · simp [unpin]
    · rfl
  split
  · rw [vicS_pins ho]
  · rfl
end Clk

section
variable {c L : Nat} {s : Clk.St} {w : World}

theorem clkUse_any (h : ClkAt w c L s) (i : Int) : Calls Try.prog 20 #[.pointer (some ⟨c, 0, none⟩), .int .i64 i] w fun e w' => e = .returned (.int .i64 (Clk.useE s i)) ∧ ClkAt w' c L (Clk.useS s i) ∧ Chg [c, L] w w' := by
  unfold Clk.useE Clk.useS
  cases hi : Clk.inR s i with
  | true =>
    obtain ⟨k, rfl, hk⟩ := Clk.inR_yes hi
    rw [if_pos rfl, if_pos rfl, Int.toNat_natCast]
    exact clkUse_ok c L k s w h hk
  | false =>
    rw [if_neg (by simp), if_neg (by simp)]
    exact (clkUse_bad c L i s w h (Clk.inR_no hi)).mono fun _ _ ⟨h1, h2⟩ => by subst h2; exact ⟨h1, h, Chg.refl _ _⟩

theorem clkPin_any (h : ClkAt w c L s) (hf : Clk.Few s 1000000) (i : Int) : Calls Try.prog 21 #[.pointer (some ⟨c, 0, none⟩), .int .i64 i] w fun e w' => e = .returned (.int .i64 (Clk.pinE s i)) ∧ ClkAt w' c L (Clk.pinS s i) ∧ Chg [c, L] w w' := by
  unfold Clk.pinE Clk.pinS
  cases hi : Clk.inR s i with
  | true =>
    obtain ⟨k, rfl, hk⟩ := Clk.inR_yes hi
    rw [if_pos rfl, if_pos rfl, Int.toNat_natCast]
    exact clkPin_ok c L k s w h hk (hf k)
  | false =>
    rw [if_neg (by simp), if_neg (by simp)]
    exact (clkPin_bad c L i s w h (Clk.inR_no hi)).mono fun _ _ ⟨h1, h2⟩ => by subst h2; exact ⟨h1, h, Chg.refl _ _⟩

theorem canUn_yes {s : Clk.St} {i : Int} (h : Clk.canUn s i = true) : ∃ k : Nat, i = (k : Int) ∧ k < s.pins.length ∧ 0 < s.pins.getD k 0 := by
  unfold Clk.canUn at h
  simp only [Bool.and_eq_true, decide_eq_true_eq] at h
  obtain ⟨k, rfl, hk⟩ := Clk.inR_yes h.1
  exact ⟨k, rfl, hk, by simpa using h.2⟩
theorem canUn_no {s : Clk.St} {i : Int} (h : Clk.canUn s i = false) : i < 0 ∨ (s.pins.length : Int) ≤ i ∨ s.pins.getD i.toNat 0 = 0 := by
  unfold Clk.canUn at h
  simp only [Bool.and_eq_false_iff, decide_eq_false_iff_not] at h
  rcases h with h | h
  · rcases Clk.inR_no h with h | h
    · exact .inl h
    · exact .inr (.inl h)
  · exact .inr (.inr (by omega))

theorem clkUnpin_any (h : ClkAt w c L s) (hf : Clk.Few s 1000000) (i : Int) : Calls Try.prog 22 #[.pointer (some ⟨c, 0, none⟩), .int .i64 i] w fun e w' => e = .returned (.int .i64 (Clk.unpinE s i)) ∧ ClkAt w' c L (Clk.unpinS s i) ∧ Chg [c, L] w w' := by
  unfold Clk.unpinE Clk.unpinS
  cases hi : Clk.canUn s i with
  | true =>
    obtain ⟨k, rfl, hk, hp⟩ := canUn_yes hi
    rw [if_pos rfl, if_pos rfl, Int.toNat_natCast]
    exact clkUnpin_ok c L k s w h hk hp (hf k)
  | false =>
    rw [if_neg (by simp), if_neg (by simp)]
    exact (clkUnpin_bad c L i s w h (canUn_no hi)).mono fun _ _ ⟨h1, h2⟩ => by subst h2; exact ⟨h1, h, Chg.refl _ _⟩

theorem clkVictim_any (h : ClkAt w c L s) : Calls Try.prog 19 #[.pointer (some ⟨c, 0, none⟩)] w fun e w' => e = .returned (.tuple #[.int .i64 (Clk.vicN s), .int .i64 (Clk.vicE s)]) ∧ ClkAt w' c L (Clk.vicS s) ∧ Chg [c, L] w w' := by
  unfold Clk.vicN Clk.vicE Clk.vicS
  cases hf : Clk.free s with
  | true => rw [if_pos rfl, if_pos rfl, if_pos rfl]; exact clkVictim_ok c L s w h hf
  | false =>
    rw [if_neg (by simp), if_neg (by simp), if_neg (by simp)]
    exact (clkVictim_pinned c L s w h hf).mono fun _ _ ⟨h1, h2⟩ => ⟨h1, h.below h2, Chg.of_below h2⟩
end

section
variable {r P U : Nat} {s : Clk.St} {w : World}

theorem rclkUse_any (h : RclkAt w r P U s) (i : Int) : Calls Try.prog 23 #[.pointer (some ⟨r, 0, none⟩), .int .i64 i] w fun e w' => e = .returned (.int .i64 (Clk.useE s i)) ∧ RclkAt w' r P U (Clk.useS s i) ∧ Chg [r, P, U] w w' := by
  unfold Clk.useE Clk.useS
  cases hi : Clk.inR s i with
  | true =>
    obtain ⟨k, rfl, hk⟩ := Clk.inR_yes hi
    rw [if_pos rfl, if_pos rfl, Int.toNat_natCast]
    exact rclkUse_ok r P U k s w h hk
  | false =>
    rw [if_neg (by simp), if_neg (by simp)]
    exact (rclkUse_bad r P U i s w h (Clk.inR_no hi)).mono fun _ _ ⟨h1, h2⟩ => by subst h2; exact ⟨h1, h, Chg.refl _ _⟩

theorem rclkPin_any (h : RclkAt w r P U s) (hf : Clk.Few s 1000000) (i : Int) : Calls Try.prog 24 #[.pointer (some ⟨r, 0, none⟩), .int .i64 i] w fun e w' => e = .returned (.int .i64 (Clk.pinE s i)) ∧ RclkAt w' r P U (Clk.pinS s i) ∧ Chg [r, P, U] w w' := by
  unfold Clk.pinE Clk.pinS
  cases hi : Clk.inR s i with
  | true =>
    obtain ⟨k, rfl, hk⟩ := Clk.inR_yes hi
    rw [if_pos rfl, if_pos rfl, Int.toNat_natCast]
    exact rclkPin_ok r P U k s w h hk (hf k)
  | false =>
    rw [if_neg (by simp), if_neg (by simp)]
    exact (rclkPin_bad r P U i s w h (Clk.inR_no hi)).mono fun _ _ ⟨h1, h2⟩ => by subst h2; exact ⟨h1, h, Chg.refl _ _⟩

theorem rclkUnpin_any (h : RclkAt w r P U s) (hf : Clk.Few s 1000000) (i : Int) : Calls Try.prog 25 #[.pointer (some ⟨r, 0, none⟩), .int .i64 i] w fun e w' => e = .returned (.int .i64 (Clk.unpinE s i)) ∧ RclkAt w' r P U (Clk.unpinS s i) ∧ Chg [r, P, U] w w' := by
  unfold Clk.unpinE Clk.unpinS
  cases hi : Clk.canUn s i with
  | true =>
    obtain ⟨k, rfl, hk, hp⟩ := canUn_yes hi
    rw [if_pos rfl, if_pos rfl, Int.toNat_natCast]
    exact rclkUnpin_ok r P U k s w h hk hp (hf k)
  | false =>
    rw [if_neg (by simp), if_neg (by simp)]
    exact (rclkUnpin_bad r P U i s w h (canUn_no hi)).mono fun _ _ ⟨h1, h2⟩ => by subst h2; exact ⟨h1, h, Chg.refl _ _⟩

theorem rclkVictim_any (h : RclkAt w r P U s) : Calls Try.prog 26 #[.pointer (some ⟨r, 0, none⟩)] w fun e w' => e = .returned (.tuple #[.int .i64 (Clk.vicN s), .int .i64 (Clk.vicE s)]) ∧ RclkAt w' r P U (Clk.vicS s) ∧ Chg [r, P, U] w w' := by
  unfold Clk.vicN Clk.vicE Clk.vicS
  cases hf : Clk.free s with
  | true => rw [if_pos rfl, if_pos rfl, if_pos rfl]; exact rclkVictim_ok r P U s w h hf
  | false =>
    rw [if_neg (by simp), if_neg (by simp), if_neg (by simp)]
    exact (rclkVictim_pinned r P U s w h hf).mono fun _ _ ⟨h1, h2⟩ => by subst h2; exact ⟨h1, h, Chg.refl _ _⟩
end

end Go.Proofs.Ytffdhpoljfmjoaa
