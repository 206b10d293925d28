/- The clock in plain words: a state, what each call does to it, and the round that finds a place to go. No program in sight. -/
import Derived.Test.YtffdhpoljfmjoaaBase
namespace Go.Proofs.Ytffdhpoljfmjoaa.Clk

structure St where
  pins : List Nat
  used : List Bool
  hand : Nat

/-- a state that may be: as many of both, at least one, the hand on one -/
structure Ok (s : St) : Prop where
  len : s.used.length = s.pins.length
  pos : 0 < s.pins.length
  most : s.pins.length ≤ 1000
  hand : s.hand < s.pins.length

def new (n : Nat) : St := ⟨List.replicate n 0, List.replicate n false, 0⟩
def use (s : St) (i : Nat) : St := { s with used := s.used.set i true }
def pin (s : St) (i : Nat) : St := { s with pins := s.pins.set i (s.pins.getD i 0 + 1) }
def unpin (s : St) (i : Nat) : St := { s with pins := s.pins.set i (s.pins.getD i 0 - 1) }
def next (s : St) : St := { s with hand := (s.hand + 1) % s.pins.length }
def fresh (s : St) (i : Nat) : St := { s with used := s.used.set i false }

/-- the round: so many steps at most -/
def vic : Nat → St → Option (Nat × St)
  | 0, _ => none
  | f + 1, s =>
    if 0 < s.pins.getD s.hand 0 then vic f (next s)
    else if s.used.getD s.hand false = true then vic f (fresh (next s) s.hand)
    else some (s.hand, next s)

/-- is there a place that is not pinned? -/
def free (s : St) : Bool := s.pins.any (· == 0)

theorem ok_new (n : Nat) (h : 0 < n) (h2 : n ≤ 1000) : Ok (new n) := ⟨by simp [new], by simpa [new] using h, by simpa [new] using h2, by simpa [new] using h⟩
theorem ok_use {s : St} (h : Ok s) (i : Nat) : Ok (use s i) := ⟨by simp [use, h.len], h.pos, h.most, h.hand⟩
theorem ok_fresh {s : St} (h : Ok s) (i : Nat) : Ok (fresh s i) := ⟨by simp [fresh, h.len], h.pos, h.most, h.hand⟩
theorem ok_pin {s : St} (h : Ok s) (i : Nat) : Ok (pin s i) := ⟨by simp [pin, h.len], by simpa [pin] using h.pos, by simpa [pin] using h.most, by simpa [pin] using h.hand⟩
theorem ok_unpin {s : St} (h : Ok s) (i : Nat) : Ok (unpin s i) := ⟨by simp [unpin, h.len], by simpa [unpin] using h.pos, by simpa [unpin] using h.most, by simpa [unpin] using h.hand⟩
theorem ok_next {s : St} (h : Ok s) : Ok (next s) := ⟨h.len, h.pos, h.most, Nat.mod_lt _ h.pos⟩

theorem vic_ok {f : Nat} : ∀ {s : St} {r : Nat × St}, Ok s → vic f s = some r → Ok r.2 ∧ r.2.pins = s.pins ∧ r.1 < s.pins.length := by
  induction f with
  | zero => intro s r _ h; cases h
  | succ f ih =>
    intro s r h hv
    unfold vic at hv
    by_cases h1 : 0 < s.pins.getD s.hand 0
    · rw [if_pos h1] at hv
      exact ih (s := next s) (ok_next h) hv
    · rw [if_neg h1] at hv
      by_cases h2 : s.used.getD s.hand false = true
      · rw [if_pos h2] at hv
        exact ih (s := fresh (next s) s.hand) (ok_fresh (ok_next h) _) hv
      · rw [if_neg h2] at hv
        cases hv
        exact ⟨ok_next h, rfl, h.hand⟩

theorem vic_pin {f : Nat} : ∀ {s : St} {r : Nat × St}, vic f s = some r → s.pins.getD r.1 0 = 0 := by
  induction f with
  | zero => intro s r h; cases h
  | succ f ih =>
    intro s r hv
    unfold vic at hv
    by_cases h1 : 0 < s.pins.getD s.hand 0
    · rw [if_pos h1] at hv
      exact ih (s := next s) hv
    · rw [if_neg h1] at hv
      by_cases h2 : s.used.getD s.hand false = true
      · rw [if_pos h2] at hv
        exact ih (s := fresh (next s) s.hand) hv
      · rw [if_neg h2] at hv
        cases hv
        show s.pins.getD s.hand 0 = 0
        omega

theorem vic_more {f : Nat} : ∀ {s : St} {r : Nat × St}, vic f s = some r → vic (f + 1) s = some r := by
  induction f with
  | zero => intro s r h; cases h
  | succ f ih =>
    intro s r hv
    rw [vic] at hv ⊢
    by_cases h1 : 0 < s.pins.getD s.hand 0
    · rw [if_pos h1] at hv ⊢; exact ih hv
    · rw [if_neg h1] at hv ⊢
      by_cases h2 : s.used.getD s.hand false = true
      · rw [if_pos h2] at hv ⊢; exact ih hv
      · rw [if_neg h2] at hv ⊢; exact hv

theorem vic_mono {f g : Nat} (h : f ≤ g) {s : St} {r : Nat × St} (hv : vic f s = some r) : vic g s = some r := by
  induction g with
  | zero => obtain rfl : f = 0 := by omega
            exact hv
  | succ g ih =>
    rcases Nat.lt_or_ge f (g + 1) with h' | h'
    · exact vic_more (ih (by omega))
    · obtain rfl : f = g + 1 := by omega
      exact hv

/-- how many steps from the hand to a place -/
def dist (n h j : Nat) : Nat := if h ≤ j then j - h else n - h + j

theorem dist_next {n h j : Nat} (hh : h < n) (hj : j < n) (hne : h ≠ j) : dist n ((h + 1) % n) j + 1 = dist n h j := by
  unfold dist
  by_cases e : h + 1 = n
  · rw [e, Nat.mod_self]
    rw [if_pos (Nat.zero_le _), if_neg (by omega)]
    omega
  · rw [Nat.mod_eq_of_lt (by omega)]
    by_cases h1 : h ≤ j
    · rw [if_pos h1, if_pos (by omega)]; omega
    · rw [if_neg h1, if_neg (by omega)]; omega

/-- the round ends: first, where a place that is not pinned and not used lies ahead -/
theorem vic_ends1 (d : Nat) : ∀ (s : St) (j : Nat), Ok s → j < s.pins.length → s.pins.getD j 0 = 0 → s.used.getD j false = false → dist s.pins.length s.hand j = d → ∃ r, vic (d + 1) s = some r := by
  induction d with
  | zero =>
    intro s j h hj hp hu hd
    have e : s.hand = j := by
      have := h.hand
      unfold dist at hd; split at hd <;> omega
    subst e
    rw [vic, if_neg (by omega), if_neg (by rw [hu]; simp)]
    exact ⟨_, rfl⟩
  | succ d ih =>
    intro s j h hj hp hu hd
    have hne : s.hand ≠ j := by intro e; unfold dist at hd; rw [e, if_pos (Nat.le_refl _)] at hd; omega
    have hd2 := dist_next h.hand hj hne
    rw [vic]
    by_cases h1 : 0 < s.pins.getD s.hand 0
    · rw [if_pos h1]
      exact ih (next s) j (ok_next h) hj hp hu (by show dist s.pins.length ((s.hand + 1) % s.pins.length) j = d; omega)
    · rw [if_neg h1]
      by_cases h2 : s.used.getD s.hand false = true
      · rw [if_pos h2]
        refine ih (fresh (next s) s.hand) j (ok_fresh (ok_next h) _) hj hp ?_ (by show dist s.pins.length ((s.hand + 1) % s.pins.length) j = d; omega)
        show (s.used.set s.hand false).getD j false = false
        rw [List.getD_eq_getElem?_getD, List.getElem?_set_ne hne, ← List.getD_eq_getElem?_getD]; exact hu
      · rw [if_neg h2]; exact ⟨_, rfl⟩

/-- the round ends where a place that is not pinned lies ahead, used or not -/
theorem vic_ends2 (d : Nat) : ∀ (s : St) (j : Nat), Ok s → j < s.pins.length → s.pins.getD j 0 = 0 → dist s.pins.length s.hand j = d → ∃ r, vic (d + s.pins.length + 1) s = some r := by
  induction d with
  | zero =>
    intro s j h hj hp hd
    have e : s.hand = j := by
      have := h.hand
      unfold dist at hd; split at hd <;> omega
    subst e
    by_cases h2 : s.used.getD s.hand false = true
    · rw [Nat.zero_add, vic, if_neg (by omega), if_pos h2]
      have hd1 : dist s.pins.length ((s.hand + 1) % s.pins.length) s.hand + 1 = s.pins.length ∨ s.pins.length = 1 := by
        by_cases e1 : s.pins.length = 1
        · exact .inr e1
        · left
          unfold dist
          by_cases e : s.hand + 1 = s.pins.length
          · rw [e, Nat.mod_self, if_pos (Nat.zero_le _)]; omega
          · have := h.hand
            rw [Nat.mod_eq_of_lt (by omega), if_neg (by omega)]; omega
      have hu : (fresh (next s) s.hand).used.getD s.hand false = false := by
        show (s.used.set s.hand false).getD s.hand false = false
        rw [List.getD_eq_getElem?_getD, List.getElem?_set_self (by rw [h.len]; exact h.hand)]; rfl
      rcases hd1 with hd1 | hd1
      · obtain ⟨r, hr⟩ := vic_ends1 _ (fresh (next s) s.hand) s.hand (ok_fresh (ok_next h) _) hj hp hu rfl
        refine ⟨r, vic_mono ?_ hr⟩
        show dist s.pins.length ((s.hand + 1) % s.pins.length) s.hand + 1 ≤ _
        omega
      · obtain ⟨r, hr⟩ := vic_ends1 _ (fresh (next s) s.hand) s.hand (ok_fresh (ok_next h) _) hj hp hu rfl
        refine ⟨r, vic_mono ?_ hr⟩
        show dist s.pins.length ((s.hand + 1) % s.pins.length) s.hand + 1 ≤ _
        have e0 : s.hand = 0 := by have := h.hand; omega
        rw [hd1, e0]
        decide
    · rw [Nat.zero_add, vic, if_neg (by omega), if_neg h2]
      exact ⟨_, rfl⟩
  | succ d ih =>
    intro s j h hj hp hd
    have hne : s.hand ≠ j := by intro e; unfold dist at hd; rw [e, if_pos (Nat.le_refl _)] at hd; omega
    have hd2 := dist_next h.hand hj hne
    rw [show d + 1 + s.pins.length + 1 = (d + s.pins.length + 1) + 1 by omega, vic]
    by_cases h1 : 0 < s.pins.getD s.hand 0
    · rw [if_pos h1]
      exact ih (next s) j (ok_next h) hj hp (by show dist s.pins.length ((s.hand + 1) % s.pins.length) j = d; omega)
    · rw [if_neg h1]
      by_cases h2 : s.used.getD s.hand false = true
      · rw [if_pos h2]
        exact ih (fresh (next s) s.hand) j (ok_fresh (ok_next h) _) hj hp (by show dist s.pins.length ((s.hand + 1) % s.pins.length) j = d; omega)
      · rw [if_neg h2]; exact ⟨_, rfl⟩

/-- so many steps are enough -/
def fuel : Nat := 2001

theorem vic_ends (s : St) (h : Ok s) (hf : free s = true) : ∃ r, vic fuel s = some r := by
  unfold free at hf
  rw [List.any_eq_true] at hf
  obtain ⟨x, hx, hx0⟩ := hf
  obtain ⟨j, hj, he⟩ := List.getElem_of_mem hx
  have hp : s.pins.getD j 0 = 0 := by
    rw [List.getD_eq_getElem?_getD, List.getElem?_eq_getElem hj, he]; simpa using hx0
  obtain ⟨r, hr⟩ := vic_ends2 _ s j h hj hp rfl
  refine ⟨r, vic_mono ?_ hr⟩
  have := h.most
  have hd : dist s.pins.length s.hand j ≤ s.pins.length := by have := h.hand; unfold dist; split <;> omega
  unfold fuel; omega

/-- the place that goes, and the state behind it -/
def victim (s : St) : Nat × St := (vic fuel s).getD (0, s)

theorem victim_of (s : St) (r : Nat × St) (h : vic fuel s = some r) : victim s = r := by unfold victim; rw [h]; rfl

end Go.Proofs.Ytffdhpoljfmjoaa.Clk
