/- More plain facts on the clock: rounds, pins, fairness. No program in sight. -/
import Derived.Test.YtffdhpoljfmjoaaClkStep
namespace Go.Proofs.Ytffdhpoljfmjoaa.Clk

/-- nothing pinned, nothing used, the hand at h -/
def rst (n h : Nat) : St := ⟨List.replicate n 0, List.replicate n false, h⟩
/-- nothing pinned, the first j used -/
def usd (n j : Nat) : St := ⟨List.replicate n 0, List.replicate j true ++ List.replicate (n - j) false, 0⟩
/-- nothing pinned, all used but the first j, the hand at j -/
def sw (n j : Nat) : St := ⟨List.replicate n 0, List.replicate j false ++ List.replicate (n - j) true, j % n⟩

theorem set_rep {α : Type} (a b : α) (n j : Nat) (h : j < n) : (List.replicate j a ++ List.replicate (n - j) b).set j a = List.replicate (j + 1) a ++ List.replicate (n - (j + 1)) b := by
  rw [List.set_append_right _ _ (by simp), List.length_replicate, Nat.sub_self]
  obtain ⟨m, hm⟩ : ∃ m, n - j = m + 1 := ⟨n - j - 1, by omega⟩
  rw [hm, List.replicate_succ, List.set_cons_zero, show n - (j + 1) = m by omega]
  rw [show List.replicate (j + 1) a = List.replicate j a ++ [a] from List.replicate_succ']
  simp

theorem getD_rep {α : Type} (a d : α) (n j : Nat) (h : j < n) : (List.replicate n a).getD j d = a := by
  rw [List.getD_eq_getElem?_getD, List.getElem?_replicate, if_pos h]; rfl

theorem new_usd (n : Nat) : new n = usd n 0 := by simp [new, usd]
theorem use_usd (n j : Nat) (h : j < n) : useS (usd n j) (j : Int) = usd n (j + 1) := by
  have hin : inR (usd n j) (j : Int) = true := by unfold inR usd; simp; exact h
  unfold useS
  rw [if_pos hin, Int.toNat_natCast]
  unfold use usd
  simp only
  rw [set_rep _ _ _ _ h]
theorem usd_sw (n : Nat) : usd n n = sw n 0 := by simp [usd, sw]
theorem sw_rst (n : Nat) : sw n n = rst n 0 := by simp [rst, sw]

theorem vic_sw (f n j : Nat) (h : j < n) : vic (f + 1) (sw n j) = vic f (sw n (j + 1)) := by
  rw [vic]
  have hh : (sw n j).hand = j := Nat.mod_eq_of_lt h
  rw [hh]
  have hp : (sw n j).pins.getD j 0 = 0 := getD_rep _ _ _ _ h
  have hu : (sw n j).used.getD j false = true := by
    show (List.replicate j false ++ List.replicate (n - j) true).getD j false = true
    rw [List.getD_eq_getElem?_getD, List.getElem?_append_right (by simp), List.length_replicate, Nat.sub_self, List.getElem?_replicate, if_pos (by omega)]
    rfl
  rw [if_neg (by omega), if_pos hu]
  congr 1
  unfold fresh next sw
  simp only [List.length_replicate]
  rw [set_rep _ _ _ _ h, Nat.mod_eq_of_lt h]

theorem vic_sweep (f n : Nat) (j : Nat) (h : j ≤ n) : vic (f + (n - j)) (sw n j) = vic f (rst n 0) := by
  obtain ⟨d, hd⟩ : ∃ d, n - j = d := ⟨_, rfl⟩
  rw [hd]
  induction d generalizing j with
  | zero =>
    obtain rfl : j = n := by omega
    rw [Nat.add_zero, sw_rst]
  | succ d ih =>
    rw [show f + (d + 1) = (f + d) + 1 by omega, vic_sw _ _ _ (by omega)]
    exact ih (j + 1) (by omega) (by omega)

theorem vic_rst (f n h : Nat) (hn : h < n) : vic (f + 1) (rst n h) = some (h, rst n ((h + 1) % n)) := by
  rw [vic]
  have hp : (rst n h).pins.getD (rst n h).hand 0 = 0 := getD_rep _ _ _ _ hn
  have hu : (rst n h).used.getD (rst n h).hand false = false := getD_rep _ _ _ _ hn
  rw [if_neg (by omega), if_neg (by rw [hu]; simp)]
  unfold next rst
  simp

theorem free_rep (s : St) (n : Nat) (hn : 0 < n) (h : s.pins = List.replicate n 0) : free s = true := by
  unfold free
  rw [h, List.any_eq_true]
  exact ⟨0, by simp; omega, rfl⟩

theorem vic_first (n : Nat) (h0 : 0 < n) (h1 : n ≤ 1000) : vicN (usd n n) = 0 ∧ vicE (usd n n) = 0 ∧ vicS (usd n n) = rst n (1 % n) := by
  have hf := free_rep (usd n n) n h0 rfl
  have hv : vic fuel (usd n n) = some (0, rst n (1 % n)) := by
    rw [usd_sw]
    have e : fuel = (2000 - n + 1) + (n - 0) := by unfold fuel; omega
    rw [e, vic_sweep _ n 0 (by omega), vic_rst _ _ _ h0]
  unfold vicN vicE vicS
  rw [if_pos hf, if_pos hf, if_pos hf, victim_of _ _ hv]
  exact ⟨rfl, rfl, rfl⟩

theorem vic_next (n h : Nat) (hn : h < n) : vicN (rst n h) = (h : Int) ∧ vicE (rst n h) = 0 ∧ vicS (rst n h) = rst n ((h + 1) % n) := by
  have hf := free_rep (rst n h) n (by omega) rfl
  have hv : vic fuel (rst n h) = some (h, rst n ((h + 1) % n)) := vic_rst 2000 n h hn
  unfold vicN vicE vicS
  rw [if_pos hf, if_pos hf, if_pos hf, victim_of _ _ hv]
  exact ⟨rfl, rfl, rfl⟩

/-- the state ahead of the k-th of the rounds -/
def rnd (n k : Nat) : St := if k = 0 then usd n n else rst n (k % n)
theorem rnd_next (n k : Nat) (h0 : 0 < n) (h1 : n ≤ 1000) : vicN (rnd n k) = ((k % n : Nat) : Int) ∧ vicE (rnd n k) = 0 ∧ vicS (rnd n k) = rnd n (k + 1) := by
  unfold rnd
  by_cases hk : k = 0
  · subst hk
    rw [if_pos rfl, if_neg (by omega)]
    obtain ⟨a, b, c⟩ := vic_first n h0 h1
    rw [a, b, c]
    exact ⟨by simp, rfl, by simp⟩
  · rw [if_neg hk, if_neg (by omega)]
    obtain ⟨a, b, c⟩ := vic_next n (k % n) (Nat.mod_lt _ h0)
    rw [a, b, c]
    exact ⟨rfl, rfl, by rw [Nat.mod_add_mod]⟩

/-! ### pins -/
theorem vicS_ok {s : St} (h : Ok s) : Ok (vicS s) := by
  unfold vicS
  cases hf : free s with
  | false => exact h
  | true =>
    rw [if_pos rfl]
    obtain ⟨r, hr⟩ := vic_ends s h hf
    rw [victim_of s r hr]
    exact (vic_ok h hr).1

theorem vic_used (n : Nat) {f : Nat} : ∀ {s : St} {r : Nat × St}, s.used = List.replicate n false → vic f s = some r → r.2.used = List.replicate n false := by
  induction f with
  | zero => intro s r _ h; cases h
  | succ f ih =>
    intro s r hu hv
    rw [vic] at hv
    by_cases h1 : 0 < s.pins.getD s.hand 0
    · rw [if_pos h1] at hv
      exact ih (s := next s) hu hv
    · rw [if_neg h1] at hv
      by_cases h2 : s.used.getD s.hand false = true
      · rw [hu, List.getD_eq_getElem?_getD, List.getElem?_replicate] at h2
        split at h2 <;> simp at h2
      · rw [if_neg h2] at hv
        cases hv
        exact hu

/-- nothing used, place p pinned so often, the hand somewhere -/
def pnd (n p t h : Nat) : St := ⟨(List.replicate n 0).set p t, List.replicate n false, h⟩

theorem pin_pnd (n p t h : Nat) (hp : p < n) : pinS (pnd n p t h) (p : Int) = pnd n p (t + 1) h := by
  have hin : inR (pnd n p t h) (p : Int) = true := by unfold inR pnd; simp; exact hp
  unfold pinS
  rw [if_pos hin, Int.toNat_natCast]
  unfold pin pnd
  simp only [List.set_set]
  rw [List.getD_eq_getElem?_getD, List.getElem?_set_self (by simpa using hp)]
  rfl
theorem new_pnd (n p : Nat) : new n = pnd n p 0 0 := by
  unfold new pnd
  congr 1
  apply List.ext_getElem?
  intro j
  rw [List.getElem?_set]
  simp only [List.getElem?_replicate, List.length_replicate]
  by_cases e : p = j
  · subst e; split <;> simp
  · rw [if_neg e]
theorem pnd_rst (n p h : Nat) : pnd n p 0 h = rst n h := by
  have := new_pnd n p
  unfold new pnd at this
  unfold pnd rst
  injection this with a
  rw [← a]
theorem unpin_pnd (n p t h : Nat) (hp : p < n) : unpinE (pnd n p (t + 1) h) (p : Int) = 0 ∧ unpinS (pnd n p (t + 1) h) (p : Int) = pnd n p t h := by
  have hg : (pnd n p (t + 1) h).pins.getD p 0 = t + 1 := by
    unfold pnd
    rw [List.getD_eq_getElem?_getD, List.getElem?_set_self (by simpa using hp)]
    rfl
  have hc : canUn (pnd n p (t + 1) h) (p : Int) = true := by
    unfold canUn
    rw [show inR (pnd n p (t + 1) h) (p : Int) = true by unfold inR pnd; simp; exact hp, Int.toNat_natCast, hg]
    simp
  unfold unpinE unpinS
  rw [if_pos hc, if_pos hc, Int.toNat_natCast]
  refine ⟨rfl, ?_⟩
  unfold unpin
  rw [hg]
  unfold pnd
  simp [List.set_set]
theorem unpin_none (n p h : Nat) (hp : p < n) : unpinE (pnd n p 0 h) (p : Int) = 1 ∧ unpinS (pnd n p 0 h) (p : Int) = pnd n p 0 h := by
  have hg : (pnd n p 0 h).pins.getD p 0 = 0 := by
    unfold pnd
    rw [List.getD_eq_getElem?_getD, List.getElem?_set_self (by simpa using hp)]
    rfl
  have hc : canUn (pnd n p 0 h) (p : Int) = false := by
    unfold canUn
    rw [Int.toNat_natCast, hg]
    simp
  unfold unpinE unpinS
  rw [if_neg (by rw [hc]; simp), if_neg (by rw [hc]; simp)]
  exact ⟨rfl, rfl⟩

theorem ok_pnd (n p t h : Nat) (h0 : 0 < n) (h1 : n ≤ 1000) (hh : h < n) : Ok (pnd n p t h) := ⟨by simp [pnd], by simpa [pnd] using h0, by simpa [pnd] using h1, by simpa [pnd] using hh⟩

/-- a victim of a clock one of whose places is pinned is another one -/
theorem pnd_next (n p t h : Nat) (hp : p < n) (hn : 2 ≤ n) (h1 : n ≤ 1000) (hh : h < n) (ht : 0 < t) :
    vicE (pnd n p t h) = 0 ∧ vicN (pnd n p t h) ≠ (p : Int) ∧ ∃ h', h' < n ∧ vicS (pnd n p t h) = pnd n p t h' := by
  have ho := ok_pnd n p t h (by omega) h1 hh
  have hf : free (pnd n p t h) = true := by
    unfold free
    rw [List.any_eq_true]
    refine ⟨0, ?_, rfl⟩
    have hq : ∃ q, q < n ∧ q ≠ p := by
      by_cases e : p = 0
      · exact ⟨1, by omega, by omega⟩
      · exact ⟨0, by omega, by omega⟩
    obtain ⟨q, hq1, hq2⟩ := hq
    rw [List.mem_iff_getElem?]
    refine ⟨q, ?_⟩
    unfold pnd
    simp only
    rw [List.getElem?_set_ne (Ne.symm hq2), List.getElem?_replicate, if_pos hq1]
  obtain ⟨r, hr⟩ := vic_ends _ ho hf
  have hk := vic_ok ho hr
  have hz := vic_pin hr
  have hu := vic_used n (s := pnd n p t h) rfl hr
  unfold vicE vicN vicS
  rw [if_pos hf, if_pos hf, if_pos hf, victim_of _ _ hr]
  refine ⟨rfl, ?_, ?_⟩
  · intro e
    have e2 : r.1 = p := by omega
    rw [e2] at hz
    unfold pnd at hz
    rw [List.getD_eq_getElem?_getD, List.getElem?_set_self (by simpa using hp)] at hz
    simp at hz
    omega
  · refine ⟨r.2.hand, ?_, ?_⟩
    · have := hk.1.hand
      rw [hk.2.1] at this
      simpa [pnd] using this
    · unfold pnd
      have e1 : r.2.pins = (List.replicate n 0).set p t := hk.2.1
      rw [← e1, ← hu]

/-- was it there so far? -/
def thereB (n h0 p : Nat) : Nat → Bool
  | 0 => false
  | k + 1 => thereB n h0 p k || ((h0 + k) % n == p)
theorem there_mono (n h0 p k : Nat) : ∀ d, thereB n h0 p k = true → thereB n h0 p (k + d) = true := by
  intro d
  induction d with
  | zero => exact id
  | succ d ih => intro h; show (thereB n h0 p (k + d) || _) = true; rw [ih h]; rfl
theorem there_end (n h0 p : Nat) (hp : p < n) (hh : h0 < n) : thereB n h0 p (2 * n) = true := by
  have hk : ∃ k, k < n ∧ (h0 + k) % n = p := by
    by_cases e : h0 ≤ p
    · exact ⟨p - h0, by omega, by rw [show h0 + (p - h0) = p by omega]; exact Nat.mod_eq_of_lt hp⟩
    · refine ⟨n - h0 + p, by omega, ?_⟩
      rw [show h0 + (n - h0 + p) = p + n by omega, Nat.add_mod_right]
      exact Nat.mod_eq_of_lt hp
  obtain ⟨k, h1, h2⟩ := hk
  have h3 : thereB n h0 p (k + 1) = true := by
    show (thereB n h0 p k || ((h0 + k) % n == p)) = true
    rw [h2]; simp
  have := there_mono n h0 p (k + 1) (2 * n - (k + 1)) h3
  rwa [show k + 1 + (2 * n - (k + 1)) = 2 * n by omega] at this

/-! ### fairness -/
theorem dist_back {n h : Nat} (hh : h < n) : dist n ((h + 1) % n) h + 1 = n := by
  unfold dist
  by_cases e : h + 1 = n
  · rw [e, Nat.mod_self, if_pos (Nat.zero_le _)]; omega
  · rw [Nat.mod_eq_of_lt (by omega), if_neg (by omega)]; omega
theorem dist_lt {n h j : Nat} (hh : h < n) (hj : j < n) : dist n h j < n := by unfold dist; split <;> omega

theorem vic_fresh (d : Nat) : ∀ (f : Nat) (s : St) (j : Nat) (r : Nat × St), Ok s → j < s.pins.length → s.pins.getD j 0 = 0 → s.used.getD j false = false → dist s.pins.length s.hand j = d → vic f s = some r →
    s.used.getD r.1 false = false ∧ dist s.pins.length s.hand r.1 ≤ d := by
  induction d with
  | zero =>
    intro f s j r h hj hp hu hd hv
    cases f with
    | zero => cases hv
    | succ f =>
      have e : s.hand = j := by
        have := h.hand
        unfold dist at hd; split at hd <;> omega
      subst e
      rw [vic, if_neg (by omega), if_neg (by rw [hu]; simp)] at hv
      cases hv
      exact ⟨hu, by show dist s.pins.length s.hand s.hand ≤ 0; omega⟩
  | succ d ih =>
    intro f s j r h hj hp hu hd hv
    cases f with
    | zero => cases hv
    | succ f =>
      have hne : s.hand ≠ j := by intro e; unfold dist at hd; rw [e, if_pos (Nat.le_refl _)] at hd; omega
      have hd2 := dist_next h.hand hj hne
      have hdlt := dist_lt h.hand hj
      rw [vic] at hv
      by_cases h1 : 0 < s.pins.getD s.hand 0
      · rw [if_pos h1] at hv
        obtain ⟨a, b⟩ := ih f (next s) j r (ok_next h) hj hp hu (by show dist s.pins.length ((s.hand + 1) % s.pins.length) j = d; omega) hv
        refine ⟨a, ?_⟩
        have b' : dist s.pins.length ((s.hand + 1) % s.pins.length) r.1 ≤ d := b
        have hrlt : r.1 < s.pins.length := (vic_ok (ok_next h) hv).2.2
        by_cases e : s.hand = r.1
        · rw [e]; unfold dist; rw [if_pos (Nat.le_refl _)]; omega
        · have := dist_next h.hand hrlt e
          omega
      · rw [if_neg h1] at hv
        by_cases h2 : s.used.getD s.hand false = true
        · rw [if_pos h2] at hv
          have hu' : (fresh (next s) s.hand).used.getD j false = false := by
            show (s.used.set s.hand false).getD j false = false
            rw [List.getD_eq_getElem?_getD, List.getElem?_set_ne hne, ← List.getD_eq_getElem?_getD]; exact hu
          obtain ⟨a, b⟩ := ih f (fresh (next s) s.hand) j r (ok_fresh (ok_next h) _) hj hp hu' (by show dist s.pins.length ((s.hand + 1) % s.pins.length) j = d; omega) hv
          have b' : dist s.pins.length ((s.hand + 1) % s.pins.length) r.1 ≤ d := b
          have hrlt : r.1 < s.pins.length := (vic_ok (ok_fresh (ok_next h) _) hv).2.2
          have hne2 : s.hand ≠ r.1 := by
            intro e
            rw [← e] at b'
            have := dist_back h.hand
            omega
          have a' : (s.used.set s.hand false).getD r.1 false = false := a
          rw [List.getD_eq_getElem?_getD, List.getElem?_set_ne hne2, ← List.getD_eq_getElem?_getD] at a'
          refine ⟨a', ?_⟩
          have := dist_next h.hand hrlt hne2
          omega
        · rw [if_neg h2] at hv
          cases hv
          refine ⟨by simpa using h2, ?_⟩
          show dist s.pins.length s.hand s.hand ≤ d + 1
          unfold dist; rw [if_pos (Nat.le_refl _)]; omega

theorem vic_hand {f : Nat} : ∀ {s : St} {r : Nat × St}, vic f s = some r → r.2.hand = (r.1 + 1) % s.pins.length := by
  induction f with
  | zero => intro s r h; cases h
  | succ f ih =>
    intro s r hv
    rw [vic] at hv
    by_cases h1 : 0 < s.pins.getD s.hand 0
    · rw [if_pos h1] at hv; exact ih (s := next s) hv
    · rw [if_neg h1] at hv
      by_cases h2 : s.used.getD s.hand false = true
      · rw [if_pos h2] at hv; exact ih (s := fresh (next s) s.hand) hv
      · rw [if_neg h2] at hv
        cases hv
        rfl

/-- how many there are -/
def cnt (p : Nat → Bool) : Nat → Nat
  | 0 => 0
  | k + 1 => cnt p k + (if p k then 1 else 0)
theorem cnt_le (p : Nat → Bool) (k : Nat) : cnt p k ≤ k := by
  induction k with
  | zero => exact Nat.le_refl _
  | succ k ih => unfold cnt; split <;> omega
theorem cnt_zero (p : Nat → Bool) (k : Nat) : cnt p k = 0 ↔ ∀ j, j < k → p j = false := by
  induction k with
  | zero => exact ⟨fun _ j hj => by omega, fun _ => rfl⟩
  | succ k ih =>
    unfold cnt
    constructor
    · intro h j hj
      rcases Nat.lt_or_ge j k with h1 | h1
      · exact ih.1 (by omega) j h1
      · obtain rfl : j = k := by omega
        cases hp : p j with
        | false => rfl
        | true => rw [hp] at h; simp at h
    · intro h
      rw [ih.2 (fun j hj => h j (by omega)), h k (by omega)]
      rfl

def isFree (s : St) (j : Nat) : Bool := s.pins.getD j 0 == 0
def isFresh (s : St) (j : Nat) : Bool := (s.pins.getD j 0 == 0) && !(s.used.getD j false)

theorem cnt_free (s : St) : cnt (isFree s) s.pins.length = 0 ↔ free s = false := by
  rw [cnt_zero]
  constructor
  · intro h
    refine not_free_of s fun j hj => ?_
    have := h j hj
    unfold isFree at this
    simpa using this
  · intro h j hj
    cases hp : isFree s j with
    | false => rfl
    | true =>
      unfold isFree at hp
      rw [free_of s j hj (by simpa using hp)] at h
      cases h

/-- the law of fairness, of a clock that has a place that is not pinned -/
theorem fair (s : St) (h : Ok s) (hf : free s = true) : ∃ v : Nat, vicN s = (v : Int) ∧ vicE s = 0 ∧ v < s.pins.length ∧ s.pins.getD v 0 = 0 ∧ (vicS s).pins = s.pins ∧ ((vicS s).hand = (v + 1) % s.pins.length) ∧
    (cnt (isFresh s) s.pins.length ≠ 0 → s.used.getD v false = false) := by
  obtain ⟨r, hr⟩ := vic_ends s h hf
  have hk := vic_ok h hr
  unfold vicN vicE vicS
  rw [if_pos hf, if_pos hf, if_pos hf, victim_of _ _ hr]
  refine ⟨r.1, rfl, rfl, hk.2.2, vic_pin hr, hk.2.1, vic_hand hr, fun hc => ?_⟩
  have : ∃ j, j < s.pins.length ∧ isFresh s j = true := by
    apply Classical.byContradiction
    intro hno
    apply hc
    rw [cnt_zero]
    intro j hj
    cases hp : isFresh s j with
    | false => rfl
    | true => exact absurd ⟨j, hj, hp⟩ hno
  obtain ⟨j, hj, hp⟩ := this
  unfold isFresh at hp
  simp at hp
  exact (vic_fresh _ _ s j r h hj (by simpa using hp.1) (by simpa using hp.2) rfl hr).1

/-- a script is done -/
def runTo (s : St) (l : List (Int × Int)) : Nat → St
  | 0 => s
  | k + 1 => step (runTo s l k) (l.getD k (0, 0)).1 (l.getD k (0, 0)).2

theorem step_ok {s : St} (h : Ok s) (k n : Int) : Ok (step s k n) := by
  unfold step
  split
  · unfold useS; split
    · exact ok_use h _
    · exact h
  split
  · unfold pinS; split
    · exact ok_pin h _
    · exact h
  split
  · unfold unpinS; split
    · exact ok_unpin h _
    · exact h
  split
  · exact vicS_ok h
  · exact h
end Go.Proofs.Ytffdhpoljfmjoaa.Clk
