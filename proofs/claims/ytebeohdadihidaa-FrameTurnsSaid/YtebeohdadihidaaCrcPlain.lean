/- Plain facts on the check sum: a step of a word is a sum (with respect to xor) and no two words have one step. No program in sight. -/
import GoSem.Core.View
namespace Go.Proofs.Ytebeohdadihidaa.Crc

abbrev W32 := BitVec 32

/-- one step of a word -/
def step (w : W32) : W32 := if w.getLsbD 0 then (w >>> 1) ^^^ 0xEDB88320#32 else w >>> 1

def steps : Nat → W32 → W32
  | 0, w => w
  | n + 1, w => steps n (step w)

theorem steps_succ (n : Nat) (w : W32) : steps (n + 1) w = step (steps n w) := by
  induction n generalizing w with
  | zero => rfl
  | succ n ih => exact ih (step w)

theorem step_xor (a b : W32) : step (a ^^^ b) = step a ^^^ step b := by
  unfold step
  rw [BitVec.getLsbD_xor]
  have e : (a ^^^ b) >>> 1 = a >>> 1 ^^^ b >>> 1 := by
    apply BitVec.eq_of_getLsbD_eq; intro i _; simp
  rw [e]
  generalize (0xEDB88320#32 : W32) = q
  generalize a >>> 1 = x
  generalize b >>> 1 = y
  cases a.getLsbD 0 <;> cases b.getLsbD 0 <;> simp only [Bool.bne_false, Bool.bne_true, Bool.not_false, Bool.not_true, if_true, Bool.false_eq_true, if_false] <;>
    (apply BitVec.eq_of_getLsbD_eq; intro i _; simp only [BitVec.getLsbD_xor]; cases x.getLsbD i <;> cases y.getLsbD i <;> cases q.getLsbD i <;> rfl)

theorem steps_xor (n : Nat) (a b : W32) : steps n (a ^^^ b) = steps n a ^^^ steps n b := by
  induction n generalizing a b with
  | zero => rfl
  | succ n ih => show steps n (step (a ^^^ b)) = _; rw [step_xor, ih]; rfl

theorem step_zero : step 0#32 = 0#32 := by decide
theorem steps_zero (n : Nat) : steps n 0#32 = 0#32 := by
  induction n with
  | zero => rfl
  | succ n ih => show steps n (step 0#32) = _; rw [step_zero]; exact ih

theorem step_top (w : W32) : (step w).getLsbD 31 = w.getLsbD 0 := by
  unfold step
  cases h : w.getLsbD 0
  · rw [if_neg (by simp)]; simp
  · rw [if_pos rfl, BitVec.getLsbD_xor]; simp

theorem step_eq_zero (w : W32) (h : step w = 0#32) : w = 0#32 := by
  have h0 : w.getLsbD 0 = false := by rw [← step_top, h]; rfl
  have h1 : w >>> 1 = 0#32 := by
    unfold step at h; rw [h0] at h; simpa using h
  apply BitVec.eq_of_getLsbD_eq
  intro i hi
  rcases i with _ | i
  · simpa using h0
  · have := congrArg (fun x : W32 => x.getLsbD i) h1
    simp at this
    rw [Nat.add_comm] at this
    simpa using this

theorem xor_eq_zero {a b : W32} (h : a ^^^ b = 0#32) : a = b := by
  have : (a ^^^ b) ^^^ b = 0#32 ^^^ b := by rw [h]
  rw [BitVec.xor_assoc, BitVec.xor_self] at this; simpa using this

theorem step_inj {a b : W32} (h : step a = step b) : a = b := by
  apply xor_eq_zero; apply step_eq_zero; rw [step_xor, h, BitVec.xor_self]

theorem steps_inj (n : Nat) {a b : W32} (h : steps n a = steps n b) : a = b := by
  induction n generalizing a b with
  | zero => exact h
  | succ n ih => exact step_inj (ih h)

/-- the table's step of a byte -/
def tab (i : Nat) : W32 := steps 8 (BitVec.ofNat 32 i)

/-- a byte as a word -/
def by32 (x : UInt8) : W32 := BitVec.ofNat 32 x.toNat

theorem steps_shift (n : Nat) (w : W32) (h : ∀ i, i < n → w.getLsbD i = false) : steps n w = w >>> n := by
  induction n generalizing w with
  | zero => simp [steps]
  | succ n ih =>
    have h0 := h 0 (by omega)
    show steps n (step w) = _
    have e : step w = w >>> 1 := by unfold step; rw [h0]; rfl
    rw [e, ih _ (by intro i hi; have := h (1 + i) (by omega); simpa using this)]
    rw [← BitVec.shiftRight_add, Nat.add_comm]

/-- the word's low byte -/
def low (w : W32) : W32 := w &&& 0xFF#32

theorem split (w : W32) : w = (w &&& 0xFFFFFF00#32) ^^^ low w := by
  unfold low
  apply BitVec.eq_of_getLsbD_eq; intro i hi
  simp only [BitVec.getLsbD_xor, BitVec.getLsbD_and]
  have : (0xFFFFFF00#32).getLsbD i = !(0xFF#32).getLsbD i := by
    revert i; decide
  rw [this]
  cases w.getLsbD i <;> cases (0xFF#32 : W32).getLsbD i <;> rfl

theorem steps8_split (w : W32) : steps 8 w = (w >>> 8) ^^^ steps 8 (low w) := by
  conv => lhs; rw [split w]
  rw [steps_xor]
  congr 1
  rw [steps_shift 8 _ (by
    intro i hi
    rw [BitVec.getLsbD_and]
    have : (0xFFFFFF00#32 : W32).getLsbD i = false := by
      have : ∀ j : Fin 8, (0xFFFFFF00#32 : W32).getLsbD j.1 = false := by decide
      exact this ⟨i, hi⟩
    rw [this]; simp)]
  apply BitVec.eq_of_getLsbD_eq; intro i hi
  simp only [BitVec.getLsbD_ushiftRight, BitVec.getLsbD_and]
  by_cases h : 8 + i < 32
  · have : ∀ j : Fin 24, (0xFFFFFF00#32 : W32).getLsbD (8 + j.1) = true := by decide
    rw [this ⟨i, by omega⟩]; simp
  · have : w.getLsbD (8 + i) = false := BitVec.getLsbD_of_ge _ _ (by omega)
    rw [this]; rfl

theorem low_toNat (w : W32) : (low w).toNat = w.toNat % 256 := by
  unfold low
  rw [BitVec.toNat_and]
  exact Nat.and_two_pow_sub_one_eq_mod w.toNat 8

/-- one byte goes into a word -/
def eat (w : W32) (x : UInt8) : W32 := steps 8 (w ^^^ by32 x)

/-- the same by the table, as the code says it -/
def look (w : W32) (x : UInt8) : W32 := (w >>> 8) ^^^ tab ((UInt8.ofNat w.toNat ^^^ x).toNat)

theorem look_eq (w : W32) (x : UInt8) : look w x = eat w x := by
  unfold look eat tab
  rw [steps8_split (w ^^^ by32 x)]
  have hx : by32 x >>> 8 = 0#32 := by
    apply BitVec.eq_of_toNat_eq
    simp [by32, BitVec.toNat_ushiftRight, Nat.shiftRight_eq_div_pow]
    have := x.toNat_lt; omega
  have e1 : (w ^^^ by32 x) >>> 8 = w >>> 8 := by
    have : (w ^^^ by32 x) >>> 8 = w >>> 8 ^^^ by32 x >>> 8 := by
      apply BitVec.eq_of_getLsbD_eq; intro i _; simp
    rw [this, hx]; simp
  rw [e1]
  congr 2
  apply BitVec.eq_of_toNat_eq
  rw [low_toNat]
  have h1 : (BitVec.ofNat 32 (UInt8.ofNat w.toNat ^^^ x).toNat).toNat = (UInt8.ofNat w.toNat ^^^ x).toNat := by
    have := (UInt8.ofNat w.toNat ^^^ x).toNat_lt
    simp only [BitVec.toNat_ofNat]; omega
  rw [h1]
  rw [UInt8.toNat_xor, BitVec.toNat_xor]
  have h2 : (by32 x).toNat = x.toNat := by
    have := x.toNat_lt
    simp only [by32, BitVec.toNat_ofNat]; omega
  rw [h2]
  have h3 : (UInt8.ofNat w.toNat).toNat = w.toNat % 256 := by simp
  rw [h3]
  have hx : x.toNat % 2 ^ 8 = x.toNat := by have := x.toNat_lt; omega
  have := Nat.xor_mod_two_pow (a := w.toNat) (b := x.toNat) (n := 8)
  rw [show (256 : Nat) = 2 ^ 8 from rfl, this, hx]

def eats (w : W32) (l : List UInt8) : W32 := l.foldl eat w

/-- the check sum of bytes behind those of another one -/
def more (sum : W32) (l : List UInt8) : W32 := ~~~ (eats (~~~ sum) l)

theorem eats_append (w : W32) (a b : List UInt8) : eats w (a ++ b) = eats (eats w a) b := by simp [eats]
theorem eats_snoc (w : W32) (a : List UInt8) (x : UInt8) : eats w (a ++ [x]) = eat (eats w a) x := by simp [eats]
theorem eats_nil (w : W32) : eats w [] = w := rfl

theorem more_append (s : W32) (a b : List UInt8) : more s (a ++ b) = more (more s a) b := by
  unfold more; rw [BitVec.not_not, eats_append]
theorem more_nil (s : W32) : more s [] = s := by unfold more; rw [eats_nil, BitVec.not_not]

theorem eat_inj {a b : W32} {x : UInt8} (h : eat a x = eat b x) : a = b := by
  have := steps_inj 8 h
  have e : (a ^^^ by32 x) ^^^ by32 x = (b ^^^ by32 x) ^^^ by32 x := by rw [this]
  simpa [BitVec.xor_assoc] using e

theorem eats_inj (l : List UInt8) : ∀ {a b : W32}, eats a l = eats b l → a = b := by
  induction l with
  | nil => intro a b h; exact h
  | cons x l ih => intro a b h; exact eat_inj (ih h)

theorem not_inj {a b : W32} (h : ~~~a = ~~~b) : a = b := by
  have : ~~~(~~~a) = ~~~(~~~b) := by rw [h]
  simpa using this

theorem more_inj (l : List UInt8) {x y : W32} : more x l = more y l ↔ x = y := by
  constructor
  · intro h; exact not_inj (eats_inj l (not_inj h))
  · intro h; rw [h]

theorem by32_inj {x y : UInt8} (h : by32 x = by32 y) : x = y := by
  have := congrArg BitVec.toNat h
  have hx := x.toNat_lt
  have hy := y.toNat_lt
  simp only [by32, BitVec.toNat_ofNat] at this
  apply UInt8.toNat_inj.mp; omega

/-- one byte turned gives another sum -/
theorem more_turn (s : W32) (p : List UInt8) (x y : UInt8) (q : List UInt8) (h : more s (p ++ x :: q) = more s (p ++ y :: q)) : x = y := by
  have h1 := not_inj h
  rw [eats_append, eats_append] at h1
  have h2 : eat (eats (~~~s) p) x = eat (eats (~~~s) p) y := eats_inj q h1
  have h3 := steps_inj 8 h2
  apply by32_inj
  have e : eats (~~~s) p ^^^ (eats (~~~s) p ^^^ by32 x) = eats (~~~s) p ^^^ (eats (~~~s) p ^^^ by32 y) := by rw [h3]
  simpa [← BitVec.xor_assoc] using e

theorem by32_xor (x y : UInt8) : by32 (x ^^^ y) = by32 x ^^^ by32 y := by
  apply BitVec.eq_of_toNat_eq
  have hx := x.toNat_lt
  have hy := y.toNat_lt
  have hxy := (x ^^^ y).toNat_lt
  rw [BitVec.toNat_xor]
  simp only [by32, BitVec.toNat_ofNat]
  rw [Nat.mod_eq_of_lt (by omega), Nat.mod_eq_of_lt (by omega), Nat.mod_eq_of_lt (by omega), UInt8.toNat_xor]

theorem eat_xor3 (a b c : W32) (x y z : UInt8) : eat (a ^^^ b ^^^ c) (x ^^^ y ^^^ z) = eat a x ^^^ eat b y ^^^ eat c z := by
  unfold eat
  rw [by32_xor, by32_xor, ← steps_xor, ← steps_xor]
  congr 1
  apply BitVec.eq_of_getLsbD_eq; intro i _
  simp only [BitVec.getLsbD_xor]
  cases a.getLsbD i <;> cases b.getLsbD i <;> cases c.getLsbD i <;> cases (by32 x).getLsbD i <;> cases (by32 y).getLsbD i <;> cases (by32 z).getLsbD i <;> rfl

/-- the difference of three lists -/
def mix3 : List UInt8 → List UInt8 → List UInt8 → List UInt8
  | x :: a, y :: b, z :: c => (x ^^^ y ^^^ z) :: mix3 a b c
  | _, _, _ => []

theorem eats_mix3 (a : List UInt8) : ∀ (b c : List UInt8) (u v w : W32), a.length = b.length → a.length = c.length →
    eats (u ^^^ v ^^^ w) (mix3 a b c) = eats u a ^^^ eats v b ^^^ eats w c := by
  induction a with
  | nil =>
    intro b c u v w h1 h2
    have hb : b = [] := List.length_eq_zero_iff.mp h1.symm
    have hc : c = [] := List.length_eq_zero_iff.mp h2.symm
    subst hb; subst hc; rfl
  | cons x a ih =>
    intro b c u v w h1 h2
    match b, c, h1, h2 with
    | y :: b, z :: c, h1, h2 =>
      show eats (eat (u ^^^ v ^^^ w) (x ^^^ y ^^^ z)) (mix3 a b c) = _
      rw [eat_xor3]
      exact ih b c _ _ _ (by simpa using h1) (by simpa using h2)

theorem more_mix3 (a b c : List UInt8) (h1 : a.length = b.length) (h2 : a.length = c.length) : more 0#32 (mix3 a b c) = more 0#32 a ^^^ more 0#32 b ^^^ more 0#32 c := by
  unfold more
  have e : (~~~ (0#32 : W32)) = ~~~ 0#32 ^^^ ~~~ 0#32 ^^^ ~~~ 0#32 := by decide
  conv => lhs; rw [e]
  rw [eats_mix3 a b c _ _ _ h1 h2]
  apply BitVec.eq_of_getLsbD_eq; intro i hi
  simp only [BitVec.getLsbD_not, BitVec.getLsbD_xor, hi]
  cases (eats (~~~0#32) a).getLsbD i <;> cases (eats (~~~0#32) b).getLsbD i <;> cases (eats (~~~0#32) c).getLsbD i <;> rfl

theorem tab_xor (a b : UInt8) : tab (a ^^^ b).toNat = tab a.toNat ^^^ tab b.toNat := by
  show steps 8 (by32 (a ^^^ b)) = steps 8 (by32 a) ^^^ steps 8 (by32 b)
  rw [by32_xor, steps_xor]

theorem steps_nat (w : W32) : step w = if w.toNat % 2 = 1 then (w >>> 1) ^^^ 0xEDB88320#32 else w >>> 1 := by
  unfold step
  have : w.getLsbD 0 = decide (w.toNat % 2 = 1) := by
    simp [BitVec.getLsbD, Nat.testBit_zero]
  rw [this]
  by_cases h : w.toNat % 2 = 1 <;> simp [h]

end Go.Proofs.Ytebeohdadihidaa.Crc
