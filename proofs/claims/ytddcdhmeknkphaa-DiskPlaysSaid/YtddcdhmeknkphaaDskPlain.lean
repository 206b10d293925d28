/- Disks in plain words. No program in sight. -/
import Derived.Test.YtddcdhmeknkphaaBase
namespace Go.Proofs.Ytddcdhmeknkphaa.Dsk

/-- a disk: of each sector what lasts, and what waits -/
structure St where
  size : Nat
  L : Nat → List UInt8
  W : Nat → Option (List UInt8)
  down : Bool
  fused : Bool
  fuse : Int

namespace St

def upd {α : Type} (f : Nat → α) (n : Nat) (x : α) : Nat → α := fun k => if k = n then x else f k
theorem upd_same {α : Type} (f : Nat → α) (n : Nat) (x : α) : upd f n x n = x := by simp [upd]
theorem upd_other {α : Type} (f : Nat → α) (n k : Nat) (x : α) (h : k ≠ n) : upd f n x k = f k := by simp [upd, h]

structure Ok (s : St) : Prop where
  lo : 2 ≤ s.size
  hi : s.size ≤ 4096
  f0 : s.fused = true → 0 ≤ s.fuse
  f1 : -9223372036854775808 ≤ s.fuse
  f2 : s.fuse ≤ 9223372036854775807
  offL : ∀ n, s.size ≤ n → s.L n = []
  offW : ∀ n, s.size ≤ n → s.W n = none
  lenL : ∀ n, (s.L n).length ≤ 1024
  lenW : ∀ n b, s.W n = some b → b.length ≤ 1024

def new (n : Nat) : St := ⟨n, fun _ => [], fun _ => none, false, false, 0⟩
theorem ok_new (n : Nat) (h : 2 ≤ n) (h' : n ≤ 4096) : Ok (new n) :=
  ⟨h, h', fun h => (by cases h), by simp [new], by simp [new], fun _ _ => rfl, fun _ _ => rfl, fun _ => (by simp [new]), fun _ _ h => (by cases h)⟩

/-- what a sector holds -/
def look (s : St) (n : Nat) : List UInt8 := (s.W n).getD (s.L n)
def inside (s : St) (n : Int) : Bool := decide (0 ≤ n) && decide (n < s.size)
/-- what is wrong with a call of a sector -/
def use (s : St) (n : Int) : Int := if s.down then 40 else if s.inside n then 0 else 41
def blocked (s : St) : Bool := s.fused && decide (s.fuse = 0)
/-- an act is done, or the power goes -/
def act (s : St) : St := if s.blocked then { s with down := true } else if s.fused then { s with fuse := s.fuse - 1 } else s
def write (s : St) (n : Int) (b : List UInt8) : Int × St :=
  if s.down then (40, s) else if !s.inside n || decide (1024 < b.length) then (41, s) else if s.blocked then (40, s.act) else (0, { s.act with W := upd s.W n.toNat (some b) })
def flush (s : St) : Int × St :=
  if s.down then (40, s) else if s.blocked then (40, s.act) else (0, { s.act with L := s.look, W := fun _ => none })
def fuseAt (s : St) (k : Int) : St := { s with fused := decide (0 ≤ k), fuse := k }
/-- what waits in a sector lasts -/
def keep1 (s : St) (n : Int) : St :=
  if s.inside n then match s.W n.toNat with | some b => { s with L := upd s.L n.toNat b, W := upd s.W n.toNat none } | none => s else s
def keeps (s : St) (l : List Int) : St := l.foldl keep1 s
def wake (s : St) : St := { s with W := fun _ => none, down := false, fused := false }
def restart (s : St) (l : List Int) : St := wake (s.keeps l)
def turned (l : List UInt8) (i : Nat) (x : UInt8) : List UInt8 := l.set i (l.getD i 0 ^^^ x)
def turn (s : St) (n at_ : Int) (x : UInt8) : Int × St :=
  if !s.inside n then (41, s) else if (s.look n.toNat).isEmpty || decide (at_ < 0) then (1, s) else
    (0, let c := turned (s.look n.toNat) (at_.toNat % (s.look n.toNat).length) x
      match s.W n.toNat with | some _ => { s with W := upd s.W n.toNat (some c) } | none => { s with L := upd s.L n.toNat c })
def lastsL (s : St) : List (Int × List UInt8) := ((List.range s.size).filter fun n => !(s.L n).isEmpty).map fun (n : Nat) => ((n : Int), s.L n)
def waitsL (s : St) : List (Int × List UInt8) := ((List.range s.size).filter fun n => (s.W n).isSome).map fun (n : Nat) => ((n : Int), (s.W n).getD [])

theorem inside_iff {s : St} {n : Int} : s.inside n = true ↔ 0 ≤ n ∧ n < s.size := by unfold inside; simp
theorem inside_not {s : St} {n : Int} : s.inside n = false ↔ ¬ (0 ≤ n ∧ n < s.size) := by
  rw [← inside_iff]; cases s.inside n <;> simp

theorem look_len {s : St} (h : Ok s) (n : Nat) : (s.look n).length ≤ 1024 := by
  unfold look
  cases hw : s.W n with
  | none => exact h.lenL n
  | some b => exact h.lenW n b hw

theorem act_size (s : St) : s.act.size = s.size := by
  unfold act
  split
  · rfl
  · split <;> rfl
theorem act_L (s : St) : s.act.L = s.L := by
  unfold act
  split
  · rfl
  · split <;> rfl
theorem act_W (s : St) : s.act.W = s.W := by
  unfold act
  split
  · rfl
  · split <;> rfl
theorem act_fused (s : St) : s.act.fused = s.fused := by
  unfold act
  split
  · rfl
  · split <;> rfl

theorem ok_act {s : St} (h : Ok s) : Ok s.act := by
  refine ⟨by rw [act_size]; exact h.lo, by rw [act_size]; exact h.hi, ?_, ?_, ?_, by rw [act_size, act_L]; exact h.offL, by rw [act_size, act_W]; exact h.offW, by rw [act_L]; exact h.lenL, by rw [act_W]; exact h.lenW⟩
  · intro hf
    rw [act_fused] at hf
    have h0 := h.f0 hf
    unfold act
    split
    · exact h0
    · rename_i hb
      simp only [hf, if_true]
      unfold blocked at hb
      rw [hf] at hb
      simp at hb
      omega
  · unfold act
    split
    · exact h.f1
    · split
      · rename_i hf
        have := h.f0 hf
        simp only; omega
      · exact h.f1
  · unfold act
    have := h.f2
    split
    · exact h.f2
    · split
      · simp only; omega
      · exact h.f2

theorem ok_write {s : St} (h : Ok s) (n : Int) (b : List UInt8) : Ok (s.write n b).2 := by
  unfold write
  split
  · exact h
  · split
    · exact h
    · split
      · exact ok_act h
      · rename_i h1 h2
        simp only [Bool.or_eq_true, Bool.not_eq_true', decide_eq_true_eq, not_or, Bool.not_eq_false] at h1
        have hin := inside_iff.1 h1.1
        have a := ok_act h
        refine ⟨a.lo, a.hi, a.f0, a.f1, a.f2, a.offL, fun k hk => ?_, a.lenL, fun k c hc => ?_⟩
        · have hk' : s.size ≤ k := by rw [← act_size s]; exact hk
          simp only
          rw [upd_other _ _ _ _ (by omega)]
          exact h.offW k hk'
        · simp only at hc
          unfold upd at hc
          split at hc
          · cases hc; omega
          · exact h.lenW k c hc

theorem ok_flush {s : St} (h : Ok s) : Ok (s.flush).2 := by
  unfold flush
  split
  · exact h
  · split
    · exact ok_act h
    · have a := ok_act h
      refine ⟨a.lo, a.hi, a.f0, a.f1, a.f2, fun k hk => ?_, fun _ _ => rfl, fun k => look_len h k, fun _ _ hc => by cases hc⟩
      have hk' : s.size ≤ k := by rw [← act_size s]; exact hk
      show s.look k = []
      unfold look
      rw [h.offW k hk', h.offL k hk']; rfl

theorem ok_fuseAt {s : St} (h : Ok s) (k : Int) (k0 : -9223372036854775808 ≤ k) (k1 : k ≤ 9223372036854775807) : Ok (s.fuseAt k) :=
  ⟨h.lo, h.hi, fun hf => of_decide_eq_true hf, k0, k1, h.offL, h.offW, h.lenL, h.lenW⟩

theorem ok_keep1 {s : St} (h : Ok s) (n : Int) : Ok (s.keep1 n) := by
  unfold keep1
  split
  · rename_i hin
    rw [inside_iff] at hin
    split
    · rename_i b hb
      refine ⟨h.lo, h.hi, h.f0, h.f1, h.f2, fun k hk => ?_, fun k hk => ?_, fun k => ?_, fun k c hc => ?_⟩
      · simp only at hk ⊢
        rw [upd_other _ _ _ _ (by omega)]; exact h.offL k hk
      · simp only at hk ⊢
        rw [upd_other _ _ _ _ (by omega)]; exact h.offW k hk
      · simp only
        unfold upd
        split
        · exact h.lenW _ _ hb
        · exact h.lenL k
      · simp only at hc
        unfold upd at hc
        split at hc
        · cases hc
        · exact h.lenW k c hc
    · exact h
  · exact h

theorem keep1_size (s : St) (n : Int) : (s.keep1 n).size = s.size := by
  unfold keep1
  split
  · split <;> rfl
  · rfl
theorem ok_keeps (l : List Int) : ∀ {s : St}, Ok s → Ok (s.keeps l) := by
  induction l with
  | nil => intro s h; exact h
  | cons n l ih => intro s h; exact ih (ok_keep1 h n)
theorem keeps_size (l : List Int) : ∀ (s : St), (s.keeps l).size = s.size := by
  induction l with
  | nil => intro s; rfl
  | cons n l ih => intro s; exact (ih _).trans (keep1_size s n)
theorem keeps_snoc (s : St) (l : List Int) (n : Int) : s.keeps (l ++ [n]) = (s.keeps l).keep1 n := by unfold keeps; rw [List.foldl_append]; rfl

theorem ok_wake {s : St} (h : Ok s) : Ok (wake s) :=
  ⟨h.lo, h.hi, fun hf => by (cases hf), h.f1, h.f2, h.offL, fun _ _ => rfl, h.lenL, fun _ _ hc => by (cases hc)⟩
theorem ok_restart {s : St} (h : Ok s) (l : List Int) : Ok (s.restart l) := ok_wake (ok_keeps l h)

theorem turned_len (l : List UInt8) (i : Nat) (x : UInt8) : (turned l i x).length = l.length := by unfold turned; simp

theorem ok_turn {s : St} (h : Ok s) (n at_ : Int) (x : UInt8) : Ok (s.turn n at_ x).2 := by
  unfold turn
  split
  · exact h
  · split
    · exact h
    · rename_i hin _
      simp only [Bool.not_eq_true, Bool.not_eq_false'] at hin
      rw [inside_iff] at hin
      have hl := look_len h n.toNat
      simp only
      split
      · rename_i b hb
        refine ⟨h.lo, h.hi, h.f0, h.f1, h.f2, h.offL, fun k hk => ?_, h.lenL, fun k c hc => ?_⟩
        · simp only at hk ⊢
          rw [upd_other _ _ _ _ (by omega)]; exact h.offW k hk
        · simp only at hc
          unfold upd at hc
          split at hc
          · cases hc; rw [turned_len]; exact hl
          · exact h.lenW k c hc
      · refine ⟨h.lo, h.hi, h.f0, h.f1, h.f2, fun k hk => ?_, h.offW, fun k => ?_, h.lenW⟩
        · simp only at hk ⊢
          rw [upd_other _ _ _ _ (by omega)]; exact h.offL k hk
        · simp only
          unfold upd
          split
          · rw [turned_len]; exact hl
          · exact h.lenL k

end St
end Go.Proofs.Ytddcdhmeknkphaa.Dsk
