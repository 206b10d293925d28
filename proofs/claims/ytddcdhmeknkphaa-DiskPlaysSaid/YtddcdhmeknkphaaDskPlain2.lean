/- What is done to a disk, in plain words. No program in sight. -/
import Derived.Test.YtddcdhmeknkphaaMap
import Derived.Test.YtddcdhmeknkphaaDskPlain
namespace Go.Proofs.Ytddcdhmeknkphaa

structure CallD where
  kind : Int
  n : Int
  b : List UInt8
  keep : List Int
  at_ : Int
  by_ : UInt8
instance : Inhabited CallD := ⟨⟨0, 0, [], [], 0, 0⟩⟩

structure CallWf (c : CallD) : Prop where
  n : inI64 c.n
  at_ : inI64 c.at_
  keep : ∀ k ∈ c.keep, inI64 k

namespace CallD
def small (c : CallD) : Bool := decide (c.b.length ≤ 1100) && decide (c.keep.length ≤ 60)
end CallD

namespace Dsk.St
/-- one call that is done -/
def did (s : St) (c : CallD) : St :=
  if c.kind = 1 then (s.write c.n c.b).2 else if c.kind = 3 then (s.flush).2 else if c.kind = 4 then s.fuseAt c.n else if c.kind = 5 then s.restart c.keep else if c.kind = 6 then (s.turn c.n c.at_ c.by_).2 else s
def step (s : St) (c : CallD) : St := if c.small then s.did c else s
def runs (s : St) (l : List CallD) : St := l.foldl step s

theorem ok_did {s : St} (h : Ok s) (c : CallD) (hw : CallWf c) : Ok (s.did c) := by
  unfold did
  split
  · exact ok_write h _ _
  · split
    · exact ok_flush h
    · split
      · exact ok_fuseAt h _ hw.n.1 hw.n.2
      · split
        · exact ok_restart h _
        · split
          · exact ok_turn h _ _ _
          · exact h

theorem write_size (s : St) (n : Int) (b : List UInt8) : (s.write n b).2.size = s.size := by
  unfold write
  split
  · rfl
  · split
    · rfl
    · split
      · exact act_size s
      · exact act_size s
theorem flush_size (s : St) : (s.flush).2.size = s.size := by
  unfold flush
  split
  · rfl
  · split
    · exact act_size s
    · exact act_size s
theorem turn_size (s : St) (n a : Int) (x : UInt8) : (s.turn n a x).2.size = s.size := by
  unfold turn
  split
  · rfl
  · split
    · rfl
    · simp only
      split <;> rfl
theorem did_size (s : St) (c : CallD) : (s.did c).size = s.size := by
  unfold did
  split
  · exact write_size _ _ _
  · split
    · exact flush_size _
    · split
      · rfl
      · split
        · exact keeps_size _ _
        · split
          · exact turn_size _ _ _ _
          · rfl
theorem step_size (s : St) (c : CallD) : (s.step c).size = s.size := by
  unfold step
  split
  · exact did_size s c
  · rfl
theorem runs_size (l : List CallD) : ∀ s : St, (s.runs l).size = s.size := by
  induction l with
  | nil => intro s; rfl
  | cons c l ih => intro s; exact (ih _).trans (step_size s c)
theorem runs_snoc (s : St) (l : List CallD) (i : Nat) (h : i < l.length) : s.runs (l.take (i + 1)) = (s.runs (l.take i)).step (l.getD i default) := by
  unfold runs
  rw [List.take_succ_eq_append_getElem h, List.foldl_append]
  simp [List.getD, h]
end Dsk.St
end Go.Proofs.Ytddcdhmeknkphaa
