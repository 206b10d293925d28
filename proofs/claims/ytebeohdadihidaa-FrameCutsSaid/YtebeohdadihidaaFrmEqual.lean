/- bytes.Equal, bytes.Clone. -/
import Derived.Test.YtebeohdadihidaaFrmRefPack
import Derived.Test.YtebeohdadihidaaStr
namespace Go.Proofs.Ytebeohdadihidaa
open Go.RowKit

theorem equal_any (v u : Value) (l m : List UInt8) (w : World) (h : Bytes w v l) (k : Bytes w u m) :
    Calls Try.prog 26 #[v, u] w fun e w' => e = .returned (.bool (decide (l = m))) ∧ w = w' := by
  obtain ⟨a, cap, rfl, -, -⟩ := h.opened
  obtain ⟨a2, cap2, rfl, -, -⟩ := k.opened
  have c1 := str_bytes h
  have c2 := str_bytes k
  go_enter Try.func26, Try.ntmps26
  go_wp2_with fail
  go_ret
  exact ⟨congrArg (fun b => Ending.returned (.bool b)) (strOf_beq l m), rfl⟩

/-- a new slice of no bytes -/
theorem own_none8 (w : World) (e : TypeId) : (w.alloc (.cells #[] e)).ownsRow w.heap.size e 1 (.slice (some ⟨w.heap.size, 0, none⟩) 0 0) ([] : List UInt8).length (byteVals []) :=
  World.ownsRow_lit w #[] 0 (Nat.le_refl _) (by unfold maxLen; omega) rfl

/-- a copy of bytes: append([]byte{}, src...) -/
theorem copy_new {w : World} {src : Value} {m : List UInt8} (hsrc : Bytes w src m) (hm : m.length ≤ 1000000) :
    ∃ av L cap w', Hid ((Builtin.append_ #[23, 23] 23 #[.slice (some ⟨w.heap.size, 0, none⟩) 0 0, src]).run Try.prog (w.alloc (.cells #[] 5)) = .ok (.slice av L cap) w') ∧ Hid (w'.ownsRow w.heap.size 5 1 (.slice av L cap) m.length (byteVals m)) ∧ Hid (Below w.heap.size w w') := by
  have hb : Below w.heap.size w (w.alloc (.cells #[] 5)) := (Below.refl _ _).alloc (Nat.le_refl _) _
  obtain ⟨av, L, cap, w', hr, ho, hb'⟩ := own_append (own_none8 w 5) (Below.refl _ _) (hsrc.below hb) (by simpa using hm) hb.size
  exact ⟨av, L, cap, w', hr, ho, hb.trans hb'.out⟩

theorem clone_any (v : Value) (l : List UInt8) (w : World) (h : Bytes w v l) (hl : l.length ≤ 1000000) : Calls Try.prog 27 #[v] w (NewBytes w l) := by
  rcases id h with ⟨rfl, rfl⟩ | ⟨x, cap, rfl, -, -, -⟩
  · have he : ∀ w : World, (binOp .eql 23 (.slice none 0 0) (.slice none 0 0)).run Try.prog w = .ok (.bool true) w := fun _ => rfl
    go_enter Try.func27, Try.ntmps27
    go_wp2_with fail
    go_ret
    exact ⟨_, rfl, .nil _, Below.refl _ _, fun k hk => by cases hk⟩
  · obtain ⟨av, L, cp, w', HR, HO, HB⟩ := copy_new h hl
    clear h
    have he : ∀ w : World, (binOp .eql 23 (.slice (some x) l.length cap) (.slice none 0 0)).run Try.prog w = .ok (.bool false) w := fun _ => rfl
    go_enter Try.func27, Try.ntmps27
    go_wp2_with (first
      | (at_builtin; refine Lib.wpList_append_run _ rfl (.tmp 5) (.tmp 6) _ _ rfl _ _ rfl rfl _ _ HR.out ?_))
    go_ret
    exact ⟨_, rfl, own_bytes HO.out, HB.out, own_base HO.out⟩

end Go.Proofs.Ytebeohdadihidaa
