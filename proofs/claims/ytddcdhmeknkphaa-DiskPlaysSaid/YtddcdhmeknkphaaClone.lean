/- bytes.Clone; a copy of bytes that is the call's own. -/
import Derived.Test.YtddcdhmeknkphaaProg
import Derived.Test.YtddcdhmeknkphaaBase
import Derived.ProofKit
import Derived.Handy
import Derived.Lib.AppendZeros
namespace Go.Proofs.Ytddcdhmeknkphaa.Dk
open Go.RowKit

theorem i8 : (Try.prog.info? 5).map (fun i => (i.zero, i.size, i.bytes)) = some (some (.int .u8 0), 1, 1) := by kernel_rfl

theorem own_slice {w : World} {base : Nat} {e : TypeId} {size : Nat} {v : Value} {n : Nat} {xs : List Value} (h : w.ownsRow base e size v n xs) : ∃ a cap, v = .slice a n cap := by
  rcases h.2 with ⟨rfl, rfl⟩ | ⟨g, cap, cur, rfl, _⟩
  · exact ⟨none, 0, rfl⟩
  · exact ⟨_, cap, rfl⟩

theorem own_cut {w w' : World} {base : Nat} {e : TypeId} {size : Nat} {v : Value} {n : Nat} {xs : List Value} (h : w.ownsRow base e size v n xs) (hb : Below w.heap.size w w') : w'.ownsRow base e size v n xs := by
  refine ⟨h.1, ?_⟩
  rcases h.2 with hn | ⟨g, cap, cur, rfl, hb', hgg, rest⟩
  · exact .inl hn
  · refine .inr ⟨g, cap, cur, rfl, hb', ?_, rest⟩
    rw [hb.block g (lt_of_block hgg)]
    exact hgg

theorem own_mono {w : World} {base base' : Nat} {e : TypeId} {size : Nat} {v : Value} {n : Nat} {xs : List Value} (h : w.ownsRow base e size v n xs) (hb : base' ≤ base) : w.ownsRow base' e size v n xs := by
  refine ⟨h.1, ?_⟩
  rcases h.2 with hn | ⟨g, cap, cur, rfl, hb', rest⟩
  · exact .inl hn
  · exact .inr ⟨g, cap, cur, rfl, Nat.le_trans hb hb', rest⟩

/-- 'append(out, src...)', out the call's own -/
theorem own_append {w w1 : World} {base : Nat} {v : Value} {l : List UInt8} (ho : w.ownsRow base 5 1 v l.length (byteVals l)) (hw : Below w.heap.size w w1) {src : Value} {m : List UInt8} (hsrc : Bytes w1 src m) (hl : l.length + m.length ≤ 1000000) (hb : base ≤ w.heap.size) :
    ∃ av L cap w3, L = (l ++ m).length ∧ Hid ((Builtin.append_ #[29, 29] 29 #[v, src]).run Try.prog w1 = .ok (.slice av L cap) w3) ∧ Hid (w3.ownsRow base 5 1 (.slice av L cap) (l ++ m).length (byteVals (l ++ m))) ∧ Hid (Below base w w3) := by
  have ho1 := own_cut ho hw
  obtain ⟨v', w3, hrun, hown, hgr⟩ := append_bytes (P := Try.prog) 29 Try.underlying29 i8 ho1 hsrc (by omega) (by have := hw.size; omega)
  obtain ⟨av, cap, rfl⟩ := own_slice hown
  exact ⟨av, _, cap, w3, rfl, hrun, hown, (hw.mono hb).trans (own_below (w := w1) ho1 hgr (by have := hw.size; omega))⟩

theorem own_none8 (w : World) (e : TypeId) : (w.alloc (.cells #[] e)).ownsRow w.heap.size e 1 (.slice (some ⟨w.heap.size, 0, none⟩) 0 0) ([] : List UInt8).length (byteVals []) :=
  World.ownsRow_lit w #[] 0 (Nat.le_refl _) (by unfold maxLen; omega) rfl

/-- a copy of bytes: append([]byte{}, src...) -/
theorem copy_new {w : World} {src : Value} {m : List UInt8} (hsrc : Bytes w src m) (hm : m.length ≤ 1000000) :
    ∃ av L cap w', L = m.length ∧ Hid ((Builtin.append_ #[29, 29] 29 #[.slice (some ⟨w.heap.size, 0, none⟩) 0 0, src]).run Try.prog (w.alloc (.cells #[] 5)) = .ok (.slice av L cap) w') ∧ Hid (w'.ownsRow w.heap.size 5 1 (.slice av L cap) m.length (byteVals m)) ∧ Hid (Below w.heap.size w w') := by
  have hb : Below w.heap.size w (w.alloc (.cells #[] 5)) := (Below.refl _ _).alloc (Nat.le_refl _) _
  obtain ⟨av, L, cap, w', hl, hr, ho, hb'⟩ := own_append (own_none8 w 5) (Below.refl _ _) (hsrc.below hb) (by rw [List.length_nil, Nat.zero_add]; exact hm) hb.size
  exact ⟨av, L, cap, w', hl, hr, ho, hb.trans hb'.out⟩

/-- bytes of the call's own, or none -/
def OwnBytes (w : World) (l : List UInt8) (e : Ending) (w' : World) : Prop :=
  ∃ a c, e = .returned (.slice a l.length c) ∧ Bytes w' (.slice a l.length c) l ∧ (l ≠ [] → w'.ownsRow w.heap.size 5 1 (.slice a l.length c) l.length (byteVals l)) ∧ Below w.heap.size w w'

set_option maxRecDepth 100000 in
theorem clone_any (v : Value) (l : List UInt8) (w : World) (h : Bytes w v l) (hl : l.length ≤ 1000000) :
    Calls Try.prog 31 #[v] w (OwnBytes w l) := by
  rcases id h with ⟨rfl, rfl⟩ | ⟨x, cap, rfl, -, -, -⟩
  · have he : ∀ w : World, (binOp .eql 29 (.slice none 0 0) (.slice none 0 0)).run Try.prog w = .ok (.bool true) w := fun _ => rfl
    go_enter Try.func31, Try.ntmps31
    go_wp2_with fail
    go_ret
    exact ⟨none, 0, rfl, .nil _, fun h => absurd rfl h, Below.refl _ _⟩
  · obtain ⟨av, L, cp, w', rfl, HR, HO, HB⟩ := copy_new h hl
    clear h
    have he : ∀ w : World, (binOp .eql 29 (.slice (some x) l.length cap) (.slice none 0 0)).run Try.prog w = .ok (.bool false) w := fun _ => rfl
    go_enter Try.func31, Try.ntmps31
    go_wp2_with (first
      | (at_builtin; refine Lib.wpList_append_run _ rfl (.tmp 5) (.tmp 6) _ _ rfl _ _ rfl rfl _ _ HR.out ?_))
    go_ret
    exact ⟨_, _, rfl, own_bytes HO.out, fun _ => HO.out, HB.out⟩

end Go.Proofs.Ytddcdhmeknkphaa.Dk
