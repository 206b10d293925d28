/- 'tailracelaw03.CrcJoins' returns true for every input and leaves its input as it was: the row, out of the walk; no condition. -/
import Derived.Test.YtamhpblmoojabaaRows
import Derived.Test.YtamhpblmoojabaaCrcLaws2
import Derived.Test.YtamhpblmoojabaaOpen
namespace Go.Proofs.Ytamhpblmoojabaa.crcJoins
open Go.ChangeShapes Go.WideShapes Go.ChangeAt Go.RowKit
set_option linter.unusedVariables false

theorem own : ownKnob Try.prog.godebug = none := by kernel_rfl
theorem laidOut : laidOutB Try.prog = true := by kernel_rfl

set_option maxRecDepth 100000 in
theorem lifted (os : Os) (started : os.Started) (H : Type) (enc : TypeId × Value → H) :
    ReturnsInHanded {} Try.checked os 5 .any (Rows.crcJoinsSpec.pre6 enc Try.prog Try.f5 Rows.crcJoinsRow.domain false) (Rows.crcJoinsSpec.post enc Try.prog Try.f5 false true false false) := by
  refine returnsInHanded_of_change (C := Try.checked) own started (by kernel_rfl) Try.func5
    (ChangeSpec.witness6 (enc := enc) (C := Try.checked) false ⟨#[], #[.int .u32 0, .slice none 0 0, .slice none 0 0], []⟩ 8 (by kernel_rfl) (by kernel_rfl) (by kernel_rfl) (by kernel_rfl)) ?_
  intro W base args ds gs before hval0 hW hcnd _
  have hval : ∀ (j : Nat) t v, Try.f5.params[j]? = some t → args[j]? = some v → Value.okWide Try.prog W .any base t v := hval0
  have hW' := hW
  obtain ⟨p, q, hA0, hV, rfl, hfz, hnd⟩ := hW
  have hA : DataW.TrodAll enc Try.prog W 0 (fun _ => true) true Try.f5.params.toList args.toList ds p := hA0
  rw [Try.params5] at hA hval
  obtain ⟨v0, vs0, d0, ds0, p0, q0, hargs, rfl, rfl, h0, r0⟩ := trodAll_cons hA
  obtain ⟨v1, vs1, d1, ds1, p1, q1, rfl, rfl, rfl, h1, r1⟩ := trodAll_cons r0
  obtain ⟨v2, vs2, d2, ds2, p2, q2, rfl, rfl, rfl, h2, r2⟩ := trodAll_cons r1
  obtain ⟨rfl, rfl, rfl⟩ := trodAll_nil r2
  obtain rfl : args = #[v0, v1, v2] := by cases args; simp_all
  obtain ⟨rfl, rfl⟩ := trodVars_none hV
  obtain ⟨a0, rfl, rfl, rfl, w0⟩ := open_int Try.underlying23 (hval 0 23 v0 rfl rfl) h0
  obtain ⟨x0, rfl⟩ := u32_of_wf w0
  have k1 := h1
  have lt1 := trod_lt' h1
  obtain ⟨l1, b1⟩ := open_bytes Try.underlying26 Try.underlying5 (by kernel_rfl) (okWide_slice Try.underlying26 (hval 1 26 v1 rfl rfl)) h1
  have k2 := h2
  have lt2 := trod_lt' h2
  obtain ⟨l2, b2⟩ := open_bytes Try.underlying26 Try.underlying5 (by kernel_rfl) (okWide_slice Try.underlying26 (hval 2 26 v2 rfl rfl)) h2
  clear hA0 hval0
  refine (crcJoins_walk x0 v1 l1 v2 l2 W b1 b2).mono fun e W' ⟨he, bel⟩ => ?_
  subst he
  exact ⟨_, rfl, _, _, _, [], _, [], hW', trodAll_mk1 (shut_bool Try.underlying4 _), (trodAll_cons_mk (shut_int Try.underlying23 w0) (trodAll_cons_mk (Below.trod laidOut (by kernel_rfl) (of_decide_eq_true (by kernel_rfl)) k1 bel lt1) (trodAll_cons_mk (Below.trod laidOut (by kernel_rfl) (of_decide_eq_true (by kernel_rfl)) k2 bel lt2) trodAll_mk0))), rfl, bel.frame _, fun h => by cases h⟩

theorem over : Rows.crcJoinsRow.holds Try.pinned (OpenSpec.ofChange Rows.crcJoinsSpec) :=
  OpenClaim.holds_of_wide 5 Try.f5 rfl rfl rfl rfl rfl rfl rfl ⟨rfl, rfl, rfl, rfl, rfl⟩ rfl rfl rfl rfl rfl (by kernel_rfl) Try.func5 (by kernel_rfl)
    (of_decide_eq_true (by kernel_rfl)) (by unfold Func.isWrapper; first | (rw [if_pos (by decide +kernel)]; kernel_rfl) | (rw [if_neg (by decide +kernel)]; exact ⟨rfl, rfl⟩))
    (fun os started H enc _ => lifted os started H enc)

end Go.Proofs.Ytamhpblmoojabaa.crcJoins

namespace Go.Proofs.Ytamhpblmoojabaa
theorem crcJoins_holds : Rows.CrcJoinsSaid := crcJoins.over
#print axioms crcJoins_holds
end Go.Proofs.Ytamhpblmoojabaa
