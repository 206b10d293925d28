/- Walks of package disk: New, Flush, Turn. -/
import Derived.Test.YtddcdhmeknkphaaDskWrite
import Derived.Test.YtddcdhmeknkphaaMap2
import Derived.StillTailTactics
namespace Go.Proofs.Ytddcdhmeknkphaa
open Go.RowKit

theorem ext_look (s : Dsk.St) (F : Int → Option (List UInt8)) (hF : ∀ n : Nat, s.L n = (F n).getD []) (n : Nat) : (both F (ext s.W) n).getD [] = s.look n := by
  unfold both Dsk.St.look
  rw [ext_nat, hF n]
  cases s.W n <;> rfl

/-- all that waits lasts -/
theorem DskAt.settle {w w1 w2 : World} {d bl bw : Nat} {s : Dsk.St} (h : DskAt w d bl bw s) (F : Int → Option (List UInt8)) (hm : MapAt w1 bl (both F (ext s.W))) (e : ∀ n : Nat, s.L n = (F n).getD []) (dom : ∀ k l, F k = some l → 0 ≤ k ∧ k < s.size) (c1 : Chg [bl] w w1) (hw : MapAt w2 bw (fun _ => none)) (c2 : Chg [bw] w1 w2) :
    DskAt w2 d bl bw { s with L := s.look, W := fun _ => none } ∧ Chg [d, bl, bw] w w2 := by
  have hnw : ∀ k ∈ [bw], NoU8 w1 k := by
    intro k hk
    simp only [List.mem_singleton] at hk
    subst hk
    obtain ⟨es, c, hb⟩ := h.waits.block
    exact noU8_map ((c1.block _ (lt_of_block hb) (by simpa using h.ne.symm)).trans hb)
  have t1 := (c1.block d (lt_of_block h.top) (by simpa using h.ne_l)).trans h.top
  refine ⟨⟨(c2.block d (lt_of_block t1) (by simpa using h.ne_w)).trans t1, ⟨both F (ext s.W), hm.kept c2 hnw (by simpa using h.ne), fun n => (ext_look s F e n).symm, fun k l hk => ?_⟩, by rw [ext_none]; exact hw, ?_, h.ne⟩, (c1.mono (by simp)).trans (c2.mono (by simp))⟩
  · unfold both at hk
    split at hk
    · rename_i m hm'; exact ext_dom h.ok k m hm'
    · exact dom k l hk
  · refine ⟨h.ok.lo, h.ok.hi, h.ok.f0, h.ok.f1, h.ok.f2, fun k hk => ?_, fun _ _ => rfl, fun k => Dsk.St.look_len h.ok k, fun _ _ hc => by cases hc⟩
    simp only at hk ⊢
    unfold Dsk.St.look
    rw [h.ok.offW k hk, h.ok.offL k hk]; rfl

set_option maxRecDepth 100000 in
set_option maxHeartbeats 4000000 in
theorem flush_any {w : World} {d bl bw : Nat} {s : Dsk.St} (h : DskAt w d bl bw s) :
    Calls Try.prog 13 #[.pointer (some ⟨d, 0, none⟩)] w (Turns w d bl bw (s.flush).2 (.int .i64 (s.flush).1)) := by
  have hU := use_any h 0
  have hin : s.inside 0 = true := Dsk.St.inside_iff.2 ⟨by omega, by have := h.ok.lo; omega⟩
  cases hdn : s.down with
  | true =>
    have e : s.flush = (40, s) := by unfold Dsk.St.flush; rw [hdn]; rfl
    have e2 : s.use 0 = 40 := by unfold Dsk.St.use; rw [hdn]; rfl
    rw [e]
    rw [e2] at hU
    have H := Lib.hid h
    clear h e e2 hin hdn
    go_enter Try.func13, Try.ntmps13
    go_wp2_with fail
    refine hU.mono ?_
    rintro e w' ⟨rfl, rfl⟩
    go_wp2_with fail
    go_ret
    exact ⟨rfl, H.out, Chg.refl _ _⟩
  | false =>
    have e2 : s.use 0 = 0 := by unfold Dsk.St.use; rw [hdn, hin]; rfl
    rw [e2] at hU
    have hA := act_any h
    cases hbk : s.blocked with
    | true =>
      have e : s.flush = (40, s.act) := by unfold Dsk.St.flush; rw [hdn, hbk]; rfl
      rw [e]
      rw [hbk] at hA
      clear h e hin hdn hbk e2
      go_enter Try.func13, Try.ntmps13
      go_wp2_with fail
      refine hU.mono ?_
      rintro e w' ⟨rfl, rfl⟩
      go_wp2_with fail
      refine hA.mono ?_
      rintro e w1 ⟨rfl, hD, hC⟩
      have D1 := Lib.hid hD
      have C1 := Lib.hid hC
      clear hA hU hD hC
      go_wp2_with fail
      go_ret
      exact ⟨rfl, D1.out, C1.out⟩
    | false =>
      have e : s.flush = (0, { s.act with L := s.look, W := fun _ => none }) := by unfold Dsk.St.flush; rw [hdn, hbk]; rfl
      have e3 : ({ s.act with L := s.look, W := fun _ => none } : Dsk.St) = { s.act with L := s.act.look, W := fun _ => none } := by
        have : s.act.look = s.look := by funext n; unfold Dsk.St.look; rw [Dsk.St.act_L, Dsk.St.act_W]
        rw [this]
      rw [e]
      simp only [e3]
      rw [hbk] at hA
      generalize s.act = s1 at *
      obtain ⟨t, HT⟩ : ∃ t : Dsk.St, Hid (({ s1 with L := s1.look, W := fun _ => none } : Dsk.St) = t) := ⟨_, rfl⟩
      rw [HT.out]
      clear h e hin hdn hbk e2 e3
      go_enter Try.func13, Try.ntmps13
      go_wp2_with fail
      refine hU.mono ?_
      rintro e w' ⟨rfl, rfl⟩
      go_wp2_with fail
      refine hA.mono ?_
      rintro e w1 ⟨rfl, hD, hC⟩
      have D1 := Lib.hid hD
      have C1 := Lib.hid hC
      obtain ⟨-, c1, c2, -, -, -⟩ := hD.cells
      clear hA hU hD hC
      go_wp2_with fail
      have hD2 : DskAt w1.drew d bl bw s1 := D1.out.kept (Chg.refl [] w1).drew (fun _ hk => by cases hk) (by simp)
      have D2 := Lib.hid hD2
      have C2 : Hid (Chg [d, bl, bw] w w1.drew) := C1.out.drew
      obtain ⟨F, hF, hFe, hFd⟩ := hD2.lasts
      have hcopy := copy_any hF hD2.waits hD2.ne
      have HFE := Lib.hid hFe
      have HFD := Lib.hid hFd
      go_still_tail 8, (by kernel_rfl)
      change wpList _ _ _ _ _ w1.drew
      clear c1 c2 D1 C1 hD2 hFe hFd
      generalize w1.drew = w2 at *
      go_wp2_with fail
      refine hcopy.mono ?_
      rintro e w3 ⟨rfl, hl3, hw3, hC3⟩
      have HL3 := Lib.hid hl3
      have C3 := Lib.hid hC3
      obtain ⟨w4, hr4, hw4, hC4⟩ := hw3.clear 0
      have HR4 := Lib.hid hr4
      have HW4 := Lib.hid hw4
      have C4 := Lib.hid hC4
      have k2 : w3.cell? ⟨d, 2, none⟩ = some (.map (some bw)) := by
        have h2 := D2.out.cells.2.2.1
        rw [← h2]
        exact World.cell?_of_block (w := w2) (hC3.block d (lt_of_block D2.out.top) (by simpa using D2.out.ne_l))
      clear hcopy hl3 hw3 hC3 hr4 hw4 hC4 hF
      go_wp2_with (first
        | (refine wpList_clear_run _ rfl (.tmp 27) _ rfl _ rfl _ HR4.out ?_))
      go_ret
      obtain ⟨x1, x2⟩ := D2.out.settle F HL3.out HFE.out HFD.out C3.out HW4.out C4.out
      rw [HT.out] at x1
      exact ⟨rfl, x1, C2.out.trans x2⟩

end Go.Proofs.Ytddcdhmeknkphaa
