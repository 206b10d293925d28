/- Walks of package disk: use, act, holds, Fuse, Down, Size. -/
import Derived.Test.YtddcdhmeknkphaaDskRep
import Derived.BigQuiet
import Derived.Deep.QuietTactic
namespace Go.Proofs.Ytddcdhmeknkphaa
open Go.RowKit

set_option maxHeartbeats 1000000 in
theorem use_any {w : World} {d bl bw : Nat} {s : Dsk.St} (h : DskAt w d bl bw s) (n : Int) :
    Calls Try.prog 27 #[.pointer (some ⟨d, 0, none⟩), .int .i64 n] w fun e w' => e = .returned (.int .i64 (s.use n)) ∧ w = w' := by
  obtain ⟨c0, -, -, c3, -, -⟩ := h.cells
  have hi := h.ok.hi
  cases hd : s.down with
  | true =>
    rw [hd] at c3
    have e : s.use n = 40 := by unfold Dsk.St.use; rw [hd]; rfl
    rw [e]
    clear hd h e
    go_enter Try.func27, Try.ntmps27
    go_wp2_with fail
    go_ret
    exact ⟨rfl, rfl⟩
  | false =>
    rw [hd] at c3
    by_cases h0 : n < 0
    · have e : s.use n = 41 := by
        unfold Dsk.St.use
        rw [hd, Dsk.St.inside_not.2 (by omega)]; rfl
      rw [e]
      clear hd h e
      go_enter Try.func27, Try.ntmps27
      go_wp2_with fail
      go_ret
      exact ⟨rfl, rfl⟩
    · by_cases h1 : (s.size : Int) ≤ n
      · have e : s.use n = 41 := by
          unfold Dsk.St.use
          rw [hd, Dsk.St.inside_not.2 (by omega)]; rfl
        rw [e]
        clear hd h e
        go_enter Try.func27, Try.ntmps27
        go_wp2_with fail
        go_ret
        exact ⟨rfl, rfl⟩
      · have e : s.use n = 0 := by
          unfold Dsk.St.use
          rw [hd, Dsk.St.inside_iff.2 (by omega)]; rfl
        rw [e]
        clear hd h e
        go_enter Try.func27, Try.ntmps27
        go_wp2_with fail
        go_ret
        exact ⟨rfl, rfl⟩

theorem use_nil (n : Int) (w : World) :
    Calls Try.prog 27 #[.pointer none, .int .i64 n] w fun e w' => e = .returned (.int .i64 1) ∧ w = w' := by
  go_enter Try.func27, Try.ntmps27
  go_wp2_with fail
  go_ret
  exact ⟨rfl, rfl⟩

/-- a call that turns a disk into another -/
def Turns (w : World) (d bl bw : Nat) (t : Dsk.St) (v : Value) (e : Ending) (w' : World) : Prop := e = .returned v ∧ DskAt w' d bl bw t ∧ Chg [d, bl, bw] w w'

theorem ok_down {s : Dsk.St} (h : s.Ok) : Dsk.St.Ok { s with down := true } := ⟨h.lo, h.hi, h.f0, h.f1, h.f2, h.offL, h.offW, h.lenL, h.lenW⟩

set_option maxHeartbeats 1000000 in
theorem act_any {w : World} {d bl bw : Nat} {s : Dsk.St} (h : DskAt w d bl bw s) :
    Calls Try.prog 28 #[.pointer (some ⟨d, 0, none⟩)] w (Turns w d bl bw s.act (.int .i64 (if s.blocked then 40 else 0))) := by
  obtain ⟨c0, -, -, c3, c4, c5⟩ := h.cells
  have f1 := h.ok.f1
  have f2 := h.ok.f2
  have fz3 : w.frozen? ⟨d, 3, none⟩ = false := frozen_of_row _ _ _ _ _ h.top
  have fz5 : w.frozen? ⟨d, 5, none⟩ = false := frozen_of_row _ _ _ _ _ h.top
  cases hf : s.fused with
  | false =>
    have e : s.blocked = false := by unfold Dsk.St.blocked; rw [hf]; rfl
    have e2 : s.act = s := by unfold Dsk.St.act; rw [e, hf]; rfl
    rw [e, e2]
    rw [hf] at c4
    have H := Lib.hid h
    clear h e e2 hf
    go_enter Try.func28, Try.ntmps28
    go_wp2_with fail
    go_ret
    exact ⟨rfl, H.out, Chg.refl _ _⟩
  | true =>
    have f0 := h.ok.f0 hf
    rw [hf] at c4
    by_cases hz : s.fuse = 0
    · have e : s.blocked = true := by unfold Dsk.St.blocked; rw [hf, hz]; rfl
      have e2 : s.act = { s with down := true } := by unfold Dsk.St.act; rw [e]; rfl
      rw [e, e2]
      rw [hz] at c5
      have HT := Lib.hid (h.setTop (t := { s with down := true }) 3 (.bool true) rfl (ok_down h.ok) rfl rfl rfl)
      clear h e e2 hf hz f0 f1 f2
      go_enter Try.func28, Try.ntmps28
      go_wp2_with fail
      go_ret
      exact ⟨rfl, HT.out.1, HT.out.2⟩
    · have e : s.blocked = false := by unfold Dsk.St.blocked; rw [hf]; simp [hz]
      have e2 : s.act = { s with fuse := s.fuse - 1 } := by unfold Dsk.St.act; rw [e, hf]; rfl
      have hok : Dsk.St.Ok { s with fuse := s.fuse - 1 } := by rw [← e2]; exact Dsk.St.ok_act h.ok
      have HT := Lib.hid (h.setTop (t := { s with fuse := s.fuse - 1 }) 5 (.int .i64 (s.fuse - 1)) rfl hok rfl rfl rfl)
      rw [e, e2]
      generalize s.fuse = f at *
      have nz : (f == 0) = false := beq_eq_false_iff_ne.2 hz
      clear h e e2 hf hok
      go_enter Try.func28, Try.ntmps28
      go_wp2_with fail
      go_ret
      exact ⟨rfl, HT.out.1, HT.out.2⟩

set_option maxHeartbeats 1000000 in
/-- what a sector holds, and where that stands -/
theorem holds_any {w : World} {d bl bw : Nat} {s : Dsk.St} (h : DskAt w d bl bw s) {n : Int} (hn : s.inside n = true) :
    Calls Try.prog 30 #[.pointer (some ⟨d, 0, none⟩), .int .i64 n] w fun e w' => ∃ v, e = .returned (.tuple #[v, .map (some (if (s.W n.toNat).isSome then bw else bl))]) ∧ Bytes w' v (s.look n.toNat) ∧ Below w.heap.size w w' := by
  obtain ⟨-, c1, c2, -, -, -⟩ := h.cells
  obtain ⟨v, u, r1, b1, r2, b2⟩ := h.look hn
  have R1 := r1 w rfl
  have R2 := r2 w.drew rfl
  cases hw : s.W n.toNat with
  | some b =>
    rw [hw] at R1 b1
    have HB : Hid (Bytes w v (s.look n.toNat)) := by unfold Hid Dsk.St.look; rw [hw]; exact b1
    simp only [Option.isSome_some, if_true] at R1 ⊢
    clear h r1 r2 R2 b1 b2 hn hw
    go_enter Try.func30, Try.ntmps30
    go_wp2_with fail
    go_region
    all_goals go_wp2_with fail
    all_goals go_ret2
    all_goals exact ⟨v, rfl, HB.out, (Below.refl _ _).drew⟩
  | none =>
    rw [hw] at R1 b1
    have HB : Hid (Bytes w u (s.look n.toNat)) := by unfold Hid Dsk.St.look; rw [hw]; exact b2
    simp only [Option.isSome_none, Bool.false_eq_true, if_false] at R1 ⊢
    clear h r1 r2 b1 b2 hn hw
    go_enter Try.func30, Try.ntmps30
    go_wp2_with fail
    go_region
    all_goals go_wp2_with fail
    all_goals go_ret2
    all_goals exact ⟨u, rfl, HB.out, (Below.refl _ _).drew⟩

set_option maxHeartbeats 1000000 in
theorem fuse_any {w : World} {d bl bw : Nat} {s : Dsk.St} (h : DskAt w d bl bw s) (k : Int) (hk : inI64 k) :
    Calls Try.prog 11 #[.pointer (some ⟨d, 0, none⟩), .int .i64 k] w (Turns w d bl bw (s.fuseAt k) (.tuple #[])) := by
  have fz4 : w.frozen? ⟨d, 4, none⟩ = false := frozen_of_row _ _ _ _ _ h.top
  have fz5 : w.frozen? ⟨d, 5, none⟩ = false := frozen_of_row _ _ _ _ _ h.top
  obtain ⟨-, -, -, -, c4, c5⟩ := h.cells
  have hr : ((w.setCell ⟨d, 4, none⟩ (.bool (decide (0 ≤ k)))).setCell ⟨d, 5, none⟩ (.int .i64 k)).heap[d]? = some (.cells (topCells bl bw (s.fuseAt k)) 61 (0, 0)) := by
    rw [heap_setCell_same _ _ _ _ _ _ (heap_setCell_same _ _ _ _ _ _ h.top)]
    rfl
  have HT := Lib.hid (h.reTop (t := s.fuseAt k) (((Chg.refl [d] w).setCell (.inl (by simp)) _).setCell (.inl (by simp)) _) hr (Dsk.St.ok_fuseAt h.ok k hk.1 hk.2) rfl rfl rfl)
  clear h hr
  by_cases h0 : 0 ≤ k
  · rw [decide_eq_true h0] at HT
    go_enter Try.func11, Try.ntmps11
    go_wp2_with fail
    go_end0
    exact ⟨rfl, HT.out.1, HT.out.2⟩
  · rw [decide_eq_false h0] at HT
    go_enter Try.func11, Try.ntmps11
    go_wp2_with fail
    go_end0
    exact ⟨rfl, HT.out.1, HT.out.2⟩

theorem down_any {w : World} {d bl bw : Nat} {s : Dsk.St} (h : DskAt w d bl bw s) :
    Calls Try.prog 14 #[.pointer (some ⟨d, 0, none⟩)] w fun e w' => e = .returned (.bool s.down) ∧ w = w' := by
  obtain ⟨-, -, -, c3, -, -⟩ := h.cells
  clear h
  go_enter Try.func14, Try.ntmps14
  go_wp2_with fail
  go_ret
  exact ⟨rfl, rfl⟩

theorem size_any {w : World} {d bl bw : Nat} {s : Dsk.St} (h : DskAt w d bl bw s) :
    Calls Try.prog 24 #[.pointer (some ⟨d, 0, none⟩)] w fun e w' => e = .returned (.int .i64 (s.size : Int)) ∧ w = w' := by
  obtain ⟨c0, -, -, -, -, -⟩ := h.cells
  clear h
  go_enter Try.func24, Try.ntmps24
  go_wp2_with fail
  go_ret
  exact ⟨rfl, rfl⟩

end Go.Proofs.Ytddcdhmeknkphaa
