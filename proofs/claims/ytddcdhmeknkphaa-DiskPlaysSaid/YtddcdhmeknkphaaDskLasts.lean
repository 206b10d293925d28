/- Walks of package disk: Lasts, Waits; calls on none. -/
import Derived.Test.YtddcdhmeknkphaaDskHeld
namespace Go.Proofs.Ytddcdhmeknkphaa
open Go.RowKit

theorem heldOf_keys (n : Nat) (F : Int → Option (List UInt8)) (all : Bool) : heldOf F all (keysOf n F) = ((List.range n).filter fun (k : Nat) => (F (k : Int)).isSome && heldOne F all k).map fun (k : Nat) => ((k : Int), (F (k : Int)).getD []) := by
  unfold heldOf keysOf
  rw [List.filter_map, List.filter_filter, List.map_map]
  congr 1
  apply List.filter_congr
  intro k _
  simp [Bool.and_comm]

theorem held_lasts (s : Dsk.St) (F : Int → Option (List UInt8)) (hF : ∀ n : Nat, s.L n = (F n).getD []) : heldOf F false (keysOf s.size F) = s.lastsL := by
  rw [heldOf_keys]
  unfold Dsk.St.lastsL
  have e1 : ((List.range s.size).filter fun (k : Nat) => (F (k : Int)).isSome && heldOne F false k) = (List.range s.size).filter fun n => !(s.L n).isEmpty := by
    apply List.filter_congr
    intro k _
    unfold heldOne
    rw [hF k]
    cases F (k : Int) <;> simp
  rw [e1]
  apply List.map_congr_left
  intro k _
  rw [hF k]

theorem held_waits (s : Dsk.St) : heldOf (ext s.W) true (keysOf s.size (ext s.W)) = s.waitsL := by
  rw [heldOf_keys]
  unfold Dsk.St.waitsL
  have e1 : ((List.range s.size).filter fun (k : Nat) => (ext s.W (k : Int)).isSome && heldOne (ext s.W) true k) = (List.range s.size).filter fun n => (s.W n).isSome := by
    apply List.filter_congr
    intro k _
    rw [ext_nat]
    simp [heldOne]
  rw [e1]
  apply List.map_congr_left
  intro k _
  rw [ext_nat]

set_option maxHeartbeats 1000000 in
theorem lasts_any {w : World} {d bl bw : Nat} {s : Dsk.St} (h : DskAt w d bl bw s) :
    Calls Try.prog 26 #[.pointer (some ⟨d, 0, none⟩)] w (HeldAns s.lastsL w) := by
  obtain ⟨-, c1, -, -, -, -⟩ := h.cells
  obtain ⟨F, hF, h1, h2⟩ := h.lasts
  have hh := held_any hF false s.size h2 h.ok.hi (fun k l hk => by
    have := h2 k l hk
    have e := h1 k.toNat
    rw [show ((k.toNat : Nat) : Int) = k by omega, hk] at e
    have := h.ok.lenL k.toNat
    rw [e] at this
    exact this)
  rw [held_lasts s F h1] at hh
  clear h hF h1 h2
  generalize s.lastsL = l at *
  go_enter Try.func26, Try.ntmps26
  go_wp2_with fail
  refine hh.mono ?_
  rintro e w1 ⟨a, c, rfl, hr, hb⟩
  have HR := Lib.hid hr
  have HB := Lib.hid hb
  clear hh hr hb
  go_wp2_with fail
  go_ret
  exact ⟨a, c, rfl, HR.out, HB.out⟩

set_option maxHeartbeats 1000000 in
theorem waits_any {w : World} {d bl bw : Nat} {s : Dsk.St} (h : DskAt w d bl bw s) :
    Calls Try.prog 19 #[.pointer (some ⟨d, 0, none⟩)] w (HeldAns s.waitsL w) := by
  obtain ⟨-, -, c2, -, -, -⟩ := h.cells
  have hh := held_any h.waits true s.size (ext_dom h.ok) h.ok.hi (fun k l hk => by
    obtain ⟨k0, k1⟩ := ext_dom h.ok k l hk
    rw [ext_pos _ k0] at hk
    exact h.ok.lenW _ _ hk)
  rw [held_waits s] at hh
  clear h
  generalize s.waitsL = l at *
  go_enter Try.func19, Try.ntmps19
  go_wp2_with fail
  refine hh.mono ?_
  rintro e w1 ⟨a, c, rfl, hr, hb⟩
  have HR := Lib.hid hr
  have HB := Lib.hid hb
  clear hh hr hb
  go_wp2_with fail
  go_ret
  exact ⟨a, c, rfl, HR.out, HB.out⟩

theorem lasts_nil (w : World) : Calls Try.prog 26 #[.pointer none] w fun e w' => e = .returned (.slice none 0 0) ∧ w = w' := by
  go_enter Try.func26, Try.ntmps26
  go_wp2_with fail
  go_ret
  exact ⟨rfl, rfl⟩
theorem waits_nil (w : World) : Calls Try.prog 19 #[.pointer none] w fun e w' => e = .returned (.slice none 0 0) ∧ w = w' := by
  go_enter Try.func19, Try.ntmps19
  go_wp2_with fail
  go_ret
  exact ⟨rfl, rfl⟩
theorem read_nil (n : Int) (w : World) : Calls Try.prog 17 #[.pointer none, .int .i64 n] w fun e w' => e = .returned (.tuple #[.slice none 0 0, .int .i64 1]) ∧ w = w' := by
  go_enter Try.func17, Try.ntmps17
  go_wp2_with (first | (go_at_call 27; refine (use_nil n _).mono ?_; rintro e w' ⟨rfl, rfl⟩))
  go_ret2
  exact ⟨rfl, rfl⟩
theorem write_nil (n : Int) (v : Value) (w : World) : Calls Try.prog 12 #[.pointer none, .int .i64 n, v] w fun e w' => e = .returned (.int .i64 1) ∧ w = w' := by
  go_enter Try.func12, Try.ntmps12
  go_wp2_with (first | (go_at_call 27; refine (use_nil n _).mono ?_; rintro e w' ⟨rfl, rfl⟩))
  go_ret
  exact ⟨rfl, rfl⟩
theorem flush_nil (w : World) : Calls Try.prog 13 #[.pointer none] w fun e w' => e = .returned (.int .i64 1) ∧ w = w' := by
  go_enter Try.func13, Try.ntmps13
  go_wp2_with (first | (go_at_call 27; refine (use_nil 0 _).mono ?_; rintro e w' ⟨rfl, rfl⟩))
  go_ret
  exact ⟨rfl, rfl⟩
theorem fuse_nil (k : Int) (w : World) : Calls Try.prog 11 #[.pointer none, .int .i64 k] w fun e w' => e = .returned (.tuple #[]) ∧ w = w' := by
  go_enter Try.func11, Try.ntmps11
  go_wp2_with fail
  go_end0
  exact ⟨rfl, rfl⟩
theorem down_nil (w : World) : Calls Try.prog 14 #[.pointer none] w fun e w' => e = .returned (.bool false) ∧ w = w' := by
  go_enter Try.func14, Try.ntmps14
  go_wp2_with fail
  go_ret
  exact ⟨rfl, rfl⟩
theorem size_nil (w : World) : Calls Try.prog 24 #[.pointer none] w fun e w' => e = .returned (.int .i64 0) ∧ w = w' := by
  go_enter Try.func24, Try.ntmps24
  go_wp2_with fail
  go_ret
  exact ⟨rfl, rfl⟩
theorem turn_nil (n at_ x : Int) (w : World) : Calls Try.prog 25 #[.pointer none, .int .i64 n, .int .i64 at_, .int .u8 x] w fun e w' => e = .returned (.int .i64 1) ∧ w = w' := by
  go_enter Try.func25, Try.ntmps25
  go_wp2_with fail
  go_ret
  exact ⟨rfl, rfl⟩

end Go.Proofs.Ytddcdhmeknkphaa
