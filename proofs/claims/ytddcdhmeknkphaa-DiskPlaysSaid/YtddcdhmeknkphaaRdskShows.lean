/- The walk of 'Shows' of the disk's statements. -/
import Derived.Test.YtddcdhmeknkphaaRdskDid
import Derived.Test.YtddcdhmeknkphaaDskLasts
import Derived.Test.YtddcdhmeknkphaaDskPlain4
namespace Go.Proofs.Ytddcdhmeknkphaa
open Go.RowKit

set_option maxRecDepth 100000 in
set_option maxHeartbeats 8000000 in
theorem shows4_any {w : World} {d bl bw r bL bW bI : Nat} {s : Dsk.St} (h : BothD w d bl bw r bL bW bI s) :
    Calls Try.prog 23 #[.pointer (some ⟨d, 0, none⟩), .pointer (some ⟨r, 0, none⟩)] w fun e w' => e = .returned (.bool true) ∧ Below w.heap.size w w' := by
  have h1 := lasts_any h.a
  have hL : s.lastsL.length ≤ 1000000 := by have := Dsk.St.lasts_len s; have := h.a.ok.hi; omega
  have hW : s.waitsL.length ≤ 1000000 := by have := Dsk.St.waits_len s; have := h.a.ok.hi; omega
  have HL := Lib.hid hL
  have HW := Lib.hid hW
  have H := Lib.hid h
  have H1 := Lib.hid h1
  clear h h1 hL hW
  go_enter Try.func23, Try.ntmps23
  go_wp2_with fail
  refine H1.out.mono ?_
  rintro e w1 ⟨a1, c1, rfl, hr, hB⟩
  have B1 := Lib.hid hB
  have x1 := Lib.hid hr.helds
  have BD := Lib.hid (H.out.below hB)
  clear hr hB
  go_wp2_with fail
  refine (rlasts_any BD.out.b).mono ?_
  rintro e w2 ⟨a2, c2, rfl, hr, hB⟩
  have B2 := hid_trans B1 hB
  have x1 := Lib.hid (x1.out.below hB)
  have x2 := Lib.hid hr
  have BD := Lib.hid (BD.out.below hB)
  clear hr hB
  go_wp2_with fail
  refine (rsame_any x1.out x2.out HL.out).mono ?_
  rintro e w3 ⟨rfl, hB⟩
  rw [decide_eq_true rfl]
  have B3 := hid_trans B2 hB
  have BD := Lib.hid (BD.out.below hB)
  clear hB x1 x2
  go_wp2_with fail
  have hwt := waits_any BD.out.a
  refine hwt.mono ?_
  rintro e w1' ⟨a3, c3, rfl, hr, hB⟩
  have B1 := hid_trans B3 hB
  have x1 := Lib.hid hr.helds
  have BD := Lib.hid (BD.out.below hB)
  clear hr hB hwt
  go_wp2_with fail
  refine (rwaits_any BD.out.b).mono ?_
  rintro e w2' ⟨a4, c4, rfl, hr, hB⟩
  have B2 := hid_trans B1 hB
  have x1 := Lib.hid (x1.out.below hB)
  have x2 := Lib.hid hr
  have BD := Lib.hid (BD.out.below hB)
  clear hr hB
  go_wp2_with fail
  refine (rsame_any x1.out x2.out HW.out).mono ?_
  rintro e w3' ⟨rfl, hB⟩
  rw [decide_eq_true rfl]
  have B4 := hid_trans B2 hB
  have BD := Lib.hid (BD.out.below hB)
  clear hB x1 x2
  go_wp2_with fail
  refine wp_region_sp (by kernel_rfl) (low_of_check (by kernel_rfl)) [.is (.bool true), .is (.bool true), .is (.bool true), .is (.bool true), .is (.bool true), .is (.pointer (some ⟨d, 0, none⟩)), .is (.bool s.down), .is (.pointer (some ⟨r, 0, none⟩)), .is (.pointer (some ⟨r, 0, none⟩)), .is (.pointer (some ⟨r, 3, none⟩)), .is (.bool s.down), .is (.bool true), .is (.bool true), .is (.bool true), .is (.pointer (some ⟨d, 0, none⟩)), .is (.int .i64 (s.size : Int)), .is (.pointer (some ⟨r, 0, none⟩)), .is (.pointer (some ⟨r, 0, none⟩)), .is (.pointer (some ⟨r, 0, none⟩)), .is (.slice (some ⟨bL, 0, none⟩) s.size s.size), .is (.int .i64 (s.size : Int)), .is (.bool true), .is (.bool true), .is (.bool true)] (by kernel_rfl) ?_ ?_
  · intro L st wx i o h ho hl he
    have hi : i < 24 := (Array.getElem?_eq_some_iff.1 ho).1
    rcases (by omega : i = 0 ∨ i = 1 ∨ i = 2 ∨ i = 3 ∨ i = 4 ∨ i = 5 ∨ i = 6 ∨ i = 7 ∨ i = 8 ∨ i = 9 ∨ i = 10 ∨ i = 11 ∨ i = 12 ∨ i = 13 ∨ i = 14 ∨ i = 15 ∨ i = 16 ∨ i = 17 ∨ i = 18 ∨ i = 19 ∨ i = 20 ∨ i = 21 ∨ i = 22 ∨ i = 23) with rfl | rfl | rfl | rfl | rfl | rfl | rfl | rfl | rfl | rfl | rfl | rfl | rfl | rfl | rfl | rfl | rfl | rfl | rfl | rfl | rfl | rfl | rfl | rfl
    · obtain rfl := Option.some.inj ho
      have e5 : st.eval (.tmp 5) = .bool true := (h.far 5 (by kernel_rfl)).trans rfl
      have f5 := slot_get e5
      exact sp_val h (wanted_none rfl) ((.bool true)) (by simp [execOp, go_sem, Act.eval, f5]) rfl
    · obtain rfl := Option.some.inj ho
      have e17 : st.eval (.tmp 17) = (.bool true) := h.val 0 _ 17 rfl rfl (edge he 0 (by kernel_rfl))
      have f17 := slot_get e17
      exact sp_val h (wanted_none rfl) ((.bool true)) (by simp [execOp, go_sem, Act.eval, f17]) rfl
    · obtain rfl := Option.some.inj ho
      have e6 : st.eval (.tmp 6) = .bool true := (h.far 6 (by kernel_rfl)).trans rfl
      have f6 := slot_get e6
      exact sp_val h ((wanted_some rfl (yielded_of (d := 18) rfl (h.val 1 _ 18 rfl rfl (edge he 1 (by kernel_rfl))))).trans rfl) ((.bool true)) (by simp [execOp, go_sem, Act.eval, f6]) rfl
    · obtain rfl := Option.some.inj ho
      have e18 : st.eval (.tmp 18) = (.bool true) := h.val 1 _ 18 rfl rfl (edge he 1 (by kernel_rfl))
      have f18 := slot_get e18
      have e19 : st.eval (.tmp 19) = (.bool true) := h.val 2 _ 19 rfl rfl (edge he 2 (by kernel_rfl))
      have f19 := slot_get e19
      exact sp_val h (wanted_none rfl) ((.bool true)) (by simp [execOp, go_sem, Act.eval, f18, f19]) rfl
    · obtain rfl := Option.some.inj ho
      have e20 : st.eval (.tmp 20) = (.bool true) := h.val 3 _ 20 rfl rfl (edge he 3 (by kernel_rfl))
      have f20 := slot_get e20
      exact sp_val h (wanted_none rfl) ((.bool true)) (by simp [execOp, go_sem, Act.eval, f20]) rfl
    · obtain rfl := Option.some.inj ho
      have e0 : st.eval (.tmp 0) = .pointer (some ⟨d, 0, none⟩) := (h.far 0 (by kernel_rfl)).trans rfl
      have f0 := slot_get e0
      exact sp_val h ((wanted_some rfl (yielded_of (d := 21) rfl (h.val 4 _ 21 rfl rfl (edge he 4 (by kernel_rfl))))).trans rfl) ((.pointer (some ⟨d, 0, none⟩))) (by simp [execOp, go_sem, Act.eval, f0]) rfl
    · obtain rfl := Option.some.inj ho
      have e22 : st.eval (.tmp 22) = (.pointer (some ⟨d, 0, none⟩)) := h.val 5 _ 22 rfl rfl (edge he 5 (by kernel_rfl))
      have f22 := slot_get e22
      refine sp_call h ((wanted_some rfl (yielded_of (d := 21) rfl (h.val 4 _ 21 rfl rfl (edge he 4 (by kernel_rfl))))).trans rfl) (f := 14) (args := #[.pointer (some ⟨d, 0, none⟩)]) (by simp [execOp, go_sem, Act.eval, f22]) ?_
      refine (down_any (BD.out.a.below h.world)).mono ?_
      rintro e w5 ⟨rfl, rfl⟩
      exact ⟨_, rfl, rfl, Below.refl _ _⟩
    · obtain rfl := Option.some.inj ho
      have e1 : st.eval (.tmp 1) = .pointer (some ⟨r, 0, none⟩) := (h.far 1 (by kernel_rfl)).trans rfl
      have f1 := slot_get e1
      exact sp_val h ((wanted_some rfl (yielded_of (d := 21) rfl (h.val 4 _ 21 rfl rfl (edge he 4 (by kernel_rfl))))).trans rfl) ((.pointer (some ⟨r, 0, none⟩))) (by simp [execOp, go_sem, Act.eval, f1]) rfl
    · obtain rfl := Option.some.inj ho
      have e24 : st.eval (.tmp 24) = (.pointer (some ⟨r, 0, none⟩)) := h.val 7 _ 24 rfl rfl (edge he 7 (by kernel_rfl))
      have f24 := slot_get e24
      exact sp_val h ((wanted_some rfl (yielded_of (d := 21) rfl (h.val 4 _ 21 rfl rfl (edge he 4 (by kernel_rfl))))).trans rfl) ((.pointer (some ⟨r, 0, none⟩))) (by simp [execOp, go_sem, Act.eval, f24]) rfl
    · obtain rfl := Option.some.inj ho
      have e25 : st.eval (.tmp 25) = (.pointer (some ⟨r, 0, none⟩)) := h.val 8 _ 25 rfl rfl (edge he 8 (by kernel_rfl))
      have f25 := slot_get e25
      exact sp_val h ((wanted_some rfl (yielded_of (d := 21) rfl (h.val 4 _ 21 rfl rfl (edge he 4 (by kernel_rfl))))).trans rfl) ((.pointer (some ⟨r, 3, none⟩))) (by simp [execOp, go_sem, Act.eval, f25]) rfl
    · obtain rfl := Option.some.inj ho
      have e26 : st.eval (.tmp 26) = (.pointer (some ⟨r, 3, none⟩)) := h.val 9 _ 26 rfl rfl (edge he 9 (by kernel_rfl))
      have f26 := slot_get e26
      have g := (BD.out.b.below h.world).cells.2.2.2.1
      exact sp_val h ((wanted_some rfl (yielded_of (d := 21) rfl (h.val 4 _ 21 rfl rfl (edge he 4 (by kernel_rfl))))).trans rfl) (.bool s.down) (by simp [execOp, go_sem, Act.eval, f26, g]) rfl
    · obtain rfl := Option.some.inj ho
      have e23 : st.eval (.tmp 23) = (.bool s.down) := h.val 6 _ 23 rfl rfl (edge he 6 (by kernel_rfl))
      have f23 := slot_get e23
      have e27 : st.eval (.tmp 27) = (.bool s.down) := h.val 10 _ 27 rfl rfl (edge he 10 (by kernel_rfl))
      have f27 := slot_get e27
      exact sp_val h ((wanted_some rfl (yielded_of (d := 21) rfl (h.val 4 _ 21 rfl rfl (edge he 4 (by kernel_rfl))))).trans rfl) ((.bool true)) (by simp [execOp, go_sem, Act.eval, f23, f27]) rfl
    · obtain rfl := Option.some.inj ho
      have e21 : st.eval (.tmp 21) = (.bool true) := h.val 4 _ 21 rfl rfl (edge he 4 (by kernel_rfl))
      have f21 := slot_get e21
      have e28 : st.eval (.tmp 28) = (.bool true) := h.val 11 _ 28 rfl rfl (edge he 11 (by kernel_rfl))
      have f28 := slot_get e28
      exact sp_val h (wanted_none rfl) ((.bool true)) (by simp [execOp, go_sem, Act.eval, f21, f28]) rfl
    · obtain rfl := Option.some.inj ho
      have e29 : st.eval (.tmp 29) = (.bool true) := h.val 12 _ 29 rfl rfl (edge he 12 (by kernel_rfl))
      have f29 := slot_get e29
      exact sp_val h (wanted_none rfl) ((.bool true)) (by simp [execOp, go_sem, Act.eval, f29]) rfl
    · obtain rfl := Option.some.inj ho
      have e0 : st.eval (.tmp 0) = .pointer (some ⟨d, 0, none⟩) := (h.far 0 (by kernel_rfl)).trans rfl
      have f0 := slot_get e0
      exact sp_val h ((wanted_some rfl (yielded_of (d := 30) rfl (h.val 13 _ 30 rfl rfl (edge he 13 (by kernel_rfl))))).trans rfl) ((.pointer (some ⟨d, 0, none⟩))) (by simp [execOp, go_sem, Act.eval, f0]) rfl
    · obtain rfl := Option.some.inj ho
      have e31 : st.eval (.tmp 31) = (.pointer (some ⟨d, 0, none⟩)) := h.val 14 _ 31 rfl rfl (edge he 14 (by kernel_rfl))
      have f31 := slot_get e31
      refine sp_call h ((wanted_some rfl (yielded_of (d := 30) rfl (h.val 13 _ 30 rfl rfl (edge he 13 (by kernel_rfl))))).trans rfl) (f := 24) (args := #[.pointer (some ⟨d, 0, none⟩)]) (by simp [execOp, go_sem, Act.eval, f31]) ?_
      refine (size_any (BD.out.a.below h.world)).mono ?_
      rintro e w5 ⟨rfl, rfl⟩
      exact ⟨_, rfl, rfl, Below.refl _ _⟩
    · obtain rfl := Option.some.inj ho
      have e1 : st.eval (.tmp 1) = .pointer (some ⟨r, 0, none⟩) := (h.far 1 (by kernel_rfl)).trans rfl
      have f1 := slot_get e1
      exact sp_val h ((wanted_some rfl (yielded_of (d := 30) rfl (h.val 13 _ 30 rfl rfl (edge he 13 (by kernel_rfl))))).trans rfl) ((.pointer (some ⟨r, 0, none⟩))) (by simp [execOp, go_sem, Act.eval, f1]) rfl
    · obtain rfl := Option.some.inj ho
      have e33 : st.eval (.tmp 33) = (.pointer (some ⟨r, 0, none⟩)) := h.val 16 _ 33 rfl rfl (edge he 16 (by kernel_rfl))
      have f33 := slot_get e33
      exact sp_val h ((wanted_some rfl (yielded_of (d := 30) rfl (h.val 13 _ 30 rfl rfl (edge he 13 (by kernel_rfl))))).trans rfl) ((.pointer (some ⟨r, 0, none⟩))) (by simp [execOp, go_sem, Act.eval, f33]) rfl
    · obtain rfl := Option.some.inj ho
      have e34 : st.eval (.tmp 34) = (.pointer (some ⟨r, 0, none⟩)) := h.val 17 _ 34 rfl rfl (edge he 17 (by kernel_rfl))
      have f34 := slot_get e34
      exact sp_val h ((wanted_some rfl (yielded_of (d := 30) rfl (h.val 13 _ 30 rfl rfl (edge he 13 (by kernel_rfl))))).trans rfl) ((.pointer (some ⟨r, 0, none⟩))) (by simp [execOp, go_sem, Act.eval, f34]) rfl
    · obtain rfl := Option.some.inj ho
      have e35 : st.eval (.tmp 35) = (.pointer (some ⟨r, 0, none⟩)) := h.val 18 _ 35 rfl rfl (edge he 18 (by kernel_rfl))
      have f35 := slot_get e35
      have g := (BD.out.b.below h.world).cells.1
      exact sp_val h ((wanted_some rfl (yielded_of (d := 30) rfl (h.val 13 _ 30 rfl rfl (edge he 13 (by kernel_rfl))))).trans rfl) (.slice (some ⟨bL, 0, none⟩) s.size s.size) (by simp [execOp, go_sem, Act.eval, f35, g]) rfl
    · obtain rfl := Option.some.inj ho
      have e36 : st.eval (.tmp 36) = (.slice (some ⟨bL, 0, none⟩) s.size s.size) := h.val 19 _ 36 rfl rfl (edge he 19 (by kernel_rfl))
      have f36 := slot_get e36
      exact sp_val h ((wanted_some rfl (yielded_of (d := 30) rfl (h.val 13 _ 30 rfl rfl (edge he 13 (by kernel_rfl))))).trans rfl) ((.int .i64 (s.size : Int))) (by simp [execOp, go_sem, Act.eval, f36]) rfl
    · obtain rfl := Option.some.inj ho
      have e32 : st.eval (.tmp 32) = (.int .i64 (s.size : Int)) := h.val 15 _ 32 rfl rfl (edge he 15 (by kernel_rfl))
      have f32 := slot_get e32
      have e37 : st.eval (.tmp 37) = (.int .i64 (s.size : Int)) := h.val 20 _ 37 rfl rfl (edge he 20 (by kernel_rfl))
      have f37 := slot_get e37
      exact sp_val h ((wanted_some rfl (yielded_of (d := 30) rfl (h.val 13 _ 30 rfl rfl (edge he 13 (by kernel_rfl))))).trans rfl) ((.bool true)) (by simp [execOp, go_sem, Act.eval, f32, f37]) rfl
    · obtain rfl := Option.some.inj ho
      have e30 : st.eval (.tmp 30) = (.bool true) := h.val 13 _ 30 rfl rfl (edge he 13 (by kernel_rfl))
      have f30 := slot_get e30
      have e38 : st.eval (.tmp 38) = (.bool true) := h.val 21 _ 38 rfl rfl (edge he 21 (by kernel_rfl))
      have f38 := slot_get e38
      exact sp_val h (wanted_none rfl) ((.bool true)) (by simp [execOp, go_sem, Act.eval, f30, f38]) rfl
    · obtain rfl := Option.some.inj ho
      have e39 : st.eval (.tmp 39) = (.bool true) := h.val 22 _ 39 rfl rfl (edge he 22 (by kernel_rfl))
      have f39 := slot_get e39
      exact sp_val h (wanted_none rfl) ((.bool true)) (by simp [execOp, go_sem, Act.eval, f39]) rfl
  · intro L st wx h hall
    have BW := h.world
    have k4 : st.eval (.tmp 4) = (.bool true) := h.val 23 _ 4 rfl rfl (hall 23 (by decide))
    obtain ⟨g, hg, rfl⟩ := h.shape_fn (by kernel_rfl)
    rw [hg 4] at k4
    rw [show dsts _ = [17, 18, 19, 20, 21, 22, 23, 24, 25, 26, 27, 28, 29, 30, 31, 32, 33, 34, 35, 36, 37, 38, 39, 4] from by kernel_rfl]
    clear h hall hg
    simp only [List.map_cons, List.map_nil, lay2, Act.put, List.setIfInBounds_toArray, List.set_cons_succ, List.set_cons_zero, k4]
    go_wp2_with fail
    go_ret
    exact ⟨k4 ▸ rfl, B4.out.trans (BW.mono B4.out.size)⟩

end Go.Proofs.Ytddcdhmeknkphaa
