/- Walks of the reference's disk: Same. -/
import Derived.Test.YtddcdhmeknkphaaRdskHeld
import Derived.Test.YtddcdhmeknkphaaStr
import Derived.Test.YtddcdhmeknkphaaRegSp
namespace Go.Proofs.Ytddcdhmeknkphaa
open Go.RowKit

theorem helds_ext {l m : List (Int × List UInt8)} (hl : l.length = m.length) (h : ∀ j, j < l.length → l.getD j (0, []) = m.getD j (0, [])) : l = m := by
  apply List.ext_getElem hl
  intro j h1 h2
  have := h j h1
  rw [List.getD_eq_getElem?_getD, List.getD_eq_getElem?_getD, List.getElem?_eq_getElem h1, List.getElem?_eq_getElem h2] at this
  exact this

set_option maxRecDepth 100000 in
set_option maxHeartbeats 8000000 in
/-- tailraceref04.Same -/
theorem rsame_any {w : World} {v u : Value} {l m : List (Int × List UInt8)} (h : Helds w v l) (g : Helds w u m) (hbig : l.length ≤ 1000000) :
    Calls Try.prog 39 #[v, u] w fun e w' => e = .returned (.bool (decide (l = m))) ∧ Below w.heap.size w w' := by
  obtain ⟨a1, c1, b1, o1, rfl, A1, C1⟩ := h
  obtain ⟨a2, c2, b2, o2, rfl, A2, C2⟩ := g
  by_cases hlen : l.length = m.length
  · obtain ⟨N, HN⟩ : ∃ N, l.length = N := ⟨_, rfl⟩
    have HM : m.length = N := hlen.symm.trans HN
    rw [HN] at C1 hbig ⊢
    rw [HM] at C2 ⊢
    have HN1 := Lib.hid HN
    have HM1 := Lib.hid HM
    have AA1 := Lib.hid A1
    have CC1 := Lib.hid C1
    have AA2 := Lib.hid A2
    have CC2 := Lib.hid C2
    have HBIG := Lib.hid hbig
    clear A1 C1 A2 C2 hbig hlen HN HM
    go_enter Try.func39, Try.ntmps39
    go_wp2_with fail
    go_loopw [5] (fun i wr => ∃ (k : Nat), k ≤ N ∧ i = .int .i64 k ∧ (∀ j, j < k → l.getD j (0, []) = m.getD j (0, [])) ∧ Below w.heap.size w wr) (fun i _ => N - (intOf i).toNat)
    case atStart => exact ⟨0, by omega, rfl, fun j hj => by omega, Below.refl _ _⟩
    case round =>
      obtain ⟨k, hk, rfl, hsame, hb⟩ := hrel
      have BB := Lib.hid hb
      have SM := Lib.hid hsame
      clear hb hsame
      by_cases hlt : k < N
      · have HLT := Lib.hid hlt
        obtain rfl := AA1.out (List.ne_nil_of_length_pos (by have := HN1.out; have := HM1.out; omega))
        obtain rfl := AA2.out (List.ne_nil_of_length_pos (by have := HN1.out; have := HM1.out; omega))
        obtain ⟨x1, u1, x2, x3⟩ := CC1.out k hlt
        obtain ⟨y1, u2, y2, y3⟩ := CC2.out k (by omega)
        have hx := SM.out
        have hsucc : Hid (l.getD k (0, []) = m.getD k (0, []) → ∀ j, j < k + 1 → l.getD j (0, []) = m.getD j (0, [])) := by
          intro h1 j hj
          by_cases e : j < k
          · exact hx j e
          · obtain rfl : j = k := by omega
            exact h1
        have hdiff : Hid (l.getD k (0, []) ≠ m.getD k (0, []) → decide (l = m) = false) := fun h1 => decide_eq_false fun e => h1 (by rw [e])
        generalize l.getD k (0, []) = P at *
        generalize m.getD k (0, []) = Q at *
        obtain ⟨n1, p1⟩ := P
        obtain ⟨n2, p2⟩ := Q
        simp only at x1 x2 x3 y1 y2 y3
        obtain ⟨d1, e1, rfl, -, -⟩ := x3.opened
        obtain ⟨d2, e2, rfl, -, -⟩ := y3.opened
        have U1 := Lib.hid (x3.below BB.out)
        have U2 := Lib.hid (y3.below BB.out)
        rw [← Nat.add_assoc] at x2 y2
        have KA1 := Lib.hid (cell_later BB.out x1)
        have KA2 := Lib.hid (cell_later BB.out x2)
        have KB1 := Lib.hid (cell_later BB.out y1)
        have KB2 := Lib.hid (cell_later BB.out y2)
        have k0 : (0 : Int) ≤ (k : Int) := by omega
        have kbig : (N : Int) ≤ 1000000 := by have := HBIG.out; omega
        have k1 : (k : Int) < (N : Int) := by omega
        clear x1 x2 x3 y1 y2 y3 hx hlt hk
        go_wp2_with fail
        by_cases hn : n1 = n2
        · subst hn
          obtain ⟨q, HQ⟩ : ∃ q, Hid (decide (p1 = p2) = !q) := ⟨!decide (p1 = p2), by unfold Hid; simp⟩
          have EQ := strOf_beq p1 p2
          rw [HQ.out] at EQ
          have FALSE : Hid (q = true → decide (l = m) = false) := by
            intro h1
            refine hdiff.out fun e => ?_
            have h2 := HQ.out
            rw [h1] at h2
            have h3 := of_decide_eq_false h2
            exact h3 (Prod.ext_iff.1 e).2
          have SAME : Hid (q = false → ∀ j, j < k + 1 → l.getD j (0, []) = m.getD j (0, [])) := by
            intro h1
            refine hsucc.out ?_
            have h2 := HQ.out
            rw [h1] at h2
            rw [of_decide_eq_true h2]
          clear hsucc hdiff
          refine wp_region_sp (by kernel_rfl) (low_of_check (by kernel_rfl)) [.is (.slice (some ⟨b1, o1, none⟩) N c1), .is (.int .i64 (k : Int)), .is (.pointer (some ⟨b1, o1 + k * 2, none⟩)), .is (.pointer (some ⟨b1, o1 + k * 2, none⟩)), .is (.int .i64 n1), .is (.slice (some ⟨b2, o2, none⟩) N c2), .is (.int .i64 (k : Int)), .is (.pointer (some ⟨b2, o2 + k * 2, none⟩)), .is (.pointer (some ⟨b2, o2 + k * 2, none⟩)), .is (.int .i64 n1), .is (.bool false), .is (.bool false), .is (.slice (some ⟨b1, o1, none⟩) N c1), .is (.int .i64 (k : Int)), .is (.pointer (some ⟨b1, o1 + k * 2, none⟩)), .is (.pointer (some ⟨b1, o1 + k * 2 + 1, none⟩)), .is (.slice d1 p1.length e1), .is (.string (strOf p1)), .is (.slice (some ⟨b2, o2, none⟩) N c2), .is (.int .i64 (k : Int)), .is (.pointer (some ⟨b2, o2 + k * 2, none⟩)), .is (.pointer (some ⟨b2, o2 + k * 2 + 1, none⟩)), .is (.slice d2 p2.length e2), .is (.string (strOf p2)), .is (.bool q), .is (.bool q)] (by kernel_rfl) ?_ ?_
          · intro L st wx i o h ho hl he
            have hi : i < 26 := (Array.getElem?_eq_some_iff.1 ho).1
            rcases (by omega : i = 0 ∨ i = 1 ∨ i = 2 ∨ i = 3 ∨ i = 4 ∨ i = 5 ∨ i = 6 ∨ i = 7 ∨ i = 8 ∨ i = 9 ∨ i = 10 ∨ i = 11 ∨ i = 12 ∨ i = 13 ∨ i = 14 ∨ i = 15 ∨ i = 16 ∨ i = 17 ∨ i = 18 ∨ i = 19 ∨ i = 20 ∨ i = 21 ∨ i = 22 ∨ i = 23 ∨ i = 24 ∨ i = 25) with rfl | rfl | rfl | rfl | rfl | rfl | rfl | rfl | rfl | rfl | rfl | rfl | rfl | rfl | rfl | rfl | rfl | rfl | rfl | rfl | rfl | rfl | rfl | rfl | rfl | rfl
            · obtain rfl := Option.some.inj ho
              have e0 : st.eval (.tmp 0) = .slice (some ⟨b1, o1, none⟩) N c1 := (h.far 0 (by kernel_rfl)).trans rfl
              have f0 := slot_get e0
              exact sp_val h (wanted_none rfl) ((.slice (some ⟨b1, o1, none⟩) N c1)) (by simp [execOp, go_sem, Act.eval, f0]) rfl
            · obtain rfl := Option.some.inj ho
              have e5 : st.eval (.tmp 5) = .int .i64 (k : Int) := (h.far 5 (by kernel_rfl)).trans rfl
              have f5 := slot_get e5
              exact sp_val h (wanted_none rfl) ((.int .i64 (k : Int))) (by simp [execOp, go_sem, Act.eval, f5]) rfl
            · obtain rfl := Option.some.inj ho
              have e17 : st.eval (.tmp 17) = (.slice (some ⟨b1, o1, none⟩) N c1) := h.val 0 _ 17 rfl rfl (edge he 0 (by kernel_rfl))
              have f17 := slot_get e17
              have e18 : st.eval (.tmp 18) = (.int .i64 (k : Int)) := h.val 1 _ 18 rfl rfl (edge he 1 (by kernel_rfl))
              have f18 := slot_get e18
              exact sp_val h (wanted_none rfl) ((.pointer (some ⟨b1, o1 + k * 2, none⟩))) (by simp [execOp, go_sem, Act.eval, f17, f18, k0, k1]) rfl
            · obtain rfl := Option.some.inj ho
              have e19 : st.eval (.tmp 19) = (.pointer (some ⟨b1, o1 + k * 2, none⟩)) := h.val 2 _ 19 rfl rfl (edge he 2 (by kernel_rfl))
              have f19 := slot_get e19
              exact sp_val h (wanted_none rfl) ((.pointer (some ⟨b1, o1 + k * 2, none⟩))) (by simp [execOp, go_sem, Act.eval, f19]) rfl
            · obtain rfl := Option.some.inj ho
              have e20 : st.eval (.tmp 20) = (.pointer (some ⟨b1, o1 + k * 2, none⟩)) := h.val 3 _ 20 rfl rfl (edge he 3 (by kernel_rfl))
              have f20 := slot_get e20
              have g := cell_later h.world KA1.out
              exact sp_val h (wanted_none rfl) (.int .i64 n1) (by simp [execOp, go_sem, Act.eval, f20, g]) rfl
            · obtain rfl := Option.some.inj ho
              have e1 : st.eval (.tmp 1) = .slice (some ⟨b2, o2, none⟩) N c2 := (h.far 1 (by kernel_rfl)).trans rfl
              have f1 := slot_get e1
              exact sp_val h (wanted_none rfl) ((.slice (some ⟨b2, o2, none⟩) N c2)) (by simp [execOp, go_sem, Act.eval, f1]) rfl
            · obtain rfl := Option.some.inj ho
              have e5 : st.eval (.tmp 5) = .int .i64 (k : Int) := (h.far 5 (by kernel_rfl)).trans rfl
              have f5 := slot_get e5
              exact sp_val h (wanted_none rfl) ((.int .i64 (k : Int))) (by simp [execOp, go_sem, Act.eval, f5]) rfl
            · obtain rfl := Option.some.inj ho
              have e22 : st.eval (.tmp 22) = (.slice (some ⟨b2, o2, none⟩) N c2) := h.val 5 _ 22 rfl rfl (edge he 5 (by kernel_rfl))
              have f22 := slot_get e22
              have e23 : st.eval (.tmp 23) = (.int .i64 (k : Int)) := h.val 6 _ 23 rfl rfl (edge he 6 (by kernel_rfl))
              have f23 := slot_get e23
              exact sp_val h (wanted_none rfl) ((.pointer (some ⟨b2, o2 + k * 2, none⟩))) (by simp [execOp, go_sem, Act.eval, f22, f23, k0, k1]) rfl
            · obtain rfl := Option.some.inj ho
              have e24 : st.eval (.tmp 24) = (.pointer (some ⟨b2, o2 + k * 2, none⟩)) := h.val 7 _ 24 rfl rfl (edge he 7 (by kernel_rfl))
              have f24 := slot_get e24
              exact sp_val h (wanted_none rfl) ((.pointer (some ⟨b2, o2 + k * 2, none⟩))) (by simp [execOp, go_sem, Act.eval, f24]) rfl
            · obtain rfl := Option.some.inj ho
              have e25 : st.eval (.tmp 25) = (.pointer (some ⟨b2, o2 + k * 2, none⟩)) := h.val 8 _ 25 rfl rfl (edge he 8 (by kernel_rfl))
              have f25 := slot_get e25
              have g := cell_later h.world KB1.out
              exact sp_val h (wanted_none rfl) (.int .i64 n1) (by simp [execOp, go_sem, Act.eval, f25, g]) rfl
            · obtain rfl := Option.some.inj ho
              have e21 : st.eval (.tmp 21) = (.int .i64 n1) := h.val 4 _ 21 rfl rfl (edge he 4 (by kernel_rfl))
              have f21 := slot_get e21
              have e26 : st.eval (.tmp 26) = (.int .i64 n1) := h.val 9 _ 26 rfl rfl (edge he 9 (by kernel_rfl))
              have f26 := slot_get e26
              exact sp_val h (wanted_none rfl) ((.bool false)) (by simp [execOp, go_sem, Act.eval, f21, f26]) rfl
            · obtain rfl := Option.some.inj ho
              have e27 : st.eval (.tmp 27) = (.bool false) := h.val 10 _ 27 rfl rfl (edge he 10 (by kernel_rfl))
              have f27 := slot_get e27
              exact sp_val h (wanted_none rfl) ((.bool false)) (by simp [execOp, go_sem, Act.eval, f27]) rfl
            · obtain rfl := Option.some.inj ho
              have e0 : st.eval (.tmp 0) = .slice (some ⟨b1, o1, none⟩) N c1 := (h.far 0 (by kernel_rfl)).trans rfl
              have f0 := slot_get e0
              exact sp_val h ((wanted_some rfl (yielded_of (d := 28) rfl (h.val 11 _ 28 rfl rfl (edge he 11 (by kernel_rfl))))).trans rfl) ((.slice (some ⟨b1, o1, none⟩) N c1)) (by simp [execOp, go_sem, Act.eval, f0]) rfl
            · obtain rfl := Option.some.inj ho
              have e5 : st.eval (.tmp 5) = .int .i64 (k : Int) := (h.far 5 (by kernel_rfl)).trans rfl
              have f5 := slot_get e5
              exact sp_val h ((wanted_some rfl (yielded_of (d := 28) rfl (h.val 11 _ 28 rfl rfl (edge he 11 (by kernel_rfl))))).trans rfl) ((.int .i64 (k : Int))) (by simp [execOp, go_sem, Act.eval, f5]) rfl
            · obtain rfl := Option.some.inj ho
              have e29 : st.eval (.tmp 29) = (.slice (some ⟨b1, o1, none⟩) N c1) := h.val 12 _ 29 rfl rfl (edge he 12 (by kernel_rfl))
              have f29 := slot_get e29
              have e30 : st.eval (.tmp 30) = (.int .i64 (k : Int)) := h.val 13 _ 30 rfl rfl (edge he 13 (by kernel_rfl))
              have f30 := slot_get e30
              exact sp_val h ((wanted_some rfl (yielded_of (d := 28) rfl (h.val 11 _ 28 rfl rfl (edge he 11 (by kernel_rfl))))).trans rfl) ((.pointer (some ⟨b1, o1 + k * 2, none⟩))) (by simp [execOp, go_sem, Act.eval, f29, f30, k0, k1]) rfl
            · obtain rfl := Option.some.inj ho
              have e31 : st.eval (.tmp 31) = (.pointer (some ⟨b1, o1 + k * 2, none⟩)) := h.val 14 _ 31 rfl rfl (edge he 14 (by kernel_rfl))
              have f31 := slot_get e31
              exact sp_val h ((wanted_some rfl (yielded_of (d := 28) rfl (h.val 11 _ 28 rfl rfl (edge he 11 (by kernel_rfl))))).trans rfl) ((.pointer (some ⟨b1, o1 + k * 2 + 1, none⟩))) (by simp [execOp, go_sem, Act.eval, f31]) rfl
            · obtain rfl := Option.some.inj ho
              have e32 : st.eval (.tmp 32) = (.pointer (some ⟨b1, o1 + k * 2 + 1, none⟩)) := h.val 15 _ 32 rfl rfl (edge he 15 (by kernel_rfl))
              have f32 := slot_get e32
              have g := cell_later h.world KA2.out
              exact sp_val h ((wanted_some rfl (yielded_of (d := 28) rfl (h.val 11 _ 28 rfl rfl (edge he 11 (by kernel_rfl))))).trans rfl) (.slice d1 p1.length e1) (by simp [execOp, go_sem, Act.eval, f32, g]) rfl
            · obtain rfl := Option.some.inj ho
              have e33 : st.eval (.tmp 33) = (.slice d1 p1.length e1) := h.val 16 _ 33 rfl rfl (edge he 16 (by kernel_rfl))
              have f33 := slot_get e33
              exact sp_val h ((wanted_some rfl (yielded_of (d := 28) rfl (h.val 11 _ 28 rfl rfl (edge he 11 (by kernel_rfl))))).trans rfl) ((.string (strOf p1))) (by simp [execOp, go_sem, Act.eval, f33, str_bytes (U1.out.below h.world)]) rfl
            · obtain rfl := Option.some.inj ho
              have e1 : st.eval (.tmp 1) = .slice (some ⟨b2, o2, none⟩) N c2 := (h.far 1 (by kernel_rfl)).trans rfl
              have f1 := slot_get e1
              exact sp_val h ((wanted_some rfl (yielded_of (d := 28) rfl (h.val 11 _ 28 rfl rfl (edge he 11 (by kernel_rfl))))).trans rfl) ((.slice (some ⟨b2, o2, none⟩) N c2)) (by simp [execOp, go_sem, Act.eval, f1]) rfl
            · obtain rfl := Option.some.inj ho
              have e5 : st.eval (.tmp 5) = .int .i64 (k : Int) := (h.far 5 (by kernel_rfl)).trans rfl
              have f5 := slot_get e5
              exact sp_val h ((wanted_some rfl (yielded_of (d := 28) rfl (h.val 11 _ 28 rfl rfl (edge he 11 (by kernel_rfl))))).trans rfl) ((.int .i64 (k : Int))) (by simp [execOp, go_sem, Act.eval, f5]) rfl
            · obtain rfl := Option.some.inj ho
              have e35 : st.eval (.tmp 35) = (.slice (some ⟨b2, o2, none⟩) N c2) := h.val 18 _ 35 rfl rfl (edge he 18 (by kernel_rfl))
              have f35 := slot_get e35
              have e36 : st.eval (.tmp 36) = (.int .i64 (k : Int)) := h.val 19 _ 36 rfl rfl (edge he 19 (by kernel_rfl))
              have f36 := slot_get e36
              exact sp_val h ((wanted_some rfl (yielded_of (d := 28) rfl (h.val 11 _ 28 rfl rfl (edge he 11 (by kernel_rfl))))).trans rfl) ((.pointer (some ⟨b2, o2 + k * 2, none⟩))) (by simp [execOp, go_sem, Act.eval, f35, f36, k0, k1]) rfl
            · obtain rfl := Option.some.inj ho
              have e37 : st.eval (.tmp 37) = (.pointer (some ⟨b2, o2 + k * 2, none⟩)) := h.val 20 _ 37 rfl rfl (edge he 20 (by kernel_rfl))
              have f37 := slot_get e37
              exact sp_val h ((wanted_some rfl (yielded_of (d := 28) rfl (h.val 11 _ 28 rfl rfl (edge he 11 (by kernel_rfl))))).trans rfl) ((.pointer (some ⟨b2, o2 + k * 2 + 1, none⟩))) (by simp [execOp, go_sem, Act.eval, f37]) rfl
            · obtain rfl := Option.some.inj ho
              have e38 : st.eval (.tmp 38) = (.pointer (some ⟨b2, o2 + k * 2 + 1, none⟩)) := h.val 21 _ 38 rfl rfl (edge he 21 (by kernel_rfl))
              have f38 := slot_get e38
              have g := cell_later h.world KB2.out
              exact sp_val h ((wanted_some rfl (yielded_of (d := 28) rfl (h.val 11 _ 28 rfl rfl (edge he 11 (by kernel_rfl))))).trans rfl) (.slice d2 p2.length e2) (by simp [execOp, go_sem, Act.eval, f38, g]) rfl
            · obtain rfl := Option.some.inj ho
              have e39 : st.eval (.tmp 39) = (.slice d2 p2.length e2) := h.val 22 _ 39 rfl rfl (edge he 22 (by kernel_rfl))
              have f39 := slot_get e39
              exact sp_val h ((wanted_some rfl (yielded_of (d := 28) rfl (h.val 11 _ 28 rfl rfl (edge he 11 (by kernel_rfl))))).trans rfl) ((.string (strOf p2))) (by simp [execOp, go_sem, Act.eval, f39, str_bytes (U2.out.below h.world)]) rfl
            · obtain rfl := Option.some.inj ho
              have e34 : st.eval (.tmp 34) = (.string (strOf p1)) := h.val 17 _ 34 rfl rfl (edge he 17 (by kernel_rfl))
              have f34 := slot_get e34
              have e40 : st.eval (.tmp 40) = (.string (strOf p2)) := h.val 23 _ 40 rfl rfl (edge he 23 (by kernel_rfl))
              have f40 := slot_get e40
              exact sp_val h ((wanted_some rfl (yielded_of (d := 28) rfl (h.val 11 _ 28 rfl rfl (edge he 11 (by kernel_rfl))))).trans rfl) ((.bool q)) (by simp [execOp, go_sem, Act.eval, f34, f40, EQ]) rfl
            · obtain rfl := Option.some.inj ho
              have e28 : st.eval (.tmp 28) = (.bool false) := h.val 11 _ 28 rfl rfl (edge he 11 (by kernel_rfl))
              have f28 := slot_get e28
              have e41 : st.eval (.tmp 41) = (.bool q) := h.val 24 _ 41 rfl rfl (edge he 24 (by kernel_rfl))
              have f41 := slot_get e41
              exact sp_val h (wanted_none rfl) ((.bool q)) (by simp [execOp, go_sem, Act.eval, f28, f41]) rfl
          · intro L st wx h hall
            have BW := h.world
            have k42 : st.eval (.tmp 42) = (.bool q) := h.val 25 _ 42 rfl rfl (hall 25 (by decide))
            obtain ⟨g, hg, rfl⟩ := h.shape_fn (by kernel_rfl)
            rw [hg 42] at k42
            rw [show dsts _ = [17, 18, 19, 20, 21, 22, 23, 24, 25, 26, 27, 28, 29, 30, 31, 32, 33, 34, 35, 36, 37, 38, 39, 40, 41, 42] from by kernel_rfl]
            clear h hall hg
            simp only [List.map_cons, List.map_nil, lay2, Act.put, List.setIfInBounds_toArray, List.set_cons_succ, List.set_cons_zero, k42]
            have BB2 := Lib.hid (BB.out.trans (BW.mono BB.out.size))
            clear BW
            cases q with
            | true =>
              have F2 := Lib.hid (FALSE.out rfl)
              clear FALSE SAME HQ
              go_wp2_with fail
              go_ret
              exact ⟨congrArg (fun b => Ending.returned (.bool b)) F2.out.symm, BB2.out⟩
            | false =>
              have S2 := Lib.hid (SAME.out rfl)
              clear FALSE SAME HQ
              go_wp2_with fail
              go_roundw
              case rel => exact ⟨k + 1, by have := HLT.out; omega, by go_num, S2.out, BB2.out⟩
              case measure => simp [intOf]; have := HLT.out; omega
        · have hne : (n1 == n2) = false := beq_eq_false_iff_ne.2 hn
          have FALSE : Hid (decide (l = m) = false) := hdiff.out fun e => hn (Prod.ext_iff.1 e).1
          clear hsucc hdiff
          refine wp_region_sp (by kernel_rfl) (low_of_check (by kernel_rfl)) [.is (.slice (some ⟨b1, o1, none⟩) N c1), .is (.int .i64 (k : Int)), .is (.pointer (some ⟨b1, o1 + k * 2, none⟩)), .is (.pointer (some ⟨b1, o1 + k * 2, none⟩)), .is (.int .i64 n1), .is (.slice (some ⟨b2, o2, none⟩) N c2), .is (.int .i64 (k : Int)), .is (.pointer (some ⟨b2, o2 + k * 2, none⟩)), .is (.pointer (some ⟨b2, o2 + k * 2, none⟩)), .is (.int .i64 n2), .is (.bool true), .is (.bool true), .is (undef), .is (undef), .is (undef), .is (undef), .is (undef), .is (undef), .is (undef), .is (undef), .is (undef), .is (undef), .is (undef), .is (undef), .is (undef), .is (.bool true)] (by kernel_rfl) ?_ ?_
          · intro L st wx i o h ho hl he
            have hi : i < 26 := (Array.getElem?_eq_some_iff.1 ho).1
            rcases (by omega : i = 0 ∨ i = 1 ∨ i = 2 ∨ i = 3 ∨ i = 4 ∨ i = 5 ∨ i = 6 ∨ i = 7 ∨ i = 8 ∨ i = 9 ∨ i = 10 ∨ i = 11 ∨ i = 12 ∨ i = 13 ∨ i = 14 ∨ i = 15 ∨ i = 16 ∨ i = 17 ∨ i = 18 ∨ i = 19 ∨ i = 20 ∨ i = 21 ∨ i = 22 ∨ i = 23 ∨ i = 24 ∨ i = 25) with rfl | rfl | rfl | rfl | rfl | rfl | rfl | rfl | rfl | rfl | rfl | rfl | rfl | rfl | rfl | rfl | rfl | rfl | rfl | rfl | rfl | rfl | rfl | rfl | rfl | rfl
            · obtain rfl := Option.some.inj ho
              have e0 : st.eval (.tmp 0) = .slice (some ⟨b1, o1, none⟩) N c1 := (h.far 0 (by kernel_rfl)).trans rfl
              have f0 := slot_get e0
              exact sp_val h (wanted_none rfl) ((.slice (some ⟨b1, o1, none⟩) N c1)) (by simp [execOp, go_sem, Act.eval, f0]) rfl
            · obtain rfl := Option.some.inj ho
              have e5 : st.eval (.tmp 5) = .int .i64 (k : Int) := (h.far 5 (by kernel_rfl)).trans rfl
              have f5 := slot_get e5
              exact sp_val h (wanted_none rfl) ((.int .i64 (k : Int))) (by simp [execOp, go_sem, Act.eval, f5]) rfl
            · obtain rfl := Option.some.inj ho
              have e17 : st.eval (.tmp 17) = (.slice (some ⟨b1, o1, none⟩) N c1) := h.val 0 _ 17 rfl rfl (edge he 0 (by kernel_rfl))
              have f17 := slot_get e17
              have e18 : st.eval (.tmp 18) = (.int .i64 (k : Int)) := h.val 1 _ 18 rfl rfl (edge he 1 (by kernel_rfl))
              have f18 := slot_get e18
              exact sp_val h (wanted_none rfl) ((.pointer (some ⟨b1, o1 + k * 2, none⟩))) (by simp [execOp, go_sem, Act.eval, f17, f18, k0, k1]) rfl
            · obtain rfl := Option.some.inj ho
              have e19 : st.eval (.tmp 19) = (.pointer (some ⟨b1, o1 + k * 2, none⟩)) := h.val 2 _ 19 rfl rfl (edge he 2 (by kernel_rfl))
              have f19 := slot_get e19
              exact sp_val h (wanted_none rfl) ((.pointer (some ⟨b1, o1 + k * 2, none⟩))) (by simp [execOp, go_sem, Act.eval, f19]) rfl
            · obtain rfl := Option.some.inj ho
              have e20 : st.eval (.tmp 20) = (.pointer (some ⟨b1, o1 + k * 2, none⟩)) := h.val 3 _ 20 rfl rfl (edge he 3 (by kernel_rfl))
              have f20 := slot_get e20
              have g := cell_later h.world KA1.out
              exact sp_val h (wanted_none rfl) (.int .i64 n1) (by simp [execOp, go_sem, Act.eval, f20, g]) rfl
            · obtain rfl := Option.some.inj ho
              have e1 : st.eval (.tmp 1) = .slice (some ⟨b2, o2, none⟩) N c2 := (h.far 1 (by kernel_rfl)).trans rfl
              have f1 := slot_get e1
              exact sp_val h (wanted_none rfl) ((.slice (some ⟨b2, o2, none⟩) N c2)) (by simp [execOp, go_sem, Act.eval, f1]) rfl
            · obtain rfl := Option.some.inj ho
              have e5 : st.eval (.tmp 5) = .int .i64 (k : Int) := (h.far 5 (by kernel_rfl)).trans rfl
              have f5 := slot_get e5
              exact sp_val h (wanted_none rfl) ((.int .i64 (k : Int))) (by simp [execOp, go_sem, Act.eval, f5]) rfl
            · obtain rfl := Option.some.inj ho
              have e22 : st.eval (.tmp 22) = (.slice (some ⟨b2, o2, none⟩) N c2) := h.val 5 _ 22 rfl rfl (edge he 5 (by kernel_rfl))
              have f22 := slot_get e22
              have e23 : st.eval (.tmp 23) = (.int .i64 (k : Int)) := h.val 6 _ 23 rfl rfl (edge he 6 (by kernel_rfl))
              have f23 := slot_get e23
              exact sp_val h (wanted_none rfl) ((.pointer (some ⟨b2, o2 + k * 2, none⟩))) (by simp [execOp, go_sem, Act.eval, f22, f23, k0, k1]) rfl
            · obtain rfl := Option.some.inj ho
              have e24 : st.eval (.tmp 24) = (.pointer (some ⟨b2, o2 + k * 2, none⟩)) := h.val 7 _ 24 rfl rfl (edge he 7 (by kernel_rfl))
              have f24 := slot_get e24
              exact sp_val h (wanted_none rfl) ((.pointer (some ⟨b2, o2 + k * 2, none⟩))) (by simp [execOp, go_sem, Act.eval, f24]) rfl
            · obtain rfl := Option.some.inj ho
              have e25 : st.eval (.tmp 25) = (.pointer (some ⟨b2, o2 + k * 2, none⟩)) := h.val 8 _ 25 rfl rfl (edge he 8 (by kernel_rfl))
              have f25 := slot_get e25
              have g := cell_later h.world KB1.out
              exact sp_val h (wanted_none rfl) (.int .i64 n2) (by simp [execOp, go_sem, Act.eval, f25, g]) rfl
            · obtain rfl := Option.some.inj ho
              have e21 : st.eval (.tmp 21) = (.int .i64 n1) := h.val 4 _ 21 rfl rfl (edge he 4 (by kernel_rfl))
              have f21 := slot_get e21
              have e26 : st.eval (.tmp 26) = (.int .i64 n2) := h.val 9 _ 26 rfl rfl (edge he 9 (by kernel_rfl))
              have f26 := slot_get e26
              exact sp_val h (wanted_none rfl) ((.bool true)) (by simp [execOp, go_sem, Act.eval, f21, f26, hn]) rfl
            · obtain rfl := Option.some.inj ho
              have e27 : st.eval (.tmp 27) = (.bool true) := h.val 10 _ 27 rfl rfl (edge he 10 (by kernel_rfl))
              have f27 := slot_get e27
              exact sp_val h (wanted_none rfl) ((.bool true)) (by simp [execOp, go_sem, Act.eval, f27]) rfl
            · obtain rfl := Option.some.inj ho
              exact sp_off h ((wanted_some rfl (yielded_of (d := 28) rfl (h.val 11 _ 28 rfl rfl (edge he 11 (by kernel_rfl))))).trans rfl) rfl
            · obtain rfl := Option.some.inj ho
              exact sp_off h ((wanted_some rfl (yielded_of (d := 28) rfl (h.val 11 _ 28 rfl rfl (edge he 11 (by kernel_rfl))))).trans rfl) rfl
            · obtain rfl := Option.some.inj ho
              exact sp_off h ((wanted_some rfl (yielded_of (d := 28) rfl (h.val 11 _ 28 rfl rfl (edge he 11 (by kernel_rfl))))).trans rfl) rfl
            · obtain rfl := Option.some.inj ho
              exact sp_off h ((wanted_some rfl (yielded_of (d := 28) rfl (h.val 11 _ 28 rfl rfl (edge he 11 (by kernel_rfl))))).trans rfl) rfl
            · obtain rfl := Option.some.inj ho
              exact sp_off h ((wanted_some rfl (yielded_of (d := 28) rfl (h.val 11 _ 28 rfl rfl (edge he 11 (by kernel_rfl))))).trans rfl) rfl
            · obtain rfl := Option.some.inj ho
              exact sp_off h ((wanted_some rfl (yielded_of (d := 28) rfl (h.val 11 _ 28 rfl rfl (edge he 11 (by kernel_rfl))))).trans rfl) rfl
            · obtain rfl := Option.some.inj ho
              exact sp_off h ((wanted_some rfl (yielded_of (d := 28) rfl (h.val 11 _ 28 rfl rfl (edge he 11 (by kernel_rfl))))).trans rfl) rfl
            · obtain rfl := Option.some.inj ho
              exact sp_off h ((wanted_some rfl (yielded_of (d := 28) rfl (h.val 11 _ 28 rfl rfl (edge he 11 (by kernel_rfl))))).trans rfl) rfl
            · obtain rfl := Option.some.inj ho
              exact sp_off h ((wanted_some rfl (yielded_of (d := 28) rfl (h.val 11 _ 28 rfl rfl (edge he 11 (by kernel_rfl))))).trans rfl) rfl
            · obtain rfl := Option.some.inj ho
              exact sp_off h ((wanted_some rfl (yielded_of (d := 28) rfl (h.val 11 _ 28 rfl rfl (edge he 11 (by kernel_rfl))))).trans rfl) rfl
            · obtain rfl := Option.some.inj ho
              exact sp_off h ((wanted_some rfl (yielded_of (d := 28) rfl (h.val 11 _ 28 rfl rfl (edge he 11 (by kernel_rfl))))).trans rfl) rfl
            · obtain rfl := Option.some.inj ho
              exact sp_off h ((wanted_some rfl (yielded_of (d := 28) rfl (h.val 11 _ 28 rfl rfl (edge he 11 (by kernel_rfl))))).trans rfl) rfl
            · obtain rfl := Option.some.inj ho
              exact sp_off h ((wanted_some rfl (yielded_of (d := 28) rfl (h.val 11 _ 28 rfl rfl (edge he 11 (by kernel_rfl))))).trans rfl) rfl
            · obtain rfl := Option.some.inj ho
              have e28 : st.eval (.tmp 28) = (.bool true) := h.val 11 _ 28 rfl rfl (edge he 11 (by kernel_rfl))
              have f28 := slot_get e28
              have e41 : st.eval (.tmp 41) = (undef) := h.val 24 _ 41 rfl rfl (edge he 24 (by kernel_rfl))
              have f41 := slot_get e41
              exact sp_val h (wanted_none rfl) ((.bool true)) (by simp [execOp, go_sem, Act.eval, f28, f41]) rfl
          · intro L st wx h hall
            have BW := h.world
            have k42 : st.eval (.tmp 42) = (.bool true) := h.val 25 _ 42 rfl rfl (hall 25 (by decide))
            obtain ⟨g, hg, rfl⟩ := h.shape_fn (by kernel_rfl)
            rw [hg 42] at k42
            rw [show dsts _ = [17, 18, 19, 20, 21, 22, 23, 24, 25, 26, 27, 28, 29, 30, 31, 32, 33, 34, 35, 36, 37, 38, 39, 40, 41, 42] from by kernel_rfl]
            clear h hall hg
            simp only [List.map_cons, List.map_nil, lay2, Act.put, List.setIfInBounds_toArray, List.set_cons_succ, List.set_cons_zero, k42]
            go_wp2_with fail
            go_ret
            exact ⟨congrArg (fun b => Ending.returned (.bool b)) FALSE.out.symm, BB.out.trans (BW.mono BB.out.size)⟩
      · obtain rfl : k = N := by omega
        have e := helds_ext (HN1.out.trans HM1.out.symm) (by rw [HN1.out]; exact SM.out)
        have E : Hid (decide (l = m) = true) := decide_eq_true e
        clear hlt hk e
        go_wp2_with fail
        go_ret
        exact ⟨congrArg (fun b => Ending.returned (.bool b)) E.out.symm, BB.out⟩
  · have hlz : ¬ (l.length : Int) = (m.length : Int) := by omega
    have E : Hid (decide (l = m) = false) := decide_eq_false fun e => hlen (by rw [e])
    clear A1 C1 A2 C2 hbig
    go_enter Try.func39, Try.ntmps39
    go_wp2_with fail
    go_ret
    exact ⟨congrArg (fun b => Ending.returned (.bool b)) E.out.symm, Below.refl _ _⟩

end Go.Proofs.Ytddcdhmeknkphaa
