/- Walks of FrameUnpacks, FrameNumbers. -/
import Derived.Test.YtebeohdadihidaaFrmLaws
import Derived.Test.YtebeohdadihidaaFrmPlain4
import Derived.Test.YtebeohdadihidaaRegSp
namespace Go.Proofs.Ytebeohdadihidaa
open Go.RowKit

set_option maxHeartbeats 4000000 in
theorem frameUnpacks_walk (place : Int) (v : Value) (b : List UInt8) (w : World) (p0 : -9223372036854775808 ≤ place) (p1 : place ≤ 9223372036854775807) (h : Bytes w v b) :
    Calls Try.prog 5 #[.int .i64 place, v] w fun e w' => e = .returned (.bool true) ∧ Below w.heap.size w w' := by
  obtain ⟨a, cap, rfl, -, -⟩ := h.opened
  by_cases hbig : 2000 < b.length
  · have hb1 : (2000 : Int) < (b.length : Int) := by omega
    go_enter Try.func5, Try.ntmps5
    go_wp2_with (first
      | (go_at_call 11; refine (awake_any _).mono ?_; rintro e w1 ⟨rfl, HB⟩))
    go_ret
    exact ⟨rfl, HB⟩
  have hb1 : ¬ (2000 : Int) < (b.length : Int) := by omega
  have hd : b.length ≤ 100000 := by omega
  have H := Lib.hid h
  rcases hg : Frm.fits place b with _ | _
  · have HG := Lib.hid hg
    have E : ((strOf []).toList == (strOf []).toList) = true := by rw [strOf_beq]; rfl
    clear hg h hbig
    go_enter Try.func5, Try.ntmps5
    go_wp2_with (first
      | (go_at_call 11; refine (awake_any _).mono ?_; rintro e w1 ⟨rfl, HB⟩; have h1 := H.out.below HB; have B1 := Lib.hid HB; clear HB)
      | (go_at_call 14; refine (unpack_any place _ b _ h1 p0 p1 hd).mono ?_; intro e w2 hp; obtain ⟨a2, c2, rfl, hb2, -, HB⟩ := unpacked_not HG.out hp; have h2 := h1.below HB; have B2 := hid_trans B1 HB; clear HB hp)
      | (go_at_call 15; refine (refunpack_any place _ b _ h2 p0 p1 hd).mono ?_; intro e w3 hp; obtain ⟨a3, c3, rfl, hb3, -, HB⟩ := unpacked_not HG.out hp; have s2 := str_bytes (hb2.below HB); have s3 := str_bytes hb3; simp only [List.length_nil] at s2 s3; have B3 := hid_trans B2 HB; clear HB hp hb3))
    go_ret
    exact ⟨rfl, B3.out⟩
  · have HG := Lib.hid hg
    have E := strOf_beq (Frm.mid b) (Frm.mid b)
    rw [decide_eq_true rfl] at E
    obtain ⟨P, hP⟩ : ∃ P, Frm.mid b = P := ⟨_, rfl⟩
    obtain ⟨K, hK⟩ : ∃ K, ((b.getD 0 0).toNat : Int) = K := ⟨_, rfl⟩
    rw [hP] at E
    have HPK := Lib.hid hP
    have HKK := Lib.hid hK
    clear hg h hbig hP hK
    go_enter Try.func5, Try.ntmps5
    go_wp2_with (first
      | (go_at_call 11; refine (awake_any _).mono ?_; rintro e w1 ⟨rfl, HB⟩; have h1 := H.out.below HB; have B1 := Lib.hid HB; clear HB)
      | (go_at_call 14; refine (unpack_any place _ b _ h1 p0 p1 hd).mono ?_; intro e w2 hp; have hq := unpacked_good HG.out hp; rw [HPK.out, HKK.out] at hq; obtain ⟨a2, c2, rfl, hb2, -, HB⟩ := hq; have h2 := h1.below HB; have B2 := hid_trans B1 HB; clear HB hp)
      | (go_at_call 15; refine (refunpack_any place _ b _ h2 p0 p1 hd).mono ?_; intro e w3 hp; have hq := unpacked_good HG.out hp; rw [HPK.out, HKK.out] at hq; obtain ⟨a3, c3, rfl, hb3, -, HB⟩ := hq; have s2 := str_bytes (hb2.below HB); have s3 := str_bytes hb3; have B3 := hid_trans B2 HB; clear HB hp hb3))
    go_ret
    exact ⟨rfl, B3.out⟩

/-- Read's answer, opened -/
theorem readas_open {b : List UInt8} {w w' : World} {e : Ending} (h : ReadAs b w e w') {l : List Int} {n : Int} (hl : (if Frm.fine b then Frm.seen b (b.length / 4) else []) = l) (hn : (if Frm.fine b then (0 : Int) else 50) = n) :
    ∃ a c, e = .returned (.tuple #[.slice a l.length c, .int .i64 n]) ∧ Row w' (.slice a l.length c) (intVals l) ∧ (∀ k, (Value.slice a l.length c).ownBlock = some k → w.heap.size ≤ k) ∧ Below w.heap.size w w' := by
  obtain ⟨r, h1, h2, h3, h4⟩ := h
  subst hl hn
  obtain ⟨a, c, rfl, -, -⟩ := Row.opened h2
  rw [intVals_length] at *
  exact ⟨a, c, h1, h2, h3, h4⟩

theorem newbytes_open {l : List UInt8} {w w' : World} {e : Ending} (h : NewBytes w l e w') : ∃ a c, e = .returned (.slice a l.length c) ∧ Bytes w' (.slice a l.length c) l ∧ (∀ k, (Value.slice a l.length c).ownBlock = some k → w.heap.size ≤ k) ∧ Below w.heap.size w w' := by
  obtain ⟨r, h1, h2, h3, h4⟩ := h
  obtain ⟨a, c, rfl, -, -⟩ := Bytes.opened h2
  exact ⟨a, c, h1, h2, h4, h3⟩

theorem fine_len (b : List UInt8) : (if Frm.fine b then Frm.seen b (b.length / 4) else []).length ≤ b.length := by
  split
  · rw [Frm.seen_length]; omega
  · simp

set_option maxHeartbeats 4000000 in
theorem frameNumbers_walk (va : Value) (l : List Int) (v : Value) (b : List UInt8) (w : World) (ha : Row w va (intVals l)) (h : Bytes w v b) :
    Calls Try.prog 6 #[va, v] w fun e w' => e = .returned (.bool true) ∧ Below w.heap.size w w' := by
  obtain ⟨a, cap, rfl, -, -⟩ := h.opened
  obtain ⟨a', cap', rfl, -, -⟩ := ha.opened
  rw [intVals_length] at *
  by_cases hbl : 300 < l.length
  · have hb1 : (300 : Int) < (l.length : Int) := by omega
    go_enter Try.func6, Try.ntmps6
    go_wp2_with (first
      | (go_at_call 11; refine (awake_any _).mono ?_; rintro e w1 ⟨rfl, HB⟩))
    go_ret
    exact ⟨rfl, HB⟩
  have hb0 : ¬ (300 : Int) < (l.length : Int) := by omega
  by_cases hbig : 2000 < b.length
  · have hb1 : (2000 : Int) < (b.length : Int) := by omega
    go_enter Try.func6, Try.ntmps6
    go_wp2_with (first
      | (go_at_call 11; refine (awake_any _).mono ?_; rintro e w1 ⟨rfl, HB⟩))
    go_ret
    exact ⟨rfl, HB⟩
  have hb1 : ¬ (2000 : Int) < (b.length : Int) := by omega
  have hd : b.length ≤ 100000 := by omega
  have hdl : l.length ≤ 100000 := by omega
  have H := Lib.hid h
  have HL := Lib.hid ha
  obtain ⟨R, hR⟩ : ∃ R, (if Frm.fine b then Frm.seen b (b.length / 4) else []) = R := ⟨_, rfl⟩
  obtain ⟨n, hn⟩ : ∃ n : Int, (if Frm.fine b then (0 : Int) else 50) = n := ⟨_, rfl⟩
  obtain ⟨M, hM⟩ : ∃ M, Frm.nums l = M := ⟨_, rfl⟩
  have hRl : R.length ≤ 140737488351232 := by have := fine_len b; rw [hR] at this; omega
  have HR := Lib.hid hR
  have HN := Lib.hid hn
  have HM := Lib.hid hM
  have HRl := Lib.hid hRl
  have E := strOf_beq M M
  rw [decide_eq_true rfl] at E
  clear h ha hbig hbl hR hn hM hRl
  go_enter Try.func6, Try.ntmps6
  go_wp2_with (first
    | (go_at_call 11; refine (awake_any _).mono ?_; rintro e w1 ⟨rfl, HB⟩; have h1 := H.out.below HB; have l1 := HL.out.below HB; have B1 := Lib.hid HB; clear HB)
    | (go_at_call 16; refine (read_any _ b _ h1 hd).mono ?_; intro e w2 hp; obtain ⟨a2, c2, rfl, hr2, -, HB⟩ := readas_open hp HR.out HN.out; have h2 := h1.below HB; have l2 := l1.below HB; have B2 := hid_trans B1 HB; clear HB hp)
    | (go_at_call 17; refine (refread_any _ b _ h2 hd).mono ?_; intro e w3 hp; obtain ⟨a3, c3, rfl, hr3, -, HB⟩ := readas_open hp HR.out HN.out; have hr2' := hr2.below HB; have l3 := l2.below HB; have B3 := hid_trans B2 HB; clear HB hp)
    | (go_at_call 18; refine (ints_any _ _ R R _ hr2' hr3 HRl.out).mono ?_; rintro e w4 ⟨rfl, HB⟩; rw [decide_eq_true rfl]; have l4 := l3.below HB; have B4 := hid_trans B3 HB; clear HB))
  refine wp_region_sp (by kernel_rfl) (low_of_check (by kernel_rfl)) [.is (.bool true), .is (.bool true), .is (.slice a' l.length cap'), .bytes M, .is (.string (strOf M)), .is (.slice a' l.length cap'), .bytes M, .is (.string (strOf M)), .is (.bool true), .is (.bool true), .is (.bool true), .is (.bool true), .is (.bool true), .is (.bool true), .is (.int .i64 n), .is (.int .i64 n), .is (.bool true), .is (.bool true), .is (.bool true)] (by kernel_rfl) ?_ ?_
  · intro L a w1 i o h ho hl he
    have hi : i < 19 := (Array.getElem?_eq_some_iff.1 ho).1
    rcases (by omega : i = 0 ∨ i = 1 ∨ i = 2 ∨ i = 3 ∨ i = 4 ∨ i = 5 ∨ i = 6 ∨ i = 7 ∨ i = 8 ∨ i = 9 ∨ i = 10 ∨ i = 11 ∨ i = 12 ∨ i = 13 ∨ i = 14 ∨ i = 15 ∨ i = 16 ∨ i = 17 ∨ i = 18) with rfl | rfl | rfl | rfl | rfl | rfl | rfl | rfl | rfl | rfl | rfl | rfl | rfl | rfl | rfl | rfl | rfl | rfl | rfl
    · obtain rfl := Option.some.inj ho
      have e5 : a.eval (.tmp 5) = .bool true := (h.far 5 (by kernel_rfl)).trans rfl
      have f5 := slot_get e5
      exact sp_val h (wanted_none rfl) ((.bool true)) (by simp [execOp, go_sem, Act.eval, f5]) rfl
    · obtain rfl := Option.some.inj ho
      have e34 : a.eval (.tmp 34) = (.bool true) := h.val 0 _ 34 rfl rfl (edge he 0 (by kernel_rfl))
      have f34 := slot_get e34
      exact sp_val h (wanted_none rfl) ((.bool true)) (by simp [execOp, go_sem, Act.eval, f34]) rfl
    · obtain rfl := Option.some.inj ho
      have e0 : a.eval (.tmp 0) = .slice a' l.length cap' := (h.far 0 (by kernel_rfl)).trans rfl
      have f0 := slot_get e0
      exact sp_val h ((wanted_some rfl (yielded_of (d := 35) rfl (h.val 1 _ 35 rfl rfl (edge he 1 (by kernel_rfl))))).trans rfl) ((.slice a' l.length cap')) (by simp [execOp, go_sem, Act.eval, f0]) rfl
    · obtain rfl := Option.some.inj ho
      have e36 : a.eval (.tmp 36) = (.slice a' l.length cap') := h.val 2 _ 36 rfl rfl (edge he 2 (by kernel_rfl))
      have f36 := slot_get e36
      refine sp_call h ((wanted_some rfl (yielded_of (d := 35) rfl (h.val 1 _ 35 rfl rfl (edge he 1 (by kernel_rfl))))).trans rfl) (f := 19) (args := #[.slice a' l.length cap']) (by simp [execOp, go_sem, Act.eval, f36]) ?_
      refine (nums_any _ l _ (l4.below h.world) hdl).mono ?_
      intro e w5 hp
      rw [HM.out] at hp
      obtain ⟨a5, c5, rfl, hb5, -, HB⟩ := newbytes_open hp
      exact ⟨_, rfl, ⟨_, _, rfl, hb5⟩, HB⟩
    · obtain rfl := Option.some.inj ho
      obtain ⟨a37, c37, e37, b37⟩ := h.val 3 _ 37 rfl rfl (edge he 3 (by kernel_rfl))
      have f37 := slot_get e37
      exact sp_val h ((wanted_some rfl (yielded_of (d := 35) rfl (h.val 1 _ 35 rfl rfl (edge he 1 (by kernel_rfl))))).trans rfl) ((.string (strOf M))) (by simp [execOp, go_sem, Act.eval, f37, str_bytes b37]) rfl
    · obtain rfl := Option.some.inj ho
      have e0 : a.eval (.tmp 0) = .slice a' l.length cap' := (h.far 0 (by kernel_rfl)).trans rfl
      have f0 := slot_get e0
      exact sp_val h ((wanted_some rfl (yielded_of (d := 35) rfl (h.val 1 _ 35 rfl rfl (edge he 1 (by kernel_rfl))))).trans rfl) ((.slice a' l.length cap')) (by simp [execOp, go_sem, Act.eval, f0]) rfl
    · obtain rfl := Option.some.inj ho
      have e39 : a.eval (.tmp 39) = (.slice a' l.length cap') := h.val 5 _ 39 rfl rfl (edge he 5 (by kernel_rfl))
      have f39 := slot_get e39
      refine sp_call h ((wanted_some rfl (yielded_of (d := 35) rfl (h.val 1 _ 35 rfl rfl (edge he 1 (by kernel_rfl))))).trans rfl) (f := 20) (args := #[.slice a' l.length cap']) (by simp [execOp, go_sem, Act.eval, f39]) ?_
      refine (refnums_any _ l _ (l4.below h.world) hdl).mono ?_
      intro e w5 hp
      rw [HM.out] at hp
      obtain ⟨a5, c5, rfl, hb5, -, HB⟩ := newbytes_open hp
      exact ⟨_, rfl, ⟨_, _, rfl, hb5⟩, HB⟩
    · obtain rfl := Option.some.inj ho
      obtain ⟨a40, c40, e40, b40⟩ := h.val 6 _ 40 rfl rfl (edge he 6 (by kernel_rfl))
      have f40 := slot_get e40
      exact sp_val h ((wanted_some rfl (yielded_of (d := 35) rfl (h.val 1 _ 35 rfl rfl (edge he 1 (by kernel_rfl))))).trans rfl) ((.string (strOf M))) (by simp [execOp, go_sem, Act.eval, f40, str_bytes b40]) rfl
    · obtain rfl := Option.some.inj ho
      have e38 : a.eval (.tmp 38) = (.string (strOf M)) := h.val 4 _ 38 rfl rfl (edge he 4 (by kernel_rfl))
      have f38 := slot_get e38
      have e41 : a.eval (.tmp 41) = (.string (strOf M)) := h.val 7 _ 41 rfl rfl (edge he 7 (by kernel_rfl))
      have f41 := slot_get e41
      exact sp_val h ((wanted_some rfl (yielded_of (d := 35) rfl (h.val 1 _ 35 rfl rfl (edge he 1 (by kernel_rfl))))).trans rfl) ((.bool true)) (by simp [execOp, go_sem, Act.eval, f38, f41, E]) rfl
    · obtain rfl := Option.some.inj ho
      have e35 : a.eval (.tmp 35) = (.bool true) := h.val 1 _ 35 rfl rfl (edge he 1 (by kernel_rfl))
      have f35 := slot_get e35
      have e42 : a.eval (.tmp 42) = (.bool true) := h.val 8 _ 42 rfl rfl (edge he 8 (by kernel_rfl))
      have f42 := slot_get e42
      exact sp_val h (wanted_none rfl) ((.bool true)) (by simp [execOp, go_sem, Act.eval, f35, f42]) rfl
    · obtain rfl := Option.some.inj ho
      have e43 : a.eval (.tmp 43) = (.bool true) := h.val 9 _ 43 rfl rfl (edge he 9 (by kernel_rfl))
      have f43 := slot_get e43
      exact sp_val h (wanted_none rfl) ((.bool true)) (by simp [execOp, go_sem, Act.eval, f43]) rfl
    · obtain rfl := Option.some.inj ho
      have e10 : a.eval (.tmp 10) = .bool true := (h.far 10 (by kernel_rfl)).trans rfl
      have f10 := slot_get e10
      exact sp_val h ((wanted_some rfl (yielded_of (d := 44) rfl (h.val 10 _ 44 rfl rfl (edge he 10 (by kernel_rfl))))).trans rfl) ((.bool true)) (by simp [execOp, go_sem, Act.eval, f10]) rfl
    · obtain rfl := Option.some.inj ho
      have e44 : a.eval (.tmp 44) = (.bool true) := h.val 10 _ 44 rfl rfl (edge he 10 (by kernel_rfl))
      have f44 := slot_get e44
      have e45 : a.eval (.tmp 45) = (.bool true) := h.val 11 _ 45 rfl rfl (edge he 11 (by kernel_rfl))
      have f45 := slot_get e45
      exact sp_val h (wanted_none rfl) ((.bool true)) (by simp [execOp, go_sem, Act.eval, f44, f45]) rfl
    · obtain rfl := Option.some.inj ho
      have e46 : a.eval (.tmp 46) = (.bool true) := h.val 12 _ 46 rfl rfl (edge he 12 (by kernel_rfl))
      have f46 := slot_get e46
      exact sp_val h (wanted_none rfl) ((.bool true)) (by simp [execOp, go_sem, Act.eval, f46]) rfl
    · obtain rfl := Option.some.inj ho
      have e7 : a.eval (.tmp 7) = .int .i64 n := (h.far 7 (by kernel_rfl)).trans rfl
      have f7 := slot_get e7
      exact sp_val h ((wanted_some rfl (yielded_of (d := 47) rfl (h.val 13 _ 47 rfl rfl (edge he 13 (by kernel_rfl))))).trans rfl) ((.int .i64 n)) (by simp [execOp, go_sem, Act.eval, f7]) rfl
    · obtain rfl := Option.some.inj ho
      have e9 : a.eval (.tmp 9) = .int .i64 n := (h.far 9 (by kernel_rfl)).trans rfl
      have f9 := slot_get e9
      exact sp_val h ((wanted_some rfl (yielded_of (d := 47) rfl (h.val 13 _ 47 rfl rfl (edge he 13 (by kernel_rfl))))).trans rfl) ((.int .i64 n)) (by simp [execOp, go_sem, Act.eval, f9]) rfl
    · obtain rfl := Option.some.inj ho
      have e48 : a.eval (.tmp 48) = (.int .i64 n) := h.val 14 _ 48 rfl rfl (edge he 14 (by kernel_rfl))
      have f48 := slot_get e48
      have e49 : a.eval (.tmp 49) = (.int .i64 n) := h.val 15 _ 49 rfl rfl (edge he 15 (by kernel_rfl))
      have f49 := slot_get e49
      exact sp_val h ((wanted_some rfl (yielded_of (d := 47) rfl (h.val 13 _ 47 rfl rfl (edge he 13 (by kernel_rfl))))).trans rfl) ((.bool true)) (by simp [execOp, go_sem, Act.eval, f48, f49]) rfl
    · obtain rfl := Option.some.inj ho
      have e47 : a.eval (.tmp 47) = (.bool true) := h.val 13 _ 47 rfl rfl (edge he 13 (by kernel_rfl))
      have f47 := slot_get e47
      have e50 : a.eval (.tmp 50) = (.bool true) := h.val 16 _ 50 rfl rfl (edge he 16 (by kernel_rfl))
      have f50 := slot_get e50
      exact sp_val h (wanted_none rfl) ((.bool true)) (by simp [execOp, go_sem, Act.eval, f47, f50]) rfl
    · obtain rfl := Option.some.inj ho
      have e51 : a.eval (.tmp 51) = (.bool true) := h.val 17 _ 51 rfl rfl (edge he 17 (by kernel_rfl))
      have f51 := slot_get e51
      exact sp_val h (wanted_none rfl) ((.bool true)) (by simp [execOp, go_sem, Act.eval, f51]) rfl
  · intro L a w1 h hall
    have BW := h.world
    have k4 : a.eval (.tmp 4) = (.bool true) := h.val 18 _ 4 rfl rfl (hall 18 (by decide))
    obtain ⟨g, hg, rfl⟩ := h.shape_fn (by kernel_rfl)
    rw [hg 4] at k4
    rw [show dsts _ = [34, 35, 36, 37, 38, 39, 40, 41, 42, 43, 44, 45, 46, 47, 48, 49, 50, 51, 4] from by kernel_rfl]
    clear h hall hg
    simp only [List.map_cons, List.map_nil, lay2, Act.put, List.setIfInBounds_toArray, List.set_cons_succ, List.set_cons_zero, k4]
    go_wp2_with fail
    go_ret
    exact ⟨rfl, B4.out.trans (BW.mono B4.out.size)⟩

end Go.Proofs.Ytebeohdadihidaa
