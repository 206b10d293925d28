/- Walks of FrameCounts. -/
import Derived.Test.YtebeohdadihidaaFrmLaws5
namespace Go.Proofs.Ytebeohdadihidaa
open Go.RowKit

theorem all_snoc (l : List Int) (k : Nat) (h : k < l.length) : (l.take (k + 1)).all Frm.okNum = ((l.take k).all Frm.okNum && Frm.okNum (l.getD k 0)) := by
  rw [List.take_succ_eq_append_getElem h, List.all_append]
  simp [List.getD, h]

attribute [local go_sem ↓] Go.wp_at_zero Go.wp_at_succ

set_option maxHeartbeats 4000000 in
theorem frameCounts_walk (va : Value) (l : List Int) (v : Value) (b : List UInt8) (w : World) (ha : Row w va (intVals l)) (h : Bytes w v b) :
    Calls Try.prog 9 #[va, v] w fun e w' => e = .returned (.bool true) ∧ Below w.heap.size w w' := by
  obtain ⟨a, cap, rfl, -, -⟩ := h.opened
  obtain ⟨a', cap', rfl, -, ba, oa, HA, HCA⟩ := ha.opened
  rw [intVals_length] at *
  by_cases hbl : 300 < l.length
  · have hb1 : (300 : Int) < (l.length : Int) := by omega
    go_enter Try.func9, Try.ntmps9
    go_wp2_with (first
      | (go_at_call 11; refine (awake_any _).mono ?_; rintro e w1 ⟨rfl, HB⟩))
    go_ret
    exact ⟨rfl, HB⟩
  have hb0 : ¬ (300 : Int) < (l.length : Int) := by omega
  by_cases hbig : 2000 < b.length
  · have hb1 : (2000 : Int) < (b.length : Int) := by omega
    go_enter Try.func9, Try.ntmps9
    go_wp2_with (first
      | (go_at_call 11; refine (awake_any _).mono ?_; rintro e w1 ⟨rfl, HB⟩))
    go_ret
    exact ⟨rfl, HB⟩
  have hb1 : ¬ (2000 : Int) < (b.length : Int) := by omega
  have hd : b.length ≤ 100000 := by omega
  have hdl : l.length ≤ 100000 := by omega
  have H := Lib.hid h
  have HL := Lib.hid ha
  have HDL := Lib.hid hdl
  have HDB := Lib.hid hd
  clear h ha hbig hbl hdl hd
  go_enter Try.func9, Try.ntmps9
  go_wp2_with (first
    | (go_at_call 11; refine (awake_any _).mono ?_; rintro e w1 ⟨rfl, HB⟩; have B1 := Lib.hid HB; clear HB))
  go_loopw [6, 7] (fun fv i wr => ∃ k : Nat, k ≤ l.length ∧ i = .int .i64 k ∧ fv = .bool ((l.take k).all Frm.okNum) ∧ wr = w1) (fun _ i _ => l.length - (intOf i).toNat)
  case atStart => exact ⟨0, by omega, rfl, rfl, rfl⟩
  case round =>
    obtain ⟨k, hk, rfl, rfl, rfl⟩ := hrel
    by_cases hlt : k < l.length
    · obtain rfl := HA (List.ne_nil_of_length_pos (by rw [intVals_length]; omega))
      have ka : wr.cell? ⟨ba, oa + k, none⟩ = some (.int .i64 (l.getD k 0)) := cell_later B1.out (HCA.out k _ (intVals_get l k hlt))
      have l0 : (0 : Int) ≤ (k : Int) := by omega
      have l1 : (k : Int) < (l.length : Int) := by omega
      have HS := Lib.hid (all_snoc l k hlt)
      obtain ⟨x, HX⟩ : ∃ x, Hid (l.getD k 0 = x) := ⟨_, rfl⟩
      rw [HX.out] at ka
      have HLT := Lib.hid hlt
      rcases hb : (l.take k).all Frm.okNum with _ | _
      · have HBB := Lib.hid hb
        clear hb hlt hk
        go_wp2_with fail
        go_roundw
        case rel => exact ⟨k + 1, by have := HLT.out; omega, by go_num, by rw [HS.out, HBB.out]; rfl, trivial⟩
        case measure => simp [intOf]; have := HLT.out; omega
      · have HBB := Lib.hid hb
        clear hb hlt hk
        by_cases h0 : 0 ≤ x
        · by_cases h1 : x ≤ 2147483647
          · have ok : Frm.okNum x = true := by unfold Frm.okNum; simp [h0, h1]
            have HOK := Lib.hid ok
            clear ok
            go_wp2_with fail
            go_roundw
            case rel => exact ⟨k + 1, by have := HLT.out; omega, by go_num, by rw [HS.out, HBB.out, HX.out, HOK.out]; rfl, trivial⟩
            case measure => simp [intOf]; have := HLT.out; omega
          · have ok : Frm.okNum x = false := by unfold Frm.okNum; simp [h1]
            have HOK := Lib.hid ok
            clear ok
            go_wp2_with fail
            go_roundw
            case rel => exact ⟨k + 1, by have := HLT.out; omega, by go_num, by rw [HS.out, HBB.out, HX.out, HOK.out]; rfl, trivial⟩
            case measure => simp [intOf]; have := HLT.out; omega
        · have ok : Frm.okNum x = false := by unfold Frm.okNum; simp [h0]
          have HOK := Lib.hid ok
          clear ok
          go_wp2_with fail
          go_roundw
          case rel => exact ⟨k + 1, by have := HLT.out; omega, by go_num, by rw [HS.out, HBB.out, HX.out, HOK.out]; rfl, trivial⟩
          case measure => simp [intOf]; have := HLT.out; omega
    · obtain rfl : k = l.length := by omega
      have htk : (l.take l.length).all Frm.okNum = l.all Frm.okNum := by rw [List.take_of_length_le (Nat.le_refl _)]
      rw [htk]
      clear htk hlt hk
      obtain ⟨M, hM⟩ : ∃ M, Frm.nums l = M := ⟨_, rfl⟩
      have hMl : M.length ≤ 100000 := by rw [← hM, Frm.nums_length]; omega
      obtain ⟨R, hR⟩ : ∃ R, (if Frm.fine M then Frm.seen M (M.length / 4) else []) = R := ⟨_, rfl⟩
      obtain ⟨n, hn⟩ : ∃ n : Int, (if Frm.fine M then (0 : Int) else 50) = n := ⟨_, rfl⟩
      have hRl : R.length ≤ 140737488351232 := by have := fine_len M; rw [hR] at this; omega
      obtain ⟨φ, hφ⟩ : ∃ φ, l.all Frm.okNum = φ := ⟨_, rfl⟩
      have hyes : φ = true → R = l ∧ n = 0 := by
        rintro rfl
        have h1 := Frm.fine_nums l hφ
        have h2 := Frm.seen_nums l hφ
        rw [hM] at h1 h2
        rw [h1, if_pos rfl] at hR hn
        exact ⟨hR.symm.trans h2, hn.symm⟩
      obtain ⟨σ, hσ⟩ : ∃ σ, decide (R = l) = σ := ⟨_, rfl⟩
      have hok : φ = false ∨ (φ = true ∧ σ = true ∧ n = 0) := by
        cases φ with
        | false => exact .inl rfl
        | true =>
          obtain ⟨e1, e2⟩ := hyes rfl
          exact .inr ⟨rfl, by rw [← hσ]; exact decide_eq_true e1, e2⟩
      obtain ⟨R2, hR2⟩ : ∃ R, (if Frm.fine b then Frm.seen b (b.length / 4) else []) = R := ⟨_, rfl⟩
      obtain ⟨n2, hn2⟩ : ∃ n : Int, (if Frm.fine b then (0 : Int) else 50) = n := ⟨_, rfl⟩
      have hRl2 : R2.length ≤ 100000 := by have := fine_len b; rw [hR2] at this; have := HDB.out; omega
      have hfin : (n2 = 0 ∧ Frm.nums R2 = b) ∨ (n2 = 50 ∧ R2 = []) := by
        cases hf : Frm.fine b with
        | true =>
          rw [hf, if_pos rfl] at hR2 hn2
          refine .inl ⟨hn2.symm, ?_⟩
          rw [← hR2]
          exact Frm.nums_back hf
        | false =>
          rw [hf] at hR2 hn2
          exact .inr ⟨hn2.symm, hR2.symm⟩
      have E := strOf_beq b b
      rw [decide_eq_true rfl] at E
      rw [hφ]
      have HR := Lib.hid hR
      have HN := Lib.hid hn
      have HM := Lib.hid hM
      have HML := Lib.hid hMl
      have HRl := Lib.hid hRl
      have HSI := Lib.hid hσ
      have HR2 := Lib.hid hR2
      have HN2 := Lib.hid hn2
      have HRL2 := Lib.hid hRl2
      have HOK := Lib.hid hok
      have HFIN := Lib.hid hfin
      have l1 := HL.out.below B1.out
      have h1 := H.out.below B1.out
      clear hR hn hM hMl hRl hσ hR2 hn2 hRl2 hyes hφ hok hfin
      go_wp2_with (first
        | (go_at_call 19; fail))
      refine (nums_any _ l _ l1 HDL.out).mono ?_
      intro e w2 hp
      rw [HM.out] at hp
      obtain ⟨a2, c2, rfl, hb2, -, HB⟩ := newbytes_open hp
      have l2 := l1.below HB
      have h2 := h1.below HB
      have B2 := hid_trans B1 HB
      clear HB hp h1 l1
      go_wp2_with (first
        | (go_at_call 16; fail))
      refine (read_any _ M _ hb2 HML.out).mono ?_
      intro e w3 hp
      obtain ⟨a3, c3, rfl, hr3, -, HB⟩ := readas_open hp HR.out HN.out
      have l3 := l2.below HB
      have h3 := h2.below HB
      have B3 := hid_trans B2 HB
      clear HB hp hb2 h2 l2
      go_wp2_with (first
        | (go_at_call 18; fail))
      refine (ints_any _ _ R l _ hr3 l3 HRl.out).mono ?_
      rintro e w4 ⟨rfl, HB⟩
      rw [HSI.out]
      have h4 := h3.below HB
      have B4 := hid_trans B3 HB
      clear HB hr3 l3 h3
      rcases HOK.out with rfl | ⟨rfl, rfl, rfl⟩
      all_goals
        clear HOK HN HSI HR HRl
        go_wp2_with (first
          | (go_at_call 16; fail))
        refine (read_any _ b _ h4 HDB.out).mono ?_
        intro e w6 hp
        obtain ⟨a6, c6, rfl, hr6, -, HB⟩ := readas_open hp HR2.out HN2.out
        have h6 := h4.below HB
        have B6 := hid_trans B4 HB
        clear HB hp h4
        rcases HFIN.out with ⟨rfl, hnb⟩ | ⟨rfl, rfl⟩
        · have HNB := Lib.hid hnb
          clear hnb HFIN HN2 HR2
          go_wp2_with fail
          refine wp_region_sp (by kernel_rfl) (low_of_check (by kernel_rfl)) [.is (.bool true), .is (.bool true), .is (.slice a6 R2.length c6), .bytes b, .is (.string (strOf b)), .is (.slice a b.length cap), .is (.string (strOf b)), .is (.bool true), .is (.bool true), .is (.bool true)] (by kernel_rfl) ?_ ?_
          · intro L st wx i o h ho hl he
            have hi : i < 10 := (Array.getElem?_eq_some_iff.1 ho).1
            rcases (by omega : i = 0 ∨ i = 1 ∨ i = 2 ∨ i = 3 ∨ i = 4 ∨ i = 5 ∨ i = 6 ∨ i = 7 ∨ i = 8 ∨ i = 9) with rfl | rfl | rfl | rfl | rfl | rfl | rfl | rfl | rfl | rfl
            · obtain rfl := Option.some.inj ho
              have e5 : st.eval (.tmp 5) = .bool true := (h.far 5 (by kernel_rfl)).trans rfl
              have f5 := slot_get e5
              exact sp_val h (wanted_none rfl) ((.bool true)) (by simp [execOp, go_sem, Act.eval, f5]) rfl
            · obtain rfl := Option.some.inj ho
              have e75 : st.eval (.tmp 75) = (.bool true) := h.val 0 _ 75 rfl rfl (edge he 0 (by kernel_rfl))
              have f75 := slot_get e75
              exact sp_val h (wanted_none rfl) ((.bool true)) (by simp [execOp, go_sem, Act.eval, f75]) rfl
            · obtain rfl := Option.some.inj ho
              have e11 : st.eval (.tmp 11) = .slice a6 R2.length c6 := (h.far 11 (by kernel_rfl)).trans rfl
              have f11 := slot_get e11
              exact sp_val h ((wanted_some rfl (yielded_of (d := 76) rfl (h.val 1 _ 76 rfl rfl (edge he 1 (by kernel_rfl))))).trans rfl) ((.slice a6 R2.length c6)) (by simp [execOp, go_sem, Act.eval, f11]) rfl
            · obtain rfl := Option.some.inj ho
              have e77 : st.eval (.tmp 77) = (.slice a6 R2.length c6) := h.val 2 _ 77 rfl rfl (edge he 2 (by kernel_rfl))
              have f77 := slot_get e77
              refine sp_call h ((wanted_some rfl (yielded_of (d := 76) rfl (h.val 1 _ 76 rfl rfl (edge he 1 (by kernel_rfl))))).trans rfl) (f := 19) (args := #[.slice a6 R2.length c6]) (by simp [execOp, go_sem, Act.eval, f77]) ?_
              refine (nums_any _ R2 _ (hr6.below h.world) HRL2.out).mono ?_
              intro e w5 hp
              rw [HNB.out] at hp
              obtain ⟨a5, c5, rfl, hb5, -, HB⟩ := newbytes_open hp
              exact ⟨_, rfl, ⟨_, _, rfl, hb5⟩, HB⟩
            · obtain rfl := Option.some.inj ho
              obtain ⟨a78, c78, e78, b78⟩ := h.val 3 _ 78 rfl rfl (edge he 3 (by kernel_rfl))
              have f78 := slot_get e78
              exact sp_val h ((wanted_some rfl (yielded_of (d := 76) rfl (h.val 1 _ 76 rfl rfl (edge he 1 (by kernel_rfl))))).trans rfl) ((.string (strOf b))) (by simp [execOp, go_sem, Act.eval, f78, str_bytes b78]) rfl
            · obtain rfl := Option.some.inj ho
              have e1 : st.eval (.tmp 1) = .slice a b.length cap := (h.far 1 (by kernel_rfl)).trans rfl
              have f1 := slot_get e1
              exact sp_val h ((wanted_some rfl (yielded_of (d := 76) rfl (h.val 1 _ 76 rfl rfl (edge he 1 (by kernel_rfl))))).trans rfl) ((.slice a b.length cap)) (by simp [execOp, go_sem, Act.eval, f1]) rfl
            · obtain rfl := Option.some.inj ho
              have e80 : st.eval (.tmp 80) = (.slice a b.length cap) := h.val 5 _ 80 rfl rfl (edge he 5 (by kernel_rfl))
              have f80 := slot_get e80
              exact sp_val h ((wanted_some rfl (yielded_of (d := 76) rfl (h.val 1 _ 76 rfl rfl (edge he 1 (by kernel_rfl))))).trans rfl) ((.string (strOf b))) (by simp [execOp, go_sem, Act.eval, f80, str_bytes (h6.below h.world)]) rfl
            · obtain rfl := Option.some.inj ho
              have e79 : st.eval (.tmp 79) = (.string (strOf b)) := h.val 4 _ 79 rfl rfl (edge he 4 (by kernel_rfl))
              have f79 := slot_get e79
              have e81 : st.eval (.tmp 81) = (.string (strOf b)) := h.val 6 _ 81 rfl rfl (edge he 6 (by kernel_rfl))
              have f81 := slot_get e81
              exact sp_val h ((wanted_some rfl (yielded_of (d := 76) rfl (h.val 1 _ 76 rfl rfl (edge he 1 (by kernel_rfl))))).trans rfl) ((.bool true)) (by simp [execOp, go_sem, Act.eval, f79, f81, E]) rfl
            · obtain rfl := Option.some.inj ho
              have e76 : st.eval (.tmp 76) = (.bool true) := h.val 1 _ 76 rfl rfl (edge he 1 (by kernel_rfl))
              have f76 := slot_get e76
              have e82 : st.eval (.tmp 82) = (.bool true) := h.val 7 _ 82 rfl rfl (edge he 7 (by kernel_rfl))
              have f82 := slot_get e82
              exact sp_val h (wanted_none rfl) ((.bool true)) (by simp [execOp, go_sem, Act.eval, f76, f82]) rfl
            · obtain rfl := Option.some.inj ho
              have e83 : st.eval (.tmp 83) = (.bool true) := h.val 8 _ 83 rfl rfl (edge he 8 (by kernel_rfl))
              have f83 := slot_get e83
              exact sp_val h (wanted_none rfl) ((.bool true)) (by simp [execOp, go_sem, Act.eval, f83]) rfl
          · intro L st wx h hall
            have BW := h.world
            have k4 : st.eval (.tmp 4) = (.bool true) := h.val 9 _ 4 rfl rfl (hall 9 (by decide))
            obtain ⟨g, hg, rfl⟩ := h.shape_fn (by kernel_rfl)
            rw [hg 4] at k4
            rw [show dsts _ = [75, 76, 77, 78, 79, 80, 81, 82, 83, 4] from by kernel_rfl]
            clear h hall hg
            simp only [List.map_cons, List.map_nil, lay2, Act.put, List.setIfInBounds_toArray, List.set_cons_succ, List.set_cons_zero, k4]
            go_wp2_with fail
            go_ret
            exact ⟨rfl, B6.out.trans (BW.mono B6.out.size)⟩
        · simp only [List.length_nil]
          clear HFIN HN2 HR2 hr6
          go_wp2_with fail
          go_ret
          exact ⟨rfl, B6.out⟩

end Go.Proofs.Ytebeohdadihidaa
