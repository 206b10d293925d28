/- tailraceref05.Read. -/
import Derived.Test.YtebeohdadihidaaFrmRead
import Derived.BigQuiet
import Derived.Deep.QuietTactic
namespace Go.Proofs.Ytebeohdadihidaa
open Go.RowKit

set_option maxRecDepth 100000 in
set_option maxHeartbeats 4000000 in
theorem refread_any (v : Value) (b : List UInt8) (w : World) (h : Bytes w v b) (hd : b.length ≤ 100000) :
    Calls Try.prog 17 #[v] w (ReadAs b w) := by
  obtain ⟨a, cap, rfl, hcap, bb, ob, HA, HC⟩ := h.opened
  by_cases c1 : b.length % 4 = 0
  rotate_left
  · have hg : Frm.fine b = false := by unfold Frm.fine; rw [decide_eq_false c1, Bool.false_and]
    have d1 : ((b.length : Int) % 4 != 0) = true := bne_iff_ne.2 (by omega)
    go_enter Try.func17, Try.ntmps17
    go_wp2_with fail
    go_ret2
    exact read_bad hg (Below.refl _ _)
  have d1 : ((b.length : Int) % 4 != 0) = false := bne_eq_false_iff_eq.2 (by omega)
  have HD4 := Lib.hid c1
  clear c1 h
  go_enter Try.func17, Try.ntmps17
  go_wp2_with fail
  go_loopw [4, 5] (fun o i wr => ∃ (k j : Nat), j = 4 * k ∧ j ≤ b.length ∧ i = .int .i64 j ∧ (∀ j, j < k → Frm.nth b j ≤ 2147483647) ∧ wr.ownsRow w.heap.size 3 1 o (intVals (Frm.seen b k)).length (intVals (Frm.seen b k)) ∧ Below w.heap.size w wr) (fun _ i _ => b.length - (intOf i).toNat)
  case atStart => exact ⟨0, 0, rfl, by omega, rfl, fun j hj => by omega, World.ownsRow_nil _ _ _ _, Below.refl _ _⟩
  case round =>
    obtain ⟨k, j, hj, hk, rfl, hall, hown, hbel⟩ := hrel
    have HO := Lib.hid hown
    have HB := Lib.hid hbel
    have HJ := Lib.hid hj
    by_cases hlt : j < b.length
    · obtain rfl := HA (List.ne_nil_of_length_pos (by omega))
      have h4 : j + 4 ≤ b.length := by have := HD4.out; omega
      obtain ⟨x0, h0⟩ : ∃ x, b.getD j 0 = x := ⟨_, rfl⟩
      obtain ⟨x1, h1⟩ : ∃ x, b.getD (j + 1) 0 = x := ⟨_, rfl⟩
      obtain ⟨x2, h2⟩ : ∃ x, b.getD (j + 2) 0 = x := ⟨_, rfl⟩
      obtain ⟨x3, h3⟩ : ∃ x, b.getD (j + 3) 0 = x := ⟨_, rfl⟩
      have k0 : wr.cell? ⟨bb, ob + j, none⟩ = some (.int .u8 (x0.toNat : Int)) := by rw [← h0]; exact cell_later hbel (HC.out _ (by omega))
      have k1 : wr.cell? ⟨bb, ob + (j + 1), none⟩ = some (.int .u8 (x1.toNat : Int)) := by rw [← h1]; exact cell_later hbel (HC.out _ (by omega))
      have k2 : wr.cell? ⟨bb, ob + (j + 2), none⟩ = some (.int .u8 (x2.toNat : Int)) := by rw [← h2]; exact cell_later hbel (HC.out _ (by omega))
      have k3 : wr.cell? ⟨bb, ob + (j + 3), none⟩ = some (.int .u8 (x3.toNat : Int)) := by rw [← h3]; exact cell_later hbel (HC.out _ (by omega))
      have l0 : (0 : Int) ≤ (j : Int) := by omega
      have l1 : (j : Int) < (b.length : Int) := by omega
      have i1 : (j : Int) + 1 < (b.length : Int) := by omega
      have i2 : (j : Int) + 2 < (b.length : Int) := by omega
      have i3 : (j : Int) + 3 < (b.length : Int) := by omega
      have H4 := Lib.hid h4
      have HALL := Lib.hid hall
      have HNTH : Hid (Frm.nth b k = Frm.word x0 x1 x2 x3) := by unfold Hid Frm.nth; rw [← hj, h0, h1, h2, h3]
      have t0 := x0.toNat_lt
      have t1 := x1.toNat_lt
      have t2 := x2.toNat_lt
      have t3 := x3.toNat_lt
      have w1 : IntKind.i64.wrap ((j : Int) + 1) = (j : Int) + 1 := IntWalk.i64_in _ (by omega)
      have w2 : IntKind.i64.wrap ((j : Int) + 2) = (j : Int) + 2 := IntWalk.i64_in _ (by omega)
      have w3 : IntKind.i64.wrap ((j : Int) + 3) = (j : Int) + 3 := IntWalk.i64_in _ (by omega)
      clear hown hbel hall hlt hk h4 h0 h1 h2 h3 hj
      go_wp2_with fail
      go_quiet (fail)
      have BQ : Below wr.heap.size wr (wr.drewN nq) := ⟨rfl, rfl, rfl, Nat.le_refl _, fun _ _ => rfl⟩
      have OQ := own_cut HO.out BQ
      have WQ := HB.out.trans (BQ.mono HB.out.size)
      clear BQ
      revert OQ WQ
      generalize wr.drewN nq = wq
      intro OQ WQ
      have hs := WQ.size
      have HOQ := Lib.hid OQ
      have HWQ := Lib.hid WQ
      clear OQ WQ
      have HN : Hid (Frm.nth b k = (x0.toNat : Int) * 16777216 + (x1.toNat : Int) * 65536 + (x2.toNat : Int) * 256 + (x3.toNat : Int)) := by
        unfold Hid
        rw [HNTH.out]
        unfold Frm.word
        omega
      by_cases hbig : (2147483647 : Int) < (x0.toNat : Int) * 16777216 + (x1.toNat : Int) * 65536 + (x2.toNat : Int) * 256 + (x3.toNat : Int)
      · have hg : Frm.fine b = false := by
          rcases hf : Frm.fine b with _ | _
          · rfl
          · exfalso
            unfold Frm.fine at hf
            rw [Bool.and_eq_true, List.all_eq_true] at hf
            have := of_decide_eq_true (hf.2 k (List.mem_range.2 (by have := H4.out; have := HJ.out; omega)))
            rw [HN.out] at this
            omega
        go_wp2_with fail
        go_ret2
        exact read_bad hg HWQ.out
      · obtain ⟨v', w5, hr, ho3, hb3⟩ := append_val (P := Try.prog) 31 Try.underlying31 Try.infoI rfl HOQ.out (.int .i64 ((x0.toNat : Int) * 16777216 + (x1.toNat : Int) * 65536 + (x2.toNat : Int) * 256 + (x3.toNat : Int))) rfl (by omega) (by rw [intVals_length, Frm.seen_length]; have := H4.out; have := HJ.out; omega) hs
        have HR := Lib.hid hr
        have HB3 := Lib.hid hb3
        have HO3 : Hid (w5.ownsRow w.heap.size 3 1 v' (intVals (Frm.seen b (k + 1))).length (intVals (Frm.seen b (k + 1)))) := by
          have e : intVals (Frm.seen b (k + 1)) = intVals (Frm.seen b k) ++ [.int .i64 ((x0.toNat : Int) * 16777216 + (x1.toNat : Int) * 65536 + (x2.toNat : Int) * 256 + (x3.toNat : Int))] := by rw [Frm.seen_succ, HN.out]; simp [intVals]
          unfold Hid
          rw [e]
          exact ho3
        have HALL2 : Hid (∀ j, j < k + 1 → Frm.nth b j ≤ 2147483647) := by
          intro j' hj'
          rcases Nat.lt_or_ge j' k with h | h
          · exact HALL.out j' h
          · obtain rfl : j' = k := by omega
            rw [HN.out]; omega
        clear hr ho3 hb3 hs
        go_wp2_with (first
          | (at_builtin; refine Lib.wpList_append_run _ rfl (.tmp 48) (.tmp 50) _ _ rfl _ _ rfl rfl _ _ HR.out ?_))
        go_roundw
        case rel => exact ⟨k + 1, j + 4, by have := HJ.out; omega, H4.out, by go_num, HALL2.out, HO3.out, HWQ.out.trans HB3.out⟩
        case measure => simp [intOf]; have := H4.out; omega
    · have hkk : k = b.length / 4 := by have := HD4.out; omega
      have hg : Frm.fine b = true := by
        unfold Frm.fine
        rw [decide_eq_true HD4.out, Bool.true_and, List.all_eq_true]
        intro j hj
        exact decide_eq_true (hall j (by rw [hkk]; exact List.mem_range.1 hj))
      have l1 : ¬ (j : Int) < (b.length : Int) := by omega
      have HKK := Lib.hid hkk
      clear hown hbel hall hlt hk hkk hj
      go_wp2_with fail
      go_ret2
      refine ⟨_, by rw [hg]; rfl, ?_, own_base HO.out, HB.out⟩
      rw [hg, ← HKK.out]
      exact own_row HO.out

end Go.Proofs.Ytebeohdadihidaa
