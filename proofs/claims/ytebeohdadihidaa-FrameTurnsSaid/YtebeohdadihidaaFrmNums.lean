/- frame.Numbers and its reference. -/
import Derived.Test.YtebeohdadihidaaFrmEqual
import Derived.Test.YtebeohdadihidaaFrmPlain2
import Derived.Test.YtebeohdadihidaaInts
namespace Go.Proofs.Ytebeohdadihidaa
open Go.RowKit

namespace Frm
def nums (l : List Int) : List UInt8 := l.flatMap fun n => four (BitVec.ofInt 32 n)
theorem nums_length (l : List Int) : (nums l).length = 4 * l.length := by
  induction l with
  | nil => rfl
  | cons a l ih => unfold nums at *; rw [List.flatMap_cons, List.length_append, ih, four_length, List.length_cons]; omega
theorem nums_snoc (l : List Int) (k : Nat) (h : k < l.length) : nums (l.take (k + 1)) = nums (l.take k) ++ four (BitVec.ofInt 32 (l.getD k 0)) := by
  unfold nums
  rw [List.take_succ_eq_append_getElem h, List.flatMap_append]
  simp [List.getD, h]
end Frm

theorem four_src (w : World) (z0 z1 z2 z3 : UInt8) (e : TypeId) : Bytes (w.alloc (.cells #[.int .u8 (z0.toNat : Int), .int .u8 (z1.toNat : Int), .int .u8 (z2.toNat : Int), .int .u8 (z3.toNat : Int)] e)) (.slice (some ⟨w.heap.size, 0, none⟩) 4 4) [z0, z1, z2, z3] :=
  bytes_block (heap_alloc_new _ _) [z0, z1, z2, z3] 4 4 rfl (Nat.le_refl _) fun i hi => by
    simp only [List.length_cons, List.length_nil] at hi
    rcases (by omega : i = 0 ∨ i = 1 ∨ i = 2 ∨ i = 3) with rfl | rfl | rfl | rfl <;> rfl

set_option maxHeartbeats 2000000 in
theorem nums_any (va : Value) (l : List Int) (w : World) (h : Row w va (intVals l)) (hl : l.length ≤ 100000) :
    Calls Try.prog 19 #[va] w (NewBytes w (Frm.nums l)) := by
  obtain ⟨a, cap, rfl, -, ba, oa, HA, HC⟩ := h.opened
  rw [intVals_length] at *
  go_enter Try.func19, Try.ntmps19
  go_wp2_with fail
  go_loopw [2, 8] (fun o i wr => ∃ k : Nat, k ≤ l.length ∧ i = .int .i64 k ∧ wr.ownsRow w.heap.size 5 1 o (Frm.nums (l.take k)).length (byteVals (Frm.nums (l.take k))) ∧ Below w.heap.size w wr) (fun _ i _ => l.length - (intOf i).toNat)
  case atStart => exact ⟨0, by omega, rfl, World.ownsRow_nil _ _ _ _, Below.refl _ _⟩
  case round =>
    obtain ⟨k, hk, rfl, hown, hbel⟩ := hrel
    have HO := Lib.hid hown
    have HB := Lib.hid hbel
    by_cases hlt : k < l.length
    · obtain rfl := HA (List.ne_nil_of_length_pos (by rw [intVals_length]; omega))
      have l1 : (k : Int) < (l.length : Int) := by omega
      have l0 : (0 : Int) ≤ (k : Int) := by omega
      have ka := cell_later hbel (HC.out k _ (intVals_get l k hlt))
      obtain ⟨x, HX⟩ : ∃ x, Hid (l.getD k 0 = x) := ⟨_, rfl⟩
      rw [HX.out] at ka
      have HS : Hid (Frm.nums (l.take (k + 1)) = Frm.nums (l.take k) ++ Frm.four (BitVec.ofInt 32 x)) := by rw [← HX.out]; exact Frm.nums_snoc l k hlt
      have HN := Lib.hid (Frm.nums_length (l.take k))
      have HLT := Lib.hid hlt
      have hcut := u32_cut x
      have hs1 := hbel.size
      clear hown hbel hk hlt
      go_wp2_with fail
      refine (four_lit _ _).mono ?_
      rintro e w1 ⟨z0, z1, z2, z3, hz, rfl, hb1⟩
      have hw : Below wr.heap.size wr (w1.alloc (.cells #[.int .u8 (z0.toNat : Int), .int .u8 (z1.toNat : Int), .int .u8 (z2.toNat : Int), .int .u8 (z3.toNat : Int)] 40)) := hb1.alloc hb1.size _
      obtain ⟨av, L, cp, w3, HR, HO3, HB3⟩ := own_append HO.out hw (four_src w1 z0 z1 z2 z3 40) (by rw [HN.out]; simp; have := HLT.out; omega) hs1
      have HO4 : Hid (w3.ownsRow w.heap.size 5 1 (.slice av L cp) (Frm.nums (l.take (k + 1))).length (byteVals (Frm.nums (l.take (k + 1))))) := by
        unfold Hid
        rw [HS.out, hz]
        exact HO3.out
      clear hw hb1 hz HO3
      go_wp2_with (first
        | (at_builtin; refine Lib.wpList_append_run _ rfl (.tmp 15) (.tmp 16) _ _ rfl _ _ rfl rfl _ _ HR.out ?_))
      go_roundw
      case rel => exact ⟨k + 1, by have := HLT.out; omega, by go_num, HO4.out, HB.out.trans HB3.out⟩
      case measure => simp [intOf]; have := HLT.out; omega
    · obtain rfl : k = l.length := by omega
      rw [List.take_length] at hown
      have HO2 := Lib.hid hown
      clear hown hbel hk hlt HO
      go_wp2_with fail
      go_ret
      exact ⟨_, rfl, own_bytes HO2.out, HB.out, own_base HO2.out⟩

set_option maxHeartbeats 2000000 in
theorem refnums_any (va : Value) (l : List Int) (w : World) (h : Row w va (intVals l)) (hl : l.length ≤ 100000) :
    Calls Try.prog 20 #[va] w (NewBytes w (Frm.nums l)) := by
  obtain ⟨a, cap, rfl, -, ba, oa, HA, HC⟩ := h.opened
  rw [intVals_length] at *
  go_enter Try.func20, Try.ntmps20
  go_wp2_with fail
  go_loopw [3, 4] (fun o i wr => ∃ k : Nat, k ≤ l.length ∧ i = .int .i64 k ∧ wr.ownsRow w.heap.size 5 1 o (Frm.nums (l.take k)).length (byteVals (Frm.nums (l.take k))) ∧ Below w.heap.size w wr) (fun _ i _ => l.length - (intOf i).toNat)
  case atStart => exact ⟨0, by omega, rfl, World.ownsRow_nil _ _ _ _, Below.refl _ _⟩
  case round =>
    obtain ⟨k, hk, rfl, hown, hbel⟩ := hrel
    have HO := Lib.hid hown
    have HB := Lib.hid hbel
    by_cases hlt : k < l.length
    · obtain rfl := HA (List.ne_nil_of_length_pos (by rw [intVals_length]; omega))
      have l1 : (k : Int) < (l.length : Int) := by omega
      have l0 : (0 : Int) ≤ (k : Int) := by omega
      have ka := cell_later hbel (HC.out k _ (intVals_get l k hlt))
      obtain ⟨x, HX⟩ : ∃ x, Hid (l.getD k 0 = x) := ⟨_, rfl⟩
      rw [HX.out] at ka
      have HS : Hid (Frm.nums (l.take (k + 1)) = Frm.nums (l.take k) ++ Frm.four (BitVec.ofInt 32 x)) := by rw [← HX.out]; exact Frm.nums_snoc l k hlt
      have HN := Lib.hid (Frm.nums_length (l.take k))
      have HLT := Lib.hid hlt
      have hcut := u32_cut x
      have hs1 := hbel.size
      clear hown hbel hk hlt
      go_wp2_with (first | (go_at_call 24; fail))
      refine (rfour_any _ _).mono ?_
      rintro e w1 ⟨v1, rfl, b1, hb1, -⟩
      obtain ⟨av, L, cp, w3, HR, HO3, HB3⟩ := own_append HO.out hb1 b1 (by rw [HN.out, Frm.four_length]; simp; have := HLT.out; omega) hs1
      have HO4 : Hid (w3.ownsRow w.heap.size 5 1 (.slice av L cp) (Frm.nums (l.take (k + 1))).length (byteVals (Frm.nums (l.take (k + 1))))) := by
        unfold Hid
        rw [HS.out]
        exact HO3.out
      clear hb1 b1 HO3
      go_wp2_with (first
        | (at_builtin; refine Lib.wpList_append_run _ rfl (.tmp 11) (.tmp 17) _ _ rfl _ _ rfl rfl _ _ HR.out ?_))
      go_roundw
      case rel => exact ⟨k + 1, by have := HLT.out; omega, by go_num, HO4.out, HB.out.trans HB3.out⟩
      case measure => simp [intOf]; have := HLT.out; omega
    · obtain rfl : k = l.length := by omega
      rw [List.take_length] at hown
      have HO2 := Lib.hid hown
      clear hown hbel hk hlt HO
      go_wp2_with fail
      go_ret
      exact ⟨_, rfl, own_bytes HO2.out, HB.out, own_base HO2.out⟩

end Go.Proofs.Ytebeohdadihidaa
