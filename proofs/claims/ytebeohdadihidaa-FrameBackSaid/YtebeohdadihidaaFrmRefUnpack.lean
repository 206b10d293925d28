/- tailraceref05.Unpack. -/
import Derived.Test.YtebeohdadihidaaFrmEqual
namespace Go.Proofs.Ytebeohdadihidaa
open Go.RowKit

/-- Unpack's answer -/
def Unpacked (place : Int) (b : List UInt8) (w : World) (e : Ending) (w' : World) : Prop :=
  ∃ r, e = .returned (.tuple #[.int .i64 (if Frm.fits place b then ((b.getD 0 0).toNat : Int) else 0), r, .int .i64 (if Frm.fits place b then 0 else 50)]) ∧ Bytes w' r (if Frm.fits place b then Frm.mid b else []) ∧ (∀ k, r.ownBlock = some k → w.heap.size ≤ k) ∧ Below w.heap.size w w'

theorem unpacked_bad {place : Int} {b : List UInt8} {w w' : World} (hg : Frm.fits place b = false) (hb : Below w.heap.size w w') : Unpacked place b w (.returned (.tuple #[.int .i64 0, .slice none 0 0, .int .i64 50])) w' := by
  refine ⟨.slice none 0 0, by rw [hg]; rfl, by rw [hg]; exact .nil _, ?_, hb⟩
  intro k hk
  cases hk

/-- a part of a slice of bytes -/
theorem bytes_sub {w : World} {bb ob : Nat} {b : List UInt8} (hc : ∀ i, i < b.length → w.cell? ⟨bb, ob + i, none⟩ = some (.int .u8 ((b.getD i 0).toNat : Int))) (i n c : Nat) (h : i + n ≤ b.length) (hn : n ≤ c) :
    Bytes w (.slice (some ⟨bb, ob + i, none⟩) n c) ((b.drop i).take n) := by
  have hl : ((b.drop i).take n).length = n := by simp; omega
  refine .inr ⟨_, c, by rw [hl], by rw [hl]; exact hn, fun _ => rfl, fun j hj => ?_⟩
  rw [hl] at hj
  rw [addr_add, Nat.add_assoc, hc (i + j) (by omega)]
  congr 3
  simp [List.getD, hj, Nat.add_comm]

set_option maxRecDepth 100000 in
set_option maxHeartbeats 2000000 in
theorem refunpack_any (place : Int) (v : Value) (b : List UInt8) (w : World) (h : Bytes w v b) (p0 : -9223372036854775808 ≤ place) (p1 : place ≤ 9223372036854775807) (hd : b.length ≤ 100000) :
    Calls Try.prog 15 #[.int .i64 place, v] w (Unpacked place b w) := by
  obtain ⟨a, cap, rfl, hcap, bb, ob, HA, HC⟩ := h.opened
  by_cases c1 : b.length < 11
  · have hg : Frm.fits place b = false := by simp [Frm.fits]; omega
    have d1 : (b.length : Int) < 11 := by omega
    go_enter Try.func15, Try.ntmps15
    go_wp2_with fail
    go_ret3
    exact unpacked_bad hg (Below.refl _ _)
  have hne : b ≠ [] := by intro e; subst e; simp at c1
  obtain rfl := HA hne
  have d1 : ¬ (b.length : Int) < 11 := by omega
  have d2 : (11 : Int) ≤ (b.length : Int) := by omega
  have HD := Lib.hid h
  have hsub : Bytes w (.slice (some ⟨bb, ob + 7, none⟩) (b.length - 4 - 7) (cap - 7)) (Frm.mid b) := by
    have e : b.length - 4 - 7 = b.length - 11 := by omega
    rw [e]
    exact bytes_sub HC.out 7 (b.length - 11) (cap - 7) (by omega) (by omega)
  have hml : (Frm.mid b).length ≤ 100000 := by unfold Frm.mid; simp; omega
  obtain ⟨av, L, cp, w1, HR, HO, HB⟩ := copy_new hsub (by omega)
  have k0 : w1.cell? ⟨bb, ob, none⟩ = some (.int .u8 ((b.getD 0 0).toNat : Int)) := by
    have := HC.out 0 (by omega)
    rw [Nat.add_zero] at this
    rw [← this]
    exact World.cell?_of_block (HB.out.block bb (block_lt_of_cell this))
  obtain ⟨b0, hb0⟩ : ∃ b0, b.getD 0 0 = b0 := ⟨_, rfl⟩
  have HF : Hid (Frm.fits place b = (Frm.good (b0.toNat : Int) place (Frm.mid b) && decide (Frm.pack (b0.toNat : Int) place (Frm.mid b) = b))) := by
    unfold Hid Frm.fits
    rw [hb0, decide_eq_true (by omega), Bool.true_and]
  rw [hb0] at k0
  have HB0 := Lib.hid hb0
  have HD1 := Lib.hid (HD.out.below HB.out)
  have b00 : (0 : Int) ≤ (b0.toNat : Int) := by omega
  have b01 : (b0.toNat : Int) < 256 := by have := b0.toNat_lt; omega
  clear h HA hsub hb0
  have hp := refpack_any (b0.toNat : Int) place _ _ w1 (own_bytes HO.out) (by omega) (by omega) p0 p1 hml
  have HM := Lib.hid (own_bytes HO.out)
  by_cases hgd : Frm.good (b0.toNat : Int) place (Frm.mid b) = true
  · unfold Packed at hp
    simp only [hgd, if_true] at hp
    have HP := Lib.hid hp
    clear hp
    by_cases heq : Frm.pack (b0.toNat : Int) place (Frm.mid b) = b
    · have hg : Frm.fits place b = true := by rw [HF.out, hgd, heq]; simp
      have HE : ((strOf (Frm.pack (b0.toNat : Int) place (Frm.mid b))).toList == (strOf b).toList) = true := by rw [strOf_beq]; exact decide_eq_true heq
      clear heq
      go_enter Try.func15, Try.ntmps15
      go_wp2_with (first
        | (at_builtin; refine Lib.wpList_append_run _ rfl (.tmp 13) (.tmp 18) _ _ rfl _ _ rfl rfl _ _ HR.out ?_)
        | (go_at_call 13; refine HP.out.mono ?_; rintro e w2 ⟨r, rfl, hr, -, hb2⟩; have c1 := str_bytes hr; have c2 := str_bytes (HD1.out.below hb2); have k2 : w2.cell? ⟨bb, ob, none⟩ = _ := (hb2.cell (block_lt_of_cell k0)).trans k0; have M2 := Lib.hid (HM.out.below hb2); have B2 := hid_trans HB hb2; clear hr hb2))
      go_ret3
      refine ⟨_, by rw [hg, HB0.out]; rfl, by rw [hg]; exact M2.out, own_base HO.out, B2.out⟩
    · have hg : Frm.fits place b = false := by rw [HF.out, decide_eq_false heq, Bool.and_false]
      have HE : ((strOf (Frm.pack (b0.toNat : Int) place (Frm.mid b))).toList == (strOf b).toList) = false := by rw [strOf_beq]; exact decide_eq_false heq
      clear heq
      go_enter Try.func15, Try.ntmps15
      go_wp2_with (first
        | (at_builtin; refine Lib.wpList_append_run _ rfl (.tmp 13) (.tmp 18) _ _ rfl _ _ rfl rfl _ _ HR.out ?_)
        | (go_at_call 13; refine HP.out.mono ?_; rintro e w2 ⟨r, rfl, hr, -, hb2⟩; have c1 := str_bytes hr; have c2 := str_bytes (HD1.out.below hb2); have k2 : w2.cell? ⟨bb, ob, none⟩ = _ := (hb2.cell (block_lt_of_cell k0)).trans k0; have M2 := Lib.hid (HM.out.below hb2); have B2 := hid_trans HB hb2; clear hr hb2))
      go_ret3
      exact unpacked_bad hg B2.out
  · have hgd' : Frm.good (b0.toNat : Int) place (Frm.mid b) = false := by simpa using hgd
    have hg : Frm.fits place b = false := by rw [HF.out, hgd', Bool.false_and]
    unfold Packed at hp
    rw [hgd'] at hp
    have HP := Lib.hid hp
    clear hp hgd
    go_enter Try.func15, Try.ntmps15
    go_wp2_with (first
      | (at_builtin; refine Lib.wpList_append_run _ rfl (.tmp 13) (.tmp 18) _ _ rfl _ _ rfl rfl _ _ HR.out ?_)
      | (go_at_call 13; refine HP.out.mono ?_; rintro e w2 ⟨r, rfl, hr, -, hb2⟩; have k2 : w2.cell? ⟨bb, ob, none⟩ = _ := (hb2.cell (block_lt_of_cell k0)).trans k0; have B2 := hid_trans HB hb2; clear hr hb2))
    go_ret3
    exact unpacked_bad hg B2.out

end Go.Proofs.Ytebeohdadihidaa
